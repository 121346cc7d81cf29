/- Printed by a program (wip/tools/gen2.py): for each function its condition as a plain formula, and that the formula gives the call. -/
import Derived.Test.YtmkdbndniffkfaaGreatDoorProg
import Derived.Test.YtmkdbndniffkfaaGreatDoorVda
namespace Go.Proofs.YtmkdbndniffkfaaGreatDoor
open Go Go.Vc Go.RowKit
set_option maxRecDepth 100000
set_option linter.unusedVariables false
def TT : List TI := [
  ⟨0, .tuple #[], 1, 0, some (.tuple ⟨[]⟩), (.tup [])⟩,
  ⟨3, .int .i64, 1, 8, some (.int .i64 (0 : Int)), (.e (.one (.int .i64)))⟩,
  ⟨4, .bool, 1, 1, some (.bool false), (.e (.one (.bool)))⟩,
  ⟨5, .int .u8, 1, 1, some (.int .u8 (0 : Int)), (.e (.one (.int .u8)))⟩,
  ⟨9, .string, 1, 16, some (.string (bs [])), (.e (.one (.str)))⟩,
  ⟨21, .int .i32, 1, 4, some (.int .i32 (0 : Int)), (.e (.one (.int .i32)))⟩,
  ⟨22, .slice 43, 1, 24, some (.slice none 0 0), (.e (.one (.sl)))⟩,
  ⟨23, .int .u32, 1, 4, some (.int .u32 (0 : Int)), (.e (.one (.int .u32)))⟩,
  ⟨26, .slice 30, 1, 24, some (.slice none 0 0), (.e (.one (.sl)))⟩,
  ⟨27, .int .i64, 1, 8, some (.int .i64 (0 : Int)), (.e (.one (.int .i64)))⟩,
  ⟨28, .tuple #[26, 27], 1, 0, some (.tuple ⟨[(.slice none 0 0), (.int .i64 (0 : Int))]⟩), (.tup [(.one (.sl)), (.one (.int .i64))])⟩,
  ⟨30, .slice 9, 1, 24, some (.slice none 0 0), (.e (.one (.sl)))⟩,
  ⟨32, .slice 59, 1, 24, some (.slice none 0 0), (.e (.one (.sl)))⟩,
  ⟨34, .slice 39, 1, 24, some (.slice none 0 0), (.e (.one (.sl)))⟩,
  ⟨35, .tuple #[34, 27], 1, 0, some (.tuple ⟨[(.slice none 0 0), (.int .i64 (0 : Int))]⟩), (.tup [(.one (.sl)), (.one (.int .i64))])⟩,
  ⟨39, .struct #[{ name := "Op", type := 3, offset := 0, embedded := false, tag := "", pkgPath := "", byteOffset := 0 }, { name := "Unit", type := 9, offset := 1, embedded := false, tag := "", pkgPath := "", byteOffset := 8 }], 2, 24, some (.agg ⟨[(.int .i64 (0 : Int)), (.string (bs []))]⟩), (.e (.agg [(.int .i64), (.str)]))⟩,
  ⟨40, .func #[39] #[4] false, 1, 8, some .nilFunc, (.e (.one (.fn)))⟩,
  ⟨41, .slice 74, 1, 24, some (.slice none 0 0), (.e (.one (.sl)))⟩,
  ⟨43, .struct #[{ name := "Name", type := 9, offset := 0, embedded := false, tag := "", pkgPath := "", byteOffset := 0 }, { name := "Imports", type := 30, offset := 1, embedded := false, tag := "", pkgPath := "", byteOffset := 16 }, { name := "Decls", type := 41, offset := 2, embedded := false, tag := "", pkgPath := "", byteOffset := 40 }], 3, 64, some (.agg ⟨[(.string (bs [])), (.slice none 0 0), (.slice none 0 0)]⟩), (.e (.agg [(.str), (.sl), (.sl)]))⟩,
  ⟨46, .func #[43] #[4] false, 1, 8, some .nilFunc, (.e (.one (.fn)))⟩,
  ⟨47, .func #[9] #[4] false, 1, 8, some .nilFunc, (.e (.one (.fn)))⟩,
  ⟨49, .tuple #[30, 27], 1, 0, some (.tuple ⟨[(.slice none 0 0), (.int .i64 (0 : Int))]⟩), (.tup [(.one (.sl)), (.one (.int .i64))])⟩,
  ⟨51, .tuple #[26, 3], 1, 0, some (.tuple ⟨[(.slice none 0 0), (.int .i64 (0 : Int))]⟩), (.tup [(.one (.sl)), (.one (.int .i64))])⟩,
  ⟨53, .tuple #[30, 3], 1, 0, some (.tuple ⟨[(.slice none 0 0), (.int .i64 (0 : Int))]⟩), (.tup [(.one (.sl)), (.one (.int .i64))])⟩,
  ⟨55, .func #[30, 30] #[4] false, 1, 8, some .nilFunc, (.e (.one (.fn)))⟩,
  ⟨59, .struct #[{ name := "Name", type := 9, offset := 0, embedded := false, tag := "", pkgPath := "", byteOffset := 0 }, { name := "Source", type := 9, offset := 1, embedded := false, tag := "", pkgPath := "", byteOffset := 16 }, { name := "Imports", type := 30, offset := 2, embedded := false, tag := "", pkgPath := "", byteOffset := 32 }, { name := "Digests", type := 30, offset := 3, embedded := false, tag := "", pkgPath := "", byteOffset := 56 }, { name := "Face", type := 9, offset := 4, embedded := false, tag := "", pkgPath := "", byteOffset := 80 }], 5, 96, some (.agg ⟨[(.string (bs [])), (.string (bs [])), (.slice none 0 0), (.slice none 0 0), (.string (bs []))]⟩), (.e (.agg [(.str), (.str), (.sl), (.sl), (.str)]))⟩,
  ⟨60, .func #[59] #[4] false, 1, 8, some .nilFunc, (.e (.one (.fn)))⟩,
  ⟨62, .tuple #[39, 27], 1, 0, some (.tuple ⟨[(.agg ⟨[(.int .i64 (0 : Int)), (.string (bs []))]⟩), (.int .i64 (0 : Int))]⟩), (.tup [(.agg [(.int .i64), (.str)]), (.one (.int .i64))])⟩,
  ⟨64, .tuple #[39, 3], 1, 0, some (.tuple ⟨[(.agg ⟨[(.int .i64 (0 : Int)), (.string (bs []))]⟩), (.int .i64 (0 : Int))]⟩), (.tup [(.agg [(.int .i64), (.str)]), (.one (.int .i64))])⟩,
  ⟨68, .tuple #[34, 3], 1, 0, some (.tuple ⟨[(.slice none 0 0), (.int .i64 (0 : Int))]⟩), (.tup [(.one (.sl)), (.one (.int .i64))])⟩,
  ⟨74, .struct #[{ name := "Op", type := 3, offset := 0, embedded := false, tag := "", pkgPath := "", byteOffset := 0 }, { name := "N", type := 3, offset := 1, embedded := false, tag := "", pkgPath := "", byteOffset := 8 }, { name := "S", type := 9, offset := 2, embedded := false, tag := "", pkgPath := "", byteOffset := 16 }, { name := "Names", type := 30, offset := 3, embedded := false, tag := "", pkgPath := "", byteOffset := 32 }, { name := "L", type := 41, offset := 4, embedded := false, tag := "", pkgPath := "", byteOffset := 56 }], 5, 80, some (.agg ⟨[(.int .i64 (0 : Int)), (.int .i64 (0 : Int)), (.string (bs [])), (.slice none 0 0), (.slice none 0 0)]⟩), (.e (.agg [(.int .i64), (.int .i64), (.str), (.sl), (.sl)]))⟩,
  ⟨76, .func #[74] #[4] false, 1, 8, some .nilFunc, (.e (.one (.fn)))⟩,
  ⟨77, .pointer 83, 1, 8, some (.pointer none), (.e (.one (.ptr)))⟩,
  ⟨78, .tuple #[77, 27], 1, 0, some (.tuple ⟨[(.pointer none), (.int .i64 (0 : Int))]⟩), (.tup [(.one (.ptr)), (.one (.int .i64))])⟩,
  ⟨81, .map 9 30, 1, 8, some (.map none), (.e (.one (.map)))⟩,
  ⟨83, .struct #[{ name := "order", type := 30, offset := 0, embedded := false, tag := "", pkgPath := "pilaster/recompile", byteOffset := 0 }, { name := "imports", type := 81, offset := 1, embedded := false, tag := "", pkgPath := "pilaster/recompile", byteOffset := 24 }], 2, 32, some (.agg ⟨[(.slice none 0 0), (.map none)]⟩), (.e (.agg [(.sl), (.map)]))⟩,
  ⟨85, .int .u64, 1, 8, some (.int .u64 (0 : Int)), (.e (.one (.int .u64)))⟩,
  ⟨90, .slice 5, 1, 24, some (.slice none 0 0), (.e (.one (.sl)))⟩,
  ⟨102, .pointer 59, 1, 8, some (.pointer none), (.e (.one (.ptr)))⟩,
  ⟨107, .map 9 108, 1, 8, some (.map none), (.e (.one (.map)))⟩,
  ⟨108, .map 9 4, 1, 8, some (.map none), (.e (.one (.map)))⟩,
  ⟨109, .func #[107, 9] #[4] false, 1, 8, some .nilFunc, (.e (.one (.fn)))⟩,
  ⟨134, .int .i64, 1, 8, some (.int .i64 (0 : Int)), (.e (.one (.int .i64)))⟩,
  ⟨137, .tuple #[30, 4], 1, 0, some (.tuple ⟨[(.slice none 0 0), (.bool false)]⟩), (.tup [(.one (.sl)), (.one (.bool))])⟩,
  ⟨140, .func #[47] #[] false, 1, 8, some .nilFunc, (.e (.one (.fn)))⟩,
  ⟨161, .pointer 3, 1, 8, some (.pointer none), (.e (.one (.ptr)))⟩,
  ⟨171, .func #[74, 3, 4] #[4] false, 1, 8, some .nilFunc, (.e (.one (.fn)))⟩,
  ⟨173, .struct #[{ name := "n", type := 4, offset := 0, embedded := false, tag := "", pkgPath := "pilaster/syntax", byteOffset := 0 }, { name := "s", type := 4, offset := 1, embedded := false, tag := "", pkgPath := "pilaster/syntax", byteOffset := 1 }, { name := "names", type := 4, offset := 2, embedded := false, tag := "", pkgPath := "pilaster/syntax", byteOffset := 2 }], 3, 3, some (.agg ⟨[(.bool false), (.bool false), (.bool false)]⟩), (.e (.agg [(.bool), (.bool), (.bool)]))⟩,
  ⟨180, .tuple #[9, 4], 1, 0, some (.tuple ⟨[(.string (bs [])), (.bool false)]⟩), (.tup [(.one (.str)), (.one (.bool))])⟩,
  ⟨182, .slice 3, 1, 24, some (.slice none 0 0), (.e (.one (.sl)))⟩,
  ⟨189, .array 256 5, 256, 256, some (.agg ⟨[(.int .u8 (0 : Int)), (.int .u8 (0 : Int)), (.int .u8 (0 : Int)), (.int .u8 (0 : Int)), (.int .u8 (0 : Int)), (.int .u8 (0 : Int)), (.int .u8 (0 : Int)), (.int .u8 (0 : Int)), (.int .u8 (0 : Int)), (.int .u8 (0 : Int)), (.int .u8 (0 : Int)), (.int .u8 (0 : Int)), (.int .u8 (0 : Int)), (.int .u8 (0 : Int)), (.int .u8 (0 : Int)), (.int .u8 (0 : Int)), (.int .u8 (0 : Int)), (.int .u8 (0 : Int)), (.int .u8 (0 : Int)), (.int .u8 (0 : Int)), (.int .u8 (0 : Int)), (.int .u8 (0 : Int)), (.int .u8 (0 : Int)), (.int .u8 (0 : Int)), (.int .u8 (0 : Int)), (.int .u8 (0 : Int)), (.int .u8 (0 : Int)), (.int .u8 (0 : Int)), (.int .u8 (0 : Int)), (.int .u8 (0 : Int)), (.int .u8 (0 : Int)), (.int .u8 (0 : Int)), (.int .u8 (0 : Int)), (.int .u8 (0 : Int)), (.int .u8 (0 : Int)), (.int .u8 (0 : Int)), (.int .u8 (0 : Int)), (.int .u8 (0 : Int)), (.int .u8 (0 : Int)), (.int .u8 (0 : Int)), (.int .u8 (0 : Int)), (.int .u8 (0 : Int)), (.int .u8 (0 : Int)), (.int .u8 (0 : Int)), (.int .u8 (0 : Int)), (.int .u8 (0 : Int)), (.int .u8 (0 : Int)), (.int .u8 (0 : Int)), (.int .u8 (0 : Int)), (.int .u8 (0 : Int)), (.int .u8 (0 : Int)), (.int .u8 (0 : Int)), (.int .u8 (0 : Int)), (.int .u8 (0 : Int)), (.int .u8 (0 : Int)), (.int .u8 (0 : Int)), (.int .u8 (0 : Int)), (.int .u8 (0 : Int)), (.int .u8 (0 : Int)), (.int .u8 (0 : Int)), (.int .u8 (0 : Int)), (.int .u8 (0 : Int)), (.int .u8 (0 : Int)), (.int .u8 (0 : Int)), (.int .u8 (0 : Int)), (.int .u8 (0 : Int)), (.int .u8 (0 : Int)), (.int .u8 (0 : Int)), (.int .u8 (0 : Int)), (.int .u8 (0 : Int)), (.int .u8 (0 : Int)), (.int .u8 (0 : Int)), (.int .u8 (0 : Int)), (.int .u8 (0 : Int)), (.int .u8 (0 : Int)), (.int .u8 (0 : Int)), (.int .u8 (0 : Int)), (.int .u8 (0 : Int)), (.int .u8 (0 : Int)), (.int .u8 (0 : Int)), (.int .u8 (0 : Int)), (.int .u8 (0 : Int)), (.int .u8 (0 : Int)), (.int .u8 (0 : Int)), (.int .u8 (0 : Int)), (.int .u8 (0 : Int)), (.int .u8 (0 : Int)), (.int .u8 (0 : Int)), (.int .u8 (0 : Int)), (.int .u8 (0 : Int)), (.int .u8 (0 : Int)), (.int .u8 (0 : Int)), (.int .u8 (0 : Int)), (.int .u8 (0 : Int)), (.int .u8 (0 : Int)), (.int .u8 (0 : Int)), (.int .u8 (0 : Int)), (.int .u8 (0 : Int)), (.int .u8 (0 : Int)), (.int .u8 (0 : Int)), (.int .u8 (0 : Int)), (.int .u8 (0 : Int)), (.int .u8 (0 : Int)), (.int .u8 (0 : Int)), (.int .u8 (0 : Int)), (.int .u8 (0 : Int)), (.int .u8 (0 : Int)), (.int .u8 (0 : Int)), (.int .u8 (0 : Int)), (.int .u8 (0 : Int)), (.int .u8 (0 : Int)), (.int .u8 (0 : Int)), (.int .u8 (0 : Int)), (.int .u8 (0 : Int)), (.int .u8 (0 : Int)), (.int .u8 (0 : Int)), (.int .u8 (0 : Int)), (.int .u8 (0 : Int)), (.int .u8 (0 : Int)), (.int .u8 (0 : Int)), (.int .u8 (0 : Int)), (.int .u8 (0 : Int)), (.int .u8 (0 : Int)), (.int .u8 (0 : Int)), (.int .u8 (0 : Int)), (.int .u8 (0 : Int)), (.int .u8 (0 : Int)), (.int .u8 (0 : Int)), (.int .u8 (0 : Int)), (.int .u8 (0 : Int)), (.int .u8 (0 : Int)), (.int .u8 (0 : Int)), (.int .u8 (0 : Int)), (.int .u8 (0 : Int)), (.int .u8 (0 : Int)), (.int .u8 (0 : Int)), (.int .u8 (0 : Int)), (.int .u8 (0 : Int)), (.int .u8 (0 : Int)), (.int .u8 (0 : Int)), (.int .u8 (0 : Int)), (.int .u8 (0 : Int)), (.int .u8 (0 : Int)), (.int .u8 (0 : Int)), (.int .u8 (0 : Int)), (.int .u8 (0 : Int)), (.int .u8 (0 : Int)), (.int .u8 (0 : Int)), (.int .u8 (0 : Int)), (.int .u8 (0 : Int)), (.int .u8 (0 : Int)), (.int .u8 (0 : Int)), (.int .u8 (0 : Int)), (.int .u8 (0 : Int)), (.int .u8 (0 : Int)), (.int .u8 (0 : Int)), (.int .u8 (0 : Int)), (.int .u8 (0 : Int)), (.int .u8 (0 : Int)), (.int .u8 (0 : Int)), (.int .u8 (0 : Int)), (.int .u8 (0 : Int)), (.int .u8 (0 : Int)), (.int .u8 (0 : Int)), (.int .u8 (0 : Int)), (.int .u8 (0 : Int)), (.int .u8 (0 : Int)), (.int .u8 (0 : Int)), (.int .u8 (0 : Int)), (.int .u8 (0 : Int)), (.int .u8 (0 : Int)), (.int .u8 (0 : Int)), (.int .u8 (0 : Int)), (.int .u8 (0 : Int)), (.int .u8 (0 : Int)), (.int .u8 (0 : Int)), (.int .u8 (0 : Int)), (.int .u8 (0 : Int)), (.int .u8 (0 : Int)), (.int .u8 (0 : Int)), (.int .u8 (0 : Int)), (.int .u8 (0 : Int)), (.int .u8 (0 : Int)), (.int .u8 (0 : Int)), (.int .u8 (0 : Int)), (.int .u8 (0 : Int)), (.int .u8 (0 : Int)), (.int .u8 (0 : Int)), (.int .u8 (0 : Int)), (.int .u8 (0 : Int)), (.int .u8 (0 : Int)), (.int .u8 (0 : Int)), (.int .u8 (0 : Int)), (.int .u8 (0 : Int)), (.int .u8 (0 : Int)), (.int .u8 (0 : Int)), (.int .u8 (0 : Int)), (.int .u8 (0 : Int)), (.int .u8 (0 : Int)), (.int .u8 (0 : Int)), (.int .u8 (0 : Int)), (.int .u8 (0 : Int)), (.int .u8 (0 : Int)), (.int .u8 (0 : Int)), (.int .u8 (0 : Int)), (.int .u8 (0 : Int)), (.int .u8 (0 : Int)), (.int .u8 (0 : Int)), (.int .u8 (0 : Int)), (.int .u8 (0 : Int)), (.int .u8 (0 : Int)), (.int .u8 (0 : Int)), (.int .u8 (0 : Int)), (.int .u8 (0 : Int)), (.int .u8 (0 : Int)), (.int .u8 (0 : Int)), (.int .u8 (0 : Int)), (.int .u8 (0 : Int)), (.int .u8 (0 : Int)), (.int .u8 (0 : Int)), (.int .u8 (0 : Int)), (.int .u8 (0 : Int)), (.int .u8 (0 : Int)), (.int .u8 (0 : Int)), (.int .u8 (0 : Int)), (.int .u8 (0 : Int)), (.int .u8 (0 : Int)), (.int .u8 (0 : Int)), (.int .u8 (0 : Int)), (.int .u8 (0 : Int)), (.int .u8 (0 : Int)), (.int .u8 (0 : Int)), (.int .u8 (0 : Int)), (.int .u8 (0 : Int)), (.int .u8 (0 : Int)), (.int .u8 (0 : Int)), (.int .u8 (0 : Int)), (.int .u8 (0 : Int)), (.int .u8 (0 : Int)), (.int .u8 (0 : Int)), (.int .u8 (0 : Int)), (.int .u8 (0 : Int)), (.int .u8 (0 : Int)), (.int .u8 (0 : Int)), (.int .u8 (0 : Int)), (.int .u8 (0 : Int)), (.int .u8 (0 : Int)), (.int .u8 (0 : Int)), (.int .u8 (0 : Int)), (.int .u8 (0 : Int)), (.int .u8 (0 : Int)), (.int .u8 (0 : Int)), (.int .u8 (0 : Int)), (.int .u8 (0 : Int)), (.int .u8 (0 : Int)), (.int .u8 (0 : Int))]⟩), (.e (.arr 256))⟩,
  ⟨191, .func #[21] #[4] false, 1, 8, some .nilFunc, (.e (.one (.fn)))⟩,
  ⟨193, .slice 195, 1, 24, some (.slice none 0 0), (.e (.one (.sl)))⟩,
  ⟨195, .struct #[{ name := "start", type := 3, offset := 0, embedded := false, tag := "", pkgPath := "strings", byteOffset := 0 }, { name := "end", type := 3, offset := 1, embedded := false, tag := "", pkgPath := "strings", byteOffset := 8 }], 2, 16, some (.agg ⟨[(.int .i64 (0 : Int)), (.int .i64 (0 : Int))]⟩), (.e (.agg [(.int .i64), (.int .i64)]))⟩,
  ⟨197, .pointer 201, 1, 8, some (.pointer none), (.e (.one (.ptr)))⟩,
  ⟨198, .slice 204, 1, 24, some (.slice none 0 0), (.e (.one (.sl)))⟩,
  ⟨199, .slice 207, 1, 24, some (.slice none 0 0), (.e (.one (.sl)))⟩,
  ⟨201, .struct #[{ name := "R16", type := 198, offset := 0, embedded := false, tag := "", pkgPath := "", byteOffset := 0 }, { name := "R32", type := 199, offset := 1, embedded := false, tag := "", pkgPath := "", byteOffset := 24 }, { name := "LatinOffset", type := 3, offset := 2, embedded := false, tag := "", pkgPath := "", byteOffset := 48 }], 3, 56, some (.agg ⟨[(.slice none 0 0), (.slice none 0 0), (.int .i64 (0 : Int))]⟩), (.e (.agg [(.sl), (.sl), (.int .i64)]))⟩,
  ⟨202, .int .u16, 1, 2, some (.int .u16 (0 : Int)), (.e (.one (.int .u16)))⟩,
  ⟨204, .struct #[{ name := "Lo", type := 202, offset := 0, embedded := false, tag := "", pkgPath := "", byteOffset := 0 }, { name := "Hi", type := 202, offset := 1, embedded := false, tag := "", pkgPath := "", byteOffset := 2 }, { name := "Stride", type := 202, offset := 2, embedded := false, tag := "", pkgPath := "", byteOffset := 4 }], 3, 6, some (.agg ⟨[(.int .u16 (0 : Int)), (.int .u16 (0 : Int)), (.int .u16 (0 : Int))]⟩), (.e (.agg [(.int .u16), (.int .u16), (.int .u16)]))⟩,
  ⟨207, .struct #[{ name := "Lo", type := 23, offset := 0, embedded := false, tag := "", pkgPath := "", byteOffset := 0 }, { name := "Hi", type := 23, offset := 1, embedded := false, tag := "", pkgPath := "", byteOffset := 4 }, { name := "Stride", type := 23, offset := 2, embedded := false, tag := "", pkgPath := "", byteOffset := 8 }], 3, 12, some (.agg ⟨[(.int .u32 (0 : Int)), (.int .u32 (0 : Int)), (.int .u32 (0 : Int))]⟩), (.e (.agg [(.int .u32), (.int .u32), (.int .u32)]))⟩]
theorem TTok : TOk Tryz.prog TT := tok_of (by kernel_rfl)
def FNS : List Nat := [7, 8, 9, 10, 11, 12, 13, 15, 17, 19, 20, 21, 22, 23, 25, 26, 27, 28, 29, 30, 31, 32, 33, 35, 36, 37, 39, 40, 41, 50, 52, 53, 54, 57, 58, 59, 60, 61, 63, 64, 65, 66, 67, 68, 69, 70, 71, 72, 73, 74, 75, 76, 77, 82, 86, 87, 88, 89, 90, 91, 92, 93, 94, 95, 96, 98, 99, 100, 110, 117, 118, 119, 120, 121, 129, 130, 131, 132, 133, 134, 136, 137, 138, 139, 140, 141, 142, 144, 145, 147, 148, 149, 150, 151, 152, 154, 155, 156, 157, 158, 159, 160, 161, 162, 163, 164, 165, 167, 170, 172, 173, 174, 175, 176, 177, 178, 179, 180, 181, 182, 183, 184, 185, 186, 188, 189, 190, 191]
theorem FNSok : FOk Tryz.prog FNS := fok_of (by kernel_rfl)
theorem mixed : Tryz.prog.follows .mixedOrders = true := by kernel_rfl
def TCH : List Nat := [37, 41, 76, 143, 146]
def PNF : List Nat := []

/- 3 pilaster/pilasterlaw41.RecompileChanges -/
noncomputable def c3 : Code := match Tryz.f3.body with
  | some c => c
  | none => .skip
noncomputable def cfg3 : Cfg := ⟨Tryz.prog, TT, FNS, [19, 20], [(19, 19), (20, 20), (133, 19), (143, 20), (147, 19)], [3, 5], TCH, false, false, none, PNF, false⟩
def an3 : AnnG := (.seq .leaf (.join ⟨[], [], []⟩ (.seq .leaf (.cond (.seq .leaf .leaf) .leaf)) (.seq (.seq .leaf (.seq .leaf (.cond (.seq .leaf .leaf) .leaf))) (.seq .leaf (.seq (.seq .leaf (.blk (.loop ⟨[(9, .sl), (10, .sl), (11, .sl), (12, .sl), (39, .int .i64)], [], []⟩ (.seq .leaf (.seq (.cond .leaf .leaf) (.seq (.blk (.seq .leaf (.seq .leaf (.join ⟨[(11, .sl), (12, .sl)], [], []⟩ (.tree 13 (.quiet 0 (.quiet 1 (.quiet 2 (.quiet 3 (.quiet 4 (.quiet 7 (.quiet 8 (.quiet 9 (.quiet 10 (.quiet 11 (.eff 5 (.eff 6 (.eff 12 .fin .fin) (.eff 12 (.eff 6 .fin .fin) .fin)) (.eff 12 (.eff 5 (.eff 6 .fin .fin) .fin) .fin))))))))))))) (.join ⟨[], [], []⟩ (.seq .leaf (.cond .leaf .leaf)) (.seq .leaf (.cond .leaf .leaf))))))) .leaf)))))) (.seq .leaf (.seq .leaf (.join ⟨[], [], []⟩ (.seq .leaf (.cond (.seq .leaf .leaf) .leaf)) (.seq .leaf (.join ⟨[], [], []⟩ (.seq .leaf (.cond (.seq .leaf .leaf) .leaf)) (.seq (.seq .leaf (.blk (.loop ⟨[(127, .int .i64)], [], []⟩ (.seq .leaf (.seq (.cond .leaf .leaf) (.seq (.blk (.seq .leaf (.seq .leaf (.seq .leaf (.join ⟨[], [(20, 20, 0)], [(20, [(.int .i64), (.str)])]⟩ (.blk (.seq .leaf (.cond .leaf (.seq .leaf (.cond .leaf .leaf))))) (.seq (.tree 5 (.quiet 0 (.quiet 1 (.quiet 2 (.quiet 3 (.quiet 4 .fin)))))) (.cond (.seq .leaf .leaf) .leaf))))))) .leaf)))))) (.seq .leaf .leaf))))))))))))
def F3 (la : Option Addr) (ll : Nat) (lc : Nat) (source : Int) (face : Int) (g : G) (R : Value → G → Prop) : Prop :=
  ∀ g1 : G, NewL g g1 22 ([(.slice la ll lc)] : List Value) →
  ∀ g2 : G, NewL g1 g2 23 ([(.int .u32 face)] : List Value) →
  ∀ J : G → Prop,
  (∀ g3 : G, (∃ la_1 : Option Addr, ∃ ll_1 : Nat, ∃ lc_1 : Nat, g3.w.cell? ⟨g.w.heap.size, 0, none⟩ = some (.slice la_1 ll_1 lc_1) ∧ (CallsP Tryz.prog 9 #[(.slice la_1 ll_1 lc_1)] g3 fun v g4 =>
  ∃ x0a : Option Addr, ∃ x0l : Nat, ∃ x0c : Nat, ∃ x1 : Int, v = (.tuple ⟨[(.slice x0a x0l x0c), (.int .i64 x1)]⟩) ∧ ifB (!eqI x1 (0 : Int))
  (∀ g5 : G, Ex g4 g5 →
  R (.bool true) g5)
  (∃ la_2 : Option Addr, ∃ ll_2 : Nat, ∃ lc_2 : Nat, g4.w.cell? ⟨g.w.heap.size, 0, none⟩ = some (.slice la_2 ll_2 lc_2) ∧ ∃ Inv : Nat → Option Addr → Nat → Nat → Option Addr → Nat → Nat → Option Addr → Nat → Nat → Option Addr → Nat → Nat → Int → G → Prop, ((∃ m0 : Nat, Inv m0 none 0 0 none 0 0 none 0 0 none 0 0 (0 : Int) g4)) ∧
  ∀ m : Nat, ∀ sourcesa : Option Addr, ∀ sourcesl : Nat, ∀ sourcesc : Nat, ∀ facesa : Option Addr, ∀ facesl : Nat, ∀ facesc : Nat, ∀ othersa : Option Addr, ∀ othersl : Nat, ∀ othersc : Nat, ∀ changeda : Option Addr, ∀ changedl : Nat, ∀ changedc : Nat, ∀ v_1 : Int, ∀ g6 : G, Le g4 g6 → Inv m sourcesa sourcesl sourcesc facesa facesl facesc othersa othersl othersc changeda changedl changedc v_1 g6 →
  ifB (ltI v_1 ((ll_2 : Nat) : Int))
  ((CallsP Tryz.prog 10 #[(.string (bs [97])), (.int .i64 (64 : Int))] g6 fun v g7 =>
  ∃ x : ByteArray, v = (.string x) ∧ ∀ g8 : G, NewL g7 g8 9 [(.string x)] →
  ∃ sourcesa_1 : Option Addr, ∃ sourcesl_1 : Nat, ∃ sourcesc_1 : Nat, ∃ wo1 : World, Sem.run Tryz.prog (Builtin.append_ #[30, 30] 30 #[(.slice sourcesa sourcesl sourcesc), (.slice (some ⟨g7.w.heap.size, 0, none⟩) 1 1)]) g8.w = .ok (.slice sourcesa_1 sourcesl_1 sourcesc_1) wo1 ∧ ∃ g9 : G, g9.w = wo1 ∧ Stp g.w.heap.size nobody g8 g9 ∧ (CallsP Tryz.prog 10 #[(.string (bs [98])), (.int .i64 (64 : Int))] g9 fun v g10 =>
  ∃ x_1 : ByteArray, v = (.string x_1) ∧ ∀ g11 : G, NewL g10 g11 9 [(.string x_1)] →
  ∃ facesa_1 : Option Addr, ∃ facesl_1 : Nat, ∃ facesc_1 : Nat, ∃ wo2 : World, Sem.run Tryz.prog (Builtin.append_ #[30, 30] 30 #[(.slice facesa facesl facesc), (.slice (some ⟨g10.w.heap.size, 0, none⟩) 1 1)]) g11.w = .ok (.slice facesa_1 facesl_1 facesc_1) wo2 ∧ ∃ g12 : G, g12.w = wo2 ∧ Stp g.w.heap.size nobody g11 g12 ∧ ∀ J_1 : Option Addr → Nat → Nat → Option Addr → Nat → Nat → G → Prop,
  (∀ othersa_1 : Option Addr, ∀ othersl_1 : Nat, ∀ othersc_1 : Nat, ∀ changeda_1 : Option Addr, ∀ changedl_1 : Nat, ∀ changedc_1 : Nat, ∀ g13 : G, (∀ J_2 : G → Prop,
  (∀ g14 : G, (∃ face_1 : Int, g14.w.cell? ⟨g1.w.heap.size, 0, none⟩ = some (.int .u32 face_1) ∧ 0 ≤ v_1 ∧ ifB (eqI (bits BinOp.and IntKind.u32 (shrI IntKind.u32 face_1 v_1) (1 : Int)) (1 : Int))
  ((CallsP Tryz.prog 10 #[(.string (bs [100])), (.int .i64 (64 : Int))] g14 fun v g15 =>
  ∃ x_2 : ByteArray, v = (.string x_2) ∧ (0 ≤ v_1 ∧ v_1 < ((changedl_1 : Nat) : Int)) ∧ derefP changeda_1 fun ad => stOk g15.w (Addr.add ad (Int.toNat v_1 * 1)) 1 ∧ ¬ g15.X (Addr.block (Addr.add ad (Int.toNat v_1 * 1))) ∧ mutAt g15 (Addr.add ad (Int.toNat v_1 * 1)) 1 ∧ ((Addr.block (Addr.add ad (Int.toNat v_1 * 1))) < g.w.heap.size → nobody (Addr.block (Addr.add ad (Int.toNat v_1 * 1)))) ∧ ∀ g16 : G, StG false g15 (Addr.add ad (Int.toNat v_1 * 1)) [(.string x_2)] g16 →
  InI64 (v_1 + (1 : Int)) ∧ (∃ m_1 : Nat, m_1 < m ∧ Inv m_1 sourcesa_1 sourcesl_1 sourcesc_1 facesa_1 facesl_1 facesc_1 othersa_1 othersl_1 othersc_1 changeda_1 changedl_1 changedc_1 (v_1 + (1 : Int)) g16)))
  (InI64 (v_1 + (1 : Int)) ∧ (∃ m_1 : Nat, m_1 < m ∧ Inv m_1 sourcesa_1 sourcesl_1 sourcesc_1 facesa_1 facesl_1 facesc_1 othersa_1 othersl_1 othersc_1 changeda_1 changedl_1 changedc_1 (v_1 + (1 : Int)) g14))) → J_2 g14) →
  0 ≤ v_1 ∧ ifB (eqI (bits BinOp.and IntKind.u32 (shrI IntKind.u32 source v_1) (1 : Int)) (1 : Int))
  ((CallsP Tryz.prog 10 #[(.string (bs [99])), (.int .i64 (64 : Int))] g13 fun v g17 =>
  ∃ x_3 : ByteArray, v = (.string x_3) ∧ (0 ≤ v_1 ∧ v_1 < ((othersl_1 : Nat) : Int)) ∧ derefP othersa_1 fun ad_1 => stOk g17.w (Addr.add ad_1 (Int.toNat v_1 * 1)) 1 ∧ ¬ g17.X (Addr.block (Addr.add ad_1 (Int.toNat v_1 * 1))) ∧ mutAt g17 (Addr.add ad_1 (Int.toNat v_1 * 1)) 1 ∧ ((Addr.block (Addr.add ad_1 (Int.toNat v_1 * 1))) < g.w.heap.size → nobody (Addr.block (Addr.add ad_1 (Int.toNat v_1 * 1)))) ∧ ∀ g18 : G, StG false g17 (Addr.add ad_1 (Int.toNat v_1 * 1)) [(.string x_3)] g18 →
  J_2 g18))
  (J_2 g13)) → J_1 othersa_1 othersl_1 othersc_1 changeda_1 changedl_1 changedc_1 g13) →
  ∀ g19 : G, Ex g12 g19 →
  (0 ≤ v_1 ∧ v_1 < ((sourcesl_1 : Nat) : Int)) ∧ derefP sourcesa_1 fun ad_2 => ∃ x_4 : ByteArray, g19.w.cell? (Addr.add ad_2 (Int.toNat v_1 * 1)) = some (.string x_4) ∧ (0 ≤ v_1 ∧ v_1 < ((facesl_1 : Nat) : Int)) ∧ derefP facesa_1 fun ad_3 => ∃ x_5 : ByteArray, g19.w.cell? (Addr.add ad_3 (Int.toNat v_1 * 1)) = some (.string x_5) ∧ (∀ g20 : G, NewL g19 g20 9 [(.string x_4)] →
  (∃ othersa_2 : Option Addr, ∃ othersl_2 : Nat, ∃ othersc_2 : Nat, ∃ wo3 : World, Sem.run Tryz.prog (Builtin.append_ #[30, 30] 30 #[(.slice othersa othersl othersc), (.slice (some ⟨g19.w.heap.size, 0, none⟩) 1 1)]) g20.w = .ok (.slice othersa_2 othersl_2 othersc_2) wo3 ∧ ∃ g21 : G, g21.w = wo3 ∧ Stp g.w.heap.size nobody g20 g21 ∧ SameB g19 g21 ∧ ∀ g22 : G, NewL g21 g22 9 [(.string x_5)] →
  ∃ changeda_2 : Option Addr, ∃ changedl_2 : Nat, ∃ changedc_2 : Nat, ∃ wo4 : World, Sem.run Tryz.prog (Builtin.append_ #[30, 30] 30 #[(.slice changeda changedl changedc), (.slice (some ⟨g21.w.heap.size, 0, none⟩) 1 1)]) g22.w = .ok (.slice changeda_2 changedl_2 changedc_2) wo4 ∧ ∃ g23 : G, g23.w = wo4 ∧ Stp g.w.heap.size nobody g22 g23 ∧ J_1 othersa_2 othersl_2 othersc_2 changeda_2 changedl_2 changedc_2 g23) ∧ (∀ g24 : G, NewL g20 g24 9 [(.string x_5)] →
  ∃ othersa_3 : Option Addr, ∃ othersl_3 : Nat, ∃ othersc_3 : Nat, ∃ wo5 : World, Sem.run Tryz.prog (Builtin.append_ #[30, 30] 30 #[(.slice othersa othersl othersc), (.slice (some ⟨g19.w.heap.size, 0, none⟩) 1 1)]) g24.w = .ok (.slice othersa_3 othersl_3 othersc_3) wo5 ∧ ∃ g25 : G, g25.w = wo5 ∧ Stp g.w.heap.size nobody g24 g25 ∧ SameB g19 g25 ∧ ∃ changeda_3 : Option Addr, ∃ changedl_3 : Nat, ∃ changedc_3 : Nat, ∃ wo6 : World, Sem.run Tryz.prog (Builtin.append_ #[30, 30] 30 #[(.slice changeda changedl changedc), (.slice (some ⟨g20.w.heap.size, 0, none⟩) 1 1)]) g25.w = .ok (.slice changeda_3 changedl_3 changedc_3) wo6 ∧ ∃ g26 : G, g26.w = wo6 ∧ Stp g.w.heap.size nobody g25 g26 ∧ J_1 othersa_3 othersl_3 othersc_3 changeda_3 changedl_3 changedc_3 g26)) ∧ (∀ g27 : G, NewL g19 g27 9 [(.string x_5)] →
  ∀ g28 : G, NewL g27 g28 9 [(.string x_4)] →
  ∃ othersa_4 : Option Addr, ∃ othersl_4 : Nat, ∃ othersc_4 : Nat, ∃ wo7 : World, Sem.run Tryz.prog (Builtin.append_ #[30, 30] 30 #[(.slice othersa othersl othersc), (.slice (some ⟨g27.w.heap.size, 0, none⟩) 1 1)]) g28.w = .ok (.slice othersa_4 othersl_4 othersc_4) wo7 ∧ ∃ g29 : G, g29.w = wo7 ∧ Stp g.w.heap.size nobody g28 g29 ∧ SameB g19 g29 ∧ ∃ changeda_4 : Option Addr, ∃ changedl_4 : Nat, ∃ changedc_4 : Nat, ∃ wo8 : World, Sem.run Tryz.prog (Builtin.append_ #[30, 30] 30 #[(.slice changeda changedl changedc), (.slice (some ⟨g19.w.heap.size, 0, none⟩) 1 1)]) g29.w = .ok (.slice changeda_4 changedl_4 changedc_4) wo8 ∧ ∃ g30 : G, g30.w = wo8 ∧ Stp g.w.heap.size nobody g29 g30 ∧ J_1 othersa_4 othersl_4 othersc_4 changeda_4 changedl_4 changedc_4 g30))))
  (∃ la_3 : Option Addr, ∃ ll_3 : Nat, ∃ lc_3 : Nat, g6.w.cell? ⟨g.w.heap.size, 0, none⟩ = some (.slice la_3 ll_3 lc_3) ∧ (CallsP Tryz.prog 11 #[(.slice la_3 ll_3 lc_3), (.slice sourcesa sourcesl sourcesc), (.slice facesa facesl facesc)] g6 fun v g31 =>
  ∃ recordsa : Option Addr, ∃ recordsl : Nat, ∃ recordsc : Nat, v = (.slice recordsa recordsl recordsc) ∧ ∃ la_4 : Option Addr, ∃ ll_4 : Nat, ∃ lc_4 : Nat, g31.w.cell? ⟨g.w.heap.size, 0, none⟩ = some (.slice la_4 ll_4 lc_4) ∧ (CallsP Tryz.prog 12 #[(.slice la_4 ll_4 lc_4), (.slice recordsa recordsl recordsc), (.slice sourcesa sourcesl sourcesc), (.slice facesa facesl facesc)] g31 fun v g32 =>
  ∃ x0a_1 : Option Addr, ∃ x0l_1 : Nat, ∃ x0c_1 : Nat, ∃ x1_1 : Int, v = (.tuple ⟨[(.slice x0a_1 x0l_1 x0c_1), (.int .i64 x1_1)]⟩) ∧ ∀ J_3 : G → Prop,
  (∀ g33 : G, (∃ la_5 : Option Addr, ∃ ll_5 : Nat, ∃ lc_5 : Nat, g33.w.cell? ⟨g.w.heap.size, 0, none⟩ = some (.slice la_5 ll_5 lc_5) ∧ (CallsP Tryz.prog 12 #[(.slice la_5 ll_5 lc_5), (.slice recordsa recordsl recordsc), (.slice othersa othersl othersc), (.slice changeda changedl changedc)] g33 fun v g34 =>
  ∃ x0a_2 : Option Addr, ∃ x0l_2 : Nat, ∃ x0c_2 : Nat, ∃ x1_2 : Int, v = (.tuple ⟨[(.slice x0a_2 x0l_2 x0c_2), (.int .i64 x1_2)]⟩) ∧ ∀ J_4 : G → Prop,
  (∀ g35 : G, (∃ la_6 : Option Addr, ∃ ll_6 : Nat, ∃ lc_6 : Nat, g35.w.cell? ⟨g.w.heap.size, 0, none⟩ = some (.slice la_6 ll_6 lc_6) ∧ ∃ Inv_1 : Nat → Int → G → Prop, ((∃ m0 : Nat, Inv_1 m0 (0 : Int) g35)) ∧
  ∀ m_2 : Nat, ∀ v_2 : Int, ∀ g36 : G, Le g35 g36 → Inv_1 m_2 v_2 g36 →
  ifB (ltI v_2 ((ll_6 : Nat) : Int))
  ((0 ≤ v_2 ∧ v_2 < ((ll_6 : Nat) : Int)) ∧ derefP la_6 fun ad_4 => ∃ x0 : ByteArray, ∃ x1a : Option Addr, ∃ x1l : Nat, ∃ x1c : Nat, ∃ x2a : Option Addr, ∃ x2l : Nat, ∃ x2c : Nat, g36.w.cell? (Addr.add ad_4 (Int.toNat v_2 * 3)) = some (.string x0) ∧ g36.w.cell? (Addr.add (Addr.add ad_4 (Int.toNat v_2 * 3)) 1) = some (.slice x1a x1l x1c) ∧ g36.w.cell? (Addr.add (Addr.add ad_4 (Int.toNat v_2 * 3)) 2) = some (.slice x2a x2l x2c) ∧ ∀ g37 : G, Ex g36 g37 →
  ∀ g38 : G, Ex g37 g38 →
  (CallsP Tryz.prog 15 #[(.slice x1a x1l x1c), (.func (.func 16) #[] ⟨[(.pointer (some ⟨g.w.heap.size, 0, none⟩)), (.pointer (some ⟨g1.w.heap.size, 0, none⟩))]⟩)] g38 fun v g39 =>
  ∃ k : Int, v = (.int .i64 k) ∧ ∀ J_5 : Int → ByteArray → G → Prop,
  (∀ want0 : Int, ∀ want1 : ByteArray, ∀ g40 : G, (∀ g41 : G, Ex g40 g41 →
  (0 ≤ v_2 ∧ v_2 < ((x0l_2 : Nat) : Int)) ∧ derefP x0a_2 fun ad_5 => ∃ x0_1 : Int, ∃ x1_3 : ByteArray, g41.w.cell? (Addr.add ad_5 (Int.toNat v_2 * 2)) = some (.int .i64 x0_1) ∧ g41.w.cell? (Addr.add (Addr.add ad_5 (Int.toNat v_2 * 2)) 1) = some (.string x1_3) ∧ ifB (!((eqI x0_1 want0) && ((strEq x1_3 want1) && true)))
  (∀ g42 : G, Ex g41 g42 →
  R (.bool false) g42)
  (InI64 (v_2 + (1 : Int)) ∧ (∃ m_3 : Nat, m_3 < m_2 ∧ Inv_1 m_3 (v_2 + (1 : Int)) g41))) → J_5 want0 want1 g40) →
  0 ≤ v_2 ∧ ifB (eqI (bits BinOp.and IntKind.u32 (shrI IntKind.u32 source v_2) (1 : Int)) (1 : Int))
  (∀ g43 : G, Ex g39 g43 →
  J_5 (2 : Int) (bs []) g43)
  (ifB (leI (0 : Int) k)
  ((0 ≤ k ∧ k < ((x1l : Nat) : Int)) ∧ derefP x1a fun ad_6 => ∃ x_6 : ByteArray, g39.w.cell? (Addr.add ad_6 (Int.toNat k * 1)) = some (.string x_6) ∧ ∀ g44 : G, Ex g39 g44 →
  J_5 (4 : Int) x_6 g44)
  (J_5 (0 : Int) (bs []) g39))))
  (∀ g45 : G, Ex g36 g45 →
  R (.bool true) g45)) → J_4 g35) →
  ifB (!eqI x1_2 (0 : Int))
  (∀ g46 : G, Ex g34 g46 →
  R (.bool false) g46)
  (∃ la_7 : Option Addr, ∃ ll_7 : Nat, ∃ lc_7 : Nat, g34.w.cell? ⟨g.w.heap.size, 0, none⟩ = some (.slice la_7 ll_7 lc_7) ∧ ifB (!eqI ((x0l_2 : Nat) : Int) ((ll_7 : Nat) : Int))
  (∀ g47 : G, Ex g34 g47 →
  R (.bool false) g47)
  (J_4 g34)))) → J_3 g33) →
  ifB (!eqI x1_1 (0 : Int))
  (∀ g48 : G, Ex g32 g48 →
  R (.bool false) g48)
  (∃ la_8 : Option Addr, ∃ ll_8 : Nat, ∃ lc_8 : Nat, g32.w.cell? ⟨g.w.heap.size, 0, none⟩ = some (.slice la_8 ll_8 lc_8) ∧ ifB (!eqI ((x0l_1 : Nat) : Int) ((ll_8 : Nat) : Int))
  (∀ g49 : G, Ex g32 g49 →
  R (.bool false) g49)
  ((CallsP Tryz.prog 13 #[(.slice x0a_1 x0l_1 x0c_1), (.func (.func 14) #[] #[])] g32 fun v g50 =>
  ∃ x_7 : Bool, v = (.bool x_7) ∧ ifB x_7
  (∀ g51 : G, Ex g50 g51 →
  R (.bool false) g51)
  (J_3 g50)))))))))) → J g3) →
  (CallsP Tryz.prog 7 #[] g2 fun v g52 =>
  ∃ x_8 : Bool, v = (.bool x_8) ∧ ifB (!x_8)
  ((CallsP Tryz.prog 7 #[] g52 fun v g53 =>
  ∃ x_9 : Bool, v = (.bool x_9) ∧ ∀ g54 : G, Ex g53 g54 →
  R (.bool x_9) g54))
  (∃ la_9 : Option Addr, ∃ ll_9 : Nat, ∃ lc_9 : Nat, g52.w.cell? ⟨g.w.heap.size, 0, none⟩ = some (.slice la_9 ll_9 lc_9) ∧ (CallsP Tryz.prog 8 #[(.slice la_9 ll_9 lc_9)] g52 fun v g55 =>
  ∃ x_10 : Bool, v = (.bool x_10) ∧ ifB (!x_10)
  ((CallsP Tryz.prog 7 #[] g55 fun v g56 =>
  ∃ x_11 : Bool, v = (.bool x_11) ∧ ∀ g57 : G, Ex g56 g57 →
  R (.bool x_11) g57))
  (J g55))))
theorem F3_eq (la : Option Addr) (ll : Nat) (lc : Nat) (source : Int) (face : Int) (g : G) (R : Value → G → Prop) : fnG cfg3 160 [.tmp 6] c3 an3 [(.slice la ll lc), (.int .u32 source), (.int .u32 face)] g nobody R = F3 la ll lc source face g R := by kernel_rfl
theorem call3 (la : Option Addr) (ll : Nat) (lc : Nat) (source : Int) (face : Int) (g : G) (R : Value → G → Prop) (hF : F3 la ll lc source face g R) : CallsG Tryz.prog 3 #[(.slice la ll lc), (.int .u32 source), (.int .u32 face)] g nobody R :=
  fn_soundG (c := cfg3) TTok FNSok mixed Tryz.func3 (show Tryz.f3.body = some c3 by kernel_rfl) (show Tryz.f3.ntmps = 160 by kernel_rfl) (show Tryz.f3.results.toList = [.tmp 6] by kernel_rfl) rfl ((F3_eq la ll lc source face g R ).mpr hF)

/- 4 pilaster/pilasterlaw41.RecompileGraphs -/
noncomputable def c4 : Code := match Tryz.f4.body with
  | some c => c
  | none => .skip
/- 5 pilaster/pilasterlaw41.RecompileReasons -/
/- 6 pilaster/pilasterlaw41.RecompilePlans -/
/- 7 pilaster/pilasterlaw41.awake -/
noncomputable def c7 : Code := match Tryz.f7.body with
  | some c => c
  | none => .skip
noncomputable def cfg7 : Cfg := ⟨Tryz.prog, TT, FNS, [], [], [], TCH, false, false, none, PNF, false⟩
def an7 : AnnG := (.seq .leaf (.seq .leaf (.seq .leaf (.seq .leaf (.seq .leaf (.seq .leaf .leaf))))))
def F7 (g : G) (R : Value → G → Prop) : Prop :=
  ∀ g1 : G, NewL g g1 9 [(.string (bs [66]))] →
  ∀ g2 : G, NewL g1 g2 9 [(.string (bs [65]))] →
  ∀ g3 : G, NewL g2 g3 43 [(.string (bs [67])), (.slice (some ⟨g.w.heap.size, 0, none⟩) 1 1), (.slice none 0 0), (.string (bs [65])), (.slice none 0 0), (.slice none 0 0), (.string (bs [66])), (.slice (some ⟨g1.w.heap.size, 0, none⟩) 1 1), (.slice none 0 0)] →
  (CallsP Tryz.prog 9 #[(.slice (some ⟨g2.w.heap.size, 0, none⟩) 3 3)] g3 fun v g4 =>
  ∃ x0a : Option Addr, ∃ x0l : Nat, ∃ x0c : Nat, ∃ x1 : Int, v = (.tuple ⟨[(.slice x0a x0l x0c), (.int .i64 x1)]⟩) ∧ (CallsP Tryz.prog 19 #[(.slice (some ⟨g2.w.heap.size, 0, none⟩) 3 3), (.string (bs [67]))] g4 fun v g5 =>
  ∃ x0a_1 : Option Addr, ∃ x0l_1 : Nat, ∃ x0c_1 : Nat, ∃ x1_1 : Int, v = (.tuple ⟨[(.slice x0a_1 x0l_1 x0c_1), (.int .i64 x1_1)]⟩) ∧ (CallsP Tryz.prog 20 #[(.slice (some ⟨g2.w.heap.size, 0, none⟩) 3 3), (.string (bs [65]))] g5 fun v g6 =>
  ∃ x0a_2 : Option Addr, ∃ x0l_2 : Nat, ∃ x0c_2 : Nat, ∃ x1_2 : Int, v = (.tuple ⟨[(.slice x0a_2 x0l_2 x0c_2), (.int .i64 x1_2)]⟩) ∧ ifB (eqI x1 (0 : Int))
  (ifB (eqI ((x0l : Nat) : Int) (3 : Int))
  ((0 ≤ (1 : Int) ∧ (1 : Int) < ((x0l : Nat) : Int)) ∧ derefP x0a fun ad => ∃ xa : Option Addr, ∃ xl : Nat, ∃ xc : Nat, g6.w.cell? (Addr.add ad (Int.toNat (1 : Int) * 1)) = some (.slice xa xl xc) ∧ ∀ g7 : G, NewL g6 g7 9 [(.string (bs [66]))] →
  (CallsP Tryz.prog 25 #[(.slice xa xl xc), (.slice (some ⟨g6.w.heap.size, 0, none⟩) 1 1)] g7 fun v g8 =>
  ∃ x : Bool, v = (.bool x) ∧ ifB x
  (ifB (eqI x1_1 (0 : Int))
  (∀ g9 : G, NewL g8 g9 9 [(.string (bs [65])), (.string (bs [66]))] →
  (CallsP Tryz.prog 25 #[(.slice x0a_1 x0l_1 x0c_1), (.slice (some ⟨g8.w.heap.size, 0, none⟩) 2 2)] g9 fun v g10 =>
  ∃ x_1 : Bool, v = (.bool x_1) ∧ ifB x_1
  (ifB (eqI x1_2 (0 : Int))
  (∀ g11 : G, NewL g10 g11 9 [(.string (bs [66])), (.string (bs [67]))] →
  (CallsP Tryz.prog 25 #[(.slice x0a_2 x0l_2 x0c_2), (.slice (some ⟨g10.w.heap.size, 0, none⟩) 2 2)] g11 fun v g12 =>
  ∃ x_2 : Bool, v = (.bool x_2) ∧ ∀ g13 : G, Ex g12 g13 →
  R (.bool x_2) g13))
  (∀ g14 : G, Ex g10 g14 →
  R (.bool false) g14))
  (∀ g15 : G, Ex g10 g15 →
  R (.bool false) g15)))
  (∀ g16 : G, Ex g8 g16 →
  R (.bool false) g16))
  (∀ g17 : G, Ex g8 g17 →
  R (.bool false) g17)))
  (∀ g18 : G, Ex g6 g18 →
  R (.bool false) g18))
  (∀ g19 : G, Ex g6 g19 →
  R (.bool false) g19))))
theorem F7_eq (g : G) (R : Value → G → Prop) : fnG cfg7 61 [.tmp 0] c7 an7 [] g nobody R = F7 g R := by kernel_rfl
theorem call7 (g : G) (R : Value → G → Prop) (hF : F7 g R) : CallsG Tryz.prog 7 #[] g nobody R :=
  fn_soundG (c := cfg7) TTok FNSok mixed Tryz.func7 (show Tryz.f7.body = some c7 by kernel_rfl) (show Tryz.f7.ntmps = 61 by kernel_rfl) (show Tryz.f7.results.toList = [.tmp 0] by kernel_rfl) rfl ((F7_eq g R ).mpr hF)

/- 8 pilaster/pilasterlaw41.few -/
noncomputable def c8 : Code := match Tryz.f8.body with
  | some c => c
  | none => .skip
noncomputable def cfg8 : Cfg := ⟨Tryz.prog, TT, FNS, [5], [(5, 5), (12, 5), (17, 5), (22, 5), (28, 5), (32, 5)], [], TCH, false, false, none, PNF, false⟩
def an8 : AnnG := (.seq .leaf (.seq .leaf (.seq (.seq .leaf (.blk (.loop ⟨[(3, .int .i64), (8, .int .i64)], [], []⟩ (.seq .leaf (.seq (.cond .leaf .leaf) (.seq (.blk (.seq .leaf (.join ⟨[], [], []⟩ (.seq .leaf (.cond (.seq .leaf .leaf) .leaf)) (.seq .leaf (.cond .leaf .leaf))))) .leaf)))))) (.seq .leaf .leaf))))
def F8 (la : Option Addr) (ll : Nat) (lc : Nat) (g : G) (R : Value → G → Prop) : Prop :=
  ∃ Inv : Nat → Int → Int → G → Prop, ((∃ m0 : Nat, Inv m0 (0 : Int) (0 : Int) g)) ∧
  ∀ m : Nat, ∀ wide : Int, ∀ v_1 : Int, ∀ g1 : G, Le g g1 → Inv m wide v_1 g1 →
  ifB (ltI v_1 ((ll : Nat) : Int))
  ((0 ≤ v_1 ∧ v_1 < ((ll : Nat) : Int)) ∧ derefP la fun ad => ∃ x0 : ByteArray, ∃ x1a : Option Addr, ∃ x1l : Nat, ∃ x1c : Nat, ∃ x2a : Option Addr, ∃ x2l : Nat, ∃ x2c : Nat, g1.w.cell? (Addr.add ad (Int.toNat v_1 * 3)) = some (.string x0) ∧ g1.w.cell? (Addr.add (Addr.add ad (Int.toNat v_1 * 3)) 1) = some (.slice x1a x1l x1c) ∧ g1.w.cell? (Addr.add (Addr.add ad (Int.toNat v_1 * 3)) 2) = some (.slice x2a x2l x2c) ∧ ∀ J : G → Prop,
  (∀ g2 : G, (ifB (ltI (2 : Int) ((x1l : Nat) : Int))
  (InI64 (wide + (1 : Int)) ∧ InI64 (v_1 + (1 : Int)) ∧ (∃ m_1 : Nat, m_1 < m ∧ Inv m_1 (wide + (1 : Int)) (v_1 + (1 : Int)) g2))
  (InI64 (v_1 + (1 : Int)) ∧ (∃ m_1 : Nat, m_1 < m ∧ Inv m_1 wide (v_1 + (1 : Int)) g2))) → J g2) →
  ifB (ltI (100 : Int) ((x0.size : Nat) : Int))
  (∀ g3 : G, Ex g1 g3 →
  R (.bool false) g3)
  (∀ g4 : G, Ex g1 g4 →
  (CallsP Tryz.prog 28 #[(.slice x1a x1l x1c)] g4 fun v g5 =>
  ∃ x : Bool, v = (.bool x) ∧ ifB x
  (∀ g6 : G, Ex g5 g6 →
  R (.bool false) g6)
  (ifB (ltI (10 : Int) ((x2l : Nat) : Int))
  (∀ g7 : G, Ex g5 g7 →
  R (.bool false) g7)
  (∃ M1 : Nat → Prop, (∀ b, b < g.w.heap.size → M1 b → nobody b) ∧ (CallsG Tryz.prog 37 #[(.slice x2a x2l x2c), (.func (.func 38) #[] #[])] g5 M1 fun v g8 =>
  ∃ x_1 : Bool, v = (.bool x_1) ∧ ifB x_1
  (∀ g9 : G, Ex g8 g9 →
  R (.bool false) g9)
  (J g8)))))))
  (ifB (leI ((ll : Nat) : Int) (20 : Int))
  (∀ g10 : G, Ex g1 g10 →
  R (.bool (leI wide (8 : Int))) g10)
  (∀ g11 : G, Ex g1 g11 →
  R (.bool false) g11))
theorem F8_eq (la : Option Addr) (ll : Nat) (lc : Nat) (g : G) (R : Value → G → Prop) : fnG cfg8 46 [.tmp 2] c8 an8 [(.slice la ll lc)] g nobody R = F8 la ll lc g R := by kernel_rfl
theorem call8 (la : Option Addr) (ll : Nat) (lc : Nat) (g : G) (R : Value → G → Prop) (hF : F8 la ll lc g R) : CallsG Tryz.prog 8 #[(.slice la ll lc)] g nobody R :=
  fn_soundG (c := cfg8) TTok FNSok mixed Tryz.func8 (show Tryz.f8.body = some c8 by kernel_rfl) (show Tryz.f8.ntmps = 46 by kernel_rfl) (show Tryz.f8.results.toList = [.tmp 2] by kernel_rfl) rfl ((F8_eq la ll lc g R ).mpr hF)

/- 9 pilaster/recompile.Levels -/
noncomputable def c9 : Code := match Tryz.f9.body with
  | some c => c
  | none => .skip
noncomputable def cfg9 : Cfg := ⟨Tryz.prog, TT, FNS, [], [], [], TCH, false, false, none, PNF, false⟩
def an9 : AnnG := (.seq .leaf (.seq .leaf (.seq (.seq .leaf (.cond (.seq .leaf .leaf) .leaf)) (.seq .leaf (.seq .leaf (.seq (.seq .leaf (.blk (.loop ⟨[(7, .sl), (29, .int .i64)], [], []⟩ (.seq .leaf (.seq (.cond .leaf .leaf) (.seq (.blk (.seq .leaf (.seq .leaf (.seq (.seq .leaf (.blk (.loop ⟨[(10, .int .i64), (40, .int .i64)], [], []⟩ (.seq .leaf (.seq (.cond .leaf .leaf) (.seq (.blk (.seq .leaf .leaf)) .leaf)))))) (.seq .leaf (.join ⟨[(7, .sl)], [], []⟩ (.seq .leaf (.cond .leaf .leaf)) .leaf)))))) .leaf)))))) (.seq (.seq .leaf (.blk (.loop ⟨[(74, .int .i64)], [], []⟩ (.seq .leaf (.seq (.cond .leaf .leaf) (.seq (.blk (.seq .leaf .leaf)) .leaf)))))) (.seq .leaf .leaf))))))))
def F9 (la : Option Addr) (ll : Nat) (lc : Nat) (g : G) (R : Value → G → Prop) : Prop :=
  (CallsP Tryz.prog 40 #[(.slice la ll lc)] g fun v g1 =>
  ∃ x0 : Option Addr, ∃ x1 : Int, v = (.tuple ⟨[(.pointer x0), (.int .i64 x1)]⟩) ∧ ifB (!eqI x1 (0 : Int))
  (∀ g2 : G, Ex g1 g2 →
  R (.tuple ⟨[(.slice none 0 0), (.int .i64 x1)]⟩) g2)
  (∀ g3 : G, NewM g1 g3 →
  derefP x0 fun ad => ∃ xa : Option Addr, ∃ xl : Nat, ∃ xc : Nat, g3.w.cell? ad = some (.slice xa xl xc) ∧ ∃ Inv : Nat → Option Addr → Nat → Nat → Int → G → Prop, ((∃ m0 : Nat, Inv m0 none 0 0 (0 : Int) g3)) ∧
  ∀ m : Nat, ∀ outa : Option Addr, ∀ outl : Nat, ∀ outc : Nat, ∀ v_1 : Int, ∀ g4 : G, Le g3 g4 → Inv m outa outl outc v_1 g4 →
  ifB (ltI v_1 ((xl : Nat) : Int))
  ((0 ≤ v_1 ∧ v_1 < ((xl : Nat) : Int)) ∧ derefP xa fun ad_1 => ∃ name : ByteArray, g4.w.cell? (Addr.add ad_1 (Int.toNat v_1 * 1)) = some (.string name) ∧ derefP x0 fun ad_2 => ∃ x : Option Nat, g4.w.cell? (Addr.add ad_2 1) = some (.map x) ∧ ∃ xa_1 : Option Addr, ∃ xl_1 : Nat, ∃ xc_1 : Nat, ∃ wo1 : World, Sem.run Tryz.prog (Instr.lookup 81 (.map x) (.string name) false) g4.w = .ok (.slice xa_1 xl_1 xc_1) wo1 ∧ ∃ g5 : G, g5.w = wo1 ∧ Stp g.w.heap.size nobody g4 g5 ∧ ∃ Inv_1 : Nat → Int → Int → G → Prop, ((∃ m0 : Nat, Inv_1 m0 (0 : Int) (0 : Int) g5)) ∧
  ∀ m_2 : Nat, ∀ n : Int, ∀ v_2 : Int, ∀ g6 : G, Le g5 g6 → Inv_1 m_2 n v_2 g6 →
  ifB (ltI v_2 ((xl_1 : Nat) : Int))
  ((0 ≤ v_2 ∧ v_2 < ((xl_1 : Nat) : Int)) ∧ derefP xa_1 fun ad_3 => ∃ s : ByteArray, g6.w.cell? (Addr.add ad_3 (Int.toNat v_2 * 1)) = some (.string s) ∧ ∃ x_1 : Int, ∃ wo2 : World, Sem.run Tryz.prog (Instr.lookup 80 (.map (some g1.w.heap.size)) (.string s) false) g6.w = .ok (.int .i64 x_1) wo2 ∧ ∃ g7 : G, g7.w = wo2 ∧ Stp g.w.heap.size nobody g6 g7 ∧ InI64 (x_1 + (1 : Int)) ∧ InI64 (v_2 + (1 : Int)) ∧ (∃ m_3 : Nat, m_3 < m_2 ∧ Inv_1 m_3 (maxI n (x_1 + (1 : Int))) (v_2 + (1 : Int)) g7))
  (∃ wo3 : World, Sem.run Tryz.prog (Instr.mapUpdate 80 (.map (some g1.w.heap.size)) (.string name) (.int .i64 n)) g6.w = .ok () wo3 ∧ ∃ g8 : G, g8.w = wo3 ∧ Stp g.w.heap.size nobody g6 g8 ∧ ∀ J : Option Addr → Nat → Nat → G → Prop,
  (∀ outa_1 : Option Addr, ∀ outl_1 : Nat, ∀ outc_1 : Nat, ∀ g9 : G, ((0 ≤ n ∧ n < ((outl_1 : Nat) : Int)) ∧ derefP outa_1 fun ad_4 => ∃ xa_2 : Option Addr, ∃ xl_2 : Nat, ∃ xc_2 : Nat, g9.w.cell? (Addr.add ad_4 (Int.toNat n * 1)) = some (.slice xa_2 xl_2 xc_2) ∧ ∀ g10 : G, NewL g9 g10 9 [(.string name)] →
  ∃ xa_3 : Option Addr, ∃ xl_3 : Nat, ∃ xc_3 : Nat, ∃ wo4 : World, Sem.run Tryz.prog (Builtin.append_ #[30, 30] 30 #[(.slice xa_2 xl_2 xc_2), (.slice (some ⟨g9.w.heap.size, 0, none⟩) 1 1)]) g10.w = .ok (.slice xa_3 xl_3 xc_3) wo4 ∧ ∃ g11 : G, g11.w = wo4 ∧ Stp g.w.heap.size nobody g10 g11 ∧ (0 ≤ n ∧ n < ((outl_1 : Nat) : Int)) ∧ derefP outa_1 fun ad_5 => stOk g11.w (Addr.add ad_5 (Int.toNat n * 1)) 1 ∧ ¬ g11.X (Addr.block (Addr.add ad_5 (Int.toNat n * 1))) ∧ mutAt g11 (Addr.add ad_5 (Int.toNat n * 1)) 1 ∧ ((Addr.block (Addr.add ad_5 (Int.toNat n * 1))) < g.w.heap.size → nobody (Addr.block (Addr.add ad_5 (Int.toNat n * 1)))) ∧ ∀ g12 : G, StG false g11 (Addr.add ad_5 (Int.toNat n * 1)) [(.slice xa_3 xl_3 xc_3)] g12 →
  InI64 (v_1 + (1 : Int)) ∧ (∃ m_1 : Nat, m_1 < m ∧ Inv m_1 outa_1 outl_1 outc_1 (v_1 + (1 : Int)) g12)) → J outa_1 outl_1 outc_1 g9) →
  ifB (eqI n ((outl : Nat) : Int))
  (∀ g13 : G, NewL g8 g13 30 [(.slice none 0 0)] →
  ∃ outa_2 : Option Addr, ∃ outl_2 : Nat, ∃ outc_2 : Nat, ∃ wo5 : World, Sem.run Tryz.prog (Builtin.append_ #[26, 26] 26 #[(.slice outa outl outc), (.slice (some ⟨g8.w.heap.size, 0, none⟩) 1 1)]) g13.w = .ok (.slice outa_2 outl_2 outc_2) wo5 ∧ ∃ g14 : G, g14.w = wo5 ∧ Stp g.w.heap.size nobody g13 g14 ∧ J outa_2 outl_2 outc_2 g14)
  (J outa outl outc g8)))
  (∃ Inv_2 : Nat → Int → G → Prop, ((∃ m0 : Nat, Inv_2 m0 (0 : Int) g4)) ∧
  ∀ m_4 : Nat, ∀ v_3 : Int, ∀ g15 : G, Le g4 g15 → Inv_2 m_4 v_3 g15 →
  ifB (ltI v_3 ((outl : Nat) : Int))
  ((0 ≤ v_3 ∧ v_3 < ((outl : Nat) : Int)) ∧ derefP outa fun ad_6 => ∃ namesa : Option Addr, ∃ namesl : Nat, ∃ namesc : Nat, g15.w.cell? (Addr.add ad_6 (Int.toNat v_3 * 1)) = some (.slice namesa namesl namesc) ∧ ∃ M1 : Nat → Prop, (∀ b, b < g.w.heap.size → M1 b → nobody b) ∧ (CallsG Tryz.prog 41 #[(.slice namesa namesl namesc)] g15 M1 fun v g16 =>
  v = (.tuple ⟨[]⟩) ∧ InI64 (v_3 + (1 : Int)) ∧ (∃ m_5 : Nat, m_5 < m_4 ∧ Inv_2 m_5 (v_3 + (1 : Int)) g16)))
  (∀ g17 : G, Ex g15 g17 →
  R (.tuple ⟨[(.slice outa outl outc), (.int .i64 (0 : Int))]⟩) g17))))
theorem F9_eq (la : Option Addr) (ll : Nat) (lc : Nat) (g : G) (R : Value → G → Prop) : fnG cfg9 82 [.tmp 2, .tmp 3] c9 an9 [(.slice la ll lc)] g nobody R = F9 la ll lc g R := by kernel_rfl
theorem call9 (la : Option Addr) (ll : Nat) (lc : Nat) (g : G) (R : Value → G → Prop) (hF : F9 la ll lc g R) : CallsG Tryz.prog 9 #[(.slice la ll lc)] g nobody R :=
  fn_soundG (c := cfg9) TTok FNSok mixed Tryz.func9 (show Tryz.f9.body = some c9 by kernel_rfl) (show Tryz.f9.ntmps = 82 by kernel_rfl) (show Tryz.f9.results.toList = [.tmp 2, .tmp 3] by kernel_rfl) rfl ((F9_eq la ll lc g R ).mpr hF)

/- 11 pilaster/pilasterlaw41.built -/
noncomputable def c11 : Code := match Tryz.f11.body with
  | some c => c
  | none => .skip
noncomputable def cfg11 : Cfg := ⟨Tryz.prog, TT, FNS, [10, 11], [(10, 10), (11, 11), (23, 10), (33, 10), (36, 10), (48, 11), (56, 11)], [3], TCH, false, false, none, PNF, false⟩
def an11 : AnnG := (.seq .leaf (.seq .leaf (.seq .leaf (.seq (.seq .leaf (.blk (.loop ⟨[(8, .sl), (18, .int .i64)], [], []⟩ (.seq .leaf (.seq (.cond .leaf .leaf) (.seq (.blk (.seq .leaf (.join ⟨[], [(11, 11, 0)], [(11, [(.str), (.str), (.sl), (.sl), (.str)])]⟩ (.treeP false [] 14 (.quiet 0 (.quiet 1 (.quiet 2 (.quiet 3 (.quiet 4 (.quiet 5 (.quiet 6 (.quiet 7 (.quiet 8 (.quiet 9 (.quiet 10 (.quiet 11 (.eff 12 (.eff 13 .fin .fin) (.eff 13 (.eff 12 .fin .fin) .fin))))))))))))))) (.seq (.seq .leaf (.blk (.loop ⟨[(39, .int .i64)], [(11, 11, 0)], [(11, [(.str), (.str), (.sl), (.sl), (.str)])]⟩ (.seq .leaf (.seq (.cond .leaf .leaf) (.seq (.blk (.seq .leaf (.seq .leaf (.seq .leaf (.cond (.treeP false [11] 7 (.quiet 0 (.quiet 2 (.quiet 3 (.quiet 4 (.quiet 5 (.eff 1 (.eff 6 .fin .fin) (.eff 6 (.eff 1 .fin .fin) .fin)))))))) .leaf))))) .leaf)))))) .leaf)))) .leaf)))))) (.seq .leaf .leaf)))))
def F11 (la : Option Addr) (ll : Nat) (lc : Nat) (sourcesa : Option Addr) (sourcesl : Nat) (sourcesc : Nat) (facesa : Option Addr) (facesl : Nat) (facesc : Nat) (g : G) (R : Value → G → Prop) : Prop :=
  ∀ g1 : G, NewL g g1 22 ([(.slice la ll lc)] : List Value) →
  ∃ la_1 : Option Addr, ∃ ll_1 : Nat, ∃ lc_1 : Nat, g1.w.cell? ⟨g.w.heap.size, 0, none⟩ = some (.slice la_1 ll_1 lc_1) ∧ ∃ Inv : Nat → Option Addr → Nat → Nat → Int → G → Prop, ((∃ m0 : Nat, Inv m0 none 0 0 (0 : Int) g1)) ∧
  ∀ m : Nat, ∀ outa : Option Addr, ∀ outl : Nat, ∀ outc : Nat, ∀ v_1 : Int, ∀ g2 : G, Le g1 g2 → Inv m outa outl outc v_1 g2 →
  ifB (ltI v_1 ((ll_1 : Nat) : Int))
  ((0 ≤ v_1 ∧ v_1 < ((ll_1 : Nat) : Int)) ∧ derefP la_1 fun ad => ∃ x0 : ByteArray, ∃ x1a : Option Addr, ∃ x1l : Nat, ∃ x1c : Nat, ∃ x2a : Option Addr, ∃ x2l : Nat, ∃ x2c : Nat, g2.w.cell? (Addr.add ad (Int.toNat v_1 * 3)) = some (.string x0) ∧ g2.w.cell? (Addr.add (Addr.add ad (Int.toNat v_1 * 3)) 1) = some (.slice x1a x1l x1c) ∧ g2.w.cell? (Addr.add (Addr.add ad (Int.toNat v_1 * 3)) 2) = some (.slice x2a x2l x2c) ∧ ∀ J : ByteArray → ByteArray → Option Addr → Nat → Nat → Option Addr → Nat → Nat → ByteArray → G → Prop,
  (∀ r0 : ByteArray, ∀ r1 : ByteArray, ∀ r2a : Option Addr, ∀ r2l : Nat, ∀ r2c : Nat, ∀ r3a : Option Addr, ∀ r3l : Nat, ∀ r3c : Nat, ∀ r4 : ByteArray, ∀ g3 : G, (∃ Inv_1 : Nat → Int → ByteArray → ByteArray → Option Addr → Nat → Nat → Option Addr → Nat → Nat → ByteArray → G → Prop, ((∃ m0 : Nat, Inv_1 m0 (0 : Int) r0 r1 r2a r2l r2c r3a r3l r3c r4 g3)) ∧
  ∀ m_2 : Nat, ∀ v_2 : Int, ∀ r0_1 : ByteArray, ∀ r1_1 : ByteArray, ∀ r2a_1 : Option Addr, ∀ r2l_1 : Nat, ∀ r2c_1 : Nat, ∀ r3a_1 : Option Addr, ∀ r3l_1 : Nat, ∀ r3c_1 : Nat, ∀ r4_1 : ByteArray, ∀ g4 : G, Le g3 g4 → Inv_1 m_2 v_2 r0_1 r1_1 r2a_1 r2l_1 r2c_1 r3a_1 r3l_1 r3c_1 r4_1 g4 →
  ifB (ltI v_2 ((x1l : Nat) : Int))
  ((0 ≤ v_2 ∧ v_2 < ((x1l : Nat) : Int)) ∧ derefP x1a fun ad_1 => ∃ s : ByteArray, g4.w.cell? (Addr.add ad_1 (Int.toNat v_2 * 1)) = some (.string s) ∧ Enters Tryz.prog 48 ∧ (CallsP Tryz.prog 48 ((⟨[(.string s)]⟩ : Array Value) ++ ⟨[(.pointer (some ⟨g.w.heap.size, 0, none⟩))]⟩) g4 fun v g5 =>
  ∃ k : Int, v = (.int .i64 k) ∧ ifB (leI (0 : Int) k)
  (∀ g6 : G, Ex g5 g6 →
  (0 ≤ k ∧ k < ((facesl : Nat) : Int)) ∧ derefP facesa fun ad_2 => ¬ g6.X (Addr.block (Addr.add ad_2 (Int.toNat k * 1))) ∧ ∃ x : ByteArray, g6.w.cell? (Addr.add ad_2 (Int.toNat k * 1)) = some (.string x) ∧ Rep 1 (∀ g7 : G, Ex g6 g7 →
  ∀ g8 : G, NewL g7 g8 9 [(.string x)] →
  ∃ xa : Option Addr, ∃ xl : Nat, ∃ xc : Nat, ∃ wo1 : World, Sem.run Tryz.prog (Builtin.append_ #[30, 30] 30 #[(.slice r3a_1 r3l_1 r3c_1), (.slice (some ⟨g7.w.heap.size, 0, none⟩) 1 1)]) g8.w = .ok (.slice xa xl xc) wo1 ∧ ∃ g9 : G, g9.w = wo1 ∧ Stp g.w.heap.size nobody g8 g9 ∧ InI64 (v_2 + (1 : Int)) ∧ ∀ g10 : G, Ex g9 g10 →
  (∃ m_3 : Nat, m_3 < m_2 ∧ Inv_1 m_3 (v_2 + (1 : Int)) r0_1 r1_1 r2a_1 r2l_1 r2c_1 xa xl xc r4_1 g10)))
  (InI64 (v_2 + (1 : Int)) ∧ (∃ m_3 : Nat, m_3 < m_2 ∧ Inv_1 m_3 (v_2 + (1 : Int)) r0_1 r1_1 r2a_1 r2l_1 r2c_1 r3a_1 r3l_1 r3c_1 r4_1 g5))))
  (∀ g15 : G, NewL g4 g15 59 [(.string r0_1), (.string r1_1), (.slice r2a_1 r2l_1 r2c_1), (.slice r3a_1 r3l_1 r3c_1), (.string r4_1)] →
  ∃ outa_1 : Option Addr, ∃ outl_1 : Nat, ∃ outc_1 : Nat, ∃ wo3 : World, Sem.run Tryz.prog (Builtin.append_ #[32, 32] 32 #[(.slice outa outl outc), (.slice (some ⟨g4.w.heap.size, 0, none⟩) 1 1)]) g15.w = .ok (.slice outa_1 outl_1 outc_1) wo3 ∧ ∃ g16 : G, g16.w = wo3 ∧ Stp g.w.heap.size nobody g15 g16 ∧ InI64 (v_1 + (1 : Int)) ∧ (∃ m_1 : Nat, m_1 < m ∧ Inv m_1 outa_1 outl_1 outc_1 (v_1 + (1 : Int)) g16))) → J r0 r1 r2a r2l r2c r3a r3l r3c r4 g3) →
  ∀ g17 : G, Ex g2 g17 →
  (0 ≤ v_1 ∧ v_1 < ((sourcesl : Nat) : Int)) ∧ derefP sourcesa fun ad_3 => ¬ g17.X (Addr.block (Addr.add ad_3 (Int.toNat v_1 * 1))) ∧ ∃ x_1 : ByteArray, g17.w.cell? (Addr.add ad_3 (Int.toNat v_1 * 1)) = some (.string x_1) ∧ (0 ≤ v_1 ∧ v_1 < ((facesl : Nat) : Int)) ∧ derefP facesa fun ad_4 => ¬ g17.X (Addr.block (Addr.add ad_4 (Int.toNat v_1 * 1))) ∧ ∃ x_2 : ByteArray, g17.w.cell? (Addr.add ad_4 (Int.toNat v_1 * 1)) = some (.string x_2) ∧ Rep 1 (∀ g18 : G, Ex g17 g18 →
  ∀ g19 : G, Ex g18 g19 →
  J x0 x_1 x1a x1l x1c none 0 0 x_2 g19))
  (∀ g22 : G, Ex g2 g22 →
  R (.slice outa outl outc) g22)
theorem F11_eq (la : Option Addr) (ll : Nat) (lc : Nat) (sourcesa : Option Addr) (sourcesl : Nat) (sourcesc : Nat) (facesa : Option Addr) (facesl : Nat) (facesc : Nat) (g : G) (R : Value → G → Prop) : fnG cfg11 64 [.tmp 6] c11 an11 [(.slice la ll lc), (.slice sourcesa sourcesl sourcesc), (.slice facesa facesl facesc)] g nobody R = F11 la ll lc sourcesa sourcesl sourcesc facesa facesl facesc g R := by kernel_rfl
theorem call11 (la : Option Addr) (ll : Nat) (lc : Nat) (sourcesa : Option Addr) (sourcesl : Nat) (sourcesc : Nat) (facesa : Option Addr) (facesl : Nat) (facesc : Nat) (g : G) (R : Value → G → Prop) (hF : F11 la ll lc sourcesa sourcesl sourcesc facesa facesl facesc g R) : CallsG Tryz.prog 11 #[(.slice la ll lc), (.slice sourcesa sourcesl sourcesc), (.slice facesa facesl facesc)] g nobody R :=
  fn_soundG (c := cfg11) TTok FNSok mixed Tryz.func11 (show Tryz.f11.body = some c11 by kernel_rfl) (show Tryz.f11.ntmps = 64 by kernel_rfl) (show Tryz.f11.results.toList = [.tmp 6] by kernel_rfl) rfl ((F11_eq la ll lc sourcesa sourcesl sourcesc facesa facesl facesc g R ).mpr hF)

/- 12 pilaster/recompile.Plan -/
noncomputable def c12 : Code := match Tryz.f12.body with
  | some c => c
  | none => .skip
noncomputable def cfg12 : Cfg := ⟨Tryz.prog, TT, FNS, [16, 19], [(16, 16), (19, 19), (93, 16), (107, 19), (123, 19), (130, 19)], [], TCH, false, false, none, PNF, false⟩
def an12 : AnnG := (.seq .leaf (.seq (.seq .leaf (.seq .leaf (.cond (.seq .leaf .leaf) .leaf))) (.seq (.join ⟨[(56, .bool)], [], []⟩ .leaf (.cond (.seq .leaf .leaf) .leaf)) (.seq (.seq .leaf (.cond (.seq .leaf .leaf) .leaf)) (.seq .leaf (.seq (.seq .leaf (.blk (.loop ⟨[(63, .int .i64)], [], []⟩ (.seq .leaf (.seq (.cond .leaf .leaf) (.seq (.blk (.seq .leaf (.seq (.seq .leaf (.cond (.seq .leaf .leaf) .leaf)) (.tree 9 (.quiet 0 (.quiet 1 (.quiet 2 (.quiet 3 (.quiet 4 (.quiet 5 (.quiet 6 (.quiet 7 (.quiet 8 .fin))))))))))))) .leaf)))))) (.seq .leaf (.seq (.seq .leaf (.blk (.loop ⟨[(87, .int .i64)], [], []⟩ (.seq .leaf (.seq (.cond .leaf .leaf) (.seq (.blk (.seq .leaf (.tree 7 (.quiet 0 (.quiet 1 (.quiet 2 (.quiet 3 (.quiet 4 (.quiet 5 (.quiet 6 .fin)))))))))) .leaf)))))) (.seq .leaf (.seq (.seq .leaf (.blk (.loop ⟨[(17, .sl), (102, .int .i64)], [], []⟩ (.seq .leaf (.seq (.cond .leaf .leaf) (.seq (.blk (.seq .leaf (.seq .leaf (.seq (.seq .leaf (.blk (.loop ⟨[(20, .sl), (110, .int .i64)], [], []⟩ (.seq .leaf (.seq (.cond .leaf .leaf) (.seq (.blk (.seq .leaf .leaf)) .leaf)))))) (.tree 14 (.quiet 0 (.quiet 1 (.quiet 2 (.quiet 3 (.quiet 5 (.quiet 6 (.quiet 7 (.quiet 8 (.quiet 9 (.quiet 10 (.quiet 11 (.eff 4 (.eff 12 (.eff 13 .fin .fin) .fin) .fin))))))))))))))))) .leaf)))))) (.seq .leaf .leaf)))))))))))
def F12 (la : Option Addr) (ll : Nat) (lc : Nat) (recordsa : Option Addr) (recordsl : Nat) (recordsc : Nat) (sourcesa : Option Addr) (sourcesl : Nat) (sourcesc : Nat) (facesa : Option Addr) (facesl : Nat) (facesc : Nat) (g : G) (R : Value → G → Prop) : Prop :=
  (CallsP Tryz.prog 40 #[(.slice la ll lc)] g fun v g1 =>
  ∃ x0 : Option Addr, ∃ x1 : Int, v = (.tuple ⟨[(.pointer x0), (.int .i64 x1)]⟩) ∧ ifB (!eqI x1 (0 : Int))
  (∀ g2 : G, Ex g1 g2 →
  R (.tuple ⟨[(.slice none 0 0), (.int .i64 x1)]⟩) g2)
  (∀ J : Bool → G → Prop,
  (∀ v_1 : Bool, ∀ g3 : G, (ifB v_1
  (∀ g4 : G, Ex g3 g4 →
  R (.tuple ⟨[(.slice none 0 0), (.int .i64 (1 : Int))]⟩) g4)
  (ifB (ltI (1000 : Int) ((recordsl : Nat) : Int))
  (∀ g5 : G, Ex g3 g5 →
  R (.tuple ⟨[(.slice none 0 0), (.int .i64 (5 : Int))]⟩) g5)
  (∀ g6 : G, NewM g3 g6 →
  ∃ Inv : Nat → Int → G → Prop, ((∃ m0 : Nat, Inv m0 (0 : Int) g6)) ∧
  ∀ m : Nat, ∀ v_2 : Int, ∀ g7 : G, Le g6 g7 → Inv m v_2 g7 →
  ifB (ltI v_2 ((recordsl : Nat) : Int))
  ((0 ≤ v_2 ∧ v_2 < ((recordsl : Nat) : Int)) ∧ derefP recordsa fun ad => ∃ x : ByteArray, g7.w.cell? (Addr.add ad (Int.toNat v_2 * 5)) = some (.string x) ∧ ∃ x_1 : Option Addr, ∃ wo1 : World, Sem.run Tryz.prog (Instr.lookup 101 (.map (some g3.w.heap.size)) (.string x) false) g7.w = .ok (.pointer x_1) wo1 ∧ ∃ g8 : G, g8.w = wo1 ∧ Stp g.w.heap.size nobody g7 g8 ∧ ifB (!x_1.isNone)
  (∀ g9 : G, Ex g8 g9 →
  R (.tuple ⟨[(.slice none 0 0), (.int .i64 (9 : Int))]⟩) g9)
  (∀ g10 : G, Ex g8 g10 →
  (0 ≤ v_2 ∧ v_2 < ((recordsl : Nat) : Int)) ∧ derefP recordsa fun ad_1 => ∃ x_2 : ByteArray, g10.w.cell? (Addr.add ad_1 (Int.toNat v_2 * 5)) = some (.string x_2) ∧ (0 ≤ v_2 ∧ v_2 < ((recordsl : Nat) : Int)) ∧ derefP recordsa fun ad_2 => ∃ wo2 : World, Sem.run Tryz.prog (Instr.mapUpdate 101 (.map (some g3.w.heap.size)) (.string x_2) (.pointer (some (Addr.add ad_2 (Int.toNat v_2 * 5))))) g10.w = .ok () wo2 ∧ ∃ g11 : G, g11.w = wo2 ∧ Stp g.w.heap.size nobody g10 g11 ∧ InI64 (v_2 + (1 : Int)) ∧ (∃ m_1 : Nat, m_1 < m ∧ Inv m_1 (v_2 + (1 : Int)) g11)))
  (∀ g12 : G, NewM g7 g12 →
  ∃ Inv_1 : Nat → Int → G → Prop, ((∃ m0 : Nat, Inv_1 m0 (0 : Int) g12)) ∧
  ∀ m_2 : Nat, ∀ v_3 : Int, ∀ g13 : G, Le g12 g13 → Inv_1 m_2 v_3 g13 →
  ifB (ltI v_3 ((ll : Nat) : Int))
  ((0 ≤ v_3 ∧ v_3 < ((ll : Nat) : Int)) ∧ derefP la fun ad_3 => ∃ x0_1 : ByteArray, ∃ x1a : Option Addr, ∃ x1l : Nat, ∃ x1c : Nat, ∃ x2a : Option Addr, ∃ x2l : Nat, ∃ x2c : Nat, g13.w.cell? (Addr.add ad_3 (Int.toNat v_3 * 3)) = some (.string x0_1) ∧ g13.w.cell? (Addr.add (Addr.add ad_3 (Int.toNat v_3 * 3)) 1) = some (.slice x1a x1l x1c) ∧ g13.w.cell? (Addr.add (Addr.add ad_3 (Int.toNat v_3 * 3)) 2) = some (.slice x2a x2l x2c) ∧ ∀ g14 : G, Ex g13 g14 →
  (0 ≤ v_3 ∧ v_3 < ((facesl : Nat) : Int)) ∧ derefP facesa fun ad_4 => ∃ x_3 : ByteArray, g14.w.cell? (Addr.add ad_4 (Int.toNat v_3 * 1)) = some (.string x_3) ∧ ∃ wo3 : World, Sem.run Tryz.prog (Instr.mapUpdate 103 (.map (some g7.w.heap.size)) (.string x0_1) (.string x_3)) g14.w = .ok () wo3 ∧ ∃ g15 : G, g15.w = wo3 ∧ Stp g.w.heap.size nobody g14 g15 ∧ InI64 (v_3 + (1 : Int)) ∧ (∃ m_3 : Nat, m_3 < m_2 ∧ Inv_1 m_3 (v_3 + (1 : Int)) g15))
  (∃ Inv_2 : Nat → Option Addr → Nat → Nat → Int → G → Prop, ((∃ m0 : Nat, Inv_2 m0 none 0 0 (0 : Int) g13)) ∧
  ∀ m_4 : Nat, ∀ outa : Option Addr, ∀ outl : Nat, ∀ outc : Nat, ∀ v_4 : Int, ∀ g16 : G, Le g13 g16 → Inv_2 m_4 outa outl outc v_4 g16 →
  ifB (ltI v_4 ((ll : Nat) : Int))
  ((0 ≤ v_4 ∧ v_4 < ((ll : Nat) : Int)) ∧ derefP la fun ad_5 => ∃ x0_2 : ByteArray, ∃ x1a_1 : Option Addr, ∃ x1l_1 : Nat, ∃ x1c_1 : Nat, ∃ x2a_1 : Option Addr, ∃ x2l_1 : Nat, ∃ x2c_1 : Nat, g16.w.cell? (Addr.add ad_5 (Int.toNat v_4 * 3)) = some (.string x0_2) ∧ g16.w.cell? (Addr.add (Addr.add ad_5 (Int.toNat v_4 * 3)) 1) = some (.slice x1a_1 x1l_1 x1c_1) ∧ g16.w.cell? (Addr.add (Addr.add ad_5 (Int.toNat v_4 * 3)) 2) = some (.slice x2a_1 x2l_1 x2c_1) ∧ ∃ Inv_3 : Nat → Option Addr → Nat → Nat → Int → G → Prop, (∀ g17 : G, Ex g16 g17 →
  (∃ m0 : Nat, Inv_3 m0 none 0 0 (0 : Int) g17)) ∧
  ∀ m_6 : Nat, ∀ da : Option Addr, ∀ dl : Nat, ∀ dc : Nat, ∀ v_5 : Int, ∀ g18 : G, Le g16 g18 → Inv_3 m_6 da dl dc v_5 g18 →
  ifB (ltI v_5 ((x1l_1 : Nat) : Int))
  ((0 ≤ v_5 ∧ v_5 < ((x1l_1 : Nat) : Int)) ∧ derefP x1a_1 fun ad_6 => ∃ s : ByteArray, g18.w.cell? (Addr.add ad_6 (Int.toNat v_5 * 1)) = some (.string s) ∧ ∃ x_4 : ByteArray, ∃ wo4 : World, Sem.run Tryz.prog (Instr.lookup 103 (.map (some g7.w.heap.size)) (.string s) false) g18.w = .ok (.string x_4) wo4 ∧ ∃ g19 : G, g19.w = wo4 ∧ Stp g.w.heap.size nobody g18 g19 ∧ ∀ g20 : G, NewL g19 g20 9 [(.string x_4)] →
  ∃ da_1 : Option Addr, ∃ dl_1 : Nat, ∃ dc_1 : Nat, ∃ wo5 : World, Sem.run Tryz.prog (Builtin.append_ #[30, 30] 30 #[(.slice da dl dc), (.slice (some ⟨g19.w.heap.size, 0, none⟩) 1 1)]) g20.w = .ok (.slice da_1 dl_1 dc_1) wo5 ∧ ∃ g21 : G, g21.w = wo5 ∧ Stp g.w.heap.size nobody g20 g21 ∧ InI64 (v_5 + (1 : Int)) ∧ (∃ m_7 : Nat, m_7 < m_6 ∧ Inv_3 m_7 da_1 dl_1 dc_1 (v_5 + (1 : Int)) g21))
  (∀ g22 : G, Ex g18 g22 →
  (0 ≤ v_4 ∧ v_4 < ((sourcesl : Nat) : Int)) ∧ derefP sourcesa fun ad_7 => ∃ x_5 : ByteArray, g22.w.cell? (Addr.add ad_7 (Int.toNat v_4 * 1)) = some (.string x_5) ∧ ∃ x_6 : Option Addr, ∃ wo6 : World, Sem.run Tryz.prog (Instr.lookup 101 (.map (some g3.w.heap.size)) (.string x0_2) false) g22.w = .ok (.pointer x_6) wo6 ∧ ∃ g23 : G, g23.w = wo6 ∧ Stp g.w.heap.size nobody g22 g23 ∧ SameB g22 g23 ∧ (CallsP Tryz.prog 52 #[(.pointer x_6), (.string x_5), (.slice x1a_1 x1l_1 x1c_1), (.slice da dl dc)] g23 fun v g24 =>
  ∃ x0_3 : Int, ∃ x1_1 : ByteArray, v = (.agg ⟨[(.int .i64 x0_3), (.string x1_1)]⟩) ∧ ∀ g25 : G, NewL g24 g25 39 [(.int .i64 x0_3), (.string x1_1)] →
  ∃ outa_1 : Option Addr, ∃ outl_1 : Nat, ∃ outc_1 : Nat, ∃ wo7 : World, Sem.run Tryz.prog (Builtin.append_ #[34, 34] 34 #[(.slice outa outl outc), (.slice (some ⟨g24.w.heap.size, 0, none⟩) 1 1)]) g25.w = .ok (.slice outa_1 outl_1 outc_1) wo7 ∧ ∃ g26 : G, g26.w = wo7 ∧ Stp g.w.heap.size nobody g25 g26 ∧ InI64 (v_4 + (1 : Int)) ∧ (∃ m_5 : Nat, m_5 < m_4 ∧ Inv_2 m_5 outa_1 outl_1 outc_1 (v_4 + (1 : Int)) g26))))
  (∀ g27 : G, Ex g16 g27 →
  R (.tuple ⟨[(.slice outa outl outc), (.int .i64 (0 : Int))]⟩) g27)))))) → J v_1 g3) →
  ifB (!eqI ((sourcesl : Nat) : Int) ((ll : Nat) : Int))
  (J true g1)
  (ifB (!eqI ((facesl : Nat) : Int) ((ll : Nat) : Int))
  (J true g1)
  ((CallsP Tryz.prog 50 #[(.slice sourcesa sourcesl sourcesc)] g1 fun v g28 =>
  ∃ x_7 : Bool, v = (.bool x_7) ∧ ifB (!x_7)
  (J true g28)
  ((CallsP Tryz.prog 50 #[(.slice facesa facesl facesc)] g28 fun v g29 =>
  ∃ x_8 : Bool, v = (.bool x_8) ∧ ifB (!x_8)
  (J true g29)
  ((CallsP Tryz.prog 33 #[(.slice recordsa recordsl recordsc), (.func (.func 51) #[] #[])] g29 fun v g30 =>
  ∃ x_9 : Bool, v = (.bool x_9) ∧ J x_9 g30)))))))))
theorem F12_eq (la : Option Addr) (ll : Nat) (lc : Nat) (recordsa : Option Addr) (recordsl : Nat) (recordsc : Nat) (sourcesa : Option Addr) (sourcesl : Nat) (sourcesc : Nat) (facesa : Option Addr) (facesl : Nat) (facesc : Nat) (g : G) (R : Value → G → Prop) : fnG cfg12 138 [.tmp 8, .tmp 9] c12 an12 [(.slice la ll lc), (.slice recordsa recordsl recordsc), (.slice sourcesa sourcesl sourcesc), (.slice facesa facesl facesc)] g nobody R = F12 la ll lc recordsa recordsl recordsc sourcesa sourcesl sourcesc facesa facesl facesc g R := by kernel_rfl
theorem call12 (la : Option Addr) (ll : Nat) (lc : Nat) (recordsa : Option Addr) (recordsl : Nat) (recordsc : Nat) (sourcesa : Option Addr) (sourcesl : Nat) (sourcesc : Nat) (facesa : Option Addr) (facesl : Nat) (facesc : Nat) (g : G) (R : Value → G → Prop) (hF : F12 la ll lc recordsa recordsl recordsc sourcesa sourcesl sourcesc facesa facesl facesc g R) : CallsG Tryz.prog 12 #[(.slice la ll lc), (.slice recordsa recordsl recordsc), (.slice sourcesa sourcesl sourcesc), (.slice facesa facesl facesc)] g nobody R :=
  fn_soundG (c := cfg12) TTok FNSok mixed Tryz.func12 (show Tryz.f12.body = some c12 by kernel_rfl) (show Tryz.f12.ntmps = 138 by kernel_rfl) (show Tryz.f12.results.toList = [.tmp 8, .tmp 9] by kernel_rfl) rfl ((F12_eq la ll lc recordsa recordsl recordsc sourcesa sourcesl sourcesc facesa facesl facesc g R ).mpr hF)

/- 13 slices.ContainsFunc[[]pilaster/api.Reason,pilaster/api.Reason] -/
noncomputable def c13 : Code := match Tryz.f13.body with
  | some c => c
  | none => .skip
noncomputable def cfg13 : Cfg := ⟨Tryz.prog, TT, FNS, [], [], [], TCH, false, false, none, PNF, false⟩
def an13 : AnnG := (.seq .leaf (.seq .leaf .leaf))
def F13 (sa : Option Addr) (sl : Nat) (sc : Nat) (ff : FuncId) (fc : Array Value) (g : G) (R : Value → G → Prop) : Prop :=
  (CallsP Tryz.prog 53 #[(.slice sa sl sc), (.func (.func ff) #[] fc)] g fun v g1 =>
  ∃ x : Int, v = (.int .i64 x) ∧ ∀ g2 : G, Ex g1 g2 →
  R (.bool (leI (0 : Int) x)) g2)
theorem F13_eq (sa : Option Addr) (sl : Nat) (sc : Nat) (ff : FuncId) (fc : Array Value) (g : G) (R : Value → G → Prop) : fnG cfg13 9 [.tmp 4] c13 an13 [(.slice sa sl sc), (.func (.func ff) #[] fc)] g nobody R = F13 sa sl sc ff fc g R := by kernel_rfl
theorem call13 (sa : Option Addr) (sl : Nat) (sc : Nat) (ff : FuncId) (fc : Array Value) (g : G) (R : Value → G → Prop) (hF : F13 sa sl sc ff fc g R) : CallsG Tryz.prog 13 #[(.slice sa sl sc), (.func (.func ff) #[] fc)] g nobody R :=
  fn_soundG (c := cfg13) TTok FNSok mixed Tryz.func13 (show Tryz.f13.body = some c13 by kernel_rfl) (show Tryz.f13.ntmps = 9 by kernel_rfl) (show Tryz.f13.results.toList = [.tmp 4] by kernel_rfl) rfl ((F13_eq sa sl sc ff fc g R ).mpr hF)

/- 14 pilaster/pilasterlaw41.RecompileChanges$1 -/
noncomputable def c14 : Code := match Tryz.f14.body with
  | some c => c
  | none => .skip
noncomputable def cfg14 : Cfg := ⟨Tryz.prog, TT, FNS, [1], [(1, 1)], [], TCH, false, false, none, PNF, false⟩
def an14 : AnnG := (.seq .leaf (.seq .leaf .leaf))
def F14 (r0 : Int) (r1 : ByteArray) (g : G) (R : Value → G → Prop) : Prop :=
  ∀ g1 : G, Ex g g1 →
  ∀ g2 : G, Ex g1 g2 →
  R (.bool (!((eqI r0 (0 : Int)) && ((strEq r1 (bs [])) && true)))) g2
theorem F14_eq (r0 : Int) (r1 : ByteArray) (g : G) (R : Value → G → Prop) : fnG cfg14 6 [.tmp 2] c14 an14 [(.agg ⟨[(.int .i64 r0), (.string r1)]⟩)] g nobody R = F14 r0 r1 g R := by kernel_rfl
theorem call14 (r0 : Int) (r1 : ByteArray) (g : G) (R : Value → G → Prop) (hF : F14 r0 r1 g R) : CallsG Tryz.prog 14 #[(.agg ⟨[(.int .i64 r0), (.string r1)]⟩)] g nobody R :=
  fn_soundG (c := cfg14) TTok FNSok mixed Tryz.func14 (show Tryz.f14.body = some c14 by kernel_rfl) (show Tryz.f14.ntmps = 6 by kernel_rfl) (show Tryz.f14.results.toList = [.tmp 2] by kernel_rfl) rfl ((F14_eq r0 r1 g R ).mpr hF)

/- 15 slices.IndexFunc[[]string,string] -/
noncomputable def c15 : Code := match Tryz.f15.body with
  | some c => c
  | none => .skip
noncomputable def cfg15 : Cfg := ⟨Tryz.prog, TT, FNS, [], [], [], TCH, false, false, none, PNF, false⟩
def an15 : AnnG := (.seq .leaf (.seq (.seq .leaf (.blk (.loop ⟨[(8, .int .i64)], [], []⟩ (.seq .leaf (.seq (.cond .leaf .leaf) (.seq (.blk (.seq .leaf (.seq .leaf (.cond (.seq .leaf .leaf) .leaf)))) .leaf)))))) (.seq .leaf .leaf)))
def F15 (sa : Option Addr) (sl : Nat) (sc : Nat) (ff : FuncId) (fc : Array Value) (g : G) (R : Value → G → Prop) : Prop :=
  ∃ Inv : Nat → Int → G → Prop, ((∃ m0 : Nat, Inv m0 (0 : Int) g)) ∧
  ∀ m : Nat, ∀ v_1 : Int, ∀ g1 : G, Le g g1 → Inv m v_1 g1 →
  ifB (ltI v_1 ((sl : Nat) : Int))
  ((0 ≤ v_1 ∧ v_1 < ((sl : Nat) : Int)) ∧ derefP sa fun ad => ∃ x : ByteArray, g1.w.cell? (Addr.add ad (Int.toNat v_1 * 1)) = some (.string x) ∧ Enters Tryz.prog ff ∧ (CallsP Tryz.prog ff ((⟨[(.string x)]⟩ : Array Value) ++ fc) g1 fun v g2 =>
  ∃ x_1 : Bool, v = (.bool x_1) ∧ ifB x_1
  (∀ g3 : G, Ex g2 g3 →
  R (.int .i64 v_1) g3)
  (InI64 (v_1 + (1 : Int)) ∧ (∃ m_1 : Nat, m_1 < m ∧ Inv m_1 (v_1 + (1 : Int)) g2))))
  (∀ g4 : G, Ex g1 g4 →
  R (.int .i64 (-1 : Int)) g4)
theorem F15_eq (sa : Option Addr) (sl : Nat) (sc : Nat) (ff : FuncId) (fc : Array Value) (g : G) (R : Value → G → Prop) : fnG cfg15 19 [.tmp 4] c15 an15 [(.slice sa sl sc), (.func (.func ff) #[] fc)] g nobody R = F15 sa sl sc ff fc g R := by kernel_rfl
theorem call15 (sa : Option Addr) (sl : Nat) (sc : Nat) (ff : FuncId) (fc : Array Value) (g : G) (R : Value → G → Prop) (hF : F15 sa sl sc ff fc g R) : CallsG Tryz.prog 15 #[(.slice sa sl sc), (.func (.func ff) #[] fc)] g nobody R :=
  fn_soundG (c := cfg15) TTok FNSok mixed Tryz.func15 (show Tryz.f15.body = some c15 by kernel_rfl) (show Tryz.f15.ntmps = 19 by kernel_rfl) (show Tryz.f15.results.toList = [.tmp 4] by kernel_rfl) rfl ((F15_eq sa sl sc ff fc g R ).mpr hF)

/- 16 pilaster/pilasterlaw41.RecompileChanges$2 -/
noncomputable def c16 : Code := match Tryz.f16.body with
  | some c => c
  | none => .skip
noncomputable def cfg16 : Cfg := ⟨Tryz.prog, TT, FNS, [], [], [3], TCH, false, false, none, PNF, false⟩
def an16 : AnnG := (.seq .leaf (.seq .leaf (.seq .leaf .leaf)))
def F16 (s : ByteArray) (c0 : Option Addr) (c1 : Option Addr) (g : G) (R : Value → G → Prop) : Prop :=
  ∀ g1 : G, NewL g g1 9 ([(.string s)] : List Value) →
  derefP c0 fun ad => ∃ xa : Option Addr, ∃ xl : Nat, ∃ xc : Nat, g1.w.cell? ad = some (.slice xa xl xc) ∧ (CallsP Tryz.prog 17 #[(.slice xa xl xc), (.func (.func 18) #[] ⟨[(.pointer (some ⟨g.w.heap.size, 0, none⟩))]⟩)] g1 fun v g2 =>
  ∃ j : Int, v = (.int .i64 j) ∧ ifB (leI (0 : Int) j)
  (derefP c1 fun ad_1 => ∃ x : Int, g2.w.cell? ad_1 = some (.int .u32 x) ∧ 0 ≤ j ∧ ∀ g3 : G, Ex g2 g3 →
  R (.bool (eqI (bits BinOp.and IntKind.u32 (shrI IntKind.u32 x j) (1 : Int)) (1 : Int))) g3)
  (∀ g4 : G, Ex g2 g4 →
  R (.bool false) g4))
theorem F16_eq (s : ByteArray) (c0 : Option Addr) (c1 : Option Addr) (g : G) (R : Value → G → Prop) : fnG cfg16 18 [.tmp 4] c16 an16 [(.string s), (.pointer c0), (.pointer c1)] g nobody R = F16 s c0 c1 g R := by kernel_rfl
theorem call16 (s : ByteArray) (c0 : Option Addr) (c1 : Option Addr) (g : G) (R : Value → G → Prop) (hF : F16 s c0 c1 g R) : CallsG Tryz.prog 16 #[(.string s), (.pointer c0), (.pointer c1)] g nobody R :=
  fn_soundG (c := cfg16) TTok FNSok mixed Tryz.func16 (show Tryz.f16.body = some c16 by kernel_rfl) (show Tryz.f16.ntmps = 18 by kernel_rfl) (show Tryz.f16.results.toList = [.tmp 4] by kernel_rfl) rfl ((F16_eq s c0 c1 g R ).mpr hF)

/- 17 slices.IndexFunc[[]pilaster/api.Unit,pilaster/api.Unit] -/
noncomputable def c17 : Code := match Tryz.f17.body with
  | some c => c
  | none => .skip
noncomputable def cfg17 : Cfg := ⟨Tryz.prog, TT, FNS, [], [], [], TCH, false, false, none, PNF, false⟩
def an17 : AnnG := (.seq .leaf (.seq (.seq .leaf (.blk (.loop ⟨[(8, .int .i64)], [], []⟩ (.seq .leaf (.seq (.cond .leaf .leaf) (.seq (.blk (.seq .leaf (.seq .leaf (.cond (.seq .leaf .leaf) .leaf)))) .leaf)))))) (.seq .leaf .leaf)))
def F17 (sa : Option Addr) (sl : Nat) (sc : Nat) (ff : FuncId) (fc : Array Value) (g : G) (R : Value → G → Prop) : Prop :=
  ∃ Inv : Nat → Int → G → Prop, ((∃ m0 : Nat, Inv m0 (0 : Int) g)) ∧
  ∀ m : Nat, ∀ v_1 : Int, ∀ g1 : G, Le g g1 → Inv m v_1 g1 →
  ifB (ltI v_1 ((sl : Nat) : Int))
  ((0 ≤ v_1 ∧ v_1 < ((sl : Nat) : Int)) ∧ derefP sa fun ad => ∃ x0 : ByteArray, ∃ x1a : Option Addr, ∃ x1l : Nat, ∃ x1c : Nat, ∃ x2a : Option Addr, ∃ x2l : Nat, ∃ x2c : Nat, g1.w.cell? (Addr.add ad (Int.toNat v_1 * 3)) = some (.string x0) ∧ g1.w.cell? (Addr.add (Addr.add ad (Int.toNat v_1 * 3)) 1) = some (.slice x1a x1l x1c) ∧ g1.w.cell? (Addr.add (Addr.add ad (Int.toNat v_1 * 3)) 2) = some (.slice x2a x2l x2c) ∧ Enters Tryz.prog ff ∧ (CallsP Tryz.prog ff ((⟨[(.agg ⟨[(.string x0), (.slice x1a x1l x1c), (.slice x2a x2l x2c)]⟩)]⟩ : Array Value) ++ fc) g1 fun v g2 =>
  ∃ x : Bool, v = (.bool x) ∧ ifB x
  (∀ g3 : G, Ex g2 g3 →
  R (.int .i64 v_1) g3)
  (InI64 (v_1 + (1 : Int)) ∧ (∃ m_1 : Nat, m_1 < m ∧ Inv m_1 (v_1 + (1 : Int)) g2))))
  (∀ g4 : G, Ex g1 g4 →
  R (.int .i64 (-1 : Int)) g4)
theorem F17_eq (sa : Option Addr) (sl : Nat) (sc : Nat) (ff : FuncId) (fc : Array Value) (g : G) (R : Value → G → Prop) : fnG cfg17 19 [.tmp 4] c17 an17 [(.slice sa sl sc), (.func (.func ff) #[] fc)] g nobody R = F17 sa sl sc ff fc g R := by kernel_rfl
theorem call17 (sa : Option Addr) (sl : Nat) (sc : Nat) (ff : FuncId) (fc : Array Value) (g : G) (R : Value → G → Prop) (hF : F17 sa sl sc ff fc g R) : CallsG Tryz.prog 17 #[(.slice sa sl sc), (.func (.func ff) #[] fc)] g nobody R :=
  fn_soundG (c := cfg17) TTok FNSok mixed Tryz.func17 (show Tryz.f17.body = some c17 by kernel_rfl) (show Tryz.f17.ntmps = 19 by kernel_rfl) (show Tryz.f17.results.toList = [.tmp 4] by kernel_rfl) rfl ((F17_eq sa sl sc ff fc g R ).mpr hF)

/- 18 pilaster/pilasterlaw41.RecompileChanges$2$1 -/
noncomputable def c18 : Code := match Tryz.f18.body with
  | some c => c
  | none => .skip
noncomputable def cfg18 : Cfg := ⟨Tryz.prog, TT, FNS, [2], [(2, 2), (4, 2)], [], TCH, false, false, none, PNF, false⟩
def an18 : AnnG := (.seq .leaf (.seq .leaf .leaf))
def F18 (v0 : ByteArray) (v1a : Option Addr) (v1l : Nat) (v1c : Nat) (v2a : Option Addr) (v2l : Nat) (v2c : Nat) (c0 : Option Addr) (g : G) (R : Value → G → Prop) : Prop :=
  ∀ g1 : G, Ex g g1 →
  derefP c0 fun ad => ∃ x : ByteArray, g1.w.cell? ad = some (.string x) ∧ ∀ g2 : G, Ex g1 g2 →
  R (.bool (strEq v0 x)) g2
theorem F18_eq (v0 : ByteArray) (v1a : Option Addr) (v1l : Nat) (v1c : Nat) (v2a : Option Addr) (v2l : Nat) (v2c : Nat) (c0 : Option Addr) (g : G) (R : Value → G → Prop) : fnG cfg18 8 [.tmp 3] c18 an18 [(.agg ⟨[(.string v0), (.slice v1a v1l v1c), (.slice v2a v2l v2c)]⟩), (.pointer c0)] g nobody R = F18 v0 v1a v1l v1c v2a v2l v2c c0 g R := by kernel_rfl
theorem call18 (v0 : ByteArray) (v1a : Option Addr) (v1l : Nat) (v1c : Nat) (v2a : Option Addr) (v2l : Nat) (v2c : Nat) (c0 : Option Addr) (g : G) (R : Value → G → Prop) (hF : F18 v0 v1a v1l v1c v2a v2l v2c c0 g R) : CallsG Tryz.prog 18 #[(.agg ⟨[(.string v0), (.slice v1a v1l v1c), (.slice v2a v2l v2c)]⟩), (.pointer c0)] g nobody R :=
  fn_soundG (c := cfg18) TTok FNSok mixed Tryz.func18 (show Tryz.f18.body = some c18 by kernel_rfl) (show Tryz.f18.ntmps = 8 by kernel_rfl) (show Tryz.f18.results.toList = [.tmp 3] by kernel_rfl) rfl ((F18_eq v0 v1a v1l v1c v2a v2l v2c c0 g R ).mpr hF)

/- 19 pilaster/recompile.Closure -/
noncomputable def c19 : Code := match Tryz.f19.body with
  | some c => c
  | none => .skip
noncomputable def cfg19 : Cfg := ⟨Tryz.prog, TT, FNS, [], [], [3], TCH, false, false, none, PNF, false⟩
def an19 : AnnG := (.seq .leaf (.seq .leaf .leaf))
def F19 (la : Option Addr) (ll : Nat) (lc : Nat) (name : ByteArray) (g : G) (R : Value → G → Prop) : Prop :=
  ∀ g1 : G, NewL g g1 9 ([(.string name)] : List Value) →
  ∃ name_1 : ByteArray, g1.w.cell? ⟨g.w.heap.size, 0, none⟩ = some (.string name_1) ∧ (CallsP Tryz.prog 54 #[(.slice la ll lc), (.string name_1), (.func (.func 55) #[] ⟨[(.pointer (some ⟨g.w.heap.size, 0, none⟩))]⟩)] g1 fun v g2 =>
  ∃ x0a : Option Addr, ∃ x0l : Nat, ∃ x0c : Nat, ∃ x1 : Int, v = (.tuple ⟨[(.slice x0a x0l x0c), (.int .i64 x1)]⟩) ∧ ∀ g3 : G, Ex g2 g3 →
  R (.tuple ⟨[(.slice x0a x0l x0c), (.int .i64 x1)]⟩) g3)
theorem F19_eq (la : Option Addr) (ll : Nat) (lc : Nat) (name : ByteArray) (g : G) (R : Value → G → Prop) : fnG cfg19 12 [.tmp 4, .tmp 5] c19 an19 [(.slice la ll lc), (.string name)] g nobody R = F19 la ll lc name g R := by kernel_rfl
theorem call19 (la : Option Addr) (ll : Nat) (lc : Nat) (name : ByteArray) (g : G) (R : Value → G → Prop) (hF : F19 la ll lc name g R) : CallsG Tryz.prog 19 #[(.slice la ll lc), (.string name)] g nobody R :=
  fn_soundG (c := cfg19) TTok FNSok mixed Tryz.func19 (show Tryz.f19.body = some c19 by kernel_rfl) (show Tryz.f19.ntmps = 12 by kernel_rfl) (show Tryz.f19.results.toList = [.tmp 4, .tmp 5] by kernel_rfl) rfl ((F19_eq la ll lc name g R ).mpr hF)

/- 20 pilaster/recompile.Users -/
noncomputable def c20 : Code := match Tryz.f20.body with
  | some c => c
  | none => .skip
noncomputable def cfg20 : Cfg := ⟨Tryz.prog, TT, FNS, [], [], [3], TCH, false, false, none, PNF, false⟩
def an20 : AnnG := (.seq .leaf (.seq .leaf .leaf))
def F20 (la : Option Addr) (ll : Nat) (lc : Nat) (name : ByteArray) (g : G) (R : Value → G → Prop) : Prop :=
  ∀ g1 : G, NewL g g1 9 ([(.string name)] : List Value) →
  ∃ name_1 : ByteArray, g1.w.cell? ⟨g.w.heap.size, 0, none⟩ = some (.string name_1) ∧ (CallsP Tryz.prog 54 #[(.slice la ll lc), (.string name_1), (.func (.func 56) #[] ⟨[(.pointer (some ⟨g.w.heap.size, 0, none⟩))]⟩)] g1 fun v g2 =>
  ∃ x0a : Option Addr, ∃ x0l : Nat, ∃ x0c : Nat, ∃ x1 : Int, v = (.tuple ⟨[(.slice x0a x0l x0c), (.int .i64 x1)]⟩) ∧ ∀ g3 : G, Ex g2 g3 →
  R (.tuple ⟨[(.slice x0a x0l x0c), (.int .i64 x1)]⟩) g3)
theorem F20_eq (la : Option Addr) (ll : Nat) (lc : Nat) (name : ByteArray) (g : G) (R : Value → G → Prop) : fnG cfg20 12 [.tmp 4, .tmp 5] c20 an20 [(.slice la ll lc), (.string name)] g nobody R = F20 la ll lc name g R := by kernel_rfl
theorem call20 (la : Option Addr) (ll : Nat) (lc : Nat) (name : ByteArray) (g : G) (R : Value → G → Prop) (hF : F20 la ll lc name g R) : CallsG Tryz.prog 20 #[(.slice la ll lc), (.string name)] g nobody R :=
  fn_soundG (c := cfg20) TTok FNSok mixed Tryz.func20 (show Tryz.f20.body = some c20 by kernel_rfl) (show Tryz.f20.ntmps = 12 by kernel_rfl) (show Tryz.f20.results.toList = [.tmp 4, .tmp 5] by kernel_rfl) rfl ((F20_eq la ll lc name g R ).mpr hF)

/- 21 pilaster/pilasterref41.Levels -/
/- 22 pilaster/pilasterref41.Closure -/
/- 23 pilaster/pilasterref41.Users -/
/- 24 pilaster/pilasterlaw41.RecompileGraphs$1 -/
/- 25 slices.Equal[[]string,string] -/
noncomputable def c25 : Code := match Tryz.f25.body with
  | some c => c
  | none => .skip
noncomputable def cfg25 : Cfg := ⟨Tryz.prog, TT, FNS, [], [], [], TCH, false, false, none, PNF, false⟩
def an25 : AnnG := (.seq .leaf (.seq (.seq .leaf (.cond (.seq .leaf .leaf) .leaf)) (.seq (.seq .leaf (.blk (.loop ⟨[(13, .int .i64)], [], []⟩ (.seq .leaf (.seq (.cond .leaf .leaf) (.seq (.blk (.seq .leaf (.seq (.tree 8 (.quiet 0 (.quiet 1 (.quiet 2 (.quiet 3 (.quiet 4 (.quiet 5 (.quiet 6 (.quiet 7 .fin))))))))) (.cond (.seq .leaf .leaf) .leaf)))) .leaf)))))) (.seq .leaf .leaf))))
def F25 (s1a : Option Addr) (s1l : Nat) (s1c : Nat) (s2a : Option Addr) (s2l : Nat) (s2c : Nat) (g : G) (R : Value → G → Prop) : Prop :=
  ifB (!eqI ((s1l : Nat) : Int) ((s2l : Nat) : Int))
  (∀ g1 : G, Ex g g1 →
  R (.bool false) g1)
  (∃ Inv : Nat → Int → G → Prop, ((∃ m0 : Nat, Inv m0 (0 : Int) g)) ∧
  ∀ m : Nat, ∀ v_1 : Int, ∀ g2 : G, Le g g2 → Inv m v_1 g2 →
  ifB (ltI v_1 ((s1l : Nat) : Int))
  (∀ g3 : G, Ex g2 g3 →
  (0 ≤ v_1 ∧ v_1 < ((s1l : Nat) : Int)) ∧ derefP s1a fun ad => ∃ x : ByteArray, g3.w.cell? (Addr.add ad (Int.toNat v_1 * 1)) = some (.string x) ∧ (0 ≤ v_1 ∧ v_1 < ((s2l : Nat) : Int)) ∧ derefP s2a fun ad_1 => ∃ x_1 : ByteArray, g3.w.cell? (Addr.add ad_1 (Int.toNat v_1 * 1)) = some (.string x_1) ∧ ifB (!strEq x x_1)
  (∀ g4 : G, Ex g3 g4 →
  R (.bool false) g4)
  (InI64 (v_1 + (1 : Int)) ∧ (∃ m_1 : Nat, m_1 < m ∧ Inv m_1 (v_1 + (1 : Int)) g3)))
  (∀ g5 : G, Ex g2 g5 →
  R (.bool true) g5))
theorem F25_eq (s1a : Option Addr) (s1l : Nat) (s1c : Nat) (s2a : Option Addr) (s2l : Nat) (s2c : Nat) (g : G) (R : Value → G → Prop) : fnG cfg25 26 [.tmp 4] c25 an25 [(.slice s1a s1l s1c), (.slice s2a s2l s2c)] g nobody R = F25 s1a s1l s1c s2a s2l s2c g R := by kernel_rfl
theorem call25 (s1a : Option Addr) (s1l : Nat) (s1c : Nat) (s2a : Option Addr) (s2l : Nat) (s2c : Nat) (g : G) (R : Value → G → Prop) (hF : F25 s1a s1l s1c s2a s2l s2c g R) : CallsG Tryz.prog 25 #[(.slice s1a s1l s1c), (.slice s2a s2l s2c)] g nobody R :=
  fn_soundG (c := cfg25) TTok FNSok mixed Tryz.func25 (show Tryz.f25.body = some c25 by kernel_rfl) (show Tryz.f25.ntmps = 26 by kernel_rfl) (show Tryz.f25.results.toList = [.tmp 4] by kernel_rfl) rfl ((F25_eq s1a s1l s1c s2a s2l s2c g R ).mpr hF)

/- 26 slices.EqualFunc[[][]string,[][]string,[]string,[]string] -/
/- 27 pilaster/pilasterlaw41.light -/
/- 28 pilaster/pilasterlaw41.long -/
noncomputable def c28 : Code := match Tryz.f28.body with
  | some c => c
  | none => .skip
noncomputable def cfg28 : Cfg := ⟨Tryz.prog, TT, FNS, [], [], [], TCH, false, false, none, PNF, false⟩
def an28 : AnnG := (.seq .leaf (.seq .leaf .leaf))
def F28 (la : Option Addr) (ll : Nat) (lc : Nat) (g : G) (R : Value → G → Prop) : Prop :=
  ifB (ltI (20 : Int) ((ll : Nat) : Int))
  (∀ g1 : G, Ex g g1 →
  R (.bool true) g1)
  ((CallsP Tryz.prog 61 #[(.slice la ll lc), (.func (.func 62) #[] #[])] g fun v g2 =>
  ∃ x : Bool, v = (.bool x) ∧ ∀ g3 : G, Ex g2 g3 →
  R (.bool x) g3))
theorem F28_eq (la : Option Addr) (ll : Nat) (lc : Nat) (g : G) (R : Value → G → Prop) : fnG cfg28 10 [.tmp 2] c28 an28 [(.slice la ll lc)] g nobody R = F28 la ll lc g R := by kernel_rfl
theorem call28 (la : Option Addr) (ll : Nat) (lc : Nat) (g : G) (R : Value → G → Prop) (hF : F28 la ll lc g R) : CallsG Tryz.prog 28 #[(.slice la ll lc)] g nobody R :=
  fn_soundG (c := cfg28) TTok FNSok mixed Tryz.func28 (show Tryz.f28.body = some c28 by kernel_rfl) (show Tryz.f28.ntmps = 10 by kernel_rfl) (show Tryz.f28.results.toList = [.tmp 2] by kernel_rfl) rfl ((F28_eq la ll lc g R ).mpr hF)

/- 29 pilaster/recompile.Reason -/
/- 30 pilaster/pilasterref41.Reason -/
/- 31 pilaster/recompile.Valid -/
noncomputable def c31 : Code := match Tryz.f31.body with
  | some c => c
  | none => .skip
noncomputable def cfg31 : Cfg := ⟨Tryz.prog, TT, FNS, [1], [(1, 1), (3, 1), (7, 1), (12, 1), (17, 1), (22, 1), (24, 1), (30, 1), (33, 1), (39, 1)], [], TCH, false, false, none, PNF, false⟩
def an31 : AnnG := (.seq .leaf (.seq .leaf .leaf))
def F31 (r0 : ByteArray) (r1 : ByteArray) (r2a : Option Addr) (r2l : Nat) (r2c : Nat) (r3a : Option Addr) (r3l : Nat) (r3c : Nat) (r4 : ByteArray) (g : G) (R : Value → G → Prop) : Prop :=
  ∀ g1 : G, Ex g g1 →
  (CallsP Tryz.prog 69 #[(.string r0)] g1 fun v g2 =>
  ∃ x : Bool, v = (.bool x) ∧ ifB x
  ((CallsP Tryz.prog 63 #[(.string r1)] g2 fun v g3 =>
  ∃ x_1 : Bool, v = (.bool x_1) ∧ ifB x_1
  ((CallsP Tryz.prog 63 #[(.string r4)] g3 fun v g4 =>
  ∃ x_2 : Bool, v = (.bool x_2) ∧ ifB x_2
  ((CallsP Tryz.prog 64 #[(.slice r2a r2l r2c)] g4 fun v g5 =>
  ∃ x_3 : Bool, v = (.bool x_3) ∧ ifB x_3
  ((CallsP Tryz.prog 70 #[(.slice r2a r2l r2c), (.string r0)] g5 fun v g6 =>
  ∃ x_4 : Bool, v = (.bool x_4) ∧ ifB (!x_4)
  (ifB (eqI ((r3l : Nat) : Int) ((r2l : Nat) : Int))
  ((CallsP Tryz.prog 50 #[(.slice r3a r3l r3c)] g6 fun v g7 =>
  ∃ x_5 : Bool, v = (.bool x_5) ∧ ∀ g8 : G, Ex g7 g8 →
  R (.bool x_5) g8))
  (∀ g9 : G, Ex g6 g9 →
  R (.bool false) g9))
  (∀ g10 : G, Ex g6 g10 →
  R (.bool false) g10)))
  (∀ g11 : G, Ex g5 g11 →
  R (.bool false) g11)))
  (∀ g12 : G, Ex g4 g12 →
  R (.bool false) g12)))
  (∀ g13 : G, Ex g3 g13 →
  R (.bool false) g13)))
  (∀ g14 : G, Ex g2 g14 →
  R (.bool false) g14))
theorem F31_eq (r0 : ByteArray) (r1 : ByteArray) (r2a : Option Addr) (r2l : Nat) (r2c : Nat) (r3a : Option Addr) (r3l : Nat) (r3c : Nat) (r4 : ByteArray) (g : G) (R : Value → G → Prop) : fnG cfg31 43 [.tmp 2] c31 an31 [(.agg ⟨[(.string r0), (.string r1), (.slice r2a r2l r2c), (.slice r3a r3l r3c), (.string r4)]⟩)] g nobody R = F31 r0 r1 r2a r2l r2c r3a r3l r3c r4 g R := by kernel_rfl
theorem call31 (r0 : ByteArray) (r1 : ByteArray) (r2a : Option Addr) (r2l : Nat) (r2c : Nat) (r3a : Option Addr) (r3l : Nat) (r3c : Nat) (r4 : ByteArray) (g : G) (R : Value → G → Prop) (hF : F31 r0 r1 r2a r2l r2c r3a r3l r3c r4 g R) : CallsG Tryz.prog 31 #[(.agg ⟨[(.string r0), (.string r1), (.slice r2a r2l r2c), (.slice r3a r3l r3c), (.string r4)]⟩)] g nobody R :=
  fn_soundG (c := cfg31) TTok FNSok mixed Tryz.func31 (show Tryz.f31.body = some c31 by kernel_rfl) (show Tryz.f31.ntmps = 43 by kernel_rfl) (show Tryz.f31.results.toList = [.tmp 2] by kernel_rfl) rfl ((F31_eq r0 r1 r2a r2l r2c r3a r3l r3c r4 g R ).mpr hF)

/- 32 pilaster/pilasterref41.Valid -/
/- 33 slices.ContainsFunc[[]pilaster/api.Record,pilaster/api.Record] -/
noncomputable def c33 : Code := match Tryz.f33.body with
  | some c => c
  | none => .skip
noncomputable def cfg33 : Cfg := ⟨Tryz.prog, TT, FNS, [], [], [], TCH, false, false, none, PNF, false⟩
def an33 : AnnG := (.seq .leaf (.seq .leaf .leaf))
def F33 (sa : Option Addr) (sl : Nat) (sc : Nat) (ff : FuncId) (fc : Array Value) (g : G) (R : Value → G → Prop) : Prop :=
  (CallsP Tryz.prog 73 #[(.slice sa sl sc), (.func (.func ff) #[] fc)] g fun v g1 =>
  ∃ x : Int, v = (.int .i64 x) ∧ ∀ g2 : G, Ex g1 g2 →
  R (.bool (leI (0 : Int) x)) g2)
theorem F33_eq (sa : Option Addr) (sl : Nat) (sc : Nat) (ff : FuncId) (fc : Array Value) (g : G) (R : Value → G → Prop) : fnG cfg33 9 [.tmp 4] c33 an33 [(.slice sa sl sc), (.func (.func ff) #[] fc)] g nobody R = F33 sa sl sc ff fc g R := by kernel_rfl
theorem call33 (sa : Option Addr) (sl : Nat) (sc : Nat) (ff : FuncId) (fc : Array Value) (g : G) (R : Value → G → Prop) (hF : F33 sa sl sc ff fc g R) : CallsG Tryz.prog 33 #[(.slice sa sl sc), (.func (.func ff) #[] fc)] g nobody R :=
  fn_soundG (c := cfg33) TTok FNSok mixed Tryz.func33 (show Tryz.f33.body = some c33 by kernel_rfl) (show Tryz.f33.ntmps = 9 by kernel_rfl) (show Tryz.f33.results.toList = [.tmp 4] by kernel_rfl) rfl ((F33_eq sa sl sc ff fc g R ).mpr hF)

/- 34 pilaster/pilasterlaw41.RecompilePlans$1 -/
/- 35 pilaster/pilasterref41.Plan -/
/- 36 slices.Equal[[]pilaster/api.Reason,pilaster/api.Reason] -/
/- 37 slices.ContainsFunc[[]pilaster/api.Syn,pilaster/api.Syn] -/
noncomputable def c37 : Code := match Tryz.f37.body with
  | some c => c
  | none => .skip
noncomputable def cfg37 : Cfg := ⟨Tryz.prog, TT, FNS, [], [], [], TCH, false, false, none, PNF, false⟩
def an37 : AnnG := (.seq .leaf (.seq .leaf .leaf))
def F37 (sa : Option Addr) (sl : Nat) (sc : Nat) (ff : FuncId) (fc : Array Value) (g : G) (M : Nat → Prop) (R : Value → G → Prop) : Prop :=
  ∃ M1 : Nat → Prop, (∀ b, b < g.w.heap.size → M1 b → M b) ∧ (CallsG Tryz.prog 76 #[(.slice sa sl sc), (.func (.func ff) #[] fc)] g M1 fun v g1 =>
  ∃ x : Int, v = (.int .i64 x) ∧ ∀ g2 : G, Ex g1 g2 →
  R (.bool (leI (0 : Int) x)) g2)
theorem F37_eq (sa : Option Addr) (sl : Nat) (sc : Nat) (ff : FuncId) (fc : Array Value) (g : G) (M : Nat → Prop) (R : Value → G → Prop) : fnG cfg37 9 [.tmp 4] c37 an37 [(.slice sa sl sc), (.func (.func ff) #[] fc)] g M R = F37 sa sl sc ff fc g M R := by kernel_rfl
theorem call37 (sa : Option Addr) (sl : Nat) (sc : Nat) (ff : FuncId) (fc : Array Value) (g : G) (M : Nat → Prop) (R : Value → G → Prop) (hF : F37 sa sl sc ff fc g M R) : CallsG Tryz.prog 37 #[(.slice sa sl sc), (.func (.func ff) #[] fc)] g M R :=
  fn_soundG (c := cfg37) TTok FNSok mixed Tryz.func37 (show Tryz.f37.body = some c37 by kernel_rfl) (show Tryz.f37.ntmps = 9 by kernel_rfl) (show Tryz.f37.results.toList = [.tmp 4] by kernel_rfl) rfl ((F37_eq sa sl sc ff fc g M R ).mpr hF)

/- 38 pilaster/pilasterlaw41.few$1 -/
noncomputable def c38 : Code := match Tryz.f38.body with
  | some c => c
  | none => .skip
noncomputable def cfg38 : Cfg := ⟨Tryz.prog, TT, FNS, [1], [(1, 1)], [], TCH, false, false, none, PNF, false⟩
def an38 : AnnG := (.seq .leaf (.seq .leaf .leaf))
def F38 (t0 : Int) (t1 : Int) (t2 : ByteArray) (t3a : Option Addr) (t3l : Nat) (t3c : Nat) (t4a : Option Addr) (t4l : Nat) (t4c : Nat) (g : G) (R : Value → G → Prop) : Prop :=
  ∀ g1 : G, Ex g g1 →
  (CallsP Tryz.prog 39 #[(.agg ⟨[(.int .i64 t0), (.int .i64 t1), (.string t2), (.slice t3a t3l t3c), (.slice t4a t4l t4c)]⟩), (.int .i64 (60 : Int)), (.int .i64 (1 : Int))] g1 fun v g2 =>
  ∃ x : Int, v = (.int .i64 x) ∧ ∀ g3 : G, Ex g2 g3 →
  R (.bool (leI (60 : Int) x)) g3)
theorem F38_eq (t0 : Int) (t1 : Int) (t2 : ByteArray) (t3a : Option Addr) (t3l : Nat) (t3c : Nat) (t4a : Option Addr) (t4l : Nat) (t4c : Nat) (g : G) (R : Value → G → Prop) : fnG cfg38 6 [.tmp 2] c38 an38 [(.agg ⟨[(.int .i64 t0), (.int .i64 t1), (.string t2), (.slice t3a t3l t3c), (.slice t4a t4l t4c)]⟩)] g nobody R = F38 t0 t1 t2 t3a t3l t3c t4a t4l t4c g R := by kernel_rfl
theorem call38 (t0 : Int) (t1 : Int) (t2 : ByteArray) (t3a : Option Addr) (t3l : Nat) (t3c : Nat) (t4a : Option Addr) (t4l : Nat) (t4c : Nat) (g : G) (R : Value → G → Prop) (hF : F38 t0 t1 t2 t3a t3l t3c t4a t4l t4c g R) : CallsG Tryz.prog 38 #[(.agg ⟨[(.int .i64 t0), (.int .i64 t1), (.string t2), (.slice t3a t3l t3c), (.slice t4a t4l t4c)]⟩)] g nobody R :=
  fn_soundG (c := cfg38) TTok FNSok mixed Tryz.func38 (show Tryz.f38.body = some c38 by kernel_rfl) (show Tryz.f38.ntmps = 6 by kernel_rfl) (show Tryz.f38.results.toList = [.tmp 2] by kernel_rfl) rfl ((F38_eq t0 t1 t2 t3a t3l t3c t4a t4l t4c g R ).mpr hF)

/- 39 pilaster/pilasterlaw41.size -/
noncomputable def c39 : Code := match Tryz.f39.body with
  | some c => c
  | none => .skip
noncomputable def cfg39 : Cfg := ⟨Tryz.prog, TT, FNS, [3, 9], [(3, 3), (9, 9), (13, 3), (19, 3), (25, 3)], [], TCH, false, false, none, PNF, false⟩
def an39 : AnnG := (.seq .leaf (.join ⟨[], [], []⟩ (.seq .leaf (.cond (.seq .leaf .leaf) .leaf)) (.seq .leaf (.seq (.seq .leaf (.blk (.loop ⟨[(7, .int .i64), (28, .int .i64)], [], []⟩ (.seq .leaf (.seq (.cond .leaf .leaf) (.seq (.blk (.seq .leaf (.seq (.seq .leaf (.cond (.seq .leaf .leaf) .leaf)) .leaf))) .leaf)))))) (.seq .leaf .leaf)))))
def F39 (t0 : Int) (t1 : Int) (t2 : ByteArray) (t3a : Option Addr) (t3l : Nat) (t3c : Nat) (t4a : Option Addr) (t4l : Nat) (t4c : Nat) (most : Int) (depth : Int) (g : G) (R : Value → G → Prop) : Prop :=
  ∀ J : G → Prop,
  (∀ g1 : G, (∃ Inv : Nat → Int → Int → G → Prop, ((∃ m0 : Nat, Inv m0 (1 : Int) (0 : Int) g1)) ∧
  ∀ m : Nat, ∀ n : Int, ∀ v_1 : Int, ∀ g2 : G, Le g1 g2 → Inv m n v_1 g2 →
  ifB (ltI v_1 ((t4l : Nat) : Int))
  ((0 ≤ v_1 ∧ v_1 < ((t4l : Nat) : Int)) ∧ derefP t4a fun ad => ∃ x0 : Int, ∃ x1 : Int, ∃ x2 : ByteArray, ∃ x3a : Option Addr, ∃ x3l : Nat, ∃ x3c : Nat, ∃ x4a : Option Addr, ∃ x4l : Nat, ∃ x4c : Nat, g2.w.cell? (Addr.add ad (Int.toNat v_1 * 5)) = some (.int .i64 x0) ∧ g2.w.cell? (Addr.add (Addr.add ad (Int.toNat v_1 * 5)) 1) = some (.int .i64 x1) ∧ g2.w.cell? (Addr.add (Addr.add ad (Int.toNat v_1 * 5)) 2) = some (.string x2) ∧ g2.w.cell? (Addr.add (Addr.add ad (Int.toNat v_1 * 5)) 3) = some (.slice x3a x3l x3c) ∧ g2.w.cell? (Addr.add (Addr.add ad (Int.toNat v_1 * 5)) 4) = some (.slice x4a x4l x4c) ∧ ifB (leI most n)
  (∀ g3 : G, Ex g2 g3 →
  R (.int .i64 most) g3)
  (InI64 (most - n) ∧ InI64 (depth + (1 : Int)) ∧ ∀ g4 : G, Ex g2 g4 →
  (CallsP Tryz.prog 39 #[(.agg ⟨[(.int .i64 x0), (.int .i64 x1), (.string x2), (.slice x3a x3l x3c), (.slice x4a x4l x4c)]⟩), (.int .i64 (most - n)), (.int .i64 (depth + (1 : Int)))] g4 fun v g5 =>
  ∃ x : Int, v = (.int .i64 x) ∧ InI64 (n + x) ∧ InI64 (v_1 + (1 : Int)) ∧ (∃ m_1 : Nat, m_1 < m ∧ Inv m_1 (n + x) (v_1 + (1 : Int)) g5))))
  (∀ g6 : G, Ex g2 g6 →
  R (.int .i64 (minI n most)) g6)) → J g1) →
  ifB (ltI (30 : Int) depth)
  (∀ g7 : G, Ex g g7 →
  R (.int .i64 most) g7)
  (ifB (ltI (300 : Int) ((t2.size : Nat) : Int))
  (∀ g8 : G, Ex g g8 →
  R (.int .i64 most) g8)
  (ifB (ltI (30 : Int) ((t3l : Nat) : Int))
  (∀ g9 : G, Ex g g9 →
  R (.int .i64 most) g9)
  (∀ g10 : G, Ex g g10 →
  J g10)))
theorem F39_eq (t0 : Int) (t1 : Int) (t2 : ByteArray) (t3a : Option Addr) (t3l : Nat) (t3c : Nat) (t4a : Option Addr) (t4l : Nat) (t4c : Nat) (most : Int) (depth : Int) (g : G) (R : Value → G → Prop) : fnG cfg39 49 [.tmp 6] c39 an39 [(.agg ⟨[(.int .i64 t0), (.int .i64 t1), (.string t2), (.slice t3a t3l t3c), (.slice t4a t4l t4c)]⟩), (.int .i64 most), (.int .i64 depth)] g nobody R = F39 t0 t1 t2 t3a t3l t3c t4a t4l t4c most depth g R := by kernel_rfl
theorem call39 (t0 : Int) (t1 : Int) (t2 : ByteArray) (t3a : Option Addr) (t3l : Nat) (t3c : Nat) (t4a : Option Addr) (t4l : Nat) (t4c : Nat) (most : Int) (depth : Int) (g : G) (R : Value → G → Prop) (hF : F39 t0 t1 t2 t3a t3l t3c t4a t4l t4c most depth g R) : CallsG Tryz.prog 39 #[(.agg ⟨[(.int .i64 t0), (.int .i64 t1), (.string t2), (.slice t3a t3l t3c), (.slice t4a t4l t4c)]⟩), (.int .i64 most), (.int .i64 depth)] g nobody R :=
  fn_soundG (c := cfg39) TTok FNSok mixed Tryz.func39 (show Tryz.f39.body = some c39 by kernel_rfl) (show Tryz.f39.ntmps = 49 by kernel_rfl) (show Tryz.f39.results.toList = [.tmp 6] by kernel_rfl) rfl ((F39_eq t0 t1 t2 t3a t3l t3c t4a t4l t4c most depth g R ).mpr hF)

/- 40 pilaster/recompile.build -/
noncomputable def c40 : Code := match Tryz.f40.body with
  | some c => c
  | none => .skip
noncomputable def cfg40 : Cfg := ⟨Tryz.prog, TT, FNS, [8], [(8, 8), (31, 8), (33, 8)], [20], TCH, false, false, none, PNF, false⟩
def an40 : AnnG := (.seq .leaf (.seq .leaf (.seq (.seq .leaf (.cond (.seq .leaf .leaf) .leaf)) (.seq .leaf (.seq (.seq .leaf (.blk (.loop ⟨[(23, .int .i64)], [], []⟩ (.seq .leaf (.seq (.cond .leaf .leaf) (.seq (.blk (.seq .leaf (.tree 8 (.quiet 0 (.quiet 1 (.quiet 2 (.quiet 3 (.quiet 4 (.quiet 5 (.quiet 6 (.quiet 7 .fin))))))))))) .leaf)))))) (.seq .leaf .leaf))))))
def F40 (la : Option Addr) (ll : Nat) (lc : Nat) (g : G) (R : Value → G → Prop) : Prop :=
  (CallsP Tryz.prog 77 #[(.slice la ll lc)] g fun v g1 =>
  ∃ x0a : Option Addr, ∃ x0l : Nat, ∃ x0c : Nat, ∃ x1 : Int, v = (.tuple ⟨[(.slice x0a x0l x0c), (.int .i64 x1)]⟩) ∧ ifB (!eqI x1 (0 : Int))
  (∀ g2 : G, Ex g1 g2 →
  R (.tuple ⟨[(.pointer none), (.int .i64 x1)]⟩) g2)
  (∀ g3 : G, NewM g1 g3 →
  ∀ g4 : G, NewL g3 g4 83 ([(.slice x0a x0l x0c), (.map (some g1.w.heap.size))] : List Value) →
  ∃ Inv : Nat → Int → G → Prop, ((∃ m0 : Nat, Inv m0 (0 : Int) g4)) ∧
  ∀ m : Nat, ∀ v_1 : Int, ∀ g5 : G, Le g4 g5 → Inv m v_1 g5 →
  ifB (ltI v_1 ((ll : Nat) : Int))
  ((0 ≤ v_1 ∧ v_1 < ((ll : Nat) : Int)) ∧ derefP la fun ad => ∃ x0 : ByteArray, ∃ x1a : Option Addr, ∃ x1l : Nat, ∃ x1c : Nat, ∃ x2a : Option Addr, ∃ x2l : Nat, ∃ x2c : Nat, g5.w.cell? (Addr.add ad (Int.toNat v_1 * 3)) = some (.string x0) ∧ g5.w.cell? (Addr.add (Addr.add ad (Int.toNat v_1 * 3)) 1) = some (.slice x1a x1l x1c) ∧ g5.w.cell? (Addr.add (Addr.add ad (Int.toNat v_1 * 3)) 2) = some (.slice x2a x2l x2c) ∧ ∀ g6 : G, Ex g5 g6 →
  ∃ x : Option Nat, g6.w.cell? (Addr.add ⟨g3.w.heap.size, 0, none⟩ 1) = some (.map x) ∧ ∃ wo1 : World, Sem.run Tryz.prog (Instr.mapUpdate 81 (.map x) (.string x0) (.slice x1a x1l x1c)) g6.w = .ok () wo1 ∧ ∃ g7 : G, g7.w = wo1 ∧ Stp g.w.heap.size nobody g6 g7 ∧ InI64 (v_1 + (1 : Int)) ∧ (∃ m_1 : Nat, m_1 < m ∧ Inv m_1 (v_1 + (1 : Int)) g7))
  (∀ g8 : G, Ex g5 g8 →
  R (.tuple ⟨[(.pointer (some ⟨g3.w.heap.size, 0, none⟩)), (.int .i64 (0 : Int))]⟩) g8)))
theorem F40_eq (la : Option Addr) (ll : Nat) (lc : Nat) (g : G) (R : Value → G → Prop) : fnG cfg40 37 [.tmp 2, .tmp 3] c40 an40 [(.slice la ll lc)] g nobody R = F40 la ll lc g R := by kernel_rfl
theorem call40 (la : Option Addr) (ll : Nat) (lc : Nat) (g : G) (R : Value → G → Prop) (hF : F40 la ll lc g R) : CallsG Tryz.prog 40 #[(.slice la ll lc)] g nobody R :=
  fn_soundG (c := cfg40) TTok FNSok mixed Tryz.func40 (show Tryz.f40.body = some c40 by kernel_rfl) (show Tryz.f40.ntmps = 37 by kernel_rfl) (show Tryz.f40.results.toList = [.tmp 2, .tmp 3] by kernel_rfl) rfl ((F40_eq la ll lc g R ).mpr hF)

/- 43 strings.HasPrefix -/
/- 48 pilaster/pilasterlaw41.built$1 -/
noncomputable def c48 : Code := match Tryz.f48.body with
  | some c => c
  | none => .skip
noncomputable def cfg48 : Cfg := ⟨Tryz.prog, TT, FNS, [], [], [2], TCH, false, false, none, PNF, false⟩
def an48 : AnnG := (.seq .leaf (.seq .leaf .leaf))
def F48 (name : ByteArray) (c0 : Option Addr) (g : G) (R : Value → G → Prop) : Prop :=
  ∀ g1 : G, NewL g g1 9 ([(.string name)] : List Value) →
  derefP c0 fun ad => ∃ xa : Option Addr, ∃ xl : Nat, ∃ xc : Nat, g1.w.cell? ad = some (.slice xa xl xc) ∧ (CallsP Tryz.prog 17 #[(.slice xa xl xc), (.func (.func 49) #[] ⟨[(.pointer (some ⟨g.w.heap.size, 0, none⟩))]⟩)] g1 fun v g2 =>
  ∃ x : Int, v = (.int .i64 x) ∧ ∀ g3 : G, Ex g2 g3 →
  R (.int .i64 x) g3)
theorem F48_eq (name : ByteArray) (c0 : Option Addr) (g : G) (R : Value → G → Prop) : fnG cfg48 7 [.tmp 3] c48 an48 [(.string name), (.pointer c0)] g nobody R = F48 name c0 g R := by kernel_rfl
theorem call48 (name : ByteArray) (c0 : Option Addr) (g : G) (R : Value → G → Prop) (hF : F48 name c0 g R) : CallsG Tryz.prog 48 #[(.string name), (.pointer c0)] g nobody R :=
  fn_soundG (c := cfg48) TTok FNSok mixed Tryz.func48 (show Tryz.f48.body = some c48 by kernel_rfl) (show Tryz.f48.ntmps = 7 by kernel_rfl) (show Tryz.f48.results.toList = [.tmp 3] by kernel_rfl) rfl ((F48_eq name c0 g R ).mpr hF)

/- 49 pilaster/pilasterlaw41.built$1$1 -/
noncomputable def c49 : Code := match Tryz.f49.body with
  | some c => c
  | none => .skip
noncomputable def cfg49 : Cfg := ⟨Tryz.prog, TT, FNS, [2], [(2, 2), (4, 2)], [], TCH, false, false, none, PNF, false⟩
def an49 : AnnG := (.seq .leaf (.seq .leaf .leaf))
def F49 (u0 : ByteArray) (u1a : Option Addr) (u1l : Nat) (u1c : Nat) (u2a : Option Addr) (u2l : Nat) (u2c : Nat) (c0 : Option Addr) (g : G) (R : Value → G → Prop) : Prop :=
  ∀ g1 : G, Ex g g1 →
  derefP c0 fun ad => ∃ x : ByteArray, g1.w.cell? ad = some (.string x) ∧ ∀ g2 : G, Ex g1 g2 →
  R (.bool (strEq u0 x)) g2
theorem F49_eq (u0 : ByteArray) (u1a : Option Addr) (u1l : Nat) (u1c : Nat) (u2a : Option Addr) (u2l : Nat) (u2c : Nat) (c0 : Option Addr) (g : G) (R : Value → G → Prop) : fnG cfg49 8 [.tmp 3] c49 an49 [(.agg ⟨[(.string u0), (.slice u1a u1l u1c), (.slice u2a u2l u2c)]⟩), (.pointer c0)] g nobody R = F49 u0 u1a u1l u1c u2a u2l u2c c0 g R := by kernel_rfl
theorem call49 (u0 : ByteArray) (u1a : Option Addr) (u1l : Nat) (u1c : Nat) (u2a : Option Addr) (u2l : Nat) (u2c : Nat) (c0 : Option Addr) (g : G) (R : Value → G → Prop) (hF : F49 u0 u1a u1l u1c u2a u2l u2c c0 g R) : CallsG Tryz.prog 49 #[(.agg ⟨[(.string u0), (.slice u1a u1l u1c), (.slice u2a u2l u2c)]⟩), (.pointer c0)] g nobody R :=
  fn_soundG (c := cfg49) TTok FNSok mixed Tryz.func49 (show Tryz.f49.body = some c49 by kernel_rfl) (show Tryz.f49.ntmps = 8 by kernel_rfl) (show Tryz.f49.results.toList = [.tmp 3] by kernel_rfl) rfl ((F49_eq u0 u1a u1l u1c u2a u2l u2c c0 g R ).mpr hF)

/- 50 pilaster/recompile.digests -/
noncomputable def c50 : Code := match Tryz.f50.body with
  | some c => c
  | none => .skip
noncomputable def cfg50 : Cfg := ⟨Tryz.prog, TT, FNS, [], [], [], TCH, false, false, none, PNF, false⟩
def an50 : AnnG := (.seq .leaf (.seq .leaf .leaf))
def F50 (la : Option Addr) (ll : Nat) (lc : Nat) (g : G) (R : Value → G → Prop) : Prop :=
  (CallsP Tryz.prog 61 #[(.slice la ll lc), (.func (.func 85) #[] #[])] g fun v g1 =>
  ∃ x : Bool, v = (.bool x) ∧ ∀ g2 : G, Ex g1 g2 →
  R (.bool (!x)) g2)
theorem F50_eq (la : Option Addr) (ll : Nat) (lc : Nat) (g : G) (R : Value → G → Prop) : fnG cfg50 6 [.tmp 2] c50 an50 [(.slice la ll lc)] g nobody R = F50 la ll lc g R := by kernel_rfl
theorem call50 (la : Option Addr) (ll : Nat) (lc : Nat) (g : G) (R : Value → G → Prop) (hF : F50 la ll lc g R) : CallsG Tryz.prog 50 #[(.slice la ll lc)] g nobody R :=
  fn_soundG (c := cfg50) TTok FNSok mixed Tryz.func50 (show Tryz.f50.body = some c50 by kernel_rfl) (show Tryz.f50.ntmps = 6 by kernel_rfl) (show Tryz.f50.results.toList = [.tmp 2] by kernel_rfl) rfl ((F50_eq la ll lc g R ).mpr hF)

/- 51 pilaster/recompile.Plan$1 -/
noncomputable def c51 : Code := match Tryz.f51.body with
  | some c => c
  | none => .skip
noncomputable def cfg51 : Cfg := ⟨Tryz.prog, TT, FNS, [1], [(1, 1)], [], TCH, false, false, none, PNF, false⟩
def an51 : AnnG := (.seq .leaf (.seq .leaf .leaf))
def F51 (r0 : ByteArray) (r1 : ByteArray) (r2a : Option Addr) (r2l : Nat) (r2c : Nat) (r3a : Option Addr) (r3l : Nat) (r3c : Nat) (r4 : ByteArray) (g : G) (R : Value → G → Prop) : Prop :=
  ∀ g1 : G, Ex g g1 →
  (CallsP Tryz.prog 31 #[(.agg ⟨[(.string r0), (.string r1), (.slice r2a r2l r2c), (.slice r3a r3l r3c), (.string r4)]⟩)] g1 fun v g2 =>
  ∃ x : Bool, v = (.bool x) ∧ ∀ g3 : G, Ex g2 g3 →
  R (.bool (!x)) g3)
theorem F51_eq (r0 : ByteArray) (r1 : ByteArray) (r2a : Option Addr) (r2l : Nat) (r2c : Nat) (r3a : Option Addr) (r3l : Nat) (r3c : Nat) (r4 : ByteArray) (g : G) (R : Value → G → Prop) : fnG cfg51 6 [.tmp 2] c51 an51 [(.agg ⟨[(.string r0), (.string r1), (.slice r2a r2l r2c), (.slice r3a r3l r3c), (.string r4)]⟩)] g nobody R = F51 r0 r1 r2a r2l r2c r3a r3l r3c r4 g R := by kernel_rfl
theorem call51 (r0 : ByteArray) (r1 : ByteArray) (r2a : Option Addr) (r2l : Nat) (r2c : Nat) (r3a : Option Addr) (r3l : Nat) (r3c : Nat) (r4 : ByteArray) (g : G) (R : Value → G → Prop) (hF : F51 r0 r1 r2a r2l r2c r3a r3l r3c r4 g R) : CallsG Tryz.prog 51 #[(.agg ⟨[(.string r0), (.string r1), (.slice r2a r2l r2c), (.slice r3a r3l r3c), (.string r4)]⟩)] g nobody R :=
  fn_soundG (c := cfg51) TTok FNSok mixed Tryz.func51 (show Tryz.f51.body = some c51 by kernel_rfl) (show Tryz.f51.ntmps = 6 by kernel_rfl) (show Tryz.f51.results.toList = [.tmp 2] by kernel_rfl) rfl ((F51_eq r0 r1 r2a r2l r2c r3a r3l r3c r4 g R ).mpr hF)

/- 52 pilaster/recompile.reason -/
noncomputable def c52 : Code := match Tryz.f52.body with
  | some c => c
  | none => .skip
noncomputable def cfg52 : Cfg := ⟨Tryz.prog, TT, FNS, [8], [(8, 8)], [], TCH, false, false, none, PNF, false⟩
def an52 : AnnG := (.seq .leaf (.seq (.blk (.seq .leaf (.cond (.seq .leaf .leaf) (.seq .leaf (.cond (.seq .leaf .leaf) (.seq .leaf (.cond (.seq .leaf .leaf) .leaf))))))) (.seq (.seq .leaf (.blk (.loop ⟨[(37, .int .i64)], [(8, 8, 0)], [(8, [(.int .i64), (.str)])]⟩ (.seq .leaf (.seq (.cond .leaf .leaf) (.seq (.blk (.seq .leaf (.seq .leaf (.cond (.seq .leaf .leaf) .leaf)))) .leaf)))))) (.seq .leaf .leaf))))
def F52 (r : Option Addr) (source : ByteArray) (importsa : Option Addr) (importsl : Nat) (importsc : Nat) (facesa : Option Addr) (facesl : Nat) (facesc : Nat) (g : G) (R : Value → G → Prop) : Prop :=
  ifB r.isNone
  (∀ g1 : G, Ex g g1 →
  ∀ g2 : G, Ex g1 g2 →
  R (.agg ⟨[(.int .i64 (1 : Int)), (.string (bs []))]⟩) g2)
  (derefP r fun ad => ∀ g3 : G, Ex g g3 →
  ∃ x : ByteArray, g3.w.cell? (Addr.add ad 1) = some (.string x) ∧ ifB (!strEq x source)
  (∀ g4 : G, Ex g3 g4 →
  R (.agg ⟨[(.int .i64 (2 : Int)), (.string (bs []))]⟩) g4)
  (derefP r fun ad_1 => ∃ xa : Option Addr, ∃ xl : Nat, ∃ xc : Nat, g3.w.cell? (Addr.add ad_1 2) = some (.slice xa xl xc) ∧ (CallsP Tryz.prog 25 #[(.slice xa xl xc), (.slice importsa importsl importsc)] g3 fun v g5 =>
  ∃ x_1 : Bool, v = (.bool x_1) ∧ ifB (!x_1)
  (∀ g6 : G, Ex g5 g6 →
  R (.agg ⟨[(.int .i64 (3 : Int)), (.string (bs []))]⟩) g6)
  (derefP r fun ad_2 => ∃ xa_1 : Option Addr, ∃ xl_1 : Nat, ∃ xc_1 : Nat, g5.w.cell? (Addr.add ad_2 3) = some (.slice xa_1 xl_1 xc_1) ∧ ∃ Inv : Nat → Int → Int → ByteArray → G → Prop, ((∃ m0 : Nat, Inv m0 (0 : Int) (0 : Int) (bs []) g5)) ∧
  ∀ m : Nat, ∀ v_1 : Int, ∀ x0 : Int, ∀ x1 : ByteArray, ∀ g7 : G, Le g5 g7 → Inv m v_1 x0 x1 g7 →
  ifB (ltI v_1 ((xl_1 : Nat) : Int))
  ((0 ≤ v_1 ∧ v_1 < ((xl_1 : Nat) : Int)) ∧ derefP xa_1 fun ad_3 => ∃ d : ByteArray, g7.w.cell? (Addr.add ad_3 (Int.toNat v_1 * 1)) = some (.string d) ∧ (0 ≤ v_1 ∧ v_1 < ((facesl : Nat) : Int)) ∧ derefP facesa fun ad_4 => ∃ x_2 : ByteArray, g7.w.cell? (Addr.add ad_4 (Int.toNat v_1 * 1)) = some (.string x_2) ∧ ifB (!strEq d x_2)
  ((0 ≤ v_1 ∧ v_1 < ((importsl : Nat) : Int)) ∧ derefP importsa fun ad_5 => ∃ x_3 : ByteArray, g7.w.cell? (Addr.add ad_5 (Int.toNat v_1 * 1)) = some (.string x_3) ∧ ∀ g8 : G, Ex g7 g8 →
  R (.agg ⟨[(.int .i64 (4 : Int)), (.string x_3)]⟩) g8)
  (InI64 (v_1 + (1 : Int)) ∧ (∃ m_1 : Nat, m_1 < m ∧ Inv m_1 (v_1 + (1 : Int)) x0 x1 g7)))
  (∀ g9 : G, Ex g7 g9 →
  R (.agg ⟨[(.int .i64 (0 : Int)), (.string (bs []))]⟩) g9)))))
theorem F52_eq (r : Option Addr) (source : ByteArray) (importsa : Option Addr) (importsl : Nat) (importsc : Nat) (facesa : Option Addr) (facesl : Nat) (facesc : Nat) (g : G) (R : Value → G → Prop) : fnG cfg52 55 [.cell 8 39] c52 an52 [(.pointer r), (.string source), (.slice importsa importsl importsc), (.slice facesa facesl facesc)] g nobody R = F52 r source importsa importsl importsc facesa facesl facesc g R := by kernel_rfl
theorem call52 (r : Option Addr) (source : ByteArray) (importsa : Option Addr) (importsl : Nat) (importsc : Nat) (facesa : Option Addr) (facesl : Nat) (facesc : Nat) (g : G) (R : Value → G → Prop) (hF : F52 r source importsa importsl importsc facesa facesl facesc g R) : CallsG Tryz.prog 52 #[(.pointer r), (.string source), (.slice importsa importsl importsc), (.slice facesa facesl facesc)] g nobody R :=
  fn_soundG (c := cfg52) TTok FNSok mixed Tryz.func52 (show Tryz.f52.body = some c52 by kernel_rfl) (show Tryz.f52.ntmps = 55 by kernel_rfl) (show Tryz.f52.results.toList = [.cell 8 39] by kernel_rfl) rfl ((F52_eq r source importsa importsl importsc facesa facesl facesc g R ).mpr hF)

/- 53 slices.IndexFunc[[]pilaster/api.Reason,pilaster/api.Reason] -/
noncomputable def c53 : Code := match Tryz.f53.body with
  | some c => c
  | none => .skip
noncomputable def cfg53 : Cfg := ⟨Tryz.prog, TT, FNS, [], [], [], TCH, false, false, none, PNF, false⟩
def an53 : AnnG := (.seq .leaf (.seq (.seq .leaf (.blk (.loop ⟨[(8, .int .i64)], [], []⟩ (.seq .leaf (.seq (.cond .leaf .leaf) (.seq (.blk (.seq .leaf (.seq .leaf (.cond (.seq .leaf .leaf) .leaf)))) .leaf)))))) (.seq .leaf .leaf)))
def F53 (sa : Option Addr) (sl : Nat) (sc : Nat) (ff : FuncId) (fc : Array Value) (g : G) (R : Value → G → Prop) : Prop :=
  ∃ Inv : Nat → Int → G → Prop, ((∃ m0 : Nat, Inv m0 (0 : Int) g)) ∧
  ∀ m : Nat, ∀ v_1 : Int, ∀ g1 : G, Le g g1 → Inv m v_1 g1 →
  ifB (ltI v_1 ((sl : Nat) : Int))
  ((0 ≤ v_1 ∧ v_1 < ((sl : Nat) : Int)) ∧ derefP sa fun ad => ∃ x0 : Int, ∃ x1 : ByteArray, g1.w.cell? (Addr.add ad (Int.toNat v_1 * 2)) = some (.int .i64 x0) ∧ g1.w.cell? (Addr.add (Addr.add ad (Int.toNat v_1 * 2)) 1) = some (.string x1) ∧ Enters Tryz.prog ff ∧ (CallsP Tryz.prog ff ((⟨[(.agg ⟨[(.int .i64 x0), (.string x1)]⟩)]⟩ : Array Value) ++ fc) g1 fun v g2 =>
  ∃ x : Bool, v = (.bool x) ∧ ifB x
  (∀ g3 : G, Ex g2 g3 →
  R (.int .i64 v_1) g3)
  (InI64 (v_1 + (1 : Int)) ∧ (∃ m_1 : Nat, m_1 < m ∧ Inv m_1 (v_1 + (1 : Int)) g2))))
  (∀ g4 : G, Ex g1 g4 →
  R (.int .i64 (-1 : Int)) g4)
theorem F53_eq (sa : Option Addr) (sl : Nat) (sc : Nat) (ff : FuncId) (fc : Array Value) (g : G) (R : Value → G → Prop) : fnG cfg53 19 [.tmp 4] c53 an53 [(.slice sa sl sc), (.func (.func ff) #[] fc)] g nobody R = F53 sa sl sc ff fc g R := by kernel_rfl
theorem call53 (sa : Option Addr) (sl : Nat) (sc : Nat) (ff : FuncId) (fc : Array Value) (g : G) (R : Value → G → Prop) (hF : F53 sa sl sc ff fc g R) : CallsG Tryz.prog 53 #[(.slice sa sl sc), (.func (.func ff) #[] fc)] g nobody R :=
  fn_soundG (c := cfg53) TTok FNSok mixed Tryz.func53 (show Tryz.f53.body = some c53 by kernel_rfl) (show Tryz.f53.ntmps = 19 by kernel_rfl) (show Tryz.f53.results.toList = [.tmp 4] by kernel_rfl) rfl ((F53_eq sa sl sc ff fc g R ).mpr hF)

/- 54 pilaster/recompile.chosen -/
noncomputable def c54 : Code := match Tryz.f54.body with
  | some c => c
  | none => .skip
noncomputable def cfg54 : Cfg := ⟨Tryz.prog, TT, FNS, [], [], [], TCH, false, false, none, PNF, false⟩
def an54 : AnnG := (.seq .leaf (.seq .leaf (.seq (.seq .leaf (.cond (.seq .leaf .leaf) .leaf)) (.seq (.seq .leaf (.cond (.seq .leaf .leaf) .leaf)) (.seq .leaf (.seq .leaf (.seq (.seq .leaf (.blk (.loop ⟨[(11, .sl), (36, .int .i64)], [], []⟩ (.seq .leaf (.seq (.cond .leaf .leaf) (.seq (.blk (.seq .leaf (.seq .leaf (.cond .leaf .leaf)))) .leaf)))))) (.seq .leaf .leaf))))))))
def F54 (la : Option Addr) (ll : Nat) (lc : Nat) (name : ByteArray) (ff : FuncId) (fc : Array Value) (g : G) (R : Value → G → Prop) : Prop :=
  (CallsP Tryz.prog 40 #[(.slice la ll lc)] g fun v g1 =>
  ∃ x0 : Option Addr, ∃ x1 : Int, v = (.tuple ⟨[(.pointer x0), (.int .i64 x1)]⟩) ∧ ifB (!eqI x1 (0 : Int))
  (∀ g2 : G, Ex g1 g2 →
  R (.tuple ⟨[(.slice none 0 0), (.int .i64 x1)]⟩) g2)
  (derefP x0 fun ad => ∃ xa : Option Addr, ∃ xl : Nat, ∃ xc : Nat, g1.w.cell? ad = some (.slice xa xl xc) ∧ (CallsP Tryz.prog 70 #[(.slice xa xl xc), (.string name)] g1 fun v g3 =>
  ∃ x : Bool, v = (.bool x) ∧ ifB (!x)
  (∀ g4 : G, Ex g3 g4 →
  R (.tuple ⟨[(.slice none 0 0), (.int .i64 (8 : Int))]⟩) g4)
  ((CallsP Tryz.prog 86 #[(.pointer x0)] g3 fun v g5 =>
  ∃ needs : Option Nat, v = (.map needs) ∧ derefP x0 fun ad_1 => ∃ xa_1 : Option Addr, ∃ xl_1 : Nat, ∃ xc_1 : Nat, g5.w.cell? ad_1 = some (.slice xa_1 xl_1 xc_1) ∧ ∃ Inv : Nat → Option Addr → Nat → Nat → Int → G → Prop, ((∃ m0 : Nat, Inv m0 none 0 0 (0 : Int) g5)) ∧
  ∀ m : Nat, ∀ outa : Option Addr, ∀ outl : Nat, ∀ outc : Nat, ∀ v_1 : Int, ∀ g6 : G, Le g5 g6 → Inv m outa outl outc v_1 g6 →
  ifB (ltI v_1 ((xl_1 : Nat) : Int))
  ((0 ≤ v_1 ∧ v_1 < ((xl_1 : Nat) : Int)) ∧ derefP xa_1 fun ad_2 => ∃ s : ByteArray, g6.w.cell? (Addr.add ad_2 (Int.toNat v_1 * 1)) = some (.string s) ∧ Enters Tryz.prog ff ∧ (CallsP Tryz.prog ff ((⟨[(.map needs), (.string s)]⟩ : Array Value) ++ fc) g6 fun v g7 =>
  ∃ x_1 : Bool, v = (.bool x_1) ∧ ifB x_1
  (∀ g8 : G, NewL g7 g8 9 [(.string s)] →
  ∃ outa_1 : Option Addr, ∃ outl_1 : Nat, ∃ outc_1 : Nat, ∃ wo1 : World, Sem.run Tryz.prog (Builtin.append_ #[30, 30] 30 #[(.slice outa outl outc), (.slice (some ⟨g7.w.heap.size, 0, none⟩) 1 1)]) g8.w = .ok (.slice outa_1 outl_1 outc_1) wo1 ∧ ∃ g9 : G, g9.w = wo1 ∧ Stp g.w.heap.size nobody g8 g9 ∧ InI64 (v_1 + (1 : Int)) ∧ (∃ m_1 : Nat, m_1 < m ∧ Inv m_1 outa_1 outl_1 outc_1 (v_1 + (1 : Int)) g9))
  (InI64 (v_1 + (1 : Int)) ∧ (∃ m_1 : Nat, m_1 < m ∧ Inv m_1 outa outl outc (v_1 + (1 : Int)) g7))))
  (∀ g10 : G, Ex g6 g10 →
  R (.tuple ⟨[(.slice outa outl outc), (.int .i64 (0 : Int))]⟩) g10))))))
theorem F54_eq (la : Option Addr) (ll : Nat) (lc : Nat) (name : ByteArray) (ff : FuncId) (fc : Array Value) (g : G) (R : Value → G → Prop) : fnG cfg54 50 [.tmp 6, .tmp 7] c54 an54 [(.slice la ll lc), (.string name), (.func (.func ff) #[] fc)] g nobody R = F54 la ll lc name ff fc g R := by kernel_rfl
theorem call54 (la : Option Addr) (ll : Nat) (lc : Nat) (name : ByteArray) (ff : FuncId) (fc : Array Value) (g : G) (R : Value → G → Prop) (hF : F54 la ll lc name ff fc g R) : CallsG Tryz.prog 54 #[(.slice la ll lc), (.string name), (.func (.func ff) #[] fc)] g nobody R :=
  fn_soundG (c := cfg54) TTok FNSok mixed Tryz.func54 (show Tryz.f54.body = some c54 by kernel_rfl) (show Tryz.f54.ntmps = 50 by kernel_rfl) (show Tryz.f54.results.toList = [.tmp 6, .tmp 7] by kernel_rfl) rfl ((F54_eq la ll lc name ff fc g R ).mpr hF)

/- 55 pilaster/recompile.Closure$1 -/
noncomputable def c55 : Code := match Tryz.f55.body with
  | some c => c
  | none => .skip
noncomputable def cfg55 : Cfg := ⟨Tryz.prog, TT, FNS, [], [], [], TCH, false, false, none, PNF, false⟩
def an55 : AnnG := (.seq .leaf (.seq .leaf .leaf))
def F55 (needs : Option Nat) (s : ByteArray) (c0 : Option Addr) (g : G) (R : Value → G → Prop) : Prop :=
  derefP c0 fun ad => ∃ x : ByteArray, g.w.cell? ad = some (.string x) ∧ ∃ x_1 : Option Nat, ∃ wo1 : World, Sem.run Tryz.prog (Instr.lookup 107 (.map needs) (.string x) false) g.w = .ok (.map x_1) wo1 ∧ ∃ g1 : G, g1.w = wo1 ∧ Stp g.w.heap.size nobody g g1 ∧ ∃ x_2 : Bool, ∃ wo2 : World, Sem.run Tryz.prog (Instr.lookup 108 (.map x_1) (.string s) false) g1.w = .ok (.bool x_2) wo2 ∧ ∃ g2 : G, g2.w = wo2 ∧ Stp g.w.heap.size nobody g1 g2 ∧ ∀ g3 : G, Ex g2 g3 →
  R (.bool x_2) g3
theorem F55_eq (needs : Option Nat) (s : ByteArray) (c0 : Option Addr) (g : G) (R : Value → G → Prop) : fnG cfg55 11 [.tmp 5] c55 an55 [(.map needs), (.string s), (.pointer c0)] g nobody R = F55 needs s c0 g R := by kernel_rfl
theorem call55 (needs : Option Nat) (s : ByteArray) (c0 : Option Addr) (g : G) (R : Value → G → Prop) (hF : F55 needs s c0 g R) : CallsG Tryz.prog 55 #[(.map needs), (.string s), (.pointer c0)] g nobody R :=
  fn_soundG (c := cfg55) TTok FNSok mixed Tryz.func55 (show Tryz.f55.body = some c55 by kernel_rfl) (show Tryz.f55.ntmps = 11 by kernel_rfl) (show Tryz.f55.results.toList = [.tmp 5] by kernel_rfl) rfl ((F55_eq needs s c0 g R ).mpr hF)

/- 56 pilaster/recompile.Users$1 -/
noncomputable def c56 : Code := match Tryz.f56.body with
  | some c => c
  | none => .skip
noncomputable def cfg56 : Cfg := ⟨Tryz.prog, TT, FNS, [], [], [], TCH, false, false, none, PNF, false⟩
def an56 : AnnG := (.seq .leaf (.seq .leaf .leaf))
def F56 (needs : Option Nat) (s : ByteArray) (c0 : Option Addr) (g : G) (R : Value → G → Prop) : Prop :=
  ∃ x : Option Nat, ∃ wo1 : World, Sem.run Tryz.prog (Instr.lookup 107 (.map needs) (.string s) false) g.w = .ok (.map x) wo1 ∧ ∃ g1 : G, g1.w = wo1 ∧ Stp g.w.heap.size nobody g g1 ∧ derefP c0 fun ad => ∃ x_1 : ByteArray, g1.w.cell? ad = some (.string x_1) ∧ ∃ x_2 : Bool, ∃ wo2 : World, Sem.run Tryz.prog (Instr.lookup 108 (.map x) (.string x_1) false) g1.w = .ok (.bool x_2) wo2 ∧ ∃ g2 : G, g2.w = wo2 ∧ Stp g.w.heap.size nobody g1 g2 ∧ ∀ g3 : G, Ex g2 g3 →
  R (.bool x_2) g3
theorem F56_eq (needs : Option Nat) (s : ByteArray) (c0 : Option Addr) (g : G) (R : Value → G → Prop) : fnG cfg56 11 [.tmp 5] c56 an56 [(.map needs), (.string s), (.pointer c0)] g nobody R = F56 needs s c0 g R := by kernel_rfl
theorem call56 (needs : Option Nat) (s : ByteArray) (c0 : Option Addr) (g : G) (R : Value → G → Prop) (hF : F56 needs s c0 g R) : CallsG Tryz.prog 56 #[(.map needs), (.string s), (.pointer c0)] g nobody R :=
  fn_soundG (c := cfg56) TTok FNSok mixed Tryz.func56 (show Tryz.f56.body = some c56 by kernel_rfl) (show Tryz.f56.ntmps = 11 by kernel_rfl) (show Tryz.f56.results.toList = [.tmp 5] by kernel_rfl) rfl ((F56_eq needs s c0 g R ).mpr hF)

/- 57 pilaster/pilasterref07.Order -/
/- 58 pilaster/pilasterref41.level -/
/- 59 pilaster/pilasterref41.put -/
/- 60 pilaster/pilasterref41.related -/
/- 61 slices.ContainsFunc[[]string,string] -/
noncomputable def c61 : Code := match Tryz.f61.body with
  | some c => c
  | none => .skip
noncomputable def cfg61 : Cfg := ⟨Tryz.prog, TT, FNS, [], [], [], TCH, false, false, none, PNF, false⟩
def an61 : AnnG := (.seq .leaf (.seq .leaf .leaf))
def F61 (sa : Option Addr) (sl : Nat) (sc : Nat) (ff : FuncId) (fc : Array Value) (g : G) (R : Value → G → Prop) : Prop :=
  (CallsP Tryz.prog 15 #[(.slice sa sl sc), (.func (.func ff) #[] fc)] g fun v g1 =>
  ∃ x : Int, v = (.int .i64 x) ∧ ∀ g2 : G, Ex g1 g2 →
  R (.bool (leI (0 : Int) x)) g2)
theorem F61_eq (sa : Option Addr) (sl : Nat) (sc : Nat) (ff : FuncId) (fc : Array Value) (g : G) (R : Value → G → Prop) : fnG cfg61 9 [.tmp 4] c61 an61 [(.slice sa sl sc), (.func (.func ff) #[] fc)] g nobody R = F61 sa sl sc ff fc g R := by kernel_rfl
theorem call61 (sa : Option Addr) (sl : Nat) (sc : Nat) (ff : FuncId) (fc : Array Value) (g : G) (R : Value → G → Prop) (hF : F61 sa sl sc ff fc g R) : CallsG Tryz.prog 61 #[(.slice sa sl sc), (.func (.func ff) #[] fc)] g nobody R :=
  fn_soundG (c := cfg61) TTok FNSok mixed Tryz.func61 (show Tryz.f61.body = some c61 by kernel_rfl) (show Tryz.f61.ntmps = 9 by kernel_rfl) (show Tryz.f61.results.toList = [.tmp 4] by kernel_rfl) rfl ((F61_eq sa sl sc ff fc g R ).mpr hF)

/- 62 pilaster/pilasterlaw41.long$1 -/
noncomputable def c62 : Code := match Tryz.f62.body with
  | some c => c
  | none => .skip
noncomputable def cfg62 : Cfg := ⟨Tryz.prog, TT, FNS, [], [], [], TCH, false, false, none, PNF, false⟩
def an62 : AnnG := (.seq .leaf (.seq .leaf .leaf))
def F62 (s : ByteArray) (g : G) (R : Value → G → Prop) : Prop :=
  ∀ g1 : G, Ex g g1 →
  R (.bool (ltI (100 : Int) ((s.size : Nat) : Int))) g1
theorem F62_eq (s : ByteArray) (g : G) (R : Value → G → Prop) : fnG cfg62 6 [.tmp 2] c62 an62 [(.string s)] g nobody R = F62 s g R := by kernel_rfl
theorem call62 (s : ByteArray) (g : G) (R : Value → G → Prop) (hF : F62 s g R) : CallsG Tryz.prog 62 #[(.string s)] g nobody R :=
  fn_soundG (c := cfg62) TTok FNSok mixed Tryz.func62 (show Tryz.f62.body = some c62 by kernel_rfl) (show Tryz.f62.ntmps = 6 by kernel_rfl) (show Tryz.f62.results.toList = [.tmp 2] by kernel_rfl) rfl ((F62_eq s g R ).mpr hF)

/- 63 pilaster/digest.Valid -/
noncomputable def c63 : Code := match Tryz.f63.body with
  | some c => c
  | none => .skip
noncomputable def cfg63 : Cfg := ⟨Tryz.prog, TT, FNS, [], [], [], TCH, false, false, none, PNF, false⟩
def an63 : AnnG := (.seq .leaf (.seq (.seq .leaf (.blk (.loop ⟨[(6, .int .i64)], [], []⟩ (.seq .leaf (.seq (.cond .leaf .leaf) (.seq (.blk (.seq .leaf (.seq .leaf (.cond (.seq .leaf .leaf) .leaf)))) .leaf)))))) (.seq .leaf .leaf)))
def F63 (s : ByteArray) (g : G) (R : Value → G → Prop) : Prop :=
  ∃ Inv : Nat → Int → G → Prop, ((∃ m0 : Nat, Inv m0 (0 : Int) g)) ∧
  ∀ m : Nat, ∀ v_1 : Int, ∀ g1 : G, Le g g1 → Inv m v_1 g1 →
  ifB (ltI v_1 ((s.size : Nat) : Int))
  (∃ b : UInt8, (0 ≤ v_1 ∧ s[Int.toNat v_1]? = some b) ∧ ifB (ltI ((b.toNat : Nat) : Int) (48 : Int))
  (∃ b_1 : UInt8, (0 ≤ v_1 ∧ s[Int.toNat v_1]? = some b_1) ∧ ifB (ltI ((b_1.toNat : Nat) : Int) (97 : Int))
  (∀ g2 : G, Ex g1 g2 →
  R (.bool false) g2)
  (∃ b_2 : UInt8, (0 ≤ v_1 ∧ s[Int.toNat v_1]? = some b_2) ∧ ifB (ltI (102 : Int) ((b_2.toNat : Nat) : Int))
  (∀ g3 : G, Ex g1 g3 →
  R (.bool false) g3)
  (InI64 (v_1 + (1 : Int)) ∧ (∃ m_1 : Nat, m_1 < m ∧ Inv m_1 (v_1 + (1 : Int)) g1))))
  (∃ b_3 : UInt8, (0 ≤ v_1 ∧ s[Int.toNat v_1]? = some b_3) ∧ ifB (ltI (57 : Int) ((b_3.toNat : Nat) : Int))
  (∃ b_4 : UInt8, (0 ≤ v_1 ∧ s[Int.toNat v_1]? = some b_4) ∧ ifB (ltI ((b_4.toNat : Nat) : Int) (97 : Int))
  (∀ g4 : G, Ex g1 g4 →
  R (.bool false) g4)
  (∃ b_5 : UInt8, (0 ≤ v_1 ∧ s[Int.toNat v_1]? = some b_5) ∧ ifB (ltI (102 : Int) ((b_5.toNat : Nat) : Int))
  (∀ g5 : G, Ex g1 g5 →
  R (.bool false) g5)
  (InI64 (v_1 + (1 : Int)) ∧ (∃ m_1 : Nat, m_1 < m ∧ Inv m_1 (v_1 + (1 : Int)) g1))))
  (InI64 (v_1 + (1 : Int)) ∧ (∃ m_1 : Nat, m_1 < m ∧ Inv m_1 (v_1 + (1 : Int)) g1))))
  (∀ g6 : G, Ex g1 g6 →
  R (.bool (eqI ((s.size : Nat) : Int) (64 : Int))) g6)
theorem F63_eq (s : ByteArray) (g : G) (R : Value → G → Prop) : fnG cfg63 35 [.tmp 2] c63 an63 [(.string s)] g nobody R = F63 s g R := by kernel_rfl
theorem call63 (s : ByteArray) (g : G) (R : Value → G → Prop) (hF : F63 s g R) : CallsG Tryz.prog 63 #[(.string s)] g nobody R :=
  fn_soundG (c := cfg63) TTok FNSok mixed Tryz.func63 (show Tryz.f63.body = some c63 by kernel_rfl) (show Tryz.f63.ntmps = 35 by kernel_rfl) (show Tryz.f63.results.toList = [.tmp 2] by kernel_rfl) rfl ((F63_eq s g R ).mpr hF)

/- 64 pilaster/recompile.names -/
noncomputable def c64 : Code := match Tryz.f64.body with
  | some c => c
  | none => .skip
noncomputable def cfg64 : Cfg := ⟨Tryz.prog, TT, FNS, [], [], [], TCH, false, false, none, PNF, false⟩
def an64 : AnnG := (.seq .leaf (.seq (.seq .leaf (.cond (.seq .leaf .leaf) .leaf)) (.seq (.seq .leaf (.blk (.loop ⟨[(10, .int .i64)], [], []⟩ (.seq .leaf (.seq (.cond .leaf .leaf) (.seq (.blk (.seq .leaf (.seq .leaf (.cond (.seq .leaf .leaf) .leaf)))) .leaf)))))) (.seq .leaf .leaf))))
def F64 (la : Option Addr) (ll : Nat) (lc : Nat) (g : G) (R : Value → G → Prop) : Prop :=
  ifB (ltI (16 : Int) ((ll : Nat) : Int))
  (∀ g1 : G, Ex g g1 →
  R (.bool false) g1)
  (∃ Inv : Nat → Int → G → Prop, ((∃ m0 : Nat, Inv m0 (0 : Int) g)) ∧
  ∀ m : Nat, ∀ v_1 : Int, ∀ g2 : G, Le g g2 → Inv m v_1 g2 →
  ifB (ltI v_1 ((ll : Nat) : Int))
  ((0 ≤ v_1 ∧ v_1 < ((ll : Nat) : Int)) ∧ derefP la fun ad => ∃ s : ByteArray, g2.w.cell? (Addr.add ad (Int.toNat v_1 * 1)) = some (.string s) ∧ (CallsP Tryz.prog 69 #[(.string s)] g2 fun v g3 =>
  ∃ x : Bool, v = (.bool x) ∧ ifB (!x)
  (∀ g4 : G, Ex g3 g4 →
  R (.bool false) g4)
  ((0 ≤ v_1 ∧ v_1 ≤ ((lc : Nat) : Int)) ∧ (CallsP Tryz.prog 70 #[(.slice (slAddr la lc 0 1) ((Int.toNat v_1) - 0) (lc - 0)), (.string s)] g3 fun v g5 =>
  ∃ x_1 : Bool, v = (.bool x_1) ∧ ifB x_1
  (∀ g6 : G, Ex g5 g6 →
  R (.bool false) g6)
  (InI64 (v_1 + (1 : Int)) ∧ (∃ m_1 : Nat, m_1 < m ∧ Inv m_1 (v_1 + (1 : Int)) g5))))))
  (∀ g7 : G, Ex g2 g7 →
  R (.bool true) g7))
theorem F64_eq (la : Option Addr) (ll : Nat) (lc : Nat) (g : G) (R : Value → G → Prop) : fnG cfg64 26 [.tmp 2] c64 an64 [(.slice la ll lc)] g nobody R = F64 la ll lc g R := by kernel_rfl
theorem call64 (la : Option Addr) (ll : Nat) (lc : Nat) (g : G) (R : Value → G → Prop) (hF : F64 la ll lc g R) : CallsG Tryz.prog 64 #[(.slice la ll lc)] g nobody R :=
  fn_soundG (c := cfg64) TTok FNSok mixed Tryz.func64 (show Tryz.f64.body = some c64 by kernel_rfl) (show Tryz.f64.ntmps = 26 by kernel_rfl) (show Tryz.f64.results.toList = [.tmp 2] by kernel_rfl) rfl ((F64_eq la ll lc g R ).mpr hF)

/- 65 pilaster/pilasterref39.Valid -/
/- 66 pilaster/pilasterref41.names -/
/- 67 pilaster/pilasterref41.digests -/
/- 68 pilaster/pilasterref41.reason -/
/- 69 pilaster/ident.IsUpper -/
noncomputable def c69 : Code := match Tryz.f69.body with
  | some c => c
  | none => .skip
noncomputable def cfg69 : Cfg := ⟨Tryz.prog, TT, FNS, [], [], [], TCH, false, false, none, PNF, false⟩
def an69 : AnnG := (.seq .leaf (.seq .leaf .leaf))
def F69 (s : ByteArray) (g : G) (R : Value → G → Prop) : Prop :=
  (CallsP Tryz.prog 92 #[(.string s), (.int .i64 (2 : Int))] g fun v g1 =>
  ∃ x : Bool, v = (.bool x) ∧ ∀ g2 : G, Ex g1 g2 →
  R (.bool x) g2)
theorem F69_eq (s : ByteArray) (g : G) (R : Value → G → Prop) : fnG cfg69 5 [.tmp 2] c69 an69 [(.string s)] g nobody R = F69 s g R := by kernel_rfl
theorem call69 (s : ByteArray) (g : G) (R : Value → G → Prop) (hF : F69 s g R) : CallsG Tryz.prog 69 #[(.string s)] g nobody R :=
  fn_soundG (c := cfg69) TTok FNSok mixed Tryz.func69 (show Tryz.f69.body = some c69 by kernel_rfl) (show Tryz.f69.ntmps = 5 by kernel_rfl) (show Tryz.f69.results.toList = [.tmp 2] by kernel_rfl) rfl ((F69_eq s g R ).mpr hF)

/- 70 slices.Contains[[]string,string] -/
noncomputable def c70 : Code := match Tryz.f70.body with
  | some c => c
  | none => .skip
noncomputable def cfg70 : Cfg := ⟨Tryz.prog, TT, FNS, [], [], [], TCH, false, false, none, PNF, false⟩
def an70 : AnnG := (.seq .leaf (.seq .leaf .leaf))
def F70 (sa : Option Addr) (sl : Nat) (sc : Nat) (v_1 : ByteArray) (g : G) (R : Value → G → Prop) : Prop :=
  (CallsP Tryz.prog 93 #[(.slice sa sl sc), (.string v_1)] g fun v g1 =>
  ∃ x : Int, v = (.int .i64 x) ∧ ∀ g2 : G, Ex g1 g2 →
  R (.bool (leI (0 : Int) x)) g2)
theorem F70_eq (sa : Option Addr) (sl : Nat) (sc : Nat) (v_1 : ByteArray) (g : G) (R : Value → G → Prop) : fnG cfg70 9 [.tmp 4] c70 an70 [(.slice sa sl sc), (.string v_1)] g nobody R = F70 sa sl sc v_1 g R := by kernel_rfl
theorem call70 (sa : Option Addr) (sl : Nat) (sc : Nat) (v_1 : ByteArray) (g : G) (R : Value → G → Prop) (hF : F70 sa sl sc v_1 g R) : CallsG Tryz.prog 70 #[(.slice sa sl sc), (.string v_1)] g nobody R :=
  fn_soundG (c := cfg70) TTok FNSok mixed Tryz.func70 (show Tryz.f70.body = some c70 by kernel_rfl) (show Tryz.f70.ntmps = 9 by kernel_rfl) (show Tryz.f70.results.toList = [.tmp 4] by kernel_rfl) rfl ((F70_eq sa sl sc v_1 g R ).mpr hF)

/- 71 pilaster/pilasterref01.IsUpper -/
/- 72 pilaster/pilasterref01.Find -/
/- 73 slices.IndexFunc[[]pilaster/api.Record,pilaster/api.Record] -/
noncomputable def c73 : Code := match Tryz.f73.body with
  | some c => c
  | none => .skip
noncomputable def cfg73 : Cfg := ⟨Tryz.prog, TT, FNS, [], [], [], TCH, false, false, none, PNF, false⟩
def an73 : AnnG := (.seq .leaf (.seq (.seq .leaf (.blk (.loop ⟨[(8, .int .i64)], [], []⟩ (.seq .leaf (.seq (.cond .leaf .leaf) (.seq (.blk (.seq .leaf (.seq .leaf (.cond (.seq .leaf .leaf) .leaf)))) .leaf)))))) (.seq .leaf .leaf)))
def F73 (sa : Option Addr) (sl : Nat) (sc : Nat) (ff : FuncId) (fc : Array Value) (g : G) (R : Value → G → Prop) : Prop :=
  ∃ Inv : Nat → Int → G → Prop, ((∃ m0 : Nat, Inv m0 (0 : Int) g)) ∧
  ∀ m : Nat, ∀ v_1 : Int, ∀ g1 : G, Le g g1 → Inv m v_1 g1 →
  ifB (ltI v_1 ((sl : Nat) : Int))
  ((0 ≤ v_1 ∧ v_1 < ((sl : Nat) : Int)) ∧ derefP sa fun ad => ∃ x0 : ByteArray, ∃ x1 : ByteArray, ∃ x2a : Option Addr, ∃ x2l : Nat, ∃ x2c : Nat, ∃ x3a : Option Addr, ∃ x3l : Nat, ∃ x3c : Nat, ∃ x4 : ByteArray, g1.w.cell? (Addr.add ad (Int.toNat v_1 * 5)) = some (.string x0) ∧ g1.w.cell? (Addr.add (Addr.add ad (Int.toNat v_1 * 5)) 1) = some (.string x1) ∧ g1.w.cell? (Addr.add (Addr.add ad (Int.toNat v_1 * 5)) 2) = some (.slice x2a x2l x2c) ∧ g1.w.cell? (Addr.add (Addr.add ad (Int.toNat v_1 * 5)) 3) = some (.slice x3a x3l x3c) ∧ g1.w.cell? (Addr.add (Addr.add ad (Int.toNat v_1 * 5)) 4) = some (.string x4) ∧ Enters Tryz.prog ff ∧ (CallsP Tryz.prog ff ((⟨[(.agg ⟨[(.string x0), (.string x1), (.slice x2a x2l x2c), (.slice x3a x3l x3c), (.string x4)]⟩)]⟩ : Array Value) ++ fc) g1 fun v g2 =>
  ∃ x : Bool, v = (.bool x) ∧ ifB x
  (∀ g3 : G, Ex g2 g3 →
  R (.int .i64 v_1) g3)
  (InI64 (v_1 + (1 : Int)) ∧ (∃ m_1 : Nat, m_1 < m ∧ Inv m_1 (v_1 + (1 : Int)) g2))))
  (∀ g4 : G, Ex g1 g4 →
  R (.int .i64 (-1 : Int)) g4)
theorem F73_eq (sa : Option Addr) (sl : Nat) (sc : Nat) (ff : FuncId) (fc : Array Value) (g : G) (R : Value → G → Prop) : fnG cfg73 19 [.tmp 4] c73 an73 [(.slice sa sl sc), (.func (.func ff) #[] fc)] g nobody R = F73 sa sl sc ff fc g R := by kernel_rfl
theorem call73 (sa : Option Addr) (sl : Nat) (sc : Nat) (ff : FuncId) (fc : Array Value) (g : G) (R : Value → G → Prop) (hF : F73 sa sl sc ff fc g R) : CallsG Tryz.prog 73 #[(.slice sa sl sc), (.func (.func ff) #[] fc)] g nobody R :=
  fn_soundG (c := cfg73) TTok FNSok mixed Tryz.func73 (show Tryz.f73.body = some c73 by kernel_rfl) (show Tryz.f73.ntmps = 19 by kernel_rfl) (show Tryz.f73.results.toList = [.tmp 4] by kernel_rfl) rfl ((F73_eq sa sl sc ff fc g R ).mpr hF)

/- 74 pilaster/pilasterref41.record -/
/- 75 pilaster/pilasterref41.index -/
/- 76 slices.IndexFunc[[]pilaster/api.Syn,pilaster/api.Syn] -/
noncomputable def c76 : Code := match Tryz.f76.body with
  | some c => c
  | none => .skip
noncomputable def cfg76 : Cfg := ⟨Tryz.prog, TT, FNS, [], [], [], TCH, true, false, none, PNF, false⟩
def an76 : AnnG := (.seq .leaf (.seq (.seq .leaf (.blk (.loop ⟨[(8, .int .i64)], [], []⟩ (.seq .leaf (.seq (.cond .leaf .leaf) (.seq (.blk (.seq .leaf (.seq .leaf (.cond (.seq .leaf .leaf) .leaf)))) .leaf)))))) (.seq .leaf .leaf)))
def F76 (sa : Option Addr) (sl : Nat) (sc : Nat) (ff : FuncId) (fc : Array Value) (g : G) (M : Nat → Prop) (R : Value → G → Prop) : Prop :=
  ∃ Inv : Nat → Int → G → Prop, ((∃ m0 : Nat, Inv m0 (0 : Int) g)) ∧
  ∀ m : Nat, ∀ v_1 : Int, ∀ g1 : G, Le g g1 → Inv m v_1 g1 →
  ifB (ltI v_1 ((sl : Nat) : Int))
  ((0 ≤ v_1 ∧ v_1 < ((sl : Nat) : Int)) ∧ derefP sa fun ad => ∃ x0 : Int, ∃ x1 : Int, ∃ x2 : ByteArray, ∃ x3a : Option Addr, ∃ x3l : Nat, ∃ x3c : Nat, ∃ x4a : Option Addr, ∃ x4l : Nat, ∃ x4c : Nat, g1.w.cell? (Addr.add ad (Int.toNat v_1 * 5)) = some (.int .i64 x0) ∧ g1.w.cell? (Addr.add (Addr.add ad (Int.toNat v_1 * 5)) 1) = some (.int .i64 x1) ∧ g1.w.cell? (Addr.add (Addr.add ad (Int.toNat v_1 * 5)) 2) = some (.string x2) ∧ g1.w.cell? (Addr.add (Addr.add ad (Int.toNat v_1 * 5)) 3) = some (.slice x3a x3l x3c) ∧ g1.w.cell? (Addr.add (Addr.add ad (Int.toNat v_1 * 5)) 4) = some (.slice x4a x4l x4c) ∧ Enters Tryz.prog ff ∧ ∃ M1 : Nat → Prop, (∀ b, b < g.w.heap.size → M1 b → M b) ∧ (CallsG Tryz.prog ff ((⟨[(.agg ⟨[(.int .i64 x0), (.int .i64 x1), (.string x2), (.slice x3a x3l x3c), (.slice x4a x4l x4c)]⟩)]⟩ : Array Value) ++ fc) g1 M1 fun v g2 =>
  ∃ x : Bool, v = (.bool x) ∧ ifB x
  (∀ g3 : G, Ex g2 g3 →
  R (.int .i64 v_1) g3)
  (InI64 (v_1 + (1 : Int)) ∧ (∃ m_1 : Nat, m_1 < m ∧ Inv m_1 (v_1 + (1 : Int)) g2))))
  (∀ g4 : G, Ex g1 g4 →
  R (.int .i64 (-1 : Int)) g4)
theorem F76_eq (sa : Option Addr) (sl : Nat) (sc : Nat) (ff : FuncId) (fc : Array Value) (g : G) (M : Nat → Prop) (R : Value → G → Prop) : fnG cfg76 19 [.tmp 4] c76 an76 [(.slice sa sl sc), (.func (.func ff) #[] fc)] g M R = F76 sa sl sc ff fc g M R := by kernel_rfl
theorem call76 (sa : Option Addr) (sl : Nat) (sc : Nat) (ff : FuncId) (fc : Array Value) (g : G) (M : Nat → Prop) (R : Value → G → Prop) (hF : F76 sa sl sc ff fc g M R) : CallsG Tryz.prog 76 #[(.slice sa sl sc), (.func (.func ff) #[] fc)] g M R :=
  fn_soundG (c := cfg76) TTok FNSok mixed Tryz.func76 (show Tryz.f76.body = some c76 by kernel_rfl) (show Tryz.f76.ntmps = 19 by kernel_rfl) (show Tryz.f76.results.toList = [.tmp 4] by kernel_rfl) rfl ((F76_eq sa sl sc ff fc g M R ).mpr hF)

/- 77 pilaster/scope.Order -/
noncomputable def c77 : Code := match Tryz.f77.body with
  | some c => c
  | none => .skip
noncomputable def cfg77 : Cfg := ⟨Tryz.prog, TT, FNS, [6], [(6, 6), (28, 6), (35, 6), (37, 6)], [4], TCH, false, false, none, PNF, false⟩
def an77 : AnnG := (.seq .leaf (.seq (.seq .leaf (.cond (.seq .leaf .leaf) .leaf)) (.seq (.seq .leaf (.cond (.seq .leaf .leaf) .leaf)) (.seq .leaf (.seq (.seq .leaf (.blk (.loop ⟨[(22, .int .i64)], [], []⟩ (.seq .leaf (.seq (.cond .leaf .leaf) (.seq (.blk (.seq .leaf (.seq (.seq .leaf (.seq .leaf (.cond (.seq .leaf .leaf) .leaf))) .leaf))) .leaf)))))) (.seq .leaf (.seq (.seq .leaf (.blk (.loop ⟨[(45, .int .i64)], [], []⟩ (.seq .leaf (.seq (.cond .leaf .leaf) (.seq (.blk (.seq .leaf (.seq .leaf (.cond (.seq .leaf .leaf) .leaf)))) .leaf)))))) (.seq .leaf (.seq (.blk (.loop ⟨[], [], []⟩ (.seq (.seq .leaf (.cond .leaf .leaf)) (.blk (.seq .leaf (.seq (.seq .leaf (.cond (.seq .leaf .leaf) .leaf)) (.tree 6 (.quiet 0 (.quiet 1 (.quiet 2 (.quiet 3 (.quiet 4 (.eff 5 .fin .fin))))))))))))) (.seq .leaf .leaf))))))))))
def F77 (la : Option Addr) (ll : Nat) (lc : Nat) (g : G) (R : Value → G → Prop) : Prop :=
  ifB (ltI (16 : Int) ((ll : Nat) : Int))
  (∀ g1 : G, Ex g g1 →
  R (.tuple ⟨[(.slice none 0 0), (.int .i64 (5 : Int))]⟩) g1)
  ((CallsP Tryz.prog 96 #[(.slice la ll lc), (.func (.func 97) #[] #[])] g fun v g2 =>
  ∃ x : Bool, v = (.bool x) ∧ ifB x
  (∀ g3 : G, Ex g2 g3 →
  R (.tuple ⟨[(.slice none 0 0), (.int .i64 (1 : Int))]⟩) g3)
  (∀ g4 : G, NewM g2 g4 →
  ∀ g5 : G, NewD g4 g5 81 [(.map none)] →
  stOk g5.w ⟨g4.w.heap.size, 0, none⟩ 1 ∧ ¬ g5.X (Addr.block ⟨g4.w.heap.size, 0, none⟩) ∧ mutAt g5 ⟨g4.w.heap.size, 0, none⟩ 1 ∧ ((Addr.block ⟨g4.w.heap.size, 0, none⟩) < g.w.heap.size → nobody (Addr.block ⟨g4.w.heap.size, 0, none⟩)) ∧ ∀ g6 : G, StG true g5 ⟨g4.w.heap.size, 0, none⟩ [(.map (some g2.w.heap.size))] g6 →
  ∃ Inv : Nat → Int → G → Prop, ((∃ m0 : Nat, Inv m0 (0 : Int) g6)) ∧
  ∀ m : Nat, ∀ v_1 : Int, ∀ g7 : G, Le g6 g7 → Inv m v_1 g7 →
  ifB (ltI v_1 ((ll : Nat) : Int))
  ((0 ≤ v_1 ∧ v_1 < ((ll : Nat) : Int)) ∧ derefP la fun ad => ∃ x0 : ByteArray, ∃ x1a : Option Addr, ∃ x1l : Nat, ∃ x1c : Nat, ∃ x2a : Option Addr, ∃ x2l : Nat, ∃ x2c : Nat, g7.w.cell? (Addr.add ad (Int.toNat v_1 * 3)) = some (.string x0) ∧ g7.w.cell? (Addr.add (Addr.add ad (Int.toNat v_1 * 3)) 1) = some (.slice x1a x1l x1c) ∧ g7.w.cell? (Addr.add (Addr.add ad (Int.toNat v_1 * 3)) 2) = some (.slice x2a x2l x2c) ∧ ∀ g8 : G, Ex g7 g8 →
  ∃ imports : Option Nat, g8.w.cell? ⟨g4.w.heap.size, 0, none⟩ = some (.map imports) ∧ ∃ x0a : Option Addr, ∃ x0l : Nat, ∃ x0c : Nat, ∃ x1 : Bool, ∃ wo1 : World, Sem.run Tryz.prog (Instr.lookup 81 (.map imports) (.string x0) true) g8.w = .ok (.tuple ⟨[(.slice x0a x0l x0c), (.bool x1)]⟩) wo1 ∧ ∃ g9 : G, g9.w = wo1 ∧ Stp g.w.heap.size nobody g8 g9 ∧ ifB x1
  (∀ g10 : G, Ex g9 g10 →
  R (.tuple ⟨[(.slice none 0 0), (.int .i64 (9 : Int))]⟩) g10)
  (∃ imports_1 : Option Nat, g9.w.cell? ⟨g4.w.heap.size, 0, none⟩ = some (.map imports_1) ∧ ∃ wo2 : World, Sem.run Tryz.prog (Instr.mapUpdate 81 (.map imports_1) (.string x0) (.slice x1a x1l x1c)) g9.w = .ok () wo2 ∧ ∃ g11 : G, g11.w = wo2 ∧ Stp g.w.heap.size nobody g9 g11 ∧ InI64 (v_1 + (1 : Int)) ∧ (∃ m_1 : Nat, m_1 < m ∧ Inv m_1 (v_1 + (1 : Int)) g11)))
  (∃ imports_2 : Option Nat, g7.w.cell? ⟨g4.w.heap.size, 0, none⟩ = some (.map imports_2) ∧ (CallsP Tryz.prog 100 #[(.map imports_2)] g7 fun v g12 =>
  ∃ xf : FuncId, ∃ xc : Array Value, v = (.func (.func xf) #[] xc) ∧ (CallsP Tryz.prog 99 #[(.func (.func xf) #[] xc)] g12 fun v g13 =>
  ∃ namesa : Option Addr, ∃ namesl : Nat, ∃ namesc : Nat, v = (.slice namesa namesl namesc) ∧ ∃ Inv_1 : Nat → Int → G → Prop, ((∃ m0 : Nat, Inv_1 m0 (0 : Int) g13)) ∧
  ∀ m_2 : Nat, ∀ v_2 : Int, ∀ g14 : G, Le g13 g14 → Inv_1 m_2 v_2 g14 →
  ifB (ltI v_2 ((namesl : Nat) : Int))
  ((0 ≤ v_2 ∧ v_2 < ((namesl : Nat) : Int)) ∧ derefP namesa fun ad_1 => ∃ n : ByteArray, g14.w.cell? (Addr.add ad_1 (Int.toNat v_2 * 1)) = some (.string n) ∧ ∃ imports_3 : Option Nat, g14.w.cell? ⟨g4.w.heap.size, 0, none⟩ = some (.map imports_3) ∧ ∃ xa : Option Addr, ∃ xl : Nat, ∃ xc_1 : Nat, ∃ wo3 : World, Sem.run Tryz.prog (Instr.lookup 81 (.map imports_3) (.string n) false) g14.w = .ok (.slice xa xl xc_1) wo3 ∧ ∃ g15 : G, g15.w = wo3 ∧ Stp g.w.heap.size nobody g14 g15 ∧ (CallsP Tryz.prog 61 #[(.slice xa xl xc_1), (.func (.func 101) #[] ⟨[(.pointer (some ⟨g4.w.heap.size, 0, none⟩))]⟩)] g15 fun v g16 =>
  ∃ x_1 : Bool, v = (.bool x_1) ∧ ifB x_1
  (∀ g17 : G, Ex g16 g17 →
  R (.tuple ⟨[(.slice none 0 0), (.int .i64 (17 : Int))]⟩) g17)
  (InI64 (v_2 + (1 : Int)) ∧ (∃ m_3 : Nat, m_3 < m_2 ∧ Inv_1 m_3 (v_2 + (1 : Int)) g16))))
  (∀ g18 : G, NewD g14 g18 30 [(.slice none 0 0)] →
  ∃ Inv_2 : Nat → G → Prop, ((∃ m0 : Nat, Inv_2 m0 g18)) ∧
  ∀ m_4 : Nat, ∀ g19 : G, Le g18 g19 → Inv_2 m_4 g19 →
  ∃ outa : Option Addr, ∃ outl : Nat, ∃ outc : Nat, g19.w.cell? ⟨g14.w.heap.size, 0, none⟩ = some (.slice outa outl outc) ∧ ifB (ltI ((outl : Nat) : Int) ((namesl : Nat) : Int))
  ((CallsP Tryz.prog 15 #[(.slice namesa namesl namesc), (.func (.func 102) #[] ⟨[(.pointer (some ⟨g14.w.heap.size, 0, none⟩)), (.pointer (some ⟨g4.w.heap.size, 0, none⟩))]⟩)] g19 fun v g20 =>
  ∃ i : Int, v = (.int .i64 i) ∧ ifB (ltI i (0 : Int))
  (∀ g21 : G, Ex g20 g21 →
  R (.tuple ⟨[(.slice none 0 0), (.int .i64 (21 : Int))]⟩) g21)
  (∀ g22 : G, Ex g20 g22 →
  ∃ outa_1 : Option Addr, ∃ outl_1 : Nat, ∃ outc_1 : Nat, g22.w.cell? ⟨g14.w.heap.size, 0, none⟩ = some (.slice outa_1 outl_1 outc_1) ∧ (0 ≤ i ∧ i < ((namesl : Nat) : Int)) ∧ derefP namesa fun ad_2 => ∃ x_2 : ByteArray, g22.w.cell? (Addr.add ad_2 (Int.toNat i * 1)) = some (.string x_2) ∧ ∀ g23 : G, NewL g22 g23 9 [(.string x_2)] →
  ∃ xa_1 : Option Addr, ∃ xl_1 : Nat, ∃ xc_2 : Nat, ∃ wo4 : World, Sem.run Tryz.prog (Builtin.append_ #[30, 30] 30 #[(.slice outa_1 outl_1 outc_1), (.slice (some ⟨g22.w.heap.size, 0, none⟩) 1 1)]) g23.w = .ok (.slice xa_1 xl_1 xc_2) wo4 ∧ ∃ g24 : G, g24.w = wo4 ∧ Stp g.w.heap.size nobody g23 g24 ∧ stOk g24.w ⟨g14.w.heap.size, 0, none⟩ 1 ∧ ¬ g24.X (Addr.block ⟨g14.w.heap.size, 0, none⟩) ∧ mutAt g24 ⟨g14.w.heap.size, 0, none⟩ 1 ∧ ((Addr.block ⟨g14.w.heap.size, 0, none⟩) < g.w.heap.size → nobody (Addr.block ⟨g14.w.heap.size, 0, none⟩)) ∧ ∀ g25 : G, StG false g24 ⟨g14.w.heap.size, 0, none⟩ [(.slice xa_1 xl_1 xc_2)] g25 →
  (∃ m_5 : Nat, m_5 < m_4 ∧ Inv_2 m_5 g25))))
  (∃ outa_2 : Option Addr, ∃ outl_2 : Nat, ∃ outc_2 : Nat, g19.w.cell? ⟨g14.w.heap.size, 0, none⟩ = some (.slice outa_2 outl_2 outc_2) ∧ ∀ g26 : G, Ex g19 g26 →
  R (.tuple ⟨[(.slice outa_2 outl_2 outc_2), (.int .i64 (0 : Int))]⟩) g26))))))))
theorem F77_eq (la : Option Addr) (ll : Nat) (lc : Nat) (g : G) (R : Value → G → Prop) : fnG cfg77 73 [.tmp 2, .tmp 3] c77 an77 [(.slice la ll lc)] g nobody R = F77 la ll lc g R := by kernel_rfl
theorem call77 (la : Option Addr) (ll : Nat) (lc : Nat) (g : G) (R : Value → G → Prop) (hF : F77 la ll lc g R) : CallsG Tryz.prog 77 #[(.slice la ll lc)] g nobody R :=
  fn_soundG (c := cfg77) TTok FNSok mixed Tryz.func77 (show Tryz.f77.body = some c77 by kernel_rfl) (show Tryz.f77.ntmps = 73 by kernel_rfl) (show Tryz.f77.results.toList = [.tmp 2, .tmp 3] by kernel_rfl) rfl ((F77_eq la ll lc g R ).mpr hF)

/- 82 internal/stringslite.HasPrefix -/
noncomputable def c82 : Code := match Tryz.f82.body with
  | some c => c
  | none => .skip
noncomputable def cfg82 : Cfg := ⟨Tryz.prog, TT, FNS, [], [], [], TCH, false, false, none, PNF, false⟩
def an82 : AnnG := (.seq .leaf (.seq .leaf .leaf))
def F82 (s : ByteArray) (prefix0 : ByteArray) (g : G) (R : Value → G → Prop) : Prop :=
  ifB (leI ((prefix0.size : Nat) : Int) ((s.size : Nat) : Int))
  ((0 ≤ ((prefix0.size : Nat) : Int) ∧ ((prefix0.size : Nat) : Int) ≤ ((s.size : Nat) : Int)) ∧ ∀ g1 : G, Ex g g1 →
  R (.bool (strEq (ByteArray.extract s 0 (Int.toNat ((prefix0.size : Nat) : Int))) prefix0)) g1)
  (∀ g2 : G, Ex g g2 →
  R (.bool false) g2)
theorem F82_eq (s : ByteArray) (prefix0 : ByteArray) (g : G) (R : Value → G → Prop) : fnG cfg82 18 [.tmp 4] c82 an82 [(.string s), (.string prefix0)] g nobody R = F82 s prefix0 g R := by kernel_rfl
theorem call82 (s : ByteArray) (prefix0 : ByteArray) (g : G) (R : Value → G → Prop) (hF : F82 s prefix0 g R) : CallsG Tryz.prog 82 #[(.string s), (.string prefix0)] g nobody R :=
  fn_soundG (c := cfg82) TTok FNSok mixed Tryz.func82 (show Tryz.f82.body = some c82 by kernel_rfl) (show Tryz.f82.ntmps = 18 by kernel_rfl) (show Tryz.f82.results.toList = [.tmp 4] by kernel_rfl) rfl ((F82_eq s prefix0 g R ).mpr hF)

/- 85 pilaster/recompile.digests$1 -/
noncomputable def c85 : Code := match Tryz.f85.body with
  | some c => c
  | none => .skip
noncomputable def cfg85 : Cfg := ⟨Tryz.prog, TT, FNS, [], [], [], TCH, false, false, none, PNF, false⟩
def an85 : AnnG := (.seq .leaf (.seq .leaf .leaf))
def F85 (s : ByteArray) (g : G) (R : Value → G → Prop) : Prop :=
  (CallsP Tryz.prog 63 #[(.string s)] g fun v g1 =>
  ∃ x : Bool, v = (.bool x) ∧ ∀ g2 : G, Ex g1 g2 →
  R (.bool (!x)) g2)
theorem F85_eq (s : ByteArray) (g : G) (R : Value → G → Prop) : fnG cfg85 6 [.tmp 2] c85 an85 [(.string s)] g nobody R = F85 s g R := by kernel_rfl
theorem call85 (s : ByteArray) (g : G) (R : Value → G → Prop) (hF : F85 s g R) : CallsG Tryz.prog 85 #[(.string s)] g nobody R :=
  fn_soundG (c := cfg85) TTok FNSok mixed Tryz.func85 (show Tryz.f85.body = some c85 by kernel_rfl) (show Tryz.f85.ntmps = 6 by kernel_rfl) (show Tryz.f85.results.toList = [.tmp 2] by kernel_rfl) rfl ((F85_eq s g R ).mpr hF)

/- 86 (*pilaster/recompile.graph).needs -/
noncomputable def c86 : Code := match Tryz.f86.body with
  | some c => c
  | none => .skip
noncomputable def cfg86 : Cfg := ⟨Tryz.prog, TT, FNS, [], [(1000040, 108)], [], TCH, false, false, none, PNF, false⟩
def an86 : AnnG := (.seq .leaf (.seq .leaf (.seq (.seq .leaf (.blk (.loop ⟨[(15, .int .i64)], [], []⟩ (.seq .leaf (.seq (.cond .leaf .leaf) (.seq (.blk (.seq .leaf (.seq .leaf (.seq .leaf (.blk (.loop ⟨[(29, .int .i64)], [], []⟩ (.seq .leaf (.seq (.cond .leaf .leaf) (.seq (.blk (.seq .leaf (.seq .leaf (.seq .leaf (.blk (.loop ⟨[], [], []⟩ (.seq .leaf (.seq (.cond .leaf .leaf) (.blk (.seq .leaf .leaf)))))))))) .leaf))))))))) .leaf)))))) (.seq .leaf .leaf))))
def F86 (g_1 : Option Addr) (g : G) (R : Value → G → Prop) : Prop :=
  ∀ g1 : G, NewM g g1 →
  derefP g_1 fun ad => ∃ xa : Option Addr, ∃ xl : Nat, ∃ xc : Nat, g1.w.cell? ad = some (.slice xa xl xc) ∧ ∃ Inv : Nat → Int → G → Prop, ((∃ m0 : Nat, Inv m0 (0 : Int) g1)) ∧
  ∀ m : Nat, ∀ v_1 : Int, ∀ g2 : G, Le g1 g2 → Inv m v_1 g2 →
  ifB (ltI v_1 ((xl : Nat) : Int))
  ((0 ≤ v_1 ∧ v_1 < ((xl : Nat) : Int)) ∧ derefP xa fun ad_1 => ∃ name : ByteArray, g2.w.cell? (Addr.add ad_1 (Int.toNat v_1 * 1)) = some (.string name) ∧ ∀ g3 : G, NewM g2 g3 →
  ∃ wo1 : World, Sem.run Tryz.prog (Instr.mapUpdate 107 (.map (some g.w.heap.size)) (.string name) (.map (some g2.w.heap.size))) g3.w = .ok () wo1 ∧ ∃ g4 : G, g4.w = wo1 ∧ Stp g.w.heap.size nobody g3 g4 ∧ derefP g_1 fun ad_2 => ∃ x : Option Nat, g4.w.cell? (Addr.add ad_2 1) = some (.map x) ∧ ∃ xa_1 : Option Addr, ∃ xl_1 : Nat, ∃ xc_1 : Nat, ∃ wo2 : World, Sem.run Tryz.prog (Instr.lookup 81 (.map x) (.string name) false) g4.w = .ok (.slice xa_1 xl_1 xc_1) wo2 ∧ ∃ g5 : G, g5.w = wo2 ∧ Stp g.w.heap.size nobody g4 g5 ∧ ∃ Inv_1 : Nat → Int → G → Prop, ((∃ m0 : Nat, Inv_1 m0 (0 : Int) g5)) ∧
  ∀ m_2 : Nat, ∀ v_2 : Int, ∀ g6 : G, Le g5 g6 → Inv_1 m_2 v_2 g6 →
  ifB (ltI v_2 ((xl_1 : Nat) : Int))
  ((0 ≤ v_2 ∧ v_2 < ((xl_1 : Nat) : Int)) ∧ derefP xa_1 fun ad_3 => ∃ s : ByteArray, g6.w.cell? (Addr.add ad_3 (Int.toNat v_2 * 1)) = some (.string s) ∧ ∃ x_1 : Option Nat, ∃ wo3 : World, Sem.run Tryz.prog (Instr.lookup 107 (.map (some g.w.heap.size)) (.string name) false) g6.w = .ok (.map x_1) wo3 ∧ ∃ g7 : G, g7.w = wo3 ∧ Stp g.w.heap.size nobody g6 g7 ∧ ∃ wo4 : World, Sem.run Tryz.prog (Instr.mapUpdate 108 (.map x_1) (.string s) (.bool true)) g7.w = .ok () wo4 ∧ ∃ g8 : G, g8.w = wo4 ∧ Stp g.w.heap.size nobody g7 g8 ∧ ∃ x_2 : Option Nat, ∃ wo5 : World, Sem.run Tryz.prog (Instr.lookup 107 (.map (some g.w.heap.size)) (.string s) false) g8.w = .ok (.map x_2) wo5 ∧ ∃ g9 : G, g9.w = wo5 ∧ Stp g.w.heap.size nobody g8 g9 ∧ ∃ x_3 : Option Addr, ∃ wo6 : World, Sem.run Tryz.prog (Instr.range 108 (.map x_2)) g9.w = .ok (.pointer x_3) wo6 ∧ ∃ g10 : G, g10.w = wo6 ∧ Stp g.w.heap.size nobody g9 g10 ∧ ∃ Inv_2 : Nat → G → Prop, ((∃ m0 : Nat, Inv_2 m0 g10)) ∧
  ∀ m_4 : Nat, ∀ g11 : G, Le g10 g11 → Inv_2 m_4 g11 →
  (∃ wo7 : World, Sem.run Tryz.prog (Instr.next (.pointer x_3) false 0) g11.w = .ok (.tuple ⟨[(.bool false)]⟩) wo7 ∧ ∃ g12 : G, g12.w = wo7 ∧ Stp g.w.heap.size nobody g11 g12 ∧ InI64 (v_2 + (1 : Int)) ∧ (∃ m_3 : Nat, m_3 < m_2 ∧ Inv_1 m_3 (v_2 + (1 : Int)) g12)) ∨
  (∃ x0 : Bool, ∃ x1 : ByteArray, ∃ x2 : Bool, ∃ wo8 : World, Sem.run Tryz.prog (Instr.next (.pointer x_3) false 0) g11.w = .ok (.tuple ⟨[(.bool x0), (.string x1), (.bool x2)]⟩) wo8 ∧ ∃ g13 : G, g13.w = wo8 ∧ Stp g.w.heap.size nobody g11 g13 ∧ ifB x0
  (∃ x0_1 : ByteArray, ∃ x1_1 : Bool, ∃ wo9 : World, Sem.run Tryz.prog (Instr.entry (.pointer x_3)) g13.w = .ok (.tuple ⟨[(.string x0_1), (.bool x1_1)]⟩) wo9 ∧ ∃ g14 : G, g14.w = wo9 ∧ Stp g.w.heap.size nobody g13 g14 ∧ ∃ x_4 : Option Nat, ∃ wo10 : World, Sem.run Tryz.prog (Instr.lookup 107 (.map (some g.w.heap.size)) (.string name) false) g14.w = .ok (.map x_4) wo10 ∧ ∃ g15 : G, g15.w = wo10 ∧ Stp g.w.heap.size nobody g14 g15 ∧ ∃ wo11 : World, Sem.run Tryz.prog (Instr.mapUpdate 108 (.map x_4) (.string x0_1) (.bool true)) g15.w = .ok () wo11 ∧ ∃ g16 : G, g16.w = wo11 ∧ Stp g.w.heap.size nobody g15 g16 ∧ (∃ m_5 : Nat, m_5 < m_4 ∧ Inv_2 m_5 g16))
  (InI64 (v_2 + (1 : Int)) ∧ (∃ m_3 : Nat, m_3 < m_2 ∧ Inv_1 m_3 (v_2 + (1 : Int)) g13))))
  (InI64 (v_1 + (1 : Int)) ∧ (∃ m_1 : Nat, m_1 < m ∧ Inv m_1 (v_1 + (1 : Int)) g6)))
  (∀ g17 : G, Ex g2 g17 →
  R (.map (some g.w.heap.size)) g17)
theorem F86_eq (g_1 : Option Addr) (g : G) (R : Value → G → Prop) : fnG cfg86 52 [.tmp 2] c86 an86 [(.pointer g_1)] g nobody R = F86 g_1 g R := by kernel_rfl
theorem call86 (g_1 : Option Addr) (g : G) (R : Value → G → Prop) (hF : F86 g_1 g R) : CallsG Tryz.prog 86 #[(.pointer g_1)] g nobody R :=
  fn_soundG (c := cfg86) TTok FNSok mixed Tryz.func86 (show Tryz.f86.body = some c86 by kernel_rfl) (show Tryz.f86.ntmps = 52 by kernel_rfl) (show Tryz.f86.results.toList = [.tmp 2] by kernel_rfl) rfl ((F86_eq g_1 g R ).mpr hF)

/- 87 pilaster/pilasterref07.Unit -/
/- 88 pilaster/pilasterref07.twice -/
/- 89 pilaster/pilasterref07.Has -/
/- 90 pilaster/pilasterref41.Needs -/
/- 91 pilaster/pilasterref01.Same -/
/- 92 pilaster/ident.name -/
noncomputable def c92 : Code := match Tryz.f92.body with
  | some c => c
  | none => .skip
noncomputable def cfg92 : Cfg := ⟨Tryz.prog, TT, FNS, [], [], [], TCH, false, false, none, PNF, false⟩
def an92 : AnnG := (.seq .leaf (.join ⟨[], [], []⟩ (.seq .leaf (.cond (.seq .leaf .leaf) .leaf)) (.seq (.seq .leaf (.blk (.loop ⟨[(25, .int .i64)], [], []⟩ (.seq .leaf (.seq (.cond .leaf .leaf) (.seq (.blk (.seq .leaf (.seq .leaf (.seq .leaf (.cond (.seq .leaf .leaf) .leaf))))) .leaf)))))) (.seq .leaf .leaf))))
def F92 (s : ByteArray) (first : Int) (g : G) (R : Value → G → Prop) : Prop :=
  ∀ J : G → Prop,
  (∀ g1 : G, (∃ xa : Option Addr, ∃ xl : Nat, ∃ xc : Nat, ∃ wo1 : World, Sem.run Tryz.prog (convert 9 90 (.string s)) g1.w = .ok (.slice xa xl xc) wo1 ∧ ∃ g2 : G, g2.w = wo1 ∧ Stp g.w.heap.size nobody g1 g2 ∧ ∃ Inv : Nat → Int → G → Prop, ((∃ m0 : Nat, Inv m0 (0 : Int) g2)) ∧
  ∀ m : Nat, ∀ v_1 : Int, ∀ g3 : G, Le g2 g3 → Inv m v_1 g3 →
  ifB (ltI v_1 ((xl : Nat) : Int))
  ((0 ≤ v_1 ∧ v_1 < ((xl : Nat) : Int)) ∧ derefP xa fun ad => ∃ c : Int, g3.w.cell? (Addr.add ad (Int.toNat v_1 * 1)) = some (.int .u8 c) ∧ (CallsP Tryz.prog 118 #[(.int .u8 c)] g3 fun v g4 =>
  ∃ k : Int, v = (.int .i64 k) ∧ ifB (eqI k (0 : Int))
  (∀ g5 : G, Ex g4 g5 →
  R (.bool false) g5)
  (ifB (eqI k (5 : Int))
  (∀ g6 : G, Ex g4 g6 →
  R (.bool false) g6)
  (InI64 (v_1 + (1 : Int)) ∧ (∃ m_1 : Nat, m_1 < m ∧ Inv m_1 (v_1 + (1 : Int)) g4)))))
  (∀ g7 : G, Ex g3 g7 →
  R (.bool true) g7)) → J g1) →
  ifB (strEq s (bs []))
  (∀ g8 : G, Ex g g8 →
  R (.bool false) g8)
  (ifB (ltI (24 : Int) ((s.size : Nat) : Int))
  (∀ g9 : G, Ex g g9 →
  R (.bool false) g9)
  (∃ b : UInt8, (0 ≤ (0 : Int) ∧ s[Int.toNat (0 : Int)]? = some b) ∧ (CallsP Tryz.prog 118 #[(.int .u8 ((b.toNat : Nat) : Int))] g fun v g10 =>
  ∃ x : Int, v = (.int .i64 x) ∧ ifB (!eqI x first)
  (∀ g11 : G, Ex g10 g11 →
  R (.bool false) g11)
  (J g10))))
theorem F92_eq (s : ByteArray) (first : Int) (g : G) (R : Value → G → Prop) : fnG cfg92 38 [.tmp 4] c92 an92 [(.string s), (.int .i64 first)] g nobody R = F92 s first g R := by kernel_rfl
theorem call92 (s : ByteArray) (first : Int) (g : G) (R : Value → G → Prop) (hF : F92 s first g R) : CallsG Tryz.prog 92 #[(.string s), (.int .i64 first)] g nobody R :=
  fn_soundG (c := cfg92) TTok FNSok mixed Tryz.func92 (show Tryz.f92.body = some c92 by kernel_rfl) (show Tryz.f92.ntmps = 38 by kernel_rfl) (show Tryz.f92.results.toList = [.tmp 4] by kernel_rfl) rfl ((F92_eq s first g R ).mpr hF)

/- 93 slices.Index[[]string,string] -/
noncomputable def c93 : Code := match Tryz.f93.body with
  | some c => c
  | none => .skip
noncomputable def cfg93 : Cfg := ⟨Tryz.prog, TT, FNS, [], [], [], TCH, false, false, none, PNF, false⟩
def an93 : AnnG := (.seq .leaf (.seq (.seq .leaf (.blk (.loop ⟨[(8, .int .i64)], [], []⟩ (.seq .leaf (.seq (.cond .leaf .leaf) (.seq (.blk (.seq .leaf (.seq .leaf (.cond (.seq .leaf .leaf) .leaf)))) .leaf)))))) (.seq .leaf .leaf)))
def F93 (sa : Option Addr) (sl : Nat) (sc : Nat) (v_1 : ByteArray) (g : G) (R : Value → G → Prop) : Prop :=
  ∃ Inv : Nat → Int → G → Prop, ((∃ m0 : Nat, Inv m0 (0 : Int) g)) ∧
  ∀ m : Nat, ∀ v_2 : Int, ∀ g1 : G, Le g g1 → Inv m v_2 g1 →
  ifB (ltI v_2 ((sl : Nat) : Int))
  ((0 ≤ v_2 ∧ v_2 < ((sl : Nat) : Int)) ∧ derefP sa fun ad => ∃ x : ByteArray, g1.w.cell? (Addr.add ad (Int.toNat v_2 * 1)) = some (.string x) ∧ ifB (strEq v_1 x)
  (∀ g2 : G, Ex g1 g2 →
  R (.int .i64 v_2) g2)
  (InI64 (v_2 + (1 : Int)) ∧ (∃ m_1 : Nat, m_1 < m ∧ Inv m_1 (v_2 + (1 : Int)) g1)))
  (∀ g3 : G, Ex g1 g3 →
  R (.int .i64 (-1 : Int)) g3)
theorem F93_eq (sa : Option Addr) (sl : Nat) (sc : Nat) (v_1 : ByteArray) (g : G) (R : Value → G → Prop) : fnG cfg93 19 [.tmp 4] c93 an93 [(.slice sa sl sc), (.string v_1)] g nobody R = F93 sa sl sc v_1 g R := by kernel_rfl
theorem call93 (sa : Option Addr) (sl : Nat) (sc : Nat) (v_1 : ByteArray) (g : G) (R : Value → G → Prop) (hF : F93 sa sl sc v_1 g R) : CallsG Tryz.prog 93 #[(.slice sa sl sc), (.string v_1)] g nobody R :=
  fn_soundG (c := cfg93) TTok FNSok mixed Tryz.func93 (show Tryz.f93.body = some c93 by kernel_rfl) (show Tryz.f93.ntmps = 19 by kernel_rfl) (show Tryz.f93.results.toList = [.tmp 4] by kernel_rfl) rfl ((F93_eq sa sl sc v_1 g R ).mpr hF)

/- 94 pilaster/pilasterref01.Word -/
/- 95 pilaster/pilasterref01.Capital -/
/- 96 slices.ContainsFunc[[]pilaster/api.Unit,pilaster/api.Unit] -/
noncomputable def c96 : Code := match Tryz.f96.body with
  | some c => c
  | none => .skip
noncomputable def cfg96 : Cfg := ⟨Tryz.prog, TT, FNS, [], [], [], TCH, false, false, none, PNF, false⟩
def an96 : AnnG := (.seq .leaf (.seq .leaf .leaf))
def F96 (sa : Option Addr) (sl : Nat) (sc : Nat) (ff : FuncId) (fc : Array Value) (g : G) (R : Value → G → Prop) : Prop :=
  (CallsP Tryz.prog 17 #[(.slice sa sl sc), (.func (.func ff) #[] fc)] g fun v g1 =>
  ∃ x : Int, v = (.int .i64 x) ∧ ∀ g2 : G, Ex g1 g2 →
  R (.bool (leI (0 : Int) x)) g2)
theorem F96_eq (sa : Option Addr) (sl : Nat) (sc : Nat) (ff : FuncId) (fc : Array Value) (g : G) (R : Value → G → Prop) : fnG cfg96 9 [.tmp 4] c96 an96 [(.slice sa sl sc), (.func (.func ff) #[] fc)] g nobody R = F96 sa sl sc ff fc g R := by kernel_rfl
theorem call96 (sa : Option Addr) (sl : Nat) (sc : Nat) (ff : FuncId) (fc : Array Value) (g : G) (R : Value → G → Prop) (hF : F96 sa sl sc ff fc g R) : CallsG Tryz.prog 96 #[(.slice sa sl sc), (.func (.func ff) #[] fc)] g nobody R :=
  fn_soundG (c := cfg96) TTok FNSok mixed Tryz.func96 (show Tryz.f96.body = some c96 by kernel_rfl) (show Tryz.f96.ntmps = 9 by kernel_rfl) (show Tryz.f96.results.toList = [.tmp 4] by kernel_rfl) rfl ((F96_eq sa sl sc ff fc g R ).mpr hF)

/- 97 pilaster/scope.Order$1 -/
noncomputable def c97 : Code := match Tryz.f97.body with
  | some c => c
  | none => .skip
noncomputable def cfg97 : Cfg := ⟨Tryz.prog, TT, FNS, [1], [(1, 1)], [], TCH, false, false, none, PNF, false⟩
def an97 : AnnG := (.seq .leaf (.seq .leaf .leaf))
def F97 (u0 : ByteArray) (u1a : Option Addr) (u1l : Nat) (u1c : Nat) (u2a : Option Addr) (u2l : Nat) (u2c : Nat) (g : G) (R : Value → G → Prop) : Prop :=
  ∀ g1 : G, Ex g g1 →
  (CallsP Tryz.prog 98 #[(.agg ⟨[(.string u0), (.slice u1a u1l u1c), (.slice u2a u2l u2c)]⟩)] g1 fun v g2 =>
  ∃ x : Bool, v = (.bool x) ∧ ∀ g3 : G, Ex g2 g3 →
  R (.bool (!x)) g3)
theorem F97_eq (u0 : ByteArray) (u1a : Option Addr) (u1l : Nat) (u1c : Nat) (u2a : Option Addr) (u2l : Nat) (u2c : Nat) (g : G) (R : Value → G → Prop) : fnG cfg97 6 [.tmp 2] c97 an97 [(.agg ⟨[(.string u0), (.slice u1a u1l u1c), (.slice u2a u2l u2c)]⟩)] g nobody R = F97 u0 u1a u1l u1c u2a u2l u2c g R := by kernel_rfl
theorem call97 (u0 : ByteArray) (u1a : Option Addr) (u1l : Nat) (u1c : Nat) (u2a : Option Addr) (u2l : Nat) (u2c : Nat) (g : G) (R : Value → G → Prop) (hF : F97 u0 u1a u1l u1c u2a u2l u2c g R) : CallsG Tryz.prog 97 #[(.agg ⟨[(.string u0), (.slice u1a u1l u1c), (.slice u2a u2l u2c)]⟩)] g nobody R :=
  fn_soundG (c := cfg97) TTok FNSok mixed Tryz.func97 (show Tryz.f97.body = some c97 by kernel_rfl) (show Tryz.f97.ntmps = 6 by kernel_rfl) (show Tryz.f97.results.toList = [.tmp 2] by kernel_rfl) rfl ((F97_eq u0 u1a u1l u1c u2a u2l u2c g R ).mpr hF)

/- 98 pilaster/scope.valid -/
noncomputable def c98 : Code := match Tryz.f98.body with
  | some c => c
  | none => .skip
noncomputable def cfg98 : Cfg := ⟨Tryz.prog, TT, FNS, [1], [(1, 1), (5, 1), (10, 1), (15, 1), (28, 1), (33, 1), (41, 1)], [], TCH, false, false, none, PNF, false⟩
def an98 : AnnG := (.seq .leaf (.join ⟨[], [], []⟩ (.seq .leaf (.cond (.seq .leaf .leaf) .leaf)) (.seq (.seq .leaf (.blk (.loop ⟨[(18, .int .i64)], [], []⟩ (.seq .leaf (.seq (.cond .leaf .leaf) (.seq (.blk (.seq .leaf (.seq .leaf (.cond (.seq .leaf .leaf) .leaf)))) .leaf)))))) (.seq .leaf .leaf))))
def F98 (u0 : ByteArray) (u1a : Option Addr) (u1l : Nat) (u1c : Nat) (u2a : Option Addr) (u2l : Nat) (u2c : Nat) (g : G) (R : Value → G → Prop) : Prop :=
  ∀ J : G → Prop,
  (∀ g1 : G, (∃ Inv : Nat → Int → G → Prop, ((∃ m0 : Nat, Inv m0 (0 : Int) g1)) ∧
  ∀ m : Nat, ∀ v_1 : Int, ∀ g2 : G, Le g1 g2 → Inv m v_1 g2 →
  ifB (ltI v_1 ((u1l : Nat) : Int))
  ((0 ≤ v_1 ∧ v_1 < ((u1l : Nat) : Int)) ∧ derefP u1a fun ad => ∃ s : ByteArray, g2.w.cell? (Addr.add ad (Int.toNat v_1 * 1)) = some (.string s) ∧ (CallsP Tryz.prog 69 #[(.string s)] g2 fun v g3 =>
  ∃ x : Bool, v = (.bool x) ∧ ifB (!x)
  (∀ g4 : G, Ex g3 g4 →
  R (.bool false) g4)
  (ifB (strEq s u0)
  (∀ g5 : G, Ex g3 g5 →
  R (.bool false) g5)
  ((0 ≤ v_1 ∧ v_1 ≤ ((u1c : Nat) : Int)) ∧ (CallsP Tryz.prog 70 #[(.slice (slAddr u1a u1c 0 1) ((Int.toNat v_1) - 0) (u1c - 0)), (.string s)] g3 fun v g6 =>
  ∃ x_1 : Bool, v = (.bool x_1) ∧ ifB x_1
  (∀ g7 : G, Ex g6 g7 →
  R (.bool false) g7)
  (InI64 (v_1 + (1 : Int)) ∧ (∃ m_1 : Nat, m_1 < m ∧ Inv m_1 (v_1 + (1 : Int)) g6)))))))
  ((CallsP Tryz.prog 120 #[(.int .i64 (7 : Int)), (.agg ⟨[(.int .i64 (81 : Int)), (.int .i64 (0 : Int)), (.string (bs [])), (.slice none 0 0), (.slice u2a u2l u2c)]⟩)] g2 fun v g8 =>
  ∃ x_2 : Bool, v = (.bool x_2) ∧ ∀ g9 : G, Ex g8 g9 →
  R (.bool x_2) g9))) → J g1) →
  ∀ g10 : G, Ex g g10 →
  (CallsP Tryz.prog 69 #[(.string u0)] g10 fun v g11 =>
  ∃ x_3 : Bool, v = (.bool x_3) ∧ ifB (!x_3)
  (∀ g12 : G, Ex g11 g12 →
  R (.bool false) g12)
  (ifB (ltI (16 : Int) ((u1l : Nat) : Int))
  (∀ g13 : G, Ex g11 g13 →
  R (.bool false) g13)
  (J g11)))
theorem F98_eq (u0 : ByteArray) (u1a : Option Addr) (u1l : Nat) (u1c : Nat) (u2a : Option Addr) (u2l : Nat) (u2c : Nat) (g : G) (R : Value → G → Prop) : fnG cfg98 45 [.tmp 2] c98 an98 [(.agg ⟨[(.string u0), (.slice u1a u1l u1c), (.slice u2a u2l u2c)]⟩)] g nobody R = F98 u0 u1a u1l u1c u2a u2l u2c g R := by kernel_rfl
theorem call98 (u0 : ByteArray) (u1a : Option Addr) (u1l : Nat) (u1c : Nat) (u2a : Option Addr) (u2l : Nat) (u2c : Nat) (g : G) (R : Value → G → Prop) (hF : F98 u0 u1a u1l u1c u2a u2l u2c g R) : CallsG Tryz.prog 98 #[(.agg ⟨[(.string u0), (.slice u1a u1l u1c), (.slice u2a u2l u2c)]⟩)] g nobody R :=
  fn_soundG (c := cfg98) TTok FNSok mixed Tryz.func98 (show Tryz.f98.body = some c98 by kernel_rfl) (show Tryz.f98.ntmps = 45 by kernel_rfl) (show Tryz.f98.results.toList = [.tmp 2] by kernel_rfl) rfl ((F98_eq u0 u1a u1l u1c u2a u2l u2c g R ).mpr hF)

/- 99 slices.Sorted[string] -/
/- 100 maps.Keys[map[string][]string,string,[]string] -/
noncomputable def c100 : Code := match Tryz.f100.body with
  | some c => c
  | none => .skip
noncomputable def cfg100 : Cfg := ⟨Tryz.prog, TT, FNS, [], [], [1], TCH, false, false, none, PNF, false⟩
def an100 : AnnG := (.seq .leaf (.seq .leaf .leaf))
def F100 (m : Option Nat) (g : G) (R : Value → G → Prop) : Prop :=
  ∀ g1 : G, NewL g g1 81 ([(.map m)] : List Value) →
  ∀ g2 : G, Ex g1 g2 →
  R (.func (.func 122) #[] ⟨[(.pointer (some ⟨g.w.heap.size, 0, none⟩))]⟩) g2
theorem F100_eq (m : Option Nat) (g : G) (R : Value → G → Prop) : fnG cfg100 4 [.tmp 2] c100 an100 [(.map m)] g nobody R = F100 m g R := by kernel_rfl
theorem call100 (m : Option Nat) (g : G) (R : Value → G → Prop) (hF : F100 m g R) : CallsG Tryz.prog 100 #[(.map m)] g nobody R :=
  fn_soundG (c := cfg100) TTok FNSok mixed Tryz.func100 (show Tryz.f100.body = some c100 by kernel_rfl) (show Tryz.f100.ntmps = 4 by kernel_rfl) (show Tryz.f100.results.toList = [.tmp 2] by kernel_rfl) rfl ((F100_eq m g R ).mpr hF)

/- 101 pilaster/scope.Order$2 -/
noncomputable def c101 : Code := match Tryz.f101.body with
  | some c => c
  | none => .skip
noncomputable def cfg101 : Cfg := ⟨Tryz.prog, TT, FNS, [], [], [], TCH, false, false, none, PNF, false⟩
def an101 : AnnG := (.seq .leaf (.seq .leaf (.seq .leaf .leaf)))
def F101 (s : ByteArray) (c0 : Option Addr) (g : G) (R : Value → G → Prop) : Prop :=
  derefP c0 fun ad => ∃ x : Option Nat, g.w.cell? ad = some (.map x) ∧ ∃ x0a : Option Addr, ∃ x0l : Nat, ∃ x0c : Nat, ∃ x1 : Bool, ∃ wo1 : World, Sem.run Tryz.prog (Instr.lookup 81 (.map x) (.string s) true) g.w = .ok (.tuple ⟨[(.slice x0a x0l x0c), (.bool x1)]⟩) wo1 ∧ ∃ g1 : G, g1.w = wo1 ∧ Stp g.w.heap.size nobody g g1 ∧ ∀ g2 : G, Ex g1 g2 →
  R (.bool (!x1)) g2
theorem F101_eq (s : ByteArray) (c0 : Option Addr) (g : G) (R : Value → G → Prop) : fnG cfg101 14 [.tmp 3] c101 an101 [(.string s), (.pointer c0)] g nobody R = F101 s c0 g R := by kernel_rfl
theorem call101 (s : ByteArray) (c0 : Option Addr) (g : G) (R : Value → G → Prop) (hF : F101 s c0 g R) : CallsG Tryz.prog 101 #[(.string s), (.pointer c0)] g nobody R :=
  fn_soundG (c := cfg101) TTok FNSok mixed Tryz.func101 (show Tryz.f101.body = some c101 by kernel_rfl) (show Tryz.f101.ntmps = 14 by kernel_rfl) (show Tryz.f101.results.toList = [.tmp 3] by kernel_rfl) rfl ((F101_eq s c0 g R ).mpr hF)

/- 102 pilaster/scope.Order$3 -/
noncomputable def c102 : Code := match Tryz.f102.body with
  | some c => c
  | none => .skip
noncomputable def cfg102 : Cfg := ⟨Tryz.prog, TT, FNS, [], [], [], TCH, false, false, none, PNF, false⟩
def an102 : AnnG := (.seq .leaf (.seq .leaf .leaf))
def F102 (n : ByteArray) (c0 : Option Addr) (c1 : Option Addr) (g : G) (R : Value → G → Prop) : Prop :=
  derefP c0 fun ad => ∃ xa : Option Addr, ∃ xl : Nat, ∃ xc : Nat, g.w.cell? ad = some (.slice xa xl xc) ∧ (CallsP Tryz.prog 70 #[(.slice xa xl xc), (.string n)] g fun v g1 =>
  ∃ x : Bool, v = (.bool x) ∧ ifB (!x)
  (derefP c1 fun ad_1 => ∃ x_1 : Option Nat, g1.w.cell? ad_1 = some (.map x_1) ∧ ∃ xa_1 : Option Addr, ∃ xl_1 : Nat, ∃ xc_1 : Nat, ∃ wo1 : World, Sem.run Tryz.prog (Instr.lookup 81 (.map x_1) (.string n) false) g1.w = .ok (.slice xa_1 xl_1 xc_1) wo1 ∧ ∃ g2 : G, g2.w = wo1 ∧ Stp g.w.heap.size nobody g1 g2 ∧ (CallsP Tryz.prog 61 #[(.slice xa_1 xl_1 xc_1), (.func (.func 103) #[] ⟨[(.pointer c0)]⟩)] g2 fun v g3 =>
  ∃ x_2 : Bool, v = (.bool x_2) ∧ ∀ g4 : G, Ex g3 g4 →
  R (.bool (!x_2)) g4))
  (∀ g5 : G, Ex g1 g5 →
  R (.bool false) g5))
theorem F102_eq (n : ByteArray) (c0 : Option Addr) (c1 : Option Addr) (g : G) (R : Value → G → Prop) : fnG cfg102 17 [.tmp 4] c102 an102 [(.string n), (.pointer c0), (.pointer c1)] g nobody R = F102 n c0 c1 g R := by kernel_rfl
theorem call102 (n : ByteArray) (c0 : Option Addr) (c1 : Option Addr) (g : G) (R : Value → G → Prop) (hF : F102 n c0 c1 g R) : CallsG Tryz.prog 102 #[(.string n), (.pointer c0), (.pointer c1)] g nobody R :=
  fn_soundG (c := cfg102) TTok FNSok mixed Tryz.func102 (show Tryz.f102.body = some c102 by kernel_rfl) (show Tryz.f102.ntmps = 17 by kernel_rfl) (show Tryz.f102.results.toList = [.tmp 4] by kernel_rfl) rfl ((F102_eq n c0 c1 g R ).mpr hF)

/- 103 pilaster/scope.Order$3$1 -/
noncomputable def c103 : Code := match Tryz.f103.body with
  | some c => c
  | none => .skip
noncomputable def cfg103 : Cfg := ⟨Tryz.prog, TT, FNS, [], [], [], TCH, false, false, none, PNF, false⟩
def an103 : AnnG := (.seq .leaf (.seq .leaf .leaf))
def F103 (s : ByteArray) (c0 : Option Addr) (g : G) (R : Value → G → Prop) : Prop :=
  derefP c0 fun ad => ∃ xa : Option Addr, ∃ xl : Nat, ∃ xc : Nat, g.w.cell? ad = some (.slice xa xl xc) ∧ (CallsP Tryz.prog 70 #[(.slice xa xl xc), (.string s)] g fun v g1 =>
  ∃ x : Bool, v = (.bool x) ∧ ∀ g2 : G, Ex g1 g2 →
  R (.bool (!x)) g2)
theorem F103_eq (s : ByteArray) (c0 : Option Addr) (g : G) (R : Value → G → Prop) : fnG cfg103 8 [.tmp 3] c103 an103 [(.string s), (.pointer c0)] g nobody R = F103 s c0 g R := by kernel_rfl
theorem call103 (s : ByteArray) (c0 : Option Addr) (g : G) (R : Value → G → Prop) (hF : F103 s c0 g R) : CallsG Tryz.prog 103 #[(.string s), (.pointer c0)] g nobody R :=
  fn_soundG (c := cfg103) TTok FNSok mixed Tryz.func103 (show Tryz.f103.body = some c103 by kernel_rfl) (show Tryz.f103.ntmps = 8 by kernel_rfl) (show Tryz.f103.results.toList = [.tmp 3] by kernel_rfl) rfl ((F103_eq s c0 g R ).mpr hF)

/- 117 pilaster/pilasterref03.Valid -/
end Go.Proofs.YtmkdbndniffkfaaGreatDoor
