/- Printed by a program (wip/tools/genbody.py): the condition of the body of a range over a function. -/
import Derived.Test.YtcpclpkcanikiaaFn49
import Derived.Test.YtcpclpkcanikiaaVr
namespace Go.Proofs.Ytcpclpkcanikiaa
open Go Go.Vc Go.RowKit
set_option maxRecDepth 100000
set_option linter.unusedVariables false
def rfBody : Code → Option Code
  | .rangeFunc _ _ _ b => some b
  | .seq a b => match rfBody a with
    | some c => some c
    | none => rfBody b
  | .block _ b => rfBody b
  | _ => none
noncomputable def c94b : Code := match Try.f94.body with
  | some c => match rfBody c with
    | some b => b
    | none => .skip
  | none => .skip
noncomputable def cfg94b : Cfg := ⟨Try.prog, TT, FNS, [], [], [], TCH, false, false⟩
def an94b : AnnG := (.blk (.seq (.seq (.tree 19 (.quiet 0 (.quiet 1 (.quiet 2 (.quiet 3 (.quiet 4 (.quiet 5 (.quiet 6 (.quiet 7 (.quiet 8 (.quiet 9 (.quiet 10 (.quiet 11 (.quiet 12 (.quiet 13 (.quiet 14 (.quiet 15 (.quiet 16 (.quiet 17 (.eff 18 .fin .fin)))))))))))))))))))) (.cond (.seq .leaf .leaf) .leaf)) .leaf))
def F94b (b1 : Nat) (b2 : Nat) (b3 : Nat) (b4 : Nat) (q : Int) (n : Int) (g : G) (M : Nat → Prop) (N R : G → Prop) : Prop :=
  ∀ g1 : G, Ex g g1 →
  ifB (ltI n (0 : Int))
  (stOk g1.w ⟨b2, 0, none⟩ 1 ∧ ¬ g1.X (Addr.block ⟨b2, 0, none⟩) ∧ mutAt g1 ⟨b2, 0, none⟩ 1 ∧ ((Addr.block ⟨b2, 0, none⟩) < g.w.heap.size → M (Addr.block ⟨b2, 0, none⟩)) ∧ ∀ g2 : G, StG false g1 ⟨b2, 0, none⟩ [(.slice none 0 0)] g2 →
  stOk g2.w ⟨b3, 0, none⟩ 1 ∧ ¬ g2.X (Addr.block ⟨b3, 0, none⟩) ∧ mutAt g2 ⟨b3, 0, none⟩ 1 ∧ ((Addr.block ⟨b3, 0, none⟩) < g.w.heap.size → M (Addr.block ⟨b3, 0, none⟩)) ∧ ∀ g3 : G, StG false g2 ⟨b3, 0, none⟩ [(.bool false)] g3 →
  R g3)
  (∃ xa : Option Addr, ∃ xl : Nat, ∃ xc : Nat, g1.w.cell? ⟨b1, 0, none⟩ = some (.slice xa xl xc) ∧ (0 ≤ q ∧ q < ((xl : Nat) : Int)) ∧ derefP xa fun ad => ∃ x : Int, g1.w.cell? (Addr.add (Addr.add ad (Int.toNat q * 2)) 1) = some (.int .i64 x) ∧ ∃ xa_1 : Option Addr, ∃ xl_1 : Nat, ∃ xc_1 : Nat, g1.w.cell? ⟨b1, 0, none⟩ = some (.slice xa_1 xl_1 xc_1) ∧ InI64 (q + (1 : Int)) ∧ (0 ≤ (q + (1 : Int)) ∧ (q + (1 : Int)) < ((xl_1 : Nat) : Int)) ∧ derefP xa_1 fun ad_1 => ∃ x_1 : Int, g1.w.cell? (Addr.add (Addr.add ad_1 (Int.toNat (q + (1 : Int)) * 2)) 1) = some (.int .i64 x_1) ∧ ∃ h0a : Option Addr, ∃ h0l : Nat, ∃ h0c : Nat, ∃ h1 : Int, ∃ h2 : Int, g1.w.cell? ⟨b1, 0, none⟩ = some (.slice h0a h0l h0c) ∧ g1.w.cell? (Addr.add ⟨b1, 0, none⟩ 1) = some (.int .i64 h1) ∧ g1.w.cell? (Addr.add ⟨b1, 0, none⟩ 2) = some (.int .i64 h2) ∧ (CallsP Try.prog 80 #[(.agg ⟨[(.slice h0a h0l h0c), (.int .i64 h1), (.int .i64 h2)]⟩), (.int .i64 q)] g1 fun v g4 =>
  ∃ xa_2 : Option Addr, ∃ xl_2 : Nat, ∃ xc_2 : Nat, v = (.slice xa_2 xl_2 xc_2) ∧ (CallsP Try.prog 75 #[(.int .i64 x), (.int .i64 x_1), (.slice xa_2 xl_2 xc_2)] g4 fun v g5 =>
  ∃ x_2 : Bool, v = (.bool x_2) ∧ ifB (!x_2)
  (stOk g5.w ⟨b2, 0, none⟩ 1 ∧ ¬ g5.X (Addr.block ⟨b2, 0, none⟩) ∧ mutAt g5 ⟨b2, 0, none⟩ 1 ∧ ((Addr.block ⟨b2, 0, none⟩) < g.w.heap.size → M (Addr.block ⟨b2, 0, none⟩)) ∧ ∀ g6 : G, StG false g5 ⟨b2, 0, none⟩ [(.slice none 0 0)] g6 →
  stOk g6.w ⟨b3, 0, none⟩ 1 ∧ ¬ g6.X (Addr.block ⟨b3, 0, none⟩) ∧ mutAt g6 ⟨b3, 0, none⟩ 1 ∧ ((Addr.block ⟨b3, 0, none⟩) < g.w.heap.size → M (Addr.block ⟨b3, 0, none⟩)) ∧ ∀ g7 : G, StG false g6 ⟨b3, 0, none⟩ [(.bool false)] g7 →
  R g7)
  (∃ outa : Option Addr, ∃ outl : Nat, ∃ outc : Nat, g5.w.cell? ⟨b4, 0, none⟩ = some (.slice outa outl outc) ∧ ∀ g8 : G, NewL g5 g8 3 [(.int .i64 q)] →
  ∃ xa_3 : Option Addr, ∃ xl_3 : Nat, ∃ xc_3 : Nat, ∃ wo1 : World, Sem.run Try.prog (Builtin.append_ #[55, 55] 55 #[(.slice outa outl outc), (.slice (some ⟨g5.w.heap.size, 0, none⟩) 1 1)]) g8.w = .ok (.slice xa_3 xl_3 xc_3) wo1 ∧ ∃ g9 : G, g9.w = wo1 ∧ Stp g.w.heap.size M g8 g9 ∧ stOk g9.w ⟨b4, 0, none⟩ 1 ∧ ¬ g9.X (Addr.block ⟨b4, 0, none⟩) ∧ mutAt g9 ⟨b4, 0, none⟩ 1 ∧ ((Addr.block ⟨b4, 0, none⟩) < g.w.heap.size → M (Addr.block ⟨b4, 0, none⟩)) ∧ ∀ g10 : G, StG false g9 ⟨b4, 0, none⟩ [(.slice xa_3 xl_3 xc_3)] g10 →
  N g10))))
theorem F94b_eq (b1 : Nat) (b2 : Nat) (b3 : Nat) (b4 : Nat) (q : Int) (n : Int) (g : G) (M : Nat → Prop) (N R : G → Prop) : vcG cfg94b g.size M 38 c94b an94b ⟨[(1, some (.pointer (some ⟨b1, 0, none⟩))), (2, some (.pointer (some ⟨b2, 0, none⟩))), (3, some (.pointer (some ⟨b3, 0, none⟩))), (4, some (.pointer (some ⟨b4, 0, none⟩))), (5, some (.int .i64 q)), (6, some (.int .i64 n))], [], [], false⟩ g ⟨fun _ g => N g, fun _ _ _ => False, fun _ g => R g⟩ = F94b b1 b2 b3 b4 q n g M N R := by kernel_rfl
theorem nd94b : noDefer c94b = true := by kernel_rfl
end Go.Proofs.Ytcpclpkcanikiaa
