/- Joined texts. -/
import Derived.Test.YthlcdgpemjdgnaaGreatDoorZA
import Derived.Test.YthlcdgpemjdgnaaGreatDoorFnM45
import Derived.Test.YthlcdgpemjdgnaaGreatDoorLfeval
import Derived.Lib.LaidTab
import Derived.Lib.AppendIntMem
import Derived.Test.YthlcdgpemjdgnaaGreatDoorZB
import Derived.Test.YthlcdgpemjdgnaaGreatDoorVclip
import Derived.Test.YthlcdgpemjdgnaaGreatDoorVwith
import Derived.Test.YthlcdgpemjdgnaaGreatDoorLamA
import Derived.Test.YthlcdgpemjdgnaaGreatDoorVmb
/- The machine of flat functions: how it ends; numbers, texts, truth values. -/
set_option linter.unusedVariables false
namespace Go.Proofs.YthlcdgpemjdgnaaGreatDoor
open Go Go.Vc Go.RowKit Go.Syn Go.Lam Go.Sort
open PM
def TabG (g : G) : Prop := ∃ n, Tryz.prog.globalNamed "internal/strconv.uint64pow10" = some n ∧ LiveO g n (Lib.pow10Tab.map fun z => Value.int .u64 z).toArray
theorem TabG.mono {g g' : G} (h : TabG g) (m : Le g g') : TabG g' := by obtain ⟨n, h1, h2⟩ := h; exact ⟨n, h1, h2.mono m⟩
theorem TabG.exm {g g' : G} (h : TabG g) (m : Ex g g') : TabG g' := h.mono m.le
theorem TabG.is {g : G} (h : TabG g) : Lib.TabIs Tryz.prog g.w "internal/strconv.uint64pow10" .u64 Lib.pow10Tab := by
  obtain ⟨n, h1, e, fr, h2, _⟩ := h
  unfold Lib.TabIs World.var?
  rw [h1]
  simp only [Option.bind_some, h2]
theorem k102 (n : Int) (h0 : -9223372036854775808 ≤ n) (h1 : n ≤ 9223372036854775807) (g : G) (ht : TabG g) : CallsP Tryz.prog 102 #[.int .i64 n] g fun v _ => v = .string (bstr (Lib.itoa n)) := by
  refine (calls_below (Q := fun v _ => v = .string (bstr (Lib.itoa n))) (Calls.mono (Tryz.strconv_Itoa n h0 h1 g.w ht.is) ?_)).mono ?_
  · rintro e w' ⟨rfl, k, os, rfl⟩
    exact ⟨_, rfl, Lib.below_grow _ _ (Nat.le_refl _) k os, rfl⟩
  · rintro v g1 _ ⟨_, h, _⟩
    exact h
theorem k41 (n lo hi : Int) (g : G) : CallsP Tryz.prog 41 #[.int .i64 n, .int .i64 lo, .int .i64 hi] g fun v _ => v = .bool (tf (lo ≤ n ∧ n ≤ hi)) := by
  refine call41 _ _ _ g _ ?_
  unfold F41
  refine ifLe (fun q g1 _ => ?_) (fun q g2 _ => vF (fun h => by omega))
  show Value.bool (leI n hi) = _
  rw [tf_le]
  exact vP ⟨fun h => ⟨q, h⟩, fun h => h.2⟩
abbrev endF (op n : Int) : List PanicEntry := [{ v := .iface 60 (.agg ⟨[.int .i64 op, .int .i64 n]⟩), recovered := false }]
theorem k51 (op n : Int) (g : G) : CallsX Tryz.prog 51 #[.int .i64 op, .int .i64 n] g nobody (fun _ _ => False) (fun ch g' => ch = endF op n) := by
  refine call51 _ _ g _ _ ?_
  unfold F51
  exact fun g1 m1 => rfl
def PuV (r : Res Th) (left : Nat) (out : List Lab) (v : Value) (g' : G) : Prop := ∃ t p, r = .ok t left out ∧ v = .pointer p ∧ VF g' p t
def PuX (r : Res Th) (left : Nat) (out : List Lab) (ch : List PanicEntry) (g' : G) : Prop := ∃ op n, r = .stop op n left out ∧ ch = endF op n
abbrev PureX (k : FuncId) (args : Array Value) (g : G) (r : Res Th) (left : Nat) (out : List Lab) : Prop := CallsX Tryz.prog k args g nobody (PuV r left out) (PuX r left out)
theorem PuV.ex {r : Res Th} {left : Nat} {out : List Lab} {v : Value} {g g' : G} (m : Ex g g') : PuV r left out v g → PuV r left out v g'
  | ⟨t, p, h1, h2, h3⟩ => ⟨t, p, h1, h2, h3.mono m.le⟩
theorem endP (op n : Int) (g : G) {r : Res Th} {left : Nat} {out : List Lab} (hr : r = .stop op n left out) {Q : Value → G → Prop} : CallsX Tryz.prog 51 #[.int .i64 op, .int .i64 n] g nobody Q (fun ch g' => ∀ g2 : G, Ex g' g2 → PuX r left out ch g2) := by
  refine (k51 op n g).mono (fun v g' _ hh => hh.elim) ?_
  rintro ch g1 _ rfl g2 m2
  exact ⟨op, n, hr, rfl⟩
theorem pureRelay {k : FuncId} {args : Array Value} {g : G} {r : Res Th} {left : Nat} {out : List Lab} (h : PureX k args g r left out) :
    CallsX Tryz.prog k args g nobody (fun v g' => ∃ x : Option Addr, v = .pointer x ∧ ∀ g2 : G, Ex g' g2 → PuV r left out (.pointer x) g2) (fun ch g' => ∀ g2 : G, Ex g' g2 → PuX r left out ch g2) := by
  refine h.mono ?_ ?_
  · rintro v g' _ hp
    have h2 := hp
    obtain ⟨t, p, h1, rfl, _⟩ := hp
    exact ⟨p, rfl, fun g2 m2 => h2.ex m2⟩
  · exact fun ch g' _ hp g2 m2 => hp
theorem k75 {g : G} {p : Option Addr} {t : Th} (h : VF g p t) (s : Int) : CallsX Tryz.prog 75 #[.pointer p, .int .i64 s] g nobody (fun v g' => v = .pointer p ∧ srt t = s) (fun ch g' => srt t ≠ s ∧ ch = endF 4 0) := by
  refine call75 _ _ g _ _ ?_
  obtain ⟨ad, la, ln, lc, rfl, hl, _⟩ := h.get
  unfold F75
  refine ⟨_, (live0 (hl 0 _ rfl)).1, ifNe (fun q => (k51 4 0 g).mono (fun v g' _ hh => hh.elim) ?_) (fun q g5 m5 => ⟨rfl, q⟩)⟩
  rintro ch g1 _ rfl g2 m2
  exact ⟨q, rfl⟩
theorem new_valF {g g' : G} {t : Th} {la : Option Addr} {ln lc : Nat} (hn : NewL g g' 66 (frow t la ln lc)) (hl : VFs g la ln lc t.l) : VF g' (some ⟨g.w.heap.size, 0, none⟩) t :=
  VF.new (la := la) (ln := ln) (lc := lc) (fun j v hv => hn.at_ hv) (hl.mono hn.ex.le)
theorem k26 (g : G) : CallsP Tryz.prog 26 #[] g fun v g' => ∃ p, v = .pointer p ∧ VF g' p unitT := by
  refine call26 g _ ?_
  unfold F26
  intro g1 n1 g2 m2
  exact ⟨_, rfl, (new_valF (t := unitT) n1 (VFs.nil _)).mono m2.le⟩
theorem k100 (p : Prop) [Decidable p] {b : Bool} (hb : b = true ↔ p) (g : G) : CallsP Tryz.prog 100 #[.bool b] g fun v g' => ∃ q, v = .pointer q ∧ VF g' q (truthT p) := by
  refine CallsP.frz (call100 b g _ ?_)
  unfold F100
  refine (k26 g).mono ?_
  rintro v g1 m1 ⟨x, rfl, hx⟩
  refine ⟨x, rfl, fun g2 n2 g3 n3 => ?_⟩
  have hmb := n3.mut
  have hge : g.w.heap.size ≤ g2.w.heap.size := (m1.trans n2.ex).size
  have hrow : Sl g2 1 (some ⟨g1.w.heap.size, 0, none⟩) 1 1 [.pointer x] := n2.sl (by simp) (by unfold maxLen; omega)
  have fin : ∀ (k : Int) (g5 : G), k = (if p then 1 else 0) → Le g2 g5 → MutB g5 g2.w.heap.size 66 [.int .i64 4, .int .i64 k, .string (bs []), .slice (some ⟨g1.w.heap.size, 0, none⟩) 1 1] →
      ∃ q, (Value.pointer (some ⟨g2.w.heap.size, 0, none⟩) = .pointer q) ∧ VF (g5.frozP (fun b => b = g2.w.heap.size)) q (truthT p) := by
    intro k g5 hk le5 h5
    refine ⟨_, rfl, VF.new (la := some ⟨g1.w.heap.size, 0, none⟩) (ln := 1) (lc := 1) (fun j v hv => ?_) ?_⟩
    · subst hk
      refine ⟨h5.rd hv, by rw [add_block]; exact h5.nx, fun hh => hh.2 (add_block _ _)⟩
    · refine ⟨[x], (hrow.mono le5).mono (frozP_le _ _), rfl, fun i q u hq hu => ?_⟩
      cases i with
      | zero =>
        have e1 : x = q := by simpa using hq
        have e2 : unitT = u := by simpa [truthT, injT, Th.l] using hu
        rw [← e1, ← e2]
        exact ((hx.mono n2.ex.le).mono le5).mono (frozP_le _ _)
      | succ i => simp at hq
  have pge : ∀ b, b = g2.w.heap.size → g.w.heap.size ≤ b := fun b e => by omega
  refine ifT (fun e => ⟨hmb.ok (j := 1) (n := 1) (by simp), hmb.nxA 1, hmb.mutA 1 1, fun hh => ?_, fun g4 k4 g5 m5 => ⟨_, pge, ?_⟩⟩) (fun e g6 m6 => ⟨_, pge, ?_⟩)
  · rw [add_block] at hh
    exact absurd hh (by show ¬ g2.w.heap.size < g.w.heap.size; omega)
  · obtain ⟨h4, b4⟩ := hmb.st k4
    have le4 : Le g3 g4 := b4.le (fun z hz i => by have e : z = g2.w.heap.size := hz; rw [e]; exact hmb.d i)
    exact fin 1 g5 (by rw [if_pos (hb.1 e)]) ((n3.ex.le.trans le4).trans m5.le) (h4.ex m5)
  · exact fin 0 g6 (by rw [if_neg (fun hp => by rw [hb.2 hp] at e; cases e)]) (n3.ex.le.trans m6.le) (hmb.ex m6)
section
variable {g : G} {left : Nat} {out : List Lab}
theorem k98 (n : Int) (g : G) (left : Nat) (out : List Lab) : PureX 98 #[.int .i64 n] g (numberN n left out) left out := by
  refine call98 n g _ _ ?_
  unfold F98
  refine (k41 n _ _ g).mono ?_
  rintro v g1 m1 rfl
  refine ⟨_, rfl, ifPn (fun q => endP 2 2 g1 (if_pos (by unfold mostN; omega))) (fun q g7 n7 g8 m8 => ?_)⟩
  exact ⟨intT n, _, if_neg (by unfold mostN; omega), rfl, (new_valF (t := intT n) n7 (VFs.nil _)).mono m8.le⟩
theorem k101 (s : Lab) (g : G) (left : Nat) (out : List Lab) : PureX 101 #[.string (bstr s)] g (if 16384 < s.length then .stop 2 2 left out else .ok (textT s) left out) left out := by
  refine call101 _ g _ _ ?_
  unfold F101
  rw [bstr_size]
  refine ifLt (fun q => endP 2 2 g (if_pos (by omega))) (fun q g6 n6 g7 m7 => ?_)
  exact ⟨textT s, _, if_neg (by omega), rfl, (new_valF (t := textT s) n6 (VFs.nil _)).mono m7.le⟩
theorem k99 (a b : Int) (ha : -mostN ≤ a ∧ a ≤ mostN) (hb : -mostN ≤ b ∧ b ≤ mostN) (g : G) (left : Nat) (out : List Lab) :
    PureX 99 #[.int .i64 a, .int .i64 b] g (if a ≠ 0 ∧ Int.tdiv mostN (absN a) < absN b then .stop 2 2 left out else numberN (a * b) left out) left out := by
  refine call99 a b g _ _ ?_
  have hm0 : mostN = 4503599627370496 := rfl
  unfold F99
  intro J hJ
  have fin : ∀ g1, Ex g g1 → ¬ (a ≠ 0 ∧ Int.tdiv mostN (absN a) < absN b) → J g1 := by
    intro g1 m1 hh
    refine hJ g1 ?_
    rw [if_neg hh]
    refine ⟨?_, pureRelay (k98 (a * b) g1 left out)⟩
    by_cases q : a = 0
    · subst q; exact i64 (by simp) (by simp)
    · have h1 : absN b ≤ Int.tdiv mostN (absN a) := by
        by_cases q2 : Int.tdiv mostN (absN a) < absN b
        · exact absurd ⟨q, q2⟩ hh
        · omega
      have ha0 : 0 < absN a := by unfold absN; split <;> omega
      rw [Int.tdiv_eq_ediv_of_nonneg (by omega)] at h1
      have h2 : absN b * absN a ≤ mostN := Int.le_trans (Int.mul_le_mul_of_nonneg_right h1 (by omega)) (Int.ediv_mul_le _ (by omega))
      have h3 : (a * b = absN b * absN a ∨ a * b = -(absN b * absN a)) ∧ 0 ≤ absN b * absN a := by
        have hb0 : 0 ≤ absN b := by unfold absN; split <;> omega
        refine ⟨?_, Int.mul_nonneg hb0 (by omega)⟩
        unfold absN
        split <;> split
        · left; rw [Int.zero_sub, Int.zero_sub, Int.neg_mul_neg, Int.mul_comm]
        · right; rw [Int.zero_sub, Int.neg_mul, Int.neg_neg, Int.mul_comm]
        · right; rw [Int.zero_sub, Int.mul_neg, Int.neg_neg, Int.mul_comm]
        · left; rw [Int.mul_comm]
      generalize absN b * absN a = z at h2 h3
      generalize a * b = y at h3
      exact i64 (by omega) (by omega)
  clear hJ
  have hA : ∀ z : Int, maxI z (0 - z) = absN z := by
    intro z
    unfold maxI absN
    split <;> split <;> omega
  rw [hA, hA]
  refine ifNe (fun q => ?_) (fun q => fin g (Ex.refl _) (fun hh => hh.1 q))
  have ha0 : 0 < absN a := by unfold absN; split <;> omega
  have hd0 := Int.tdiv_eq_ediv_of_nonneg (a := mostN) (b := absN a) (by omega)
  have hd1 : 0 ≤ Int.tdiv mostN (absN a) := by rw [hd0]; exact Int.ediv_nonneg (by omega) (by omega)
  have hd2 : Int.tdiv mostN (absN a) ≤ mostN := by rw [hd0]; exact Int.ediv_le_self _ (by omega)
  refine ⟨i64 (by omega) (by omega), i64 (by omega) (by omega), by omega, i64 (by rw [← hm0]; omega) (by rw [← hm0]; omega), ifLt (fun q2 => endP 2 2 g (if_pos ⟨q, by rw [hm0]; exact q2⟩)) (fun q2 => fin g (Ex.refl _) (fun hh => by have := hh.2; rw [hm0] at this; omega))⟩
end
end Go.Proofs.YthlcdgpemjdgnaaGreatDoor
/- The machine of flat functions: operations. -/
set_option linter.unusedVariables false
namespace Go.Proofs.YthlcdgpemjdgnaaGreatDoor
open Go Go.Vc Go.RowKit Go.Syn Go.Lam Go.Sort
open PM
structure PM0 where
  mb : Nat
  fuel : Nat
  fa : Option Addr
  fn : Nat
  fc : Nat
abbrev MF (M : PM0) (g : G) (left : Nat) (out : List Lab) (oa : Option Addr) (on oc : Nat) : Prop := MachF 58 g M.mb M.fuel left M.fa M.fn M.fc out oa on oc
def PVF (M : PM0) (oa : Option Addr) (sz : Nat) (r : Res Th) (v : Value) (g' : G) : Prop := ∃ t left out p, r = .ok t left out ∧ v = .pointer p ∧ VF g' p t ∧ MachFS 58 g' M.mb M.fuel left M.fa M.fn M.fc out oa sz
def PXF (M : PM0) (oa : Option Addr) (sz : Nat) (r : Res Th) (ch : List PanicEntry) (g' : G) : Prop := ∃ op n left out, r = .stop op n left out ∧ ch = endF op n ∧ MachFS 58 g' M.mb M.fuel left M.fa M.fn M.fc out oa sz
abbrev RunF (k : FuncId) (args : Array Value) (g : G) (M : PM0) (oa : Option Addr) (r : Res Th) : Prop := CallsX Tryz.prog k args g (mset M.mb oa) (PVF M oa g.w.heap.size r) (PXF M oa g.w.heap.size r)
section
variable {M : PM0} {oa oa1 : Option Addr} {sz sz1 : Nat} {r : Res Th} {g g' : G}
theorem PVF.ex {v : Value} (m : Ex g g') : PVF M oa sz r v g → PVF M oa sz r v g'
  | ⟨t, left, out, p, h1, h2, h3, h4⟩ => ⟨t, left, out, p, h1, h2, h3.mono m.le, h4.ex m⟩
theorem PXF.ex {ch : List PanicEntry} (m : Ex g g') : PXF M oa sz r ch g → PXF M oa sz r ch g'
  | ⟨op, n, left, out, h1, h2, h3⟩ => ⟨op, n, left, out, h1, h2, h3.ex m⟩
theorem PVF.base {v : Value} (hs : sz ≤ sz1) (ha : ∀ b, blkOf oa1 b → blkOf oa b ∨ sz ≤ b) : PVF M oa1 sz1 r v g → PVF M oa sz r v g
  | ⟨t, left, out, p, h1, h2, h3, h4⟩ => ⟨t, left, out, p, h1, h2, h3, h4.base hs ha⟩
theorem PXF.base {ch : List PanicEntry} (hs : sz ≤ sz1) (ha : ∀ b, blkOf oa1 b → blkOf oa b ∨ sz ≤ b) : PXF M oa1 sz1 r ch g → PXF M oa sz r ch g
  | ⟨op, n, left, out, h1, h2, h3⟩ => ⟨op, n, left, out, h1, h2, h3.base hs ha⟩
theorem relayF {k : FuncId} {args : Array Value} {g1 : G} (h : RunF k args g1 M oa1 r) (hs : sz ≤ g1.w.heap.size) (ha : ∀ b, blkOf oa1 b → blkOf oa b ∨ sz ≤ b) :
    CallsX Tryz.prog k args g1 (mset M.mb oa1) (fun v g' => ∃ x : Option Addr, v = .pointer x ∧ ∀ g2 : G, Ex g' g2 → PVF M oa sz r (.pointer x) g2) (fun ch g' => ∀ g2 : G, Ex g' g2 → PXF M oa sz r ch g2) := by
  refine h.mono ?_ ?_
  · rintro v g' _ hp
    have h2 := PVF.base hs ha hp
    obtain ⟨t, left, out, p, h1, rfl, _⟩ := hp
    exact ⟨p, rfl, fun g2 m2 => h2.ex m2⟩
  · exact fun ch g' _ hp g2 m2 => (PXF.base hs ha hp).ex m2
theorem MachF.s {left : Nat} {out : List Lab} {on oc : Nat} (hm : MF M g left out oa on oc) (sz : Nat) : MachFS 58 g M.mb M.fuel left M.fa M.fn M.fc out oa sz := ⟨oa, on, oc, hm, fun _ hb => .inl hb⟩
theorem pureF {k : FuncId} {args : Array Value} {left : Nat} {out : List Lab} {on oc : Nat} (h : PureX k args g r left out) (hm : MF M g left out oa on oc) (sz : Nat) :
    CallsX Tryz.prog k args g nobody (fun v g' => ∃ x : Option Addr, v = .pointer x ∧ ∀ g2 : G, Ex g' g2 → PVF M oa sz r (.pointer x) g2) (fun ch g' => ∀ g2 : G, Ex g' g2 → PXF M oa sz r ch g2) := by
  refine h.mono ?_ ?_
  · rintro v g' hs ⟨t, p, h1, rfl, h3⟩
    exact ⟨p, rfl, fun g2 m2 => ⟨t, left, out, p, h1, rfl, h3.mono m2.le, MachF.s ((hm.ex hs.ex).ex m2) sz⟩⟩
  · rintro ch g' hs ⟨op, n, h1, h2⟩ g2 m2
    exact ⟨op, n, left, out, h1, h2, MachF.s ((hm.ex hs.ex).ex m2) sz⟩
theorem stopF (op n : Int) {left : Nat} {out : List Lab} {on oc : Nat} (hm : MF M g left out oa on oc) (sz : Nat) (hr : r = .stop op n left out) {Q : Value → G → Prop} :
    CallsX Tryz.prog 51 #[.int .i64 op, .int .i64 n] g nobody Q (fun ch g' => ∀ g2 : G, Ex g' g2 → PXF M oa sz r ch g2) := by
  refine (k51 op n g).mono (fun v g' _ hh => hh.elim) ?_
  rintro ch g1 hs rfl g2 m2
  exact ⟨op, n, left, out, hr, rfl, MachF.s ((hm.ex hs.ex).ex m2) sz⟩
end
theorem E25 : Elem Tryz.prog 25 9 1 16 := ⟨Tryz.underlying25, by kernel_rfl⟩
theorem nb : ∀ b : Nat, nobody b → False := fun _ h => h
theorem srt_int {t : Th} {cs : List Int} (h : OkF cs t) : (srt t = 1 ↔ t.op = 1) ∧ (srt t = 2 ↔ t.op = 2) ∧ (srt t = 3 ↔ t.op = 3) ∧ (srt t = 4 ↔ t.op = 4) ∧ (srt t = 5 ↔ t.op = 7) := by
  have := okF_op h
  unfold srt
  split <;> omega
theorem k77 {M : PM0} {cs : List Int} {g : G} {left : Nat} {out : List Lab} {oa : Option Addr} {on oc : Nat} (ht : TabG g) (hm : MF M g left out oa on oc) (hout : out.length ≤ 1000) {n : Int} {l : List Th} {la : Option Addr} {ln lc : Nat} (hl : VFs g la ln lc l) (hok : ∀ t ∈ l, OkF cs t) (hn : 1 ≤ n ∧ n ≤ 14) (hlen : l.length = arityN n) :
    RunF 77 #[.pointer (some ⟨M.mb, 0, none⟩), .int .i64 n, .slice la ln lc] g M oa (primN n l left out) := by
  refine call77 _ n la ln lc g _ _ _ ?_
  have hll := hl.len
  have hap := arityN n
  have ha2 : 1 ≤ arityN n ∧ arityN n ≤ 2 := by unfold arityN; split <;> omega
  unfold F77
  intro J hJ
  have main : ∀ s, s = (if textual n then (2 : Int) else 1) → J s g := by
    intro s hs
    refine hJ s g ⟨fun m i g' => ∃ j : Nat, i = ((j : Nat) : Int) ∧ j + m = ln ∧ Ex g g' ∧ ∀ t ∈ l.take j, t.op = s, ⟨ln, 0, rfl, by omega, Ex.refl _, by simp⟩, ?_⟩
    clear hJ
    have hs12 : s = 1 ∨ s = 2 := by rw [hs]; split <;> simp
    rintro m i g2 le ⟨j, rfl, hj, m2, hall⟩
    refine ifLt (fun q => ⟨⟨by omega, by omega⟩, ?_⟩) (fun q g6 m6 => ?_)
    · have gj := List.getElem?_eq_getElem (show j < l.length by omega)
      generalize l[j] = t at gj
      have htm := List.mem_of_getElem? gj
      obtain ⟨s1, s2, _⟩ := srt_int (hok t htm)
      refine (hl.mono le).rd j rfl gj (fun ad p hp hpl => ⟨p, hpl.1, (k75 hp s).mono ?_ ?_⟩)
      · rintro v g3 hs3 ⟨rfl, h3⟩
        refine ⟨p, rfl, i64 (by omega) (by omega), m - 1, by omega, j + 1, by omega, by omega, m2.trans hs3.ex, (all_take gj (fun t => t.op = s)).2 ⟨hall, by omega⟩⟩
      · rintro ch g4 hs4 ⟨h4, rfl⟩ g5 m5
        refine ⟨4, 0, left, out, ?_, rfl, MachF.s (((hm.ex m2).ex hs4.ex).ex m5) _⟩
        unfold primN
        rw [if_neg (fun hh => h4 ?_)]
        have := hh t htm
        rw [← hs] at this
        omega
    · rw [List.take_of_length_le (by omega)] at hall
      have hall' : ∀ t ∈ l, t.op = (if textual n then (2 : Int) else 1) := fun t h => by rw [hall t h, hs]
      have hr : primN n l left out = if textual n then textsN n (l.getD 0 unitT).s (lastT l).s left out else numbersN n (l.getD 0 unitT).n (lastT l).n left out := by
        unfold primN
        rw [if_pos hall']
      rw [hr]
      have m06 := m2.trans m6
      have hm6 := hm.ex m06
      have hl6 := hl.mono m06.le
      have ht6 := ht.exm m06
      have g0 := List.getElem?_eq_getElem (show 0 < l.length by omega)
      have gl := List.getElem?_eq_getElem (show l.length - 1 < l.length by omega)
      have e0 : l.getD 0 unitT = l[0] := by rw [List.getD_eq_getElem?_getD, g0]; rfl
      have el : lastT l = l[l.length - 1] := by unfold lastT; rw [List.getD_eq_getElem?_getD, gl]; rfl
      rw [e0, el]
      generalize l[0] = A at g0
      generalize l[l.length - 1] = B at gl
      have hA := hok A (List.mem_of_getElem? g0)
      have hB := hok B (List.mem_of_getElem? gl)
      have oA := hall A (List.mem_of_getElem? g0)
      have oB := hall B (List.mem_of_getElem? gl)
      refine ⟨nobody, fun _ h => h.elim, ⟨by omega, by omega⟩, hl6.rd (i := 0) 0 rfl g0 (fun ad pa hpa hpal => ⟨fun h => h.elim, pa, hpal.1, i64 (by omega) (by omega), ⟨by omega, by omega⟩, hl6.rd (i := ((ln : Nat) : Int) - 1) (l.length - 1) (by omega) gl (fun ad2 pb hpb hpbl => ⟨fun h => h.elim, pb, hpbl.1, ?_⟩)⟩)⟩
      obtain ⟨da, aa, an, ac, rfl, hla, _⟩ := hpa.get
      obtain ⟨db, ba, bn, bc, rfl, hlb, _⟩ := hpb.get
      have num : ¬ textual n → (∃ x, A = intT x ∧ -mostN ≤ x ∧ x ≤ mostN) ∧ (∃ y, B = intT y ∧ -mostN ≤ y ∧ y ≤ mostN) := by
        intro h
        rw [if_neg h] at hs
        exact ⟨okF_int hA (by omega), okF_int hB (by omega)⟩
      have txt : textual n → (∃ x, A = textT x ∧ x.length ≤ 16384) ∧ (∃ y, B = textT y ∧ y.length ≤ 16384) := by
        intro h
        rw [if_pos h] at hs
        exact ⟨okF_text hA (by omega), okF_text hB (by omega)⟩
      have hm0 : mostN = 4503599627370496 := rfl
      have sz := g.w.heap.size
      -- numbers
      refine ifEq (fun e g7 m7 => ?_) (fun e1 => ifEq (fun e g12 m12 => ?_) (fun e2 => ifEq (fun e g17 m17 => ?_) (fun e3 => ifEq (fun e => ?_) (fun e6 => ?_))))
      · have nt : ¬ textual n := by unfold textual; omega
        obtain ⟨⟨x, rfl, x1, x2⟩, y, rfl, y1, y2⟩ := num nt
        rw [if_neg nt]
        unfold numbersN
        rw [if_pos e]
        exact ⟨nobody, fun _ h => h.elim, fun h => h.elim, x, ((hla 1 _ rfl).ex m7).1, fun h => h.elim, y, ((hlb 1 _ rfl).ex m7).1, i64 (by omega) (by omega), pureF (k98 _ g7 _ _) (hm6.ex m7) _⟩
      · have nt : ¬ textual n := by unfold textual; omega
        obtain ⟨⟨x, rfl, x1, x2⟩, y, rfl, y1, y2⟩ := num nt
        rw [if_neg nt]
        unfold numbersN
        rw [if_neg e1, if_pos e]
        exact ⟨nobody, fun _ h => h.elim, fun h => h.elim, x, ((hla 1 _ rfl).ex m12).1, fun h => h.elim, y, ((hlb 1 _ rfl).ex m12).1, i64 (by omega) (by omega), pureF (k98 _ g12 _ _) (hm6.ex m12) _⟩
      · have nt : ¬ textual n := by unfold textual; omega
        obtain ⟨⟨x, rfl, x1, x2⟩, y, rfl, y1, y2⟩ := num nt
        rw [if_neg nt]
        unfold numbersN
        rw [if_neg e1, if_neg e2, if_pos e]
        exact ⟨nobody, fun _ h => h.elim, fun h => h.elim, x, ((hla 1 _ rfl).ex m17).1, fun h => h.elim, y, ((hlb 1 _ rfl).ex m17).1, pureF (k99 x y ⟨x1, x2⟩ ⟨y1, y2⟩ g17 _ _) (hm6.ex m17) _⟩
      · have nt : ¬ textual n := by unfold textual; omega
        obtain ⟨⟨x, rfl, x1, x2⟩, y, rfl, y1, y2⟩ := num nt
        rw [if_neg nt]
        unfold numbersN
        rw [if_neg e1, if_neg e2, if_neg e3, if_pos e]
        exact ⟨x, (hla 1 _ rfl).1, i64 (by omega) (by omega), pureF (k98 _ g6 _ _) hm6 _⟩
      intro J1 hJ1
      have rest : ∀ b1, (b1 = true ↔ (n = 4 ∨ n = 5)) → J1 b1 g6 := by
        intro b1 hb1
        refine hJ1 b1 g6 (ifT (fun hb => ?_) (fun hb => ?_))
        · have e45 := hb1.1 hb
          have nt : ¬ textual n := by unfold textual; omega
          obtain ⟨⟨x, rfl, x1, x2⟩, y, rfl, y1, y2⟩ := num nt
          rw [if_neg nt]
          unfold numbersN
          rw [if_neg e1, if_neg e2, if_neg e3, if_neg e6, if_neg (by omega), if_neg (by omega), if_neg (by omega), if_neg (by omega)]
          intro J2 hJ2
          refine ⟨y, (hlb 1 _ rfl).1, ifEq (fun e0 => stopF 2 3 hm6 _ (if_pos e0)) (fun e0 => hJ2 g6 ?_)⟩
          rw [if_neg (by exact e0)]
          have hd : InI64 (Int.tdiv x y) := by
            have h1 := Int.natAbs_tdiv_le_natAbs x y
            exact i64 (by omega) (by omega)
          refine ifEq (fun e g28 m28 => ?_) (fun e g33 m33 => ?_)
          · rw [if_pos e]
            exact ⟨nobody, fun _ h => h.elim, fun h => h.elim, x, ((hla 1 _ rfl).ex m28).1, fun h => h.elim, y, ((hlb 1 _ rfl).ex m28).1, e0, hd, pureF (k98 _ g28 _ _) (hm6.ex m28) _⟩
          · rw [if_neg e]
            exact ⟨nobody, fun _ h => h.elim, fun h => h.elim, x, ((hla 1 _ rfl).ex m33).1, fun h => h.elim, y, ((hlb 1 _ rfl).ex m33).1, e0, pureF (k98 _ g33 _ _) (hm6.ex m33) _⟩
        have e45 : ¬ (n = 4 ∨ n = 5) := fun h => by rw [hb1.2 h] at hb; cases hb
        have cmp : ¬ textual n → ∀ (p : Prop) [Decidable p] (bb : Bool) (g9 : G), (bb = true ↔ p) → Ex g6 g9 → ∀ r, r = .ok (truthT p) left out → CallsP Tryz.prog 100 #[.bool bb] g9 fun v g42 => ∃ x_21 : Option Addr, v = (.pointer x_21) ∧ ∀ g43 : G, Ex g42 g43 → PVF M oa g.w.heap.size r (.pointer x_21) g43 := by
          intro _ p _ bb g9 hbb m9 r hr
          refine (k100 p hbb g9).mono ?_
          rintro v g42 m42 ⟨q, rfl, hq⟩
          exact ⟨q, rfl, fun g43 m43 => ⟨_, left, out, q, hr, rfl, hq.mono m43.le, MachF.s (((hm6.ex m9).ex m42).ex m43) _⟩⟩
        refine ifEq (fun e g41 m41 => ?_) (fun e7 => ifEq (fun e g44 m44 => ?_) (fun e8 => ifEq (fun e g47 m47 => ?_) (fun e9 => ifEq (fun e g50 m50 => ?_) (fun e12 => ifEq (fun e g53 m53 => ?_) (fun e10 => ifEq (fun e => ?_) (fun e11 => ifEq (fun e => ?_) (fun e13 => ?_)))))))
        · have nt : ¬ textual n := by unfold textual; omega
          obtain ⟨⟨x, rfl, x1, x2⟩, y, rfl, y1, y2⟩ := num nt
          rw [if_neg nt]
          unfold numbersN
          rw [if_neg e1, if_neg e2, if_neg e3, if_neg e6, if_pos e]
          exact ⟨nobody, fun _ h => h.elim, fun h => h.elim, x, ((hla 1 _ rfl).ex m41).1, fun h => h.elim, y, ((hlb 1 _ rfl).ex m41).1, cmp nt (x < y) _ g41 (by simp) m41 _ rfl⟩
        · have nt : ¬ textual n := by unfold textual; omega
          obtain ⟨⟨x, rfl, x1, x2⟩, y, rfl, y1, y2⟩ := num nt
          rw [if_neg nt]
          unfold numbersN
          rw [if_neg e1, if_neg e2, if_neg e3, if_neg e6, if_neg e7, if_pos e]
          exact ⟨nobody, fun _ h => h.elim, fun h => h.elim, x, ((hla 1 _ rfl).ex m44).1, fun h => h.elim, y, ((hlb 1 _ rfl).ex m44).1, cmp nt (x ≤ y) _ g44 (by simp) m44 _ rfl⟩
        · have nt : ¬ textual n := by unfold textual; omega
          obtain ⟨⟨x, rfl, x1, x2⟩, y, rfl, y1, y2⟩ := num nt
          rw [if_neg nt]
          unfold numbersN
          rw [if_neg e1, if_neg e2, if_neg e3, if_neg e6, if_neg e7, if_neg e8, if_pos e]
          exact ⟨nobody, fun _ h => h.elim, fun h => h.elim, x, ((hla 1 _ rfl).ex m47).1, fun h => h.elim, y, ((hlb 1 _ rfl).ex m47).1, cmp nt (x = y) _ g47 (by simp) m47 _ rfl⟩
        · have nt : textual n := by unfold textual; omega
          obtain ⟨⟨x, rfl, x1⟩, y, rfl, y1⟩ := txt nt
          rw [if_pos nt]
          unfold textsN
          rw [if_neg (by omega), if_pos e]
          refine ⟨nobody, fun _ h => h.elim, fun h => h.elim, _, ((hla 2 _ rfl).ex m50).1, fun h => h.elim, _, ((hlb 2 _ rfl).ex m50).1, ?_⟩
          refine (k100 (x = y) (by rw [strEq_true]; exact ⟨fun h => bstr_inj.1 h, fun h => bstr_inj.2 h⟩) g50).mono ?_
          rintro v g51 m51 ⟨q, rfl, hq⟩
          exact ⟨q, rfl, fun g52 m52 => ⟨_, left, out, q, rfl, rfl, hq.mono m52.le, MachF.s (((hm6.ex m50).ex m51).ex m52) _⟩⟩
        · have nt : textual n := by unfold textual; omega
          obtain ⟨⟨x, rfl, x1⟩, y, rfl, y1⟩ := txt nt
          rw [if_pos nt]
          unfold textsN
          rw [if_neg (by omega), if_neg e12, if_pos e]
          have hsx : (bstr x).size = x.length := bstr_size x
          have hsy : (bstr y).size = y.length := bstr_size y
          refine ⟨nobody, fun _ h => h.elim, fun h => h.elim, _, ((hla 2 _ rfl).ex m53).1, fun h => h.elim, _, ((hlb 2 _ rfl).ex m53).1, by show (bstr x).size + (bstr y).size ≤ _; omega, ?_⟩
          have := pureF (M := M) (oa := oa) (k101 (x ++ y) g53 left out) (hm6.ex m53) g.w.heap.size
          rw [← bstr_cat, List.length_append] at this
          exact this
        · have nt : textual n := by unfold textual; omega
          obtain ⟨⟨x, rfl, x1⟩, y, rfl, y1⟩ := txt nt
          rw [if_pos nt]
          unfold textsN
          rw [if_pos e]
          have hsx : (bstr x).size = x.length := bstr_size x
          refine ⟨_, (hla 2 _ rfl).1, ?_⟩
          show CallsX Tryz.prog 98 #[.int .i64 (((bstr x).size : Nat) : Int)] g6 nobody (fun v g58 => ∃ x_35 : Option Addr, v = .pointer x_35 ∧ ∀ g59 : G, Ex g58 g59 → PVF M oa g.w.heap.size (numberN ((x.length : Nat) : Int) left out) (.pointer x_35) g59) (fun ch g60 => ∀ g61 : G, Ex g60 g61 → PXF M oa g.w.heap.size (numberN ((x.length : Nat) : Int) left out) ch g61)
          rw [hsx]
          exact pureF (M := M) (oa := oa) (k98 ((x.length : Nat) : Int) g6 left out) hm6 g.w.heap.size
        · have nt : ¬ textual n := by unfold textual; omega
          obtain ⟨⟨x, rfl, x1, x2⟩, y, rfl, y1, y2⟩ := num nt
          rw [if_neg nt]
          unfold numbersN
          rw [if_neg e1, if_neg e2, if_neg e3, if_neg e6, if_neg e7, if_neg e8, if_neg e9, if_pos e]
          refine ⟨x, (hla 1 _ rfl).1, (k102 x (by omega) (by omega) g6 ht6).mono ?_⟩
          rintro v g62 m62 rfl
          have hle := Go.Lib.itoa_length_le x (by omega) (by omega)
          have := pureF (M := M) (oa := oa) (k101 (Lib.itoa x) g62 left out) (hm6.ex m62) g.w.heap.size
          rw [if_neg (by omega)] at this
          exact ⟨_, rfl, this⟩
        · have nt : textual n := by unfold textual; omega
          obtain ⟨⟨x, rfl, x1⟩, y, rfl, y1⟩ := txt nt
          rw [if_pos nt]
          unfold textsN
          rw [if_neg e11, if_neg e12, if_neg e10]
          have hol := hm6.len
          intro J3 hJ3
          refine ⟨_, _, _, hm6.blk.rd (j := 3) rfl, ifEq (fun q => stopF 2 2 hm6 _ (if_pos (by omega))) (fun q => hJ3 g6 ?_)⟩
          rw [if_neg (by omega)]
          intro g68 m68
          have hm68 := hm6.ex m68
          have hla68 := (hla 2 _ rfl).ex m68
          refine ⟨blkOf oa, fun b hb => hm68.nx (.inr hb), fun h => hm68.apart (by rwa [add_block] at h), _, _, _, hm68.blk.rd (j := 3) rfl, fun h => hm68.live hla68 (.inr h), _, hla68.1, fun g69 n69 => ?_⟩
          have h69 := hm68.ex n69.ex
          have hN : Sl g69 1 (some ⟨g68.w.heap.size, 0, none⟩) 1 1 [encStr x] := n69.sl (by simp) (by unfold maxLen; omega)
          obtain ⟨oa', oc', w', hr', g70, hw, _, ho, hs2, hnew⟩ := h69.row.app (P := Tryz.prog) E25 25 (Nat.zero_le _) hN (fun u hu => by simp at hu; subst hu; rfl) (by omega) (by unfold maxLen; omega)
          have b70 := hs2.but (Nat.le_refl _)
          have hmb := h69.blk.but b70 (fun hh => hm6.apart hh)
          have m69 := (m06.trans m68).trans n69.ex
          refine ⟨oa', _, oc', w', hr', g70, hw, ?_, fun b hb hx hn => ?_, hmb.ok (j := 3) (n := 1) (by simp), hmb.nxA 3, hmb.mutA 3 1, fun _ => .inl (add_block _ _), fun g71 k71 => ?_⟩
          · exact hs2.mono m69.size (fun z hz h => .inr h)
          · exact ((n69.ex.but _).trans b70).same b hb hx hn
          obtain ⟨hm71, b71⟩ := hmb.st k71
          have hnot : ¬ blkOf oa' M.mb := fun hh => (hnew M.mb hh).elim hm6.apart (fun h2 => by have := h69.blk.lt; omega)
          have H71 : MF M g71 left (out ++ [x]) oa' (on + 1) oc' := by
            refine ⟨hm71, ?_, hnot⟩
            rw [List.map_append]
            exact ho.but b71 (fun b hb e => hnot (e ▸ hb))
          refine (k26 g71).mono ?_
          rintro v g72 m72 ⟨q, rfl, hq⟩
          refine ⟨q, rfl, fun g73 m73 => ⟨_, left, out ++ [x], q, rfl, rfl, hq.mono m73.le, oa', on + 1, oc', (H71.ex m72).ex m73, fun b hb => ?_⟩⟩
          exact (hnew b hb).elim .inl (fun h => .inr (Nat.le_trans m69.size h))
      exact ifEq (fun e => rest true ⟨fun _ => .inl e, fun _ => rfl⟩) (fun e => rest _ (by simp [show n ≠ 4 from e]))
  exact ifEq (fun e => main 2 (by rw [if_pos (by unfold textual; omega)])) (fun e10 => ifEq (fun e => main 2 (by rw [if_pos (by unfold textual; omega)])) (fun e11 => ifEq (fun e => main 2 (by rw [if_pos (by unfold textual; omega)])) (fun e12 => ifEq (fun e => main 2 (by rw [if_pos (by unfold textual; omega)])) (fun e14 => main 1 (by rw [if_neg (by unfold textual; omega)])))))
end Go.Proofs.YthlcdgpemjdgnaaGreatDoor
/- The machine of flat functions: calls, lists. -/
set_option linter.unusedVariables false
namespace Go.Proofs.YthlcdgpemjdgnaaGreatDoor
open Go Go.Vc Go.RowKit Go.Syn Go.Lam Go.Sort
open PM
theorem E64 : Elem Tryz.prog 64 62 1 8 := ⟨Tryz.underlying64, by kernel_rfl⟩
theorem rws_of_ptr (g : G) : ∀ ps : List (Option Addr), Rws ptrE g (ps.map Value.pointer) ps
  | [] => Rws.nil
  | p :: ps => by
    have := Rws.cons (E := ptrE) (r := [.pointer p]) (x := p) (g := g) rfl (rws_of_ptr g ps)
    exact this
theorem VFs.row {g : G} {la : Option Addr} {ln lc : Nat} {l : List Th} (h : VFs g la ln lc l) : ∃ ps : List (Option Addr), SlE ptrE g la ln lc ps ∧ ps.length = l.length ∧ ∀ (i : Nat) (p : Option Addr) (u : Th), ps[i]? = some p → l[i]? = some u → VF g p u := by
  have hl := h.len
  obtain ⟨ps, h1, h2, h3⟩ := h
  exact ⟨ps, ⟨⟨_, h1, rws_of_ptr g ps⟩, by omega⟩, h2, h3⟩
theorem VFs.snoc {g : G} {la : Option Addr} {ln lc : Nat} {ps : List (Option Addr)} {l : List Th} {p : Option Addr} {t : Th} (h : SlE ptrE g la ln lc (ps ++ [p])) (hl : ps.length = l.length) (hv : ∀ (i : Nat) (p : Option Addr) (u : Th), ps[i]? = some p → l[i]? = some u → VF g p u) (ht : VF g p t) : VFs g la ln lc (l ++ [t]) := by
  refine VFs.of h (by simp [hl]) (fun i q u hq hu => ?_)
  rw [List.getElem?_append] at hq hu
  by_cases hi : i < ps.length
  · rw [if_pos hi] at hq
    rw [if_pos (by omega)] at hu
    exact hv i q u hq hu
  · rw [if_neg hi] at hq
    rw [if_neg (by omega)] at hu
    have e0 : i = ps.length := by
      have := (List.getElem?_eq_some_iff.1 hq).1
      simp at this; omega
    subst e0
    rw [Nat.sub_self] at hq
    rw [hl, Nat.sub_self] at hu
    simp at hq hu
    subst hq; subst hu
    exact ht
theorem k97 {g : G} {a : Option Addr} {n c : Nat} {ps : List (Option Addr)} (h : SlE ptrE g a n c ps) : CallsP Tryz.prog 97 #[.slice a n c] g fun v _ => v = .slice (slAddr a (Int.toNat ((n : Nat) : Int)) 0 1) ((Int.toNat ((n : Nat) : Int)) - 0) ((Int.toNat ((n : Nat) : Int)) - 0) := by
  refine call97 _ _ _ g _ ?_
  have := h.le
  unfold F97
  exact ⟨⟨by omega, by omega⟩, ⟨by omega, by omega⟩, fun g1 _ => rfl⟩
structure Ctx (M : PM0) (fs : List FlatD) (g : G) : Prop where
  tab : TabG g
  row : SlE flatE g M.fa M.fn M.fc fs
theorem Ctx.mono {M : PM0} {fs : List FlatD} {g g' : G} (h : Ctx M fs g) (m : Le g g') : Ctx M fs g' := ⟨h.tab.mono m, h.row.mono m⟩
def K50 (M : PM0) (cs : List Int) (fs : List FlatD) (d : Nat) : Prop := ∀ (x : E) (cap k : Nat) (env : List Th) {left : Nat} {out : List Lab} {xa : Option Addr} {xl xc : Nat} {fp : Option Addr} {oa : Option Addr} {on oc : Nat} {g : G},
  goodB cs cap k x → EnvF cs cap k env → k + depthE x ≤ 100000 → left + 1 ≤ d → left ≤ M.fuel → out.length ≤ 1000 → SlE expE g xa xl xc x.kids → FrP g fp env → Ctx M fs g → MF M g left out oa on oc →
  RunF 50 #[.pointer (some ⟨M.mb, 0, none⟩), expV x xa xl xc, .pointer fp] g M oa (evalF fs d x env left out)
theorem K50.frame {M : PM0} {cs : List Int} {fs : List FlatD} {d : Nat} (H : K50 M cs fs d) {x : E} {cap k : Nat} {f : Th} {ls : List Th} {left : Nat} {out : List Lab} {xa : Option Addr} {xl xc : Nat} {oa : Option Addr} {on oc : Nat} {g0 g4 g5 : G}
    (hx : goodB cs cap k x) (he : EnvF cs cap k (f :: ls)) (hk : k + depthE x ≤ 100000) (hd : left + 1 ≤ d) (hf : left ≤ M.fuel) (ho : out.length ≤ 1000) (hI : SlE expE g4 xa xl xc x.kids) {p : Option Addr} {la : Option Addr} {ln lc : Nat} (hp : VF g4 p f) (hls : VFs g4 la ln lc ls) (hC : Ctx M fs g4) (hm : MF M g4 left out oa on oc)
    (n5 : NewD g4 g5 105 [.pointer p, .slice la ln lc]) (hz : g0.w.heap.size ≤ g4.w.heap.size) :
    CallsX Tryz.prog 50 #[.pointer (some ⟨M.mb, 0, none⟩), expV x xa xl xc, .pointer (some ⟨g4.w.heap.size, 0, none⟩)] g5 (mset M.mb oa)
      (fun v g6 => ∃ x_1 : Option Addr, v = .pointer x_1 ∧ ∀ g7 : G, Ex g6 g7 → ∃ q : Nat → Prop, (∀ b, q b → g0.w.heap.size ≤ b) ∧ PVF M oa g0.w.heap.size (evalF fs d x (f :: ls) left out) (.pointer x_1) (g7.frozP q))
      (fun ch g8 => ∀ g9 : G, Ex g8 g9 → ∃ q : Nat → Prop, (∀ b, q b → g0.w.heap.size ≤ b) ∧ PXF M oa g0.w.heap.size (evalF fs d x (f :: ls) left out) ch (g9.frozP q)) := by
  have hb := n5.mut
  have hm5 := hm.ex n5.ex
  have hne : ¬ mset M.mb oa g4.w.heap.size := fun h => by have := hm.lt h; omega
  have qge : ∀ b, b = g4.w.heap.size → g0.w.heap.size ≤ b := fun b e => by omega
  have lef : Le g5 (g5.frozP fun b => b = g4.w.heap.size) := frozP_le _ _
  have le5 : Le g4 (g5.frozP fun b => b = g4.w.heap.size) := n5.ex.le.trans lef
  have hfr : FrP (g5.frozP fun b => b = g4.w.heap.size) (some ⟨g4.w.heap.size, 0, none⟩) (f :: ls) := by
    refine ⟨_, p, la, ln, lc, f, ls, rfl, rfl, ⟨hb.rd0 rfl, hb.nx, fun hh => hh.2 rfl⟩, ⟨hb.rd (j := 1) rfl, by rw [add_block]; exact hb.nx, fun hh => hh.2 (add_block _ _)⟩, hp.mono le5, hls.mono le5⟩
  have hm5' : MF M (g5.frozP fun b => b = g4.w.heap.size) left out oa on oc := hm5.frozP (fun e => hne (.inl e.symm)) (fun b hb e => hne (.inr (e ▸ hb)))
  have call := H x cap k (f :: ls) hx he hk hd hf ho (hI.mono le5) hfr (hC.mono le5) hm5'
  refine (CallsX.thawP (p := fun b => b = g4.w.heap.size) (fun b e => ⟨by rw [e]; exact hb.lt, by rw [e]; exact hne⟩) call).mono ?_ ?_
  · rintro v g6 hs6 hq
    have h2 := PVF.base (oa := oa) (sz := g0.w.heap.size) (Nat.le_trans hz n5.ex.size) (fun b hb => .inl hb) hq
    obtain ⟨t, l2, o2, q, hr, rfl, _⟩ := hq
    exact ⟨q, rfl, fun g7 m7 => ⟨_, qge, h2.ex (m7.frozP _)⟩⟩
  · exact fun ch g8 _ hq g9 m9 => ⟨_, qge, (PXF.base (oa := oa) (sz := g0.w.heap.size) (Nat.le_trans hz n5.ex.size) (fun b hb => .inl hb) hq).ex (m9.frozP _)⟩
theorem k25 {M : PM0} {cs : List Int} {fs : List FlatD} (hP : ProgF cs fs) {d : Nat} (H : K50 M cs fs d) {n : Int} {l : List Th} (hokf : OkF cs (fcT n l)) {arg : Th} (hoka : OkF cs arg) {left : Nat} {out : List Lab} {oa : Option Addr} {on oc : Nat} {g : G} (hd : left + 1 ≤ d) (hf : left ≤ M.fuel) (ho : out.length ≤ 1000)
    {p q : Option Addr} (hp : VF g p (fcT n l)) (hq : VF g q arg) (hC : Ctx M fs g) (hm : MF M g left out oa on oc) :
    RunF 25 #[.pointer (some ⟨M.mb, 0, none⟩), .pointer p, .pointer q] g M oa (evalF fs d (bodyF fs n) [fcT n l, arg] left out) := by
  refine CallsX.frz (call25 _ _ _ g _ _ _ ?_)
  unfold F25
  intro g1 m1
  obtain ⟨ad, la, ln, lc, rfl, hlv, _⟩ := (hp.mono m1.le).get
  obtain ⟨n', l', e, h0, h1, h2, h3⟩ := okF_fun hokf rfl
  cases e
  obtain ⟨f, e1, e2, e3, e4⟩ := hP.at_ h2
  have hlt := (List.getElem?_eq_some_iff.1 e1).1
  have hm1 := hm.ex m1
  have hC1 := hC.mono m1.le
  have hrl := hC1.row.len
  refine ⟨_, _, _, hm1.blk.rd0 rfl, n, (hlv 1 _ rfl).1, ⟨h0, by omega⟩, rdFl (i := n) hC1.row n.toNat (by omega) e1 (fun ad2 ka kn kc hk hl => ⟨f.body.dat.op, f.body.dat.n, bstr f.body.dat.s, ka, kn, kc, (hl 1 _ rfl).1, ?_, ?_, ?_, fun g2 n2 g3 n3 => ⟨mset M.mb oa, fun _ _ h => h, ?_⟩⟩)⟩
  · rw [add_add]; exact (hl 2 _ rfl).1
  · rw [add_add]; exact (hl 3 _ rfl).1
  · rw [add_add]; exact (hl 4 _ rfl).1
  · rw [← e2]
    have hrow : SlE ptrE g2 (some ⟨g1.w.heap.size, 0, none⟩) 1 1 [q] := n2.sle (xs := [q]) (Rws.single rfl) (by unfold maxLen; simp)
    have hvs : VFs g2 (some ⟨g1.w.heap.size, 0, none⟩) 1 1 [arg] := VFs.of hrow rfl (fun i p u hp hu => by
      cases i with
      | zero => simp at hp hu; subst hp; subst hu; exact ((hq.mono m1.le).mono n2.ex.le)
      | succ i => simp at hp)
    exact K50.frame H (g0 := g) e3 ⟨rfl, rfl, fun t ht => by
      rcases List.mem_cons.1 ht with rfl | ht
      · exact hokf
      · have : t = arg := by simpa using ht
        rw [this]; exact hoka⟩ (by omega) hd hf ho (hk.exm n2.ex) ((hp.mono m1.le).mono n2.ex.le) hvs (hC1.mono n2.ex.le) (hm1.ex n2.ex) n3 (m1.trans n2.ex).size
theorem k76 {M : PM0} {cs : List Int} {fs : List FlatD} {d : Nat} (H : K50 M cs fs d) {x : E} {cap k : Nat} {env : List Th} (hx : goodB cs cap (k + 1) x) (he : EnvF cs cap k env) {t : Th} (hokt : OkF cs t) (hk : k + 1 + depthE x ≤ 100000) {left : Nat} {out : List Lab} {oa : Option Addr} {on oc : Nat} {g : G} (hd : left + 1 ≤ d) (hf : left ≤ M.fuel) (ho : out.length ≤ 1000)
    {xa : Option Addr} {xl xc : Nat} (hI : SlE expE g xa xl xc x.kids) {fp q : Option Addr} (hfr : FrP g fp env) (hq : VF g q t) (hC : Ctx M fs g) (hm : MF M g left out oa on oc) :
    RunF 76 #[.pointer (some ⟨M.mb, 0, none⟩), expV x xa xl xc, .pointer fp, .pointer q] g M oa (evalF fs d x (env ++ [t]) left out) := by
  refine CallsX.frz (call76 _ _ _ _ _ _ _ _ _ g _ _ _ ?_)
  unfold F76
  intro g1 m1
  obtain ⟨fa, p, la, ln, lc, f, ls, rfl, rfl, hf1, hf2, hf3, hf4⟩ := hfr.mono m1.le
  have hel := he.len
  have he' := he.more hokt
  rw [List.length_cons] at hel
  obtain ⟨ps, hps, hpl, hpv⟩ := VFs.row hf4
  have hlen := hps.len
  have hm1 := hm.ex m1
  have hC1 := hC.mono m1.le
  have hI1 := hI.exm m1
  have tail : ∀ (gb : G) (qq : Option Addr), Ex g1 gb → SlE ptrE gb qq 1 1 [q] → ∃ xa_2 : Option Addr, ∃ xl_2 : Nat, ∃ xc_2 : Nat, ∃ wo1 : World, Sem.run Tryz.prog (Builtin.append_ #[64, 64] 64 #[(.slice (slAddr la (Int.toNat ((ln : Nat) : Int)) 0 1) ((Int.toNat ((ln : Nat) : Int)) - 0) ((Int.toNat ((ln : Nat) : Int)) - 0)), (.slice qq 1 1)]) gb.w = .ok (.slice xa_2 xl_2 xc_2) wo1 ∧ ∃ g4 : G, g4.w = wo1 ∧ Stp g.w.heap.size (mset M.mb oa) gb g4 ∧ SameB g1 g4 ∧ ∀ g5 : G, NewD g4 g5 105 ([(.pointer p), (.slice xa_2 xl_2 xc_2)] : List Value) →
      ∃ M1 : Nat → Prop, (∀ b, b < g.w.heap.size → M1 b → mset M.mb oa b) ∧ (CallsX Tryz.prog 50 #[(.pointer (some ⟨M.mb, 0, none⟩)), expV x xa xl xc, (.pointer (some ⟨g4.w.heap.size, 0, none⟩))] g5 M1
        (fun v g6 => ∃ x_1 : Option Addr, v = .pointer x_1 ∧ ∀ g7 : G, Ex g6 g7 → ∃ q : Nat → Prop, (∀ b, q b → g.w.heap.size ≤ b) ∧ PVF M oa g.w.heap.size (evalF fs d x (f :: ls ++ [t]) left out) (.pointer x_1) (g7.frozP q))
        (fun ch g8 => ∀ g9 : G, Ex g8 g9 → ∃ q : Nat → Prop, (∀ b, q b → g.w.heap.size ≤ b) ∧ PXF M oa g.w.heap.size (evalF fs d x (f :: ls ++ [t]) left out) ch (g9.frozP q))) := by
    intro gb qq mb hrow
    obtain ⟨a', c', w', hr, g4, hw, hs, hsl, _⟩ := SlE.clip (E := ptrE) E64 64 (hps.exm mb) hrow (by omega) (by unfold maxLen; omega) (m := 1) rfl
    have le14 : Le g1 g4 := mb.le.trans hs.le
    have hz1 : g.w.heap.size ≤ g1.w.heap.size := m1.size
    have hvs : VFs g4 a' (ln + 1) c' (ls ++ [t]) := VFs.snoc hsl hpl (fun i p u hp hu => (hpv i p u hp hu).mono le14) ((hq.mono m1.le).mono le14)
    have e14 : Ex g1 g4 := stp_exB hs mb mb.size
    exact ⟨a', _, c', w', hr, g4, hw, (hs.mono (Nat.le_trans hz1 mb.size) (fun _ _ h => h.elim)), sameB_of mb hs mb.size, fun g5 n5 => ⟨mset M.mb oa, fun _ _ h => h, K50.frame H (g0 := g) hx he' hk hd hf ho (hI1.mono le14) (hf3.mono le14) hvs (hC1.mono le14) (hm1.ex e14) n5 (Nat.le_trans hz1 le14.size)⟩⟩
  refine ⟨p, hf1.1, la, ln, lc, hf2.1, (k97 hps).mono ?_, fun g10 n10 => (k97 (hps.exm n10.ex)).mono ?_⟩
  · rintro v g2 m2 rfl
    exact ⟨_, _, _, rfl, fun g3 n3 => tail g3 _ (m2.trans n3.ex) (n3.sle (xs := [q]) (Rws.single rfl) (by unfold maxLen; simp))⟩
  · rintro v g11 m11 rfl
    exact ⟨_, _, _, rfl, tail g11 _ (n10.ex.trans m11) ((n10.sle (xs := [q]) (Rws.single rfl) (by unfold maxLen; simp)).exm m11)⟩
end Go.Proofs.YthlcdgpemjdgnaaGreatDoor
/- The machine of flat functions: evaluation. -/
set_option linter.unusedVariables false
namespace Go.Proofs.YthlcdgpemjdgnaaGreatDoor
open Go Go.Vc Go.RowKit Go.Syn Go.Lam Go.Sort
open PM
def PVFs (M : PM0) (oa : Option Addr) (sz : Nat) (r : Res (List Th)) (v : Value) (g' : G) : Prop := ∃ ts left out sa sn sc, r = .ok ts left out ∧ v = .slice sa sn sc ∧ VFs g' sa sn sc ts ∧ MachFS 58 g' M.mb M.fuel left M.fa M.fn M.fc out oa sz
def PXFs (M : PM0) (oa : Option Addr) (sz : Nat) (r : Res (List Th)) (ch : List PanicEntry) (g' : G) : Prop := ∃ op n left out, r = .stop op n left out ∧ ch = endF op n ∧ MachFS 58 g' M.mb M.fuel left M.fa M.fn M.fc out oa sz
theorem k74 {M : PM0} {cs : List Int} {fs : List FlatD} (hP : ProgF cs fs) {d : Nat} (H : K50 M cs fs d) {l : List E} {cap k : Nat} {env : List Th} (hgl : ∀ y ∈ l, goodB cs cap k y ∧ k + depthE y ≤ 100000) (hln : l.length ≤ 1001) (he : EnvF cs cap k env) {left : Nat} {out : List Lab} {oa : Option Addr} {on oc : Nat} {g : G} (hd : left + 1 ≤ d) (hf : left ≤ M.fuel) (ho : out.length ≤ 1000)
    {la : Option Addr} {n lc : Nat} {fp : Option Addr} (hI : SlE expE g la n lc l) (hfr : FrP g fp env) (hC : Ctx M fs g) (hm : MF M g left out oa on oc) :
    CallsX Tryz.prog 74 #[.pointer (some ⟨M.mb, 0, none⟩), .slice la n lc, .pointer fp] g (mset M.mb oa) (PVFs M oa g.w.heap.size (evL (evalF fs d) l env left out)) (PXFs M oa g.w.heap.size (evL (evalF fs d) l env left out)) := by
  refine call74 _ _ _ _ _ g _ _ _ ?_
  have hnl := hI.len
  unfold F74
  refine ⟨fun m la ll lc i g' => ∃ (j : Nat) (ts : List Th) (l1 : Nat) (o1 : List Lab) (oa1 : Option Addr) (on1 oc1 : Nat) (ps : List (Option Addr)), i = ((j : Nat) : Int) ∧ j + m = n ∧ evL (evalF fs d) (l.take j) env left out = .ok ts l1 o1 ∧
      OwnE ptrE g' g.w.heap.size 62 la ll lc ps ∧ ps.length = ts.length ∧ (∀ (i : Nat) (p : Option Addr) (u : Th), ps[i]? = some p → ts[i]? = some u → VF g' p u) ∧ MF M g' l1 o1 oa1 on1 oc1 ∧ (∀ b, blkOf oa1 b → blkOf oa b ∨ g.w.heap.size ≤ b) ∧ (∀ b, blkOf la b → ¬ mset M.mb oa1 b),
      ⟨n, 0, [], left, out, oa, on, oc, [], rfl, by omega, rfl, OwnE.nil _ _ _, rfl, fun i p u h => by simp at h, hm, fun b hb => .inl hb, fun b hb => by obtain ⟨_, hh, _⟩ := hb; cases hh⟩, ?_⟩
  rintro m la' ll lc' i g4 le4 ⟨j, ts, l1, o1, oa1, on1, oc1, ps, rfl, hj, hev, hps, hpl, hpv, hm4, ha1, hap⟩
  have hokL := evL_okF (eval_okF hP d) (l.take j) env left out (fun y hy => (hgl y (List.mem_of_mem_take hy)).1) he ho
  rw [hev] at hokL
  obtain ⟨okt, oklen, okl, oko⟩ := hokL
  rw [List.length_take] at oklen
  have hpsl := hps.len
  refine ifLt (fun q => ⟨⟨by omega, by omega⟩, ?_⟩) (fun q g8 m8 => ?_)
  · have gj := List.getElem?_eq_getElem (show j < l.length by omega)
    generalize l[j] = y at gj
    have hy := hgl y (List.mem_of_getElem? gj)
    have htk := evL_take (evalF fs d) gj env left out
    rw [hev, Res.bind_ok] at htk
    refine rdE (hI.mono le4) j rfl gj (fun ka kn kc hkk g5 m5 => ?_)
    have hok := eval_okF hP d y cap k env l1 o1 hy.1 he oko
    have hm5 := hm4.ex m5
    have le5 := le4.trans m5.le
    have hz5 : g.w.heap.size ≤ g5.w.heap.size := le5.size
    refine ⟨mset M.mb oa1, mset_sub ha1, (H y cap k env hy.1 he hy.2 (by omega) (by omega) oko (hkk.exm m5) (hfr.mono le5) (hC.mono le5) hm5).mono ?_ ?_⟩
    · rintro v g6 hs6 ⟨t, l2, o2, p, hr, rfl, hv, oa2, on2, oc2, hm6, hn2⟩
      rw [hr, Res.bind_ok] at htk
      refine ⟨p, rfl, fun g7 n7 => ?_⟩
      have hps5 := hps.exm m5
      have hap6 : ∀ b, blkOf la' b → ¬ mset M.mb oa2 b := by
        intro b hb hh
        rcases hh with rfl | hh
        · exact hap _ hb (.inl rfl)
        · rcases hn2 b hh with h2 | h2
          · exact hap b hb (.inr h2)
          · have := hps5.lt hb; omega
      have hps6 := hps5.but (hs6.but (Nat.le_refl _)) hap hs6.le
      obtain ⟨a', c', w', hrun, g8, hw, hs8, ho8, hs8', hnew8⟩ := hps6.app1 (P := Tryz.prog) E64 64 (Nat.le_trans hz5 hs6.le.size) n7 (x := p) rfl (by omega) (by unfold maxLen; omega)
      have b8 := hs8'.but (Nat.le_refl _)
      have hm8 := (hm6.ex n7.ex).but b8 (fun hh => hap6 M.mb hh (.inl rfl)) (fun b hb hh => hap6 b hh (.inr hb))
      have le58' : Le g4 g8 := ((m5.le.trans hs6.le).trans n7.ex.le).trans hs8.le
      refine ⟨a', _, c', w', hrun, g8, hw, hs8.mono (Nat.le_refl _) (fun _ _ h => h.elim), i64 (by omega) (by omega), m - 1, by omega, j + 1, ts ++ [t], l2, o2, oa2, on2, oc2, ps ++ [p], by omega, by omega, htk, ho8, by simp [hpl], ?_, hm8, fun b hb => (hn2 b hb).elim (ha1 b) (fun h => .inr (Nat.le_trans hz5 h)), ?_⟩
      · intro i q u hq hu
        rw [List.getElem?_append] at hq hu
        by_cases hi : i < ps.length
        · rw [if_pos hi] at hq
          rw [if_pos (by omega)] at hu
          exact (hpv i q u hq hu).mono le58'
        · rw [if_neg hi] at hq
          rw [if_neg (by omega)] at hu
          have e0 : i = ps.length := by
            have := (List.getElem?_eq_some_iff.1 hq).1
            simp at this; omega
          subst e0
          rw [Nat.sub_self] at hq
          rw [hpl, Nat.sub_self] at hu
          simp at hq hu
          subst hq; subst hu
          exact (hv.mono n7.ex.le).mono hs8.le
      · intro b hb hh
        rcases hnew8 b hb with h2 | h2
        · exact hap6 b h2 hh
        · have h3 := hm6.lt hh
          have := n7.ex.size
          omega
    · rintro ch g9 hs9 ⟨op', code, l2, o2, hr, rfl, oa2, on2, oc2, hm9, hn2⟩ g10 m10
      rw [hr, Res.bind_stop] at htk
      exact ⟨op', code, l2, o2, evL_stop (evalF fs d) htk, rfl, oa2, on2, oc2, hm9.ex m10, fun b hb => (hn2 b hb).elim (ha1 b) (fun h => .inr (Nat.le_trans hz5 h))⟩
  · rw [List.take_of_length_le (by omega)] at hev
    exact ⟨ts, l1, o1, la', ll, lc', hev, rfl, (VFs.of hps.sl hpl hpv).mono m8.le, oa1, on1, oc1, hm4.ex m8, ha1⟩
theorem MachF.step {M : PM0} {g g2 : G} {left : Nat} {out : List Lab} {oa : Option Addr} {on oc : Nat} (hm : MF M g (left + 1) out oa on oc) (k : StG false g (Addr.add ⟨M.mb, 0, none⟩ 2) [.int .i64 (((M.fuel : Nat) : Int) - ((left + 1 : Nat) : Int) + 1)] g2) : MF M g2 left out oa on oc ∧ Le g g2 := by
  obtain ⟨h1, h2⟩ := hm.blk.st k
  refine ⟨⟨?_, hm.row.but h2 (fun b hb e => hm.apart (e ▸ hb)), hm.apart⟩, h2.le (fun z hz i => by have e : z = M.mb := hz; rw [e]; exact hm.blk.d i)⟩
  rw [show ((M.fuel : Nat) : Int) - ((left : Nat) : Int) = ((M.fuel : Nat) : Int) - ((left + 1 : Nat) : Int) + 1 by omega]
  exact h1
end Go.Proofs.YthlcdgpemjdgnaaGreatDoor
/- The machine of flat functions: eval. -/
set_option linter.unusedVariables false
namespace Go.Proofs.YthlcdgpemjdgnaaGreatDoor
open Go Go.Vc Go.RowKit Go.Syn Go.Lam Go.Sort
open PM
theorem rdE' {L : List E} {a : Option Addr} {n c : Nat} {g : G} (h : SlE expE g a n c L) {i : Int} (p : Nat) (hi : i = (p : Int)) {t : E} (ht : L[p]? = some t) {K : Addr → Prop}
    (hk : ∀ ad ka kn kc, SlE expE g ka kn kc t.kids → (∀ j v, ([.int .i64 t.dat.op, .int .i64 t.dat.n, .string (bstr t.dat.s), .slice ka kn kc] : List Value)[j]? = some v → Live g (Addr.add (Addr.add ad (Int.toNat i * 4)) j) v) → K ad) : derefP a K := by
  subst hi
  refine h.rd (i := p) ht (fun r ad hr hl => ?_)
  obtain ⟨ka, kn, kc, rfl, hI⟩ := exp_un hr
  refine hk ad ka kn kc hI ?_
  rw [Int.toNat_natCast]
  exact hl
theorem stepF_list {fs : List FlatD} {ev : Ev} {x : E} (env : List Th) (l : Nat) (out : List Lab) (h : x.dat.op = 25 ∨ x.dat.op = 24 ∨ x.dat.op = 6 ∨ x.dat.op = 8 ∨ x.dat.op = 12 ∨ x.dat.op = 7) : stepF fs ev x env l out = (evL ev x.kids env l out).bind fun ts left out => combF fs ev x ts left out := by
  unfold stepF
  rw [if_neg (by omega), if_neg (by omega), if_neg (by omega), if_neg (by omega), if_neg (by omega), if_neg (by omega), if_neg (by omega), if_neg (by omega)]
set_option maxHeartbeats 2000000 in
theorem k50 {M : PM0} {cs : List Int} {fs : List FlatD} (hP : ProgF cs fs) (hfu : M.fuel ≤ 1048576) : ∀ d, K50 M cs fs d := by
  intro d
  induction d with
  | zero => intro x cap k env left out xa xl xc fp oa on oc g _ _ _ hd; omega
  | succ d H =>
    intro x cap k env left out xa xl xc fp oa on oc g hx he hkd hd hf ho hI hfr hC hm
    refine call50 _ _ _ _ _ _ _ _ g _ _ _ ?_
    have hnl := hI.len
    obtain ⟨n2, n3, n25, n6, n7, n9, n12, n13, n21, n23, n24, nr, nk⟩ := fnode hx
    have hxd : depthE x = depthEL x.kids + 1 := by cases x; rfl
    unfold F50
    intro J hJ g89 m89
    have hm89 := hm.ex m89
    refine ⟨nobody, fun _ h => h.elim, fun h => h.elim, _, hm89.blk.rd (j := 2) rfl, fun h => h.elim, _, hm89.blk.rd (j := 1) rfl, ifEq (fun q => stopF 3 0 hm89 _ ?_) (fun q => hJ g89 ?_)⟩
    · have : left = 0 := by omega
      subst this
      rfl
    clear hJ
    obtain ⟨l, rfl⟩ : ∃ l, left = l + 1 := ⟨left - 1, by omega⟩
    have hr : evalF fs (d + 1) x env (l + 1) out = stepF fs (evalF fs d) x env l out := by
      show (if l + 1 = 0 then _ else _) = _
      rw [if_neg (by omega)]
      rfl
    rw [hr]
    have hd' : l + 1 ≤ d := by omega
    have hf' : l ≤ M.fuel := by omega
    refine ⟨_, hm89.blk.rd (j := 2) rfl, i64 (by omega) (by omega), hm89.blk.ok (j := 2) (n := 1) (by simp), hm89.blk.nxA 2, hm89.blk.mutA 2 1, fun _ => .inl (add_block _ _), fun g2 k2 => ?_⟩
    obtain ⟨hm2, le2'⟩ := MachF.step hm89 k2
    have le2 : Le g g2 := m89.le.trans le2'
    have hz2 : g.w.heap.size ≤ g2.w.heap.size := le2.size
    have hI2 := hI.mono le2
    have hfr2 := hfr.mono le2
    have hC2 := hC.mono le2
    have noa : ∀ b, blkOf oa b → blkOf oa b ∨ g.w.heap.size ≤ b := fun b hb => .inl hb
    have kd : ∀ {i : Nat}, i < x.kids.length → k + 1 + depthE (kid x i) ≤ 100000 := by
      intro i hi
      have := depthE_mem (List.mem_of_getElem? (kid_get hi))
      omega
    -- a value
    have val : ∀ (r : Res Th) (t : Th) (l1 : Nat) (o1 : List Lab) (p : Option Addr) (g' : G) (oa1 : Option Addr) (on1 oc1 : Nat), r = .ok t l1 o1 → VF g' p t → MF M g' l1 o1 oa1 on1 oc1 → (∀ b, blkOf oa1 b → blkOf oa b ∨ g.w.heap.size ≤ b) → PVF M oa g.w.heap.size r (.pointer p) g' :=
      fun r t l1 o1 p g' oa1 on1 oc1 h1 h2 h3 h4 => ⟨t, l1, o1, p, h1, rfl, h2, oa1, on1, oc1, h3, h4⟩
    -- the parts
    have parts : (x.dat.op ≠ 9) → (x.dat.op ≠ 11) → ∀ g', Ex g2 g' → CallsX Tryz.prog 74 #[.pointer (some ⟨M.mb, 0, none⟩), .slice xa xl xc, .pointer fp] g' (mset M.mb oa)
        (fun v g7 => ∃ ts l1 o1 sa sn sc oa1 on1 oc1, evL (evalF fs d) x.kids env l out = .ok ts l1 o1 ∧ v = .slice sa sn sc ∧ VFs g7 sa sn sc ts ∧ MF M g7 l1 o1 oa1 on1 oc1 ∧ (∀ b, blkOf oa1 b → blkOf oa b ∨ g.w.heap.size ≤ b) ∧ (∀ t ∈ ts, OkF cs t) ∧ ts.length = x.kids.length ∧ l1 ≤ l ∧ o1.length ≤ 1000 ∧ Le g2 g7 ∧ SameBut (mset M.mb oa) g' g7)
        (fun ch g10 => ∃ op n l1 o1, evL (evalF fs d) x.kids env l out = .stop op n l1 o1 ∧ ch = endF op n ∧ MachFS 58 g10 M.mb M.fuel l1 M.fa M.fn M.fc o1 oa g.w.heap.size) := by
      intro h9 h11 g' m'
      have hk := fkids hx h9 h11
      have hokL := evL_okF (eval_okF hP d) x.kids env l out hk he ho
      refine (k74 hP H (l := x.kids) (fun y hy => ⟨hk y hy, by have := depthE_mem hy; omega⟩) nk he hd' hf' ho (hI2.exm m') (hfr2.mono m'.le) (hC2.mono m'.le) (hm2.ex m')).mono ?_ ?_
      · rintro v g7 hs7 ⟨ts, l1, o1, sa, sn, sc, e, rfl, hv, oa1, on1, oc1, hm7, hn7⟩
        rw [e] at hokL
        exact ⟨ts, l1, o1, sa, sn, sc, oa1, on1, oc1, e, rfl, hv, hm7, fun b hb => (hn7 b hb).elim .inl (fun h => .inr (Nat.le_trans (Nat.le_trans hz2 m'.size) h)), hokL.1, hokL.2.1, hokL.2.2.1, hokL.2.2.2, m'.le.trans hs7.le, fun b hb hx hn => (hs7.but (Nat.le_refl _)).same b hb hx hn⟩
      · rintro ch g10 _ ⟨op, n, l1, o1, e, rfl, oa1, on1, oc1, hm7, hn7⟩
        exact ⟨op, n, l1, o1, e, rfl, oa1, on1, oc1, hm7, fun b hb => (hn7 b hb).elim .inl (fun h => .inr (Nat.le_trans (Nat.le_trans hz2 m'.size) h))⟩
    -- an end among the parts
    have pend : ∀ (hop : x.dat.op = 25 ∨ x.dat.op = 24 ∨ x.dat.op = 6 ∨ x.dat.op = 8 ∨ x.dat.op = 12 ∨ x.dat.op = 7) {ch : List PanicEntry} {g10 g11 : G}, (∃ op n l1 o1, evL (evalF fs d) x.kids env l out = .stop op n l1 o1 ∧ ch = endF op n ∧ MachFS 58 g10 M.mb M.fuel l1 M.fa M.fn M.fc o1 oa g.w.heap.size) → Ex g10 g11 → PXF M oa g.w.heap.size (stepF fs (evalF fs d) x env l out) ch g11 := by
      rintro hop ch g10 g11 ⟨op, n, l1, o1, e, rfl, hmm⟩ m
      refine ⟨op, n, l1, o1, ?_, rfl, hmm.ex m⟩
      rw [stepF_list env l out hop, e, Res.bind_stop]
    -- the first part
    have first : ∀ {ka : Option Addr} {kn kc : Nat} (g' : G), Ex g2 g' → 0 < x.kids.length → (x.dat.op = 7 ∨ x.dat.op = 9 ∨ x.dat.op = 11) → SlE expE g' ka kn kc (kid x 0).kids →
        CallsX Tryz.prog 50 #[.pointer (some ⟨M.mb, 0, none⟩), expV (kid x 0) ka kn kc, .pointer fp] g' (mset M.mb oa)
        (fun v g12 => ∃ t l1 o1 p oa1 on1 oc1, evalF fs d (kid x 0) env l out = .ok t l1 o1 ∧ v = .pointer p ∧ VF g12 p t ∧ MF M g12 l1 o1 oa1 on1 oc1 ∧ (∀ b, blkOf oa1 b → blkOf oa b ∨ g.w.heap.size ≤ b) ∧ OkF cs t ∧ l1 ≤ l ∧ o1.length ≤ 1000 ∧ Le g2 g12 ∧ SameBut (mset M.mb oa) g' g12)
        (fun ch g10 => ∃ op n l1 o1, evalF fs d (kid x 0) env l out = .stop op n l1 o1 ∧ ch = endF op n ∧ MachFS 58 g10 M.mb M.fuel l1 M.fa M.fn M.fc o1 oa g.w.heap.size) := by
      intro ka kn kc g' m' h0 hop hk
      have g0 := fkid hx h0
      rw [if_neg (by unfold furP; omega)] at g0
      have hok := eval_okF hP d (kid x 0) cap k env l out g0 he ho
      refine (H (kid x 0) cap k env g0 he (by have := kd h0; omega) hd' hf' ho hk (hfr2.mono m'.le) (hC2.mono m'.le) (hm2.ex m')).mono ?_ ?_
      · rintro v g12 hs12 ⟨t, l1, o1, p, e, rfl, hv, oa1, on1, oc1, hm12, hn12⟩
        rw [e] at hok
        exact ⟨t, l1, o1, p, oa1, on1, oc1, e, rfl, hv, hm12, fun b hb => (hn12 b hb).elim .inl (fun h => .inr (Nat.le_trans (Nat.le_trans hz2 m'.size) h)), hok.1, hok.2.1, hok.2.2, m'.le.trans hs12.le, fun b hb hx hn => (hs12.but (Nat.le_refl _)).same b hb hx hn⟩
      · rintro ch g10 _ ⟨op, n, l1, o1, e, rfl, oa1, on1, oc1, hm7, hn7⟩
        exact ⟨op, n, l1, o1, e, rfl, oa1, on1, oc1, hm7, fun b hb => (hn7 b hb).elim .inl (fun h => .inr (Nat.le_trans (Nat.le_trans hz2 m'.size) h))⟩
    have stuck : ∀ {g' : G} {l1 : Nat} {o1 : List Lab} {oa1 : Option Addr} {on1 oc1 : Nat} {r : Res Th}, MF M g' l1 o1 oa1 on1 oc1 → (∀ b, blkOf oa1 b → blkOf oa b ∨ g.w.heap.size ≤ b) → r = .stop 4 0 l1 o1 → PXF M oa g.w.heap.size r (endF 4 0) g' :=
      fun h1 h2 h3 => ⟨4, 0, _, _, h3, rfl, _, _, _, h1, h2⟩
    have stp : ∀ (op n : Int) {g' : G} {l1 : Nat} {o1 : List Lab} {oa1 : Option Addr} {on1 oc1 : Nat} {r : Res Th} {Q : Value → G → Prop}, MF M g' l1 o1 oa1 on1 oc1 → (∀ b, blkOf oa1 b → blkOf oa b ∨ g.w.heap.size ≤ b) → r = .stop op n l1 o1 →
        CallsX Tryz.prog 51 #[.int .i64 op, .int .i64 n] g' nobody Q (fun ch g2 => ∀ g3 : G, Ex g2 g3 → PXF M oa g.w.heap.size r ch g3) := by
      intro op n g' l1 o1 oa1 on1 oc1 r Q h1 h2 h3
      refine (k51 op n g').mono (fun v g' _ hh => hh.elim) ?_
      rintro ch g4 hs rfl g5 m5
      exact ⟨op, n, _, _, h3, rfl, _, _, _, (h1.ex hs.ex).ex m5, h2⟩
    refine ifEq (fun e g3 n3' g4 m4 => ?_) (fun e2 => ifEq (fun e g5 n5 g6 m6 => ?_) (fun e3 => ?_))
    · exact val _ (intT x.dat.n) l out _ _ _ _ _ (by unfold stepF; rw [if_pos e]) ((new_valF (t := intT x.dat.n) n3' (VFs.nil _)).mono m4.le) ((hm2.ex n3'.ex).ex m4) noa
    · exact val _ (textT x.dat.s) l out _ _ _ _ _ (by unfold stepF; rw [if_neg e2, if_pos e]) ((new_valF (t := textT x.dat.s) n5 (VFs.nil _)).mono m6.le) ((hm2.ex n5.ex).ex m6) noa
    refine ifEq (fun e => ⟨mset M.mb oa, fun _ _ h => h, (parts (by omega) (by omega) g2 (Ex.refl _)).mono ?_ (fun ch g10 _ hh g11 m11 => pend (by omega) hh m11)⟩) (fun e6 => ?_)
    · rintro v g7 _ ⟨ts, l1, o1, sa, sn, sc, oa1, on1, oc1, ev, rfl, hv, hm7, hn7, hok, hlen, hl1, ho1, _, _⟩
      refine ⟨sa, sn, sc, rfl, fun g8 n8 g9 m9 => ?_⟩
      refine val _ (recT ts) l1 o1 _ _ _ _ _ ?_ ((new_valF (t := recT ts) n8 hv).mono m9.le) ((hm7.ex n8.ex).ex m9) hn7
      rw [stepF_list env l out (by omega), ev, Res.bind_ok]
      unfold combF
      rw [if_neg (by omega), if_neg (by omega), if_pos e]
    refine ifEq (fun e => ⟨⟨by omega, by have := n7 (.inl e); omega⟩, rdE hI2 (i := 0) 0 rfl (kid_get (x := x) (by have := n7 (.inl e); omega)) (fun ka kn kc hk => ⟨mset M.mb oa, fun _ _ h => h, (first g2 (Ex.refl _) (by have := n7 (.inl e); omega) (.inl e) hk).mono ?_ ?_⟩)⟩) (fun e7 => ?_)
    · have h7 := n7 (.inl e)
      have hk1 := kids1 h7.1
      have hst : stepF fs (evalF fs d) x env l out = (evalF fs d (kid x 0) env l out).bind fun t left out => combF fs (evalF fs d) x [t] left out := by
        rw [stepF_list env l out (by omega), hk1]
        show ((evalF fs d (kid x 0) env l out).bind fun t left out => (Res.ok [] left out).bind fun ts left out => .ok (t :: ts) left out).bind _ = _
        rw [Res.bind_assoc]
        rfl
      rw [hst]
      rintro v g12 hs12 ⟨t, l1, o1, p, oa1, on1, oc1, ev, rfl, hv, hm12, hn12, hok, hl1, ho1, _, _⟩
      rw [ev, Res.bind_ok]
      obtain ⟨_, _, s3, _, _⟩ := srt_int hok
      refine ⟨p, rfl, (k75 hv 3).mono ?_ ?_⟩
      · rintro v g13 hs13 ⟨rfl, h13⟩
        refine ⟨p, rfl, ?_⟩
        intro J1 hJ1 g17 m17
        have e317 : Ex g12 g17 := hs13.ex.trans m17
        obtain ⟨tl, rfl, tl1, tl2⟩ := okF_rec hok (s3.1 h13)
        obtain ⟨ad, la, ln, lc, rfl, hlv, hls⟩ := (hv.mono e317.le).get
        have hll := hls.len
        have hll : tl.length = ln := hll
        have hm17 := hm12.ex e317
        refine ⟨nobody, fun _ h => h.elim, fun h => h.elim, la, ln, lc, (hlv 3 _ rfl).1, ifLe (fun q => stp 4 0 hm17 hn12 ?_) (fun q => hJ1 g17 (fun g15 m15 => ?_))⟩
        · unfold combF
          rw [if_neg (by omega), if_neg (by omega), if_neg (by omega), if_neg (by omega), if_pos e]
          show (if (recT tl).op = 3 ∧ x.dat.n < ((tl.length : Nat) : Int) then _ else _) = _
          rw [if_neg (fun hh => by have := hh.2; omega)]
        · have q2 : x.dat.n < ((ln : Nat) : Int) := by omega
          have gt := List.getElem?_eq_getElem (show x.dat.n.toNat < tl.length by omega)
          have ec : combF fs (evalF fs d) x [recT tl] l1 o1 = .ok (tl[x.dat.n.toNat]'(by omega)) l1 o1 := by
            unfold combF
            rw [if_neg (by omega), if_neg (by omega), if_neg (by omega), if_neg (by omega), if_pos e]
            show (if (recT tl).op = 3 ∧ x.dat.n < ((tl.length : Nat) : Int) then Res.ok (tl.getD x.dat.n.toNat unitT) l1 o1 else _) = _
            rw [if_pos ⟨rfl, by omega⟩, List.getD_eq_getElem?_getD, gt]
            rfl
          rw [ec]
          refine ⟨nobody, fun _ h => h.elim, fun h => h.elim, la, ln, lc, ((hlv 3 _ rfl).ex m15).1, ⟨by omega, q2⟩, (hls.mono m15.le).rd (i := x.dat.n) x.dat.n.toNat (by omega) gt (fun ad2 q3 hq3 hq3l => ⟨q3, hq3l.1, fun g16 m16 => val _ _ l1 o1 _ _ _ _ _ rfl (hq3.mono m16.le) ((hm17.ex m15).ex m16) hn12⟩)⟩
      · rintro ch g21 hs21 ⟨h21, rfl⟩ g22 m22
        refine stuck ((hm12.ex hs21.ex).ex m22) hn12 ?_
        unfold combF
        rw [if_neg (by omega), if_neg (by omega), if_neg (by omega), if_neg (by omega), if_pos e]
        exact if_neg (fun hh => h21 (s3.2 hh.1))
    · rintro ch g23 _ ⟨op, n, l1, o1, ev, rfl, hmm⟩ g24 m24
      have h7 := n7 (.inl e)
      have hk1 := kids1 h7.1
      refine ⟨op, n, l1, o1, ?_, rfl, hmm.ex m24⟩
      rw [stepF_list env l out (by omega), hk1]
      show ((evalF fs d (kid x 0) env l out).bind _).bind _ = _
      rw [ev]
      rfl
    refine ifEq (fun e g25 m25 => ⟨mset M.mb oa, fun b hb => (hm2.ex m25).nx hb, mset M.mb oa, fun _ _ h => h, (parts (by omega) (by omega) g25 m25).mono ?_ (fun ch g10 _ hh g11 m11 => pend (by omega) hh m11)⟩) (fun e8 => ?_)
    · rintro v g7 _ ⟨ts, l1, o1, sa, sn, sc, oa1, on1, oc1, ev, rfl, hv, hm7, hn7, hok, hlen, hl1, ho1, _, hsb⟩
      refine ⟨sa, sn, sc, rfl, hsb, fun g8 n8 g9 m9 => ?_⟩
      refine val _ (injT x.dat.n ts) l1 o1 _ _ _ _ _ ?_ ((new_valF (t := injT x.dat.n ts) n8 hv).mono m9.le) ((hm7.ex n8.ex).ex m9) hn7
      rw [stepF_list env l out (by omega), ev, Res.bind_ok]
      unfold combF
      rw [if_neg (by omega), if_neg (by omega), if_neg (by omega), if_pos e]
    refine ifEq (fun e => ⟨⟨by omega, by have := n9 e; omega⟩, rdE hI2 (i := 0) 0 rfl (kid_get (x := x) (by have := n9 e; omega)) (fun ka kn kc hk => ⟨mset M.mb oa, fun _ _ h => h, (first g2 (Ex.refl _) (by have := n9 e; omega) (.inr (.inl e)) hk).mono ?_ ?_⟩)⟩) (fun e9 => ?_)
    · have h9 := n9 e
      have hst : stepF fs (evalF fs d) x env l out = (evalF fs d (kid x 0) env l out).bind fun t left out => if t.op = 4 ∧ t.n + 1 < ((x.kids.length : Nat) : Int) then evalF fs d (kid x (t.n + 1).toNat) (env ++ [t.l.getD 0 unitT]) left out else .stop 4 0 left out := by
        unfold stepF
        rw [if_neg (by omega), if_neg (by omega), if_neg (by omega), if_neg (by omega), if_neg (by omega), if_neg (by omega), if_neg (by omega), if_pos e]
      rw [hst]
      rintro v g12 hs12 ⟨t, l1, o1, p, oa1, on1, oc1, ev, rfl, hv, hm12, hn12, hok, hl1, ho1, le12, _⟩
      rw [ev, Res.bind_ok]
      obtain ⟨_, _, _, s4, _⟩ := srt_int hok
      refine ⟨p, rfl, (k75 hv 4).mono ?_ ?_⟩
      · rintro v g13 hs13 ⟨rfl, h13⟩
        refine ⟨p, rfl, ?_⟩
        intro J1 hJ1 g39 m39
        have e339 : Ex g12 g39 := hs13.ex.trans m39
        obtain ⟨tn, u, rfl, t1, t2, t3⟩ := okF_inj hok (s4.1 h13)
        obtain ⟨ad, la, ln, lc, rfl, hlv, hls⟩ := (hv.mono e339.le).get
        have hll : 1 = ln := hls.len
        have hm39 := hm12.ex e339
        refine ⟨nobody, fun _ h => h.elim, fun h => h.elim, tn, (hlv 1 _ rfl).1, i64 (by omega) (by omega), ifLe (fun q => stp 4 0 hm39 hn12 ?_) (fun q => hJ1 g39 (fun g34 m34 => ?_))⟩
        · show (if (injT tn [u]).op = 4 ∧ tn + 1 < ((x.kids.length : Nat) : Int) then _ else _) = _
          rw [if_neg (fun hh => by have := hh.2; omega)]
        · show ∃ MR7 : Nat → Prop, _
          rw [show (if (injT tn [u]).op = 4 ∧ (injT tn [u]).n + 1 < ((x.kids.length : Nat) : Int) then evalF fs d (kid x ((injT tn [u]).n + 1).toNat) (env ++ [(injT tn [u]).l.getD 0 unitT]) l1 o1 else .stop 4 0 l1 o1) = evalF fs d (kid x (tn + 1).toNat) (env ++ [u]) l1 o1 from if_pos ⟨rfl, by show tn + 1 < _; omega⟩]
          have hm34 := hm39.ex m34
          have le34 : Le g2 g34 := (le12.trans e339.le).trans m34.le
          have g1 := fkid hx (i := (tn + 1).toNat) (by omega)
          rw [if_pos (by unfold furP; omega)] at g1
          refine ⟨nobody, fun _ h => h.elim, fun h => h.elim, tn, ((hlv 1 _ rfl).ex m34).1, i64 (by omega) (by omega), ⟨by omega, by omega⟩, rdE' (hI2.mono le34) (i := tn + 1) (tn + 1).toNat (by omega) (kid_get (x := x) (by omega)) (fun ad8 ja jn jc hj hjl => ⟨fun h => h.elim, _, _, _, _, _, _, (live0 (hjl 0 _ rfl)).1, (hjl 1 _ rfl).1, (hjl 2 _ rfl).1, (hjl 3 _ rfl).1, fun h => h.elim, la, ln, lc, ((hlv 3 _ rfl).ex m34).1, ⟨by omega, by omega⟩, (hls.mono m34.le).rd (i := 0) 0 rfl rfl (fun ad10 q10 hq10 hq10l => ⟨fun h => h.elim, q10, hq10l.1, mset M.mb oa1, mset_sub hn12, ?_⟩)⟩)⟩
          exact relayF (k76 H g1 he t3 (kd (by omega)) (by omega) (by omega) ho1 hj (hfr2.mono le34) hq10 (hC2.mono le34) hm34) (Nat.le_trans hz2 le34.size) hn12
      · rintro ch g43 hs43 ⟨h43, rfl⟩ g44 m44
        refine stuck ((hm12.ex hs43.ex).ex m44) hn12 ?_
        rw [if_neg (fun hh => h43 (s4.2 hh.1))]
    · rintro ch g45 _ ⟨op, n, l1, o1, ev, rfl, hmm⟩ g46 m46
      refine ⟨op, n, l1, o1, ?_, rfl, hmm.ex m46⟩
      unfold stepF
      rw [if_neg (by omega), if_neg (by omega), if_neg (by omega), if_neg (by omega), if_neg (by omega), if_neg (by omega), if_neg (by omega), if_pos e, ev, Res.bind_stop]
    refine ifEq (fun e g47 m47 => ?_) (fun e11 => ?_)
    · have h11 := n25 (.inr e)
      have hm47 := hm2.ex m47
      have hst : stepF fs (evalF fs d) x env l out = (evalF fs d (kid x 0) env l out).bind fun t left out => evalF fs d (kid x 1) (env ++ [t]) left out := by
        unfold stepF
        rw [if_neg (by omega), if_neg (by omega), if_neg (by omega), if_neg (by omega), if_neg (by omega), if_neg (by omega), if_pos e]
      rw [hst]
      have hI47 := hI2.exm m47
      refine ⟨mset M.mb oa, fun b hb => hm47.nx hb, ⟨by omega, by omega⟩, rdE' hI47 (i := 1) 1 rfl (kid_get (x := x) (by omega)) (fun ad12 ja jn jc hj hjl => ⟨fun h => hm47.live (live0 (hjl 0 _ rfl)) h, _, _, _, _, _, _, (live0 (hjl 0 _ rfl)).1, (hjl 1 _ rfl).1, (hjl 2 _ rfl).1, (hjl 3 _ rfl).1, ⟨by omega, by omega⟩, rdE' hI47 (i := 0) 0 rfl (kid_get (x := x) (by omega)) (fun ad13 ka kn kc hk hkl => ⟨fun h => hm47.live (live0 (hkl 0 _ rfl)) h, _, _, _, _, _, _, (live0 (hkl 0 _ rfl)).1, (hkl 1 _ rfl).1, (hkl 2 _ rfl).1, (hkl 3 _ rfl).1, mset M.mb oa, fun _ _ h => h, (first g47 m47 (by omega) (.inr (.inr e)) hk).mono ?_ ?_⟩)⟩)⟩
      · rintro v g48 hs48 ⟨t, l1, o1, p, oa1, on1, oc1, ev, rfl, hv, hm48, hn48, hok, hl1, ho1, le48, hsb⟩
        rw [ev, Res.bind_ok]
        have g1 := fkid hx (i := 1) (by omega)
        rw [if_pos (by unfold furP; omega)] at g1
        exact ⟨p, rfl, hsb, mset M.mb oa1, mset_sub hn48, relayF (k76 H g1 he hok (kd (by omega)) (by omega) (by omega) ho1 (hj.mono hs48.le) (hfr2.mono le48) hv (hC2.mono le48) hm48) (Nat.le_trans hz2 le48.size) hn48⟩
      · rintro ch g53 _ ⟨op, n, l1, o1, ev, rfl, hmm⟩ g54 m54
        exact ⟨op, n, l1, o1, by rw [ev, Res.bind_stop], rfl, hmm.ex m54⟩
    refine ifEq (fun e g55 m55 => ⟨mset M.mb oa, fun b hb => (hm2.ex m55).nx hb, mset M.mb oa, fun _ _ h => h, (parts (by omega) (by omega) g55 m55).mono ?_ (fun ch g10 _ hh g11 m11 => pend (by omega) hh m11)⟩) (fun e12 => ?_)
    · rintro v g56 _ ⟨ts, l1, o1, sa, sn, sc, oa1, on1, oc1, ev, rfl, hv, hm7, hn7, hok, hlen, hl1, ho1, le56, hsb⟩
      have hst : stepF fs (evalF fs d) x env l out = primN x.dat.n ts l1 o1 := by
        rw [stepF_list env l out (by omega), ev, Res.bind_ok]
        unfold combF
        rw [if_neg (by omega), if_neg (by omega), if_neg (by omega), if_neg (by omega), if_neg (by omega)]
      rw [hst]
      have h12 := n12 e
      exact ⟨sa, sn, sc, rfl, hsb, mset M.mb oa1, mset_sub hn7, relayF (k77 (cs := cs) (hC2.mono le56).tab hm7 ho1 hv hok ⟨h12.1, h12.2.1⟩ (by rw [hlen]; exact h12.2.2)) (Nat.le_trans hz2 le56.size) hn7⟩
    have hel := he.len
    have hcap := he.cap
    have hmem : ∀ t ∈ env, OkF cs t := he.ok
    refine ifEq (fun e g63 m63 => ?_) (fun e21 => ifEq (fun e => ?_) (fun e22 => ifEq (fun e g66 m66 => ?_) (fun e23 => ?_)))
    · have h21 := n21 e
      obtain ⟨fa, p, la, ln, lc, f, ls, rfl, rfl, hf1, hf2, hf3, hf4⟩ := hfr2.mono m63.le
      have hll := hf4.len
      rw [List.length_cons] at hel
      have gt := List.getElem?_eq_getElem (show x.dat.n.toNat < ls.length by omega)
      refine ⟨nobody, fun _ h => h.elim, fun h => h.elim, la, ln, lc, hf2.1, ⟨by omega, by omega⟩, hf4.rd (i := x.dat.n) x.dat.n.toNat (by omega) gt (fun ad15 q15 hq15 hq15l => ⟨q15, hq15l.1, fun g64 m64 => val _ _ l out _ _ _ _ _ ?_ (hq15.mono m64.le) ((hm2.ex m63).ex m64) noa⟩)⟩
      unfold stepF
      rw [if_neg e2, if_neg e3, if_pos e, List.getD_cons_succ, List.getD_eq_getElem?_getD, gt]
      rfl
    · obtain ⟨fa, p, la, ln, lc, f, ls, rfl, rfl, hf1, hf2, hf3, hf4⟩ := hfr2
      refine ⟨p, hf1.1, fun g65 m65 => val _ f l out _ _ _ _ _ ?_ (hf3.mono m65.le) (hm2.ex m65) noa⟩
      unfold stepF
      rw [if_neg e2, if_neg e3, if_neg e21, if_pos e]
      rfl
    · have h23 := n23 e
      obtain ⟨fa, p, la, ln, lc, f, ls, rfl, rfl, hf1, hf2, hf3, hf4⟩ := hfr2.mono m66.le
      obtain ⟨fd, fl, fln, flc, rfl, hlv, hfl⟩ := hf3.get
      have hll := hfl.len
      have hcap' : f.l.length = cap := hcap
      have gt := List.getElem?_eq_getElem (show x.dat.n.toNat < f.l.length by omega)
      refine ⟨nobody, fun _ h => h.elim, fun h => h.elim, _, hf1.1, fun h => h.elim, fl, fln, flc, (hlv 3 _ rfl).1, ⟨by omega, by omega⟩, hfl.rd (i := x.dat.n) x.dat.n.toNat (by omega) gt (fun ad19 q19 hq19 hq19l => ⟨q19, hq19l.1, fun g67 m67 => val _ _ l out _ _ _ _ _ ?_ (hq19.mono m67.le) ((hm2.ex m66).ex m67) noa⟩)⟩
      unfold stepF
      rw [if_neg e2, if_neg e3, if_neg e21, if_neg e22, if_pos e]
      show Res.ok (f.l.getD x.dat.n.toNat unitT) l out = _
      rw [List.getD_eq_getElem?_getD, gt]
      rfl
    refine ifEq (fun e g68 m68 => ⟨mset M.mb oa, fun b hb => (hm2.ex m68).nx hb, mset M.mb oa, fun _ _ h => h, (parts (by omega) (by omega) g68 m68).mono ?_ (fun ch g10 _ hh g11 m11 => pend (by omega) hh m11)⟩) (fun e24 => ?_)
    · rintro v g7 _ ⟨ts, l1, o1, sa, sn, sc, oa1, on1, oc1, ev, rfl, hv, hm7, hn7, hok, hlen, hl1, ho1, _, hsb⟩
      refine ⟨sa, sn, sc, rfl, hsb, fun g8 n8 g9 m9 => ?_⟩
      refine val _ (fcT x.dat.n ts) l1 o1 _ _ _ _ _ ?_ ((new_valF (t := fcT x.dat.n ts) n8 hv).mono m9.le) ((hm7.ex n8.ex).ex m9) hn7
      rw [stepF_list env l out (by omega), ev, Res.bind_ok]
      unfold combF
      rw [if_neg (by omega), if_pos e]
    refine ifEq (fun e => ⟨mset M.mb oa, fun _ _ h => h, (parts (by omega) (by omega) g2 (Ex.refl _)).mono ?_ (fun ch g10 _ hh g11 m11 => pend (by omega) hh m11)⟩) (fun e25 => ?_)
    · rintro v g74 _ ⟨ts, l1, o1, sa, sn, sc, oa1, on1, oc1, ev, rfl, hv, hm7, hn7, hok, hlen, hl1, ho1, le74, hsb⟩
      have h25 := n25 (.inl e)
      have hvl := hv.len
      have hst : stepF fs (evalF fs d) x env l out = if (ts.getD 0 unitT).op = 7 then evalF fs d (bodyF fs (ts.getD 0 unitT).n) [ts.getD 0 unitT, ts.getD 1 unitT] l1 o1 else .stop 4 0 l1 o1 := by
        rw [stepF_list env l out (by omega), ev, Res.bind_ok]
        unfold combF
        rw [if_pos e]
      rw [hst]
      obtain ⟨f, arg, rfl⟩ : ∃ f arg, ts = [f, arg] := by
        match ts, hlen.trans h25 with
        | [f, arg], _ => exact ⟨f, arg, rfl⟩
      have hokf := hok f (by simp)
      have hoka := hok arg (by simp)
      obtain ⟨_, _, _, _, s5⟩ := srt_int hokf
      show ∃ (la : Option Addr) (ll lc : Nat), _
      have hvl : 2 = sn := hvl
      refine ⟨sa, sn, sc, rfl, fun g75 m75 => ⟨nobody, fun _ h => h.elim, ⟨by omega, by omega⟩, (hv.mono m75.le).rd (i := 0) 0 rfl rfl (fun ad20 q20 hq20 hq20l => ⟨fun h => h.elim, q20, hq20l.1, ⟨by omega, by omega⟩, (hv.mono m75.le).rd (i := 1) 1 rfl rfl (fun ad21 q21 hq21 hq21l => ⟨fun h => h.elim, q21, hq21l.1, (k75 hq20 5).mono ?_ ?_⟩)⟩)⟩⟩
      · rintro v g76 hs76 ⟨rfl, h76⟩
        obtain ⟨n, lf, rfl, f0, f1, f2, f3⟩ := okF_fun hokf (s5.1 h76)
        have le76 : Le g2 g76 := (le74.trans m75.le).trans hs76.le
        refine ⟨q20, rfl, mset M.mb oa1, mset_sub hn7, ?_⟩
        exact relayF (k25 hP H (.func n lf f0 f1 f2 f3) hoka (by omega) (by omega) ho1 (hq20.mono hs76.le) (hq21.mono hs76.le) (hC2.mono le76) ((hm7.ex m75).ex hs76.ex)) (Nat.le_trans hz2 le76.size) hn7
      · rintro ch g81 hs81 ⟨h81, rfl⟩ g82 m82
        refine stuck (((hm7.ex m75).ex hs81.ex).ex m82) hn7 ?_
        show (if f.op = 7 then _ else _) = _
        rw [if_neg (fun hh => h81 (s5.2 hh))]
    · refine stp 2 x.dat.n hm2 noa ?_
      unfold stepF
      rw [if_neg e2, if_neg e3, if_neg e21, if_neg e22, if_neg e23, if_pos (by omega)]
end Go.Proofs.YthlcdgpemjdgnaaGreatDoor
/- The observer. -/
set_option linter.unusedVariables false
namespace Go.Proofs.YthlcdgpemjdgnaaGreatDoor
open Go Go.Vc Go.RowKit Go.Syn Go.Lam Go.Sort
open PM
theorem E26 : Elem Tryz.prog 26 28 5 80 := ⟨Tryz.underlying26, by kernel_rfl⟩
theorem zero3 (w : World) : (zeroValue 3).run Tryz.prog w = .ok (.int .i64 0) w := by kernel_rfl
theorem sorts {g3 g4 : G} (n4 : NewM g3 g4) (B : Nat) (hB : B ≤ g3.w.heap.size) (M : Nat → Prop) {Q : G → Prop} (hQ : ∀ g9, Le g4 g9 → But (fun x => x = g3.w.heap.size) g4 g9 →
      (∀ s : Int, s = 1 ∨ s = 2 ∨ s = 3 ∨ s = 4 ∨ s = 5 → (Instr.lookup 107 (.map (some g3.w.heap.size)) (.int .i64 s) false).run Tryz.prog g9.w = .ok (.int .i64 (if s = 5 then 7 else s)) g9.w) → Q g9) :
    ∃ wo1 : World, Sem.run Tryz.prog (Instr.mapUpdate 107 (.map (some g3.w.heap.size)) (.int .i64 (1 : Int)) (.int .i64 (1 : Int))) g4.w = .ok () wo1 ∧ ∃ g5 : G, g5.w = wo1 ∧ Stp B M g4 g5 ∧ ∃ wo2 : World, Sem.run Tryz.prog (Instr.mapUpdate 107 (.map (some g3.w.heap.size)) (.int .i64 (2 : Int)) (.int .i64 (2 : Int))) g5.w = .ok () wo2 ∧ ∃ g6 : G, g6.w = wo2 ∧ Stp B M g5 g6 ∧ ∃ wo3 : World, Sem.run Tryz.prog (Instr.mapUpdate 107 (.map (some g3.w.heap.size)) (.int .i64 (3 : Int)) (.int .i64 (3 : Int))) g6.w = .ok () wo3 ∧ ∃ g7 : G, g7.w = wo3 ∧ Stp B M g6 g7 ∧ ∃ wo4 : World, Sem.run Tryz.prog (Instr.mapUpdate 107 (.map (some g3.w.heap.size)) (.int .i64 (4 : Int)) (.int .i64 (4 : Int))) g7.w = .ok () wo4 ∧ ∃ g8 : G, g8.w = wo4 ∧ Stp B M g7 g8 ∧ ∃ wo5 : World, Sem.run Tryz.prog (Instr.mapUpdate 107 (.map (some g3.w.heap.size)) (.int .i64 (5 : Int)) (.int .i64 (7 : Int))) g8.w = .ok () wo5 ∧ ∃ g9 : G, g9.w = wo5 ∧ Stp B M g8 g9 ∧ Q g9 := by
  have m4 := MapI.new n4 Tryz.prog 3
  have wf : ∀ s : Int, s = 1 ∨ s = 2 ∨ s = 3 ∨ s = 4 ∨ s = 5 → (Lit.int .i64 s).wf = true := by
    intro s hs
    simp only [Lit.wf, Bool.and_eq_true, IntKind.min, IntKind.max, IntKind.signed, IntKind.bits]
    simp
    omega
  have hmax : (10 : Nat) < maxLen := by unfold maxLen; omega
  obtain ⟨w5, r5, g5, e5, s5, m5, b5⟩ := m4.put (t := 107) (e := 3) Tryz.underlying3 Tryz.underlying107 (by omega) 1 (wf 1 (by omega)) (.int .i64 1) hB
  obtain ⟨w6, r6, g6, e6, s6, m6, b6⟩ := m5.put (t := 107) (e := 3) Tryz.underlying3 Tryz.underlying107 (by omega) 2 (wf 2 (by omega)) (.int .i64 2) hB
  obtain ⟨w7, r7, g7, e7, s7, m7, b7⟩ := m6.put (t := 107) (e := 3) Tryz.underlying3 Tryz.underlying107 (by omega) 3 (wf 3 (by omega)) (.int .i64 3) hB
  obtain ⟨w8, r8, g8, e8, s8, m8, b8⟩ := m7.put (t := 107) (e := 3) Tryz.underlying3 Tryz.underlying107 (by omega) 4 (wf 4 (by omega)) (.int .i64 4) hB
  obtain ⟨w9, r9, g9, e9, s9, m9, b9⟩ := m8.put (t := 107) (e := 3) Tryz.underlying3 Tryz.underlying107 (by omega) 5 (wf 5 (by omega)) (.int .i64 7) hB
  have nn : ∀ b, b < B → nobody b → M b := fun _ _ h => h.elim
  refine ⟨w5, r5, g5, e5, s5.mono (Nat.le_refl _) nn, w6, r6, g6, e6, s6.mono (Nat.le_refl _) nn, w7, r7, g7, e7, s7.mono (Nat.le_refl _) nn, w8, r8, g8, e8, s8.mono (Nat.le_refl _) nn, w9, r9, g9, e9, s9.mono (Nat.le_refl _) nn, hQ g9 ((((s5.le.trans s6.le).trans s7.le).trans s8.le).trans s9.le) ((((b5.trans b6).trans b7).trans b8).trans b9) (fun s hs => ?_)⟩
  have hl := m9.look Tryz.underlying3 Tryz.underlying107 (zero3 g9.w) s (wf s hs)
  rcases hs with rfl | rfl | rfl | rfl | rfl
  · rw [updI_other _ _ (by decide), updI_other _ _ (by decide), updI_other _ _ (by decide), updI_other _ _ (by decide), updI_same] at hl; exact hl
  · rw [updI_other _ _ (by decide), updI_other _ _ (by decide), updI_other _ _ (by decide), updI_same] at hl; exact hl
  · rw [updI_other _ _ (by decide), updI_other _ _ (by decide), updI_same] at hl; exact hl
  · rw [updI_other _ _ (by decide), updI_same] at hl; exact hl
  · rw [updI_same] at hl; exact hl
theorem k27 {cs : List Int} : ∀ (d : Nat) {t : Th} {p : Option Addr} {g : G} {ob left : Nat}, OkF cs t → VF g p t → MutB g ob 70 [.int .i64 ((left : Nat) : Int)] → left ≤ 20000 → d ≤ 400 →
    CallsX Tryz.prog 27 #[.pointer (some ⟨ob, 0, none⟩), .pointer p, .int .i64 ((d : Nat) : Int)] g (fun z => z = ob)
      (fun v g' => ∃ y left' na nn nc a n c, obsN d t left = some (y, left') ∧ v = synV y na nn nc a n c ∧ SynI g' y na nn nc a n c ∧ MutB g' ob 70 [.int .i64 ((left' : Nat) : Int)])
      (fun ch g' => obsN d t left = none ∧ ch = endF 2 2) := by
  intro d
  induction d with
  | zero =>
    intro t p g ob left ho hv hb hleft hd
    refine call27 _ _ _ g _ _ _ ?_
    unfold F27
    intro g1 m1
    have hb1 := hb.ex m1
    refine ⟨_, hb1.rd0 rfl, i64 (by omega) (by omega), hb1.ok0 (by simp), hb1.nx, hb1.mut0 1, fun _ => rfl, fun g2 k2 => ?_⟩
    obtain ⟨hb2, b2⟩ := hb1.st0 k2
    intro J hJ
    have fail : CallsX Tryz.prog 51 #[.int .i64 2, .int .i64 2] g2 nobody (fun v g34 => v = .tuple ⟨[]⟩ ∧ J g34) (fun ch g35 => ∀ g36 : G, Ex g35 g36 → obsN 0 t left = none ∧ ch = endF 2 2) := by
      refine (k51 2 2 g2).mono (fun v g' _ hh => hh.elim) ?_
      rintro ch g' _ rfl g'' m''
      exact ⟨rfl, rfl⟩
    exact ⟨_, hb2.rd0 rfl, ifLt (fun _ => fail) (fun _ => ifEq (fun _ => fail) (fun q => absurd rfl q))⟩
  | succ d ih =>
    intro t p g ob left ho hv hb hleft hd
    refine call27 _ _ _ g _ _ _ ?_
    unfold F27
    intro g1 m1
    have hb1 := hb.ex m1
    refine ⟨_, hb1.rd0 rfl, i64 (by omega) (by omega), hb1.ok0 (by simp), hb1.nx, hb1.mut0 1, fun _ => rfl, fun g2 k2 => ?_⟩
    obtain ⟨hb2, b2⟩ := hb1.st0 k2
    have le12 : Le g1 g2 := b2.le (fun z hz i => by have e : z = ob := hz; rw [e]; exact hb1.d i)
    have le2 : Le g g2 := m1.le.trans le12
    have hv2 := hv.mono le2
    intro J hJ
    refine ⟨_, hb2.rd0 rfl, ifLt (fun q => ?_) (fun q => ifEq (fun h => by omega) (fun _ => hJ g2 (fun g4 n4 => ?_)))⟩
    · have e0 : left = 0 := by omega
      refine (k51 2 2 g2).mono (fun v g' _ hh => hh.elim) ?_
      rintro ch g' _ rfl g'' m''
      exact ⟨by unfold obsN; rw [if_pos e0], rfl⟩
    clear hJ
    have hn0 : left ≠ 0 := by omega
    obtain ⟨ad, ta, tn, tc, rfl, hlive, hl⟩ := hv2.get
    have hb3 : MutB g2 ob 70 [.int .i64 ((left - 1 : Nat) : Int)] := by
      rw [show ((left - 1 : Nat) : Int) = ((left : Nat) : Int) - 1 by omega]; exact hb2
    obtain ⟨s1, s2, s3, s4, s5⟩ := srt_int ho
    have sop := okF_op ho
    have hsrt : (if srt t = 5 then (7 : Int) else srt t) = t.op := by unfold srt; split <;> omega
    refine sorts n4 g.w.heap.size le2.size _ (fun g9 le9 b9 hlook => ?_)
    have le29 : Le g2 g9 := n4.ex.le.trans le9
    have hb9 : MutB g9 ob 70 [.int .i64 ((left - 1 : Nat) : Int)] := (hb3.ex n4.ex).but b9 (fun e => by have := hb3.lt; omega)
    have lk := hlook (srt t) (by omega)
    rw [hsrt] at lk
    have lv : ∀ {g' : G} (le : Le g2 g') (j : Nat) (v : Value), (frow t ta tn tc)[j]? = some v → Live g' (Addr.add ad j) v := fun le j v hh => (hlive j v hh).mono le
    refine ⟨srt t, (live0 (lv le29 0 _ rfl)).1, t.op, g9.w, lk, g9, rfl, Stp.refl _ _ _, fun g11 m11 => ?_⟩
    have le211 := le29.trans m11.le
    refine ⟨srt t, (live0 (lv le211 0 _ rfl)).1, ifEq (fun e g12 m12 => ?_) (fun e g13 m13 => ?_)⟩
    · have e7 : t.op = 7 := s5.1 e
      refine ⟨.mk ⟨7, 0, [], []⟩ [], left - 1, none, 0, 0, none, 0, 0, by unfold obsN; rw [if_neg hn0, if_pos e7], ?_, ⟨SlE.zero _, SlE.zero _⟩, (hb9.ex m11).ex m12⟩
      rw [e7]
      rfl
    have e7 : t.op ≠ 7 := fun h => e (s5.2 h)
    have hobs : obsN (d + 1) t left = (obsL (obsN d) t.l (left - 1)).map fun p => (.mk ⟨t.op, t.n, t.s, []⟩ p.1, p.2) := by
      unfold obsN; rw [if_neg hn0, if_neg e7]
    have hll := hl.len
    obtain ⟨hol, hok⟩ := okF_l ho
    have le213 := le211.trans m13.le
    refine ⟨nobody, fun _ h => h.elim, (lv le213 1 _ rfl).2.1, fun h => h.elim, t.n, (lv le213 1 _ rfl).1, (lv le213 2 _ rfl).2.1, fun h => h.elim, bstr t.s, (lv le213 2 _ rfl).1, fun g14 m14 => ?_⟩
    have le214 := le213.trans m14.le
    have hb14 := ((hb9.ex m11).ex m13).ex m14
    refine ⟨ta, tn, tc, (lv le214 3 _ rfl).1, ?_⟩
    refine ⟨fun m i o0 o1 o2 na nn nc oa4 on4 oc4 g' => ∃ (j : Nat) (ys : List Sy) (l1 : Nat), i = ((j : Nat) : Int) ∧ j + m = tn ∧ o0 = t.op ∧ o1 = t.n ∧ o2 = bstr t.s ∧ na = none ∧ nn = 0 ∧ nc = 0 ∧ obsL (obsN d) (t.l.take j) (left - 1) = some (ys, l1) ∧ OwnE synE g' g.w.heap.size 28 oa4 on4 oc4 ys ∧ ys.length = j ∧
      MutB g' ob 70 [.int .i64 ((l1 : Nat) : Int)] ∧ l1 ≤ 20000 ∧ (∀ b, blkOf oa4 b → b ≠ ob),
      ⟨tn, 0, [], left - 1, rfl, by omega, rfl, rfl, rfl, rfl, rfl, rfl, rfl, OwnE.nil _ _ _, rfl, hb14, by omega, fun b hb => by obtain ⟨_, hh, _⟩ := hb; cases hh⟩, ?_⟩
    rintro m i o0 o1 o2 na nn nc oa4 on4 oc4 g6 le6 ⟨j, ys, l1, rfl, hj, rfl, rfl, rfl, rfl, rfl, rfl, hobL, hown, hyl, hb6, hl1, hap⟩
    have le26 : Le g2 g6 := le214.trans le6
    have hownl := hown.len
    refine ifLt (fun q => ⟨⟨by omega, by omega⟩, ?_⟩) (fun q g28 m28 => ?_)
    · have gj := List.getElem?_eq_getElem (show j < t.l.length by omega)
      generalize t.l[j] = u at gj
      have hou := hok u (List.mem_of_getElem? gj)
      have htk := obsL_take (obsN d) gj (left - 1)
      rw [hobL] at htk
      change _ = (obsN d u l1).map _ at htk
      refine (hl.mono le26).rd j rfl gj (fun ad7 q hq hql => ⟨q, hql.1, fun g7 m7 => ?_⟩)
      have call : ∀ g8, Ex g7 g8 → CallsX Tryz.prog 27 #[.pointer (some ⟨ob, 0, none⟩), .pointer q, .int .i64 (((d + 1 : Nat) : Int) - 1)] g8 (fun z => z = ob)
          (fun v g9 => ∃ y l2 na nn nc a n c, obsN d u l1 = some (y, l2) ∧ v = synV y na nn nc a n c ∧ SameBut (fun z => z = ob) g7 g9 ∧ ∀ g10, Ex g9 g10 → ∀ g11, NewL g10 g11 28 [.int .i64 y.dat.op, .int .i64 y.dat.n, .string (bstr y.dat.s), .slice na nn nc, .slice a n c] →
            ∃ xa_1 : Option Addr, ∃ xl_1 : Nat, ∃ xc_1 : Nat, ∃ wo1 : World, Sem.run Tryz.prog (Builtin.append_ #[26, 26] 26 #[(.slice oa4 on4 oc4), (.slice (some ⟨g10.w.heap.size, 0, none⟩) 1 1)]) g11.w = .ok (.slice xa_1 xl_1 xc_1) wo1 ∧ ∃ g12 : G, g12.w = wo1 ∧ Stp g.w.heap.size (fun z => z = ob) g11 g12 ∧ InI64 (((j : Nat) : Int) + (1 : Int)) ∧ ∀ g13 : G, Ex g12 g13 →
              (∃ m_2 : Nat, m_2 < m ∧ ∃ (j' : Nat) (ys : List Sy) (l1 : Nat), ((j : Nat) : Int) + 1 = ((j' : Nat) : Int) ∧ j' + m_2 = tn ∧ t.op = t.op ∧ t.n = t.n ∧ bstr t.s = bstr t.s ∧ (none : Option Addr) = none ∧ 0 = 0 ∧ 0 = 0 ∧ obsL (obsN d) (t.l.take j') (left - 1) = some (ys, l1) ∧ OwnE synE g13 g.w.heap.size 28 xa_1 xl_1 xc_1 ys ∧ ys.length = j' ∧
                MutB g13 ob 70 [.int .i64 ((l1 : Nat) : Int)] ∧ l1 ≤ 20000 ∧ (∀ b, blkOf xa_1 b → b ≠ ob)))
          (fun ch g14 => ∀ g15 : G, Ex g14 g15 → obsN (d + 1) t left = none ∧ ch = endF 2 2) := by
        intro g8 m8
        have m68 := m7.trans m8
        have hc := ih hou (hq.mono m68.le) (hb6.ex m68) hl1 (by omega)
        rw [show ((d : Nat) : Int) = ((d + 1 : Nat) : Int) - 1 by omega] at hc
        refine hc.mono ?_ ?_
        · rintro v g9 hs9 ⟨y, l2, na, nn, nc, a, n, c, ho9, rfl, hI9, hb9⟩
          have hl2 := obs_left _ _ _ _ _ ho9
          rw [ho9] at htk
          have hown9 := (hown.exm m68).but (hs9.but (Nat.le_refl _)) hap hs9.le
          refine ⟨y, l2, na, nn, nc, a, n, c, ho9, rfl, fun b h1 h2 h3 => ((m8.but _).trans (hs9.but (Nat.le_refl _))).same b h1 h2 h3, fun g10 m10 g11 n11 => ?_⟩
          have hz : g.w.heap.size ≤ g10.w.heap.size := by
            have h1 := le2.size; have h2 := le26.size; have h3 := m68.size; have h4 := hs9.le.size; have h5 := m10.size
            omega
          obtain ⟨a', c', w', hrun, g12, hw, hs12, ho12, hs12', hnew⟩ := (hown9.exm m10).app1 (P := Tryz.prog) (E := synE) E26 26 hz n11 (x := y) (hI9.exm m10).rep (by omega) (by unfold maxLen; omega)
          have b12 := hs12'.but (Nat.le_refl _)
          refine ⟨a', _, c', w', hrun, g12, hw, hs12.mono (Nat.le_refl _) (fun _ _ h => h.elim), i64 (by omega) (by omega), fun g13 m13 => ⟨m - 1, by omega, j + 1, ys ++ [y], l2, by omega, by omega, rfl, rfl, rfl, rfl, rfl, rfl, htk, ho12.exm m13, by simp [hyl], ?_, by omega, ?_⟩⟩
          · exact (((hb9.ex m10).ex n11.ex).but b12 (fun hh => hap ob hh rfl)).ex m13
          · intro b hb hh
            rcases hnew b hb with h2 | h2
            · exact hap b h2 hh
            · have h3 : b < g9.w.heap.size := by rw [hh]; exact hb9.lt
              have := m10.size
              have := n11.ex.size
              omega
        · rintro ch g14 _ ⟨hno, rfl⟩ g15 m15
          rw [hno] at htk
          refine ⟨?_, rfl⟩
          rw [hobs, obsL_none (obsN d) htk]
          rfl
      refine ⟨fun z => z = ob, fun b e => by rw [e]; exact (hb6.ex m7).nx, i64 (by omega) (by omega), fun g8 m8 => ⟨fun z => z = ob, fun _ _ h => h, (call g8 m8).mono ?_ (fun ch g' _ h => h)⟩, fun g16 m16 => ⟨fun z => z = ob, fun _ _ h => h, (call g16 m16).mono ?_ (fun ch g' _ h => h)⟩⟩
      · rintro v g9 _ ⟨y, l2, na, nn, nc, a, n, c, ho9, rfl, hsame, hk⟩
        exact ⟨_, _, _, _, _, _, _, _, _, rfl, hsame, hk⟩
      · rintro v g9 _ ⟨y, l2, na, nn, nc, a, n, c, ho9, rfl, hsame, hk⟩
        exact ⟨_, _, _, _, _, _, _, _, _, rfl, hsame, rep hk _⟩
    · rw [List.take_of_length_le (by omega)] at hobL
      exact ⟨.mk ⟨t.op, t.n, t.s, []⟩ ys, l1, none, 0, 0, oa4, on4, oc4, by rw [hobs, hobL]; rfl, rfl, ⟨SlE.zero _, hown.sl.exm m28⟩, hb6.ex m28⟩
end Go.Proofs.YthlcdgpemjdgnaaGreatDoor
