/- Joined texts. -/
import Derived.Test.YthlcdgpemjdgnaaGreatDoorFnL45
import Derived.Test.YthlcdgpemjdgnaaGreatDoorZV
import Derived.Test.YthlcdgpemjdgnaaGreatDoorLamA
import Derived.Tactics
import Derived.Tactics2
import Derived.Defers
import Derived.Recover
import Derived.Test.YthlcdgpemjdgnaaGreatDoorZA
/- The machine: how it ends; numbers, texts, truth values. -/
set_option linter.unusedVariables false
namespace Go.Proofs.YthlcdgpemjdgnaaGreatDoor.PL
open Go Go.Vc Go.RowKit Go.Syn Go.Lam Go.Sort
theorem kl120 (n a b : Int) (g : G) : CallsP Tryz.prog 120 #[.int .i64 n, .int .i64 a, .int .i64 b] g fun v _ => v = .bool (tf (a ≤ n ∧ n ≤ b)) := by
  refine call120 n a b g _ ?_
  unfold F120
  refine ifLe (fun q g1 _ => ?_) (fun q g2 _ => vF (fun hh => by omega))
  rw [tf_le]
  exact vP ⟨fun hh => ⟨q, hh⟩, fun hh => hh.2⟩
theorem kl134 (n : Int) (h0 : -9223372036854775808 < n) (h1 : n ≤ 9223372036854775807) (g : G) : CallsP Tryz.prog 134 #[.int .i64 n] g fun v _ => v = .int .i64 (absN n) := by
  refine call134 n g _ ?_
  unfold F134
  refine ⟨i64 (by omega) (by omega), fun g1 _ => ?_⟩
  congr 1
  unfold maxI absN
  split <;> split <;> omega
abbrev endedC : List PanicEntry := [{ v := .iface 129 (.agg ⟨[]⟩), recovered := false }]
section
variable {g : G} {mb fuel left : Nat} {op n : Int} {out : List Lab} {oa : Option Addr} {on oc : Nat}
theorem Mach.stOut (hm : Mach 98 g mb fuel left op n out oa on oc) {o2 : Int} {g1 : G} (k : StG false g (Addr.add ⟨mb, 0, none⟩ 3) [.int .i64 o2] g1) : Mach 98 g1 mb fuel left o2 n out oa on oc := by
  obtain ⟨h1, h2⟩ := hm.blk.st k
  exact ⟨h1, hm.row.but h2 (fun b hb e => hm.apart (e ▸ hb)), hm.apart⟩
theorem Mach.stN (hm : Mach 98 g mb fuel left op n out oa on oc) {o2 : Int} {g1 : G} (k : StG false g (Addr.add ⟨mb, 0, none⟩ 4) [.int .i64 o2] g1) : Mach 98 g1 mb fuel left op o2 out oa on oc := by
  obtain ⟨h1, h2⟩ := hm.blk.st k
  exact ⟨h1, hm.row.but h2 (fun b hb e => hm.apart (e ▸ hb)), hm.apart⟩
theorem kl93 (hm : Mach 98 g mb fuel left op n out oa on oc) (o2 n2 : Int) : CallsX Tryz.prog 93 #[.pointer (some ⟨mb, 0, none⟩), .int .i64 o2, .int .i64 n2] g (mset mb oa) (fun _ _ => False) (fun ch g' => ch = endedC ∧ Mach 98 g' mb fuel left o2 n2 out oa on oc) := by
  refine call93 _ _ _ g _ _ _ ?_
  unfold F93
  refine ⟨hm.blk.ok (j := 3) (n := 1) (by simp), hm.blk.nxA 3, hm.blk.mutA 3 1, fun _ => .inl (add_block _ _), fun g1 k1 => ?_⟩
  have h1 := Mach.stOut hm k1
  refine ⟨h1.blk.ok (j := 4) (n := 1) (by simp), h1.blk.nxA 4, h1.blk.mutA 4 1, fun _ => .inl (add_block _ _), fun g2 k2 g3 m3 => ⟨rfl, ?_⟩⟩
  exact (Mach.stN h1 k2).ex m3
theorem kl95 (hm : Mach 98 g mb fuel left op n out oa on oc) (b : Bool) : CallsX Tryz.prog 95 #[.pointer (some ⟨mb, 0, none⟩), .bool b] g (mset mb oa) (fun v g' => v = .tuple ⟨[]⟩ ∧ b = true ∧ Ex g g') (fun ch g' => b = false ∧ ch = endedC ∧ Mach 98 g' mb fuel left 4 0 out oa on oc) := by
  refine call95 _ b g _ _ _ ?_
  unfold F95
  cases b with
  | true => exact ifF (fun e => by cases e) (fun _ g5 m5 => ⟨rfl, rfl, m5⟩)
  | false =>
    refine ifF (fun _ => ⟨mset mb oa, fun _ _ h => h, (kl93 hm 4 0).mono (fun v g' _ hh => hh.elim) ?_⟩) (fun e => by cases e)
    rintro ch g1 _ ⟨rfl, h1⟩ g2 m2
    exact ⟨rfl, rfl, h1.ex m2⟩
end
theorem new_val {g g' : G} {t : Th} {la : Option Addr} {ln lc : Nat} (hn : NewL g g' 154 (vrow t la ln lc none 0 0 none)) (hb : t.body.kids = []) (hs : t.self = false) (he : t.env = []) (hl : VPs g la ln lc t.l) : VP g' (some ⟨g.w.heap.size, 0, none⟩) t := by
  refine VP.new (la := la) (ln := ln) (lc := lc) (ba := none) (bn := 0) (bc := 0) (ep := none) (fun j v hv => hn.at_ hv) (hl.mono hn.ex.le) ?_ hs ?_
  · rw [hb]; exact SlE.zero _
  · rw [he]; exact EP.nil _ _
theorem kl130 (g : G) : CallsP Tryz.prog 130 #[] g fun v g' => ∃ p, v = .pointer p ∧ VP g' p unitT := by
  refine call130 g _ ?_
  unfold F130
  intro g1 n1 g2 m2
  exact ⟨_, rfl, (new_val (t := unitT) n1 rfl rfl rfl (VPs.nil _)).mono m2.le⟩
theorem kl129 (p : Prop) [Decidable p] {b : Bool} (hb : b = true ↔ p) (g : G) : CallsP Tryz.prog 129 #[.bool b] g fun v g' => ∃ q, v = .pointer q ∧ VP g' q (truthT p) := by
  refine CallsP.frz (call129 b g _ ?_)
  unfold F129
  refine (kl130 g).mono ?_
  rintro v g1 m1 ⟨x, rfl, hx⟩
  refine ⟨x, rfl, fun g2 n2 g3 n3 => ?_⟩
  have hmb := n3.mut
  have hge : g.w.heap.size ≤ g2.w.heap.size := (m1.trans n2.ex).size
  have hrow : Sl g2 1 (some ⟨g1.w.heap.size, 0, none⟩) 1 1 [.pointer x] := n2.sl (by simp) (by unfold maxLen; omega)
  have fin : ∀ (k : Int) (g5 : G), k = (if p then 1 else 0) → Le g2 g5 → MutB g5 g2.w.heap.size 154 [.int .i64 4, .int .i64 k, .string (bs []), .slice (some ⟨g1.w.heap.size, 0, none⟩) 1 1, .int .i64 0, .int .i64 0, .string (bs []), .slice none 0 0, .pointer none] →
      ∃ q, (Value.pointer (some ⟨g2.w.heap.size, 0, none⟩) = .pointer q) ∧ VP (g5.frozP (fun b => b = g2.w.heap.size)) q (truthT p) := by
    intro k g5 hk le5 h5
    refine ⟨_, rfl, VP.new (la := some ⟨g1.w.heap.size, 0, none⟩) (ln := 1) (lc := 1) (ba := none) (bn := 0) (bc := 0) (ep := none) (fun j v hv => ?_) ?_ (SlE.zero _) rfl (EP.nil _ _)⟩
    · subst hk
      refine ⟨h5.rd hv, by rw [add_block]; exact h5.nx, fun hh => hh.2 (add_block _ _)⟩
    · refine ⟨[x], (hrow.mono le5).mono (frozP_le _ _), rfl, fun i q u hq hu => ?_⟩
      cases i with
      | zero =>
        have e1 : x = q := by simpa using hq
        have e2 : unitT = u := by simpa [truthT, injT, Th.l] using hu
        rw [← e1, ← e2]
        exact ((hx.mono n2.ex.le).mono le5).mono (frozP_le _ _)
      | succ i => simp at hq
  have pge : ∀ b, b = g2.w.heap.size → g.w.heap.size ≤ b := fun b e => by omega
  refine ifT (fun e => ⟨hmb.ok (j := 1) (n := 1) (by simp), hmb.nxA 1, hmb.mutA 1 1, fun hh => ?_, fun g4 k4 g5 m5 => ⟨_, pge, ?_⟩⟩) (fun e g6 m6 => ⟨_, pge, ?_⟩)
  · rw [add_block] at hh
    exact absurd hh (by show ¬ g2.w.heap.size < g.w.heap.size; omega)
  · obtain ⟨h4, b4⟩ := hmb.st k4
    have le4 : Le g3 g4 := b4.le (fun z hz i => by have e : z = g2.w.heap.size := hz; rw [e]; exact hmb.d i)
    exact fin 1 g5 (by rw [if_pos (hb.1 e)]) ((n3.ex.le.trans le4).trans m5.le) (h4.ex m5)
  · exact fin 0 g6 (by rw [if_neg (fun hp => by rw [hb.2 hp] at e; cases e)]) (n3.ex.le.trans m6.le) (hmb.ex m6)
end Go.Proofs.YthlcdgpemjdgnaaGreatDoor.PL
/- Operations on numbers and texts. -/
set_option linter.unusedVariables false
namespace Go.Proofs.YthlcdgpemjdgnaaGreatDoor.PL
open Go Go.Vc Go.RowKit Go.Syn Go.Lam Go.Sort
abbrev PV (mb fuel : Nat) (oa : Option Addr) (sz : Nat) (r : Res Th) := PostV 98 mb fuel oa sz r
abbrev PX (mb fuel : Nat) (oa : Option Addr) (sz : Nat) (r : Res Th) := PostX 98 129 mb fuel oa sz r
abbrev RunsX (k : FuncId) (args : Array Value) (g : G) (mb fuel : Nat) (oa : Option Addr) (r : Res Th) : Prop := CallsX Tryz.prog k args g (mset mb oa) (PV mb fuel oa g.w.heap.size r) (PX mb fuel oa g.w.heap.size r)
theorem PV.ex {mb fuel : Nat} {oa : Option Addr} {sz : Nat} {r : Res Th} {v : Value} {g g' : G} (m : Ex g g') : PV mb fuel oa sz r v g → PV mb fuel oa sz r v g'
  | ⟨t, left, out, p, h1, h2, h3, h4⟩ => ⟨t, left, out, p, h1, h2, h3.mono m.le, h4.ex m⟩
theorem PX.ex {mb fuel : Nat} {oa : Option Addr} {sz : Nat} {r : Res Th} {ch : List PanicEntry} {g g' : G} (m : Ex g g') : PX mb fuel oa sz r ch g → PX mb fuel oa sz r ch g'
  | ⟨op, code, left, out, h1, h2, h3⟩ => ⟨op, code, left, out, h1, h2, h3.ex m⟩
theorem PV.base {mb fuel : Nat} {oa oa1 : Option Addr} {sz sz1 : Nat} {r : Res Th} {v : Value} {g : G} (hs : sz ≤ sz1) (ha : ∀ b, blkOf oa1 b → blkOf oa b ∨ sz ≤ b) : PV mb fuel oa1 sz1 r v g → PV mb fuel oa sz r v g
  | ⟨t, left, out, p, h1, h2, h3, h4⟩ => ⟨t, left, out, p, h1, h2, h3, h4.base hs ha⟩
theorem PX.base {mb fuel : Nat} {oa oa1 : Option Addr} {sz sz1 : Nat} {r : Res Th} {ch : List PanicEntry} {g : G} (hs : sz ≤ sz1) (ha : ∀ b, blkOf oa1 b → blkOf oa b ∨ sz ≤ b) : PX mb fuel oa1 sz1 r ch g → PX mb fuel oa sz r ch g
  | ⟨op, code, left, out, h1, h2, h3⟩ => ⟨op, code, left, out, h1, h2, h3.base hs ha⟩
theorem relay {k : FuncId} {args : Array Value} {g1 : G} {mb fuel : Nat} {oa oa1 : Option Addr} {sz : Nat} {r : Res Th} (h : RunsX k args g1 mb fuel oa1 r) (hs : sz ≤ g1.w.heap.size) (ha : ∀ b, blkOf oa1 b → blkOf oa b ∨ sz ≤ b) :
    CallsX Tryz.prog k args g1 (mset mb oa1) (fun v g' => ∃ x : Option Addr, v = .pointer x ∧ ∀ g2 : G, Ex g' g2 → PV mb fuel oa sz r (.pointer x) g2) (fun ch g' => ∀ g2 : G, Ex g' g2 → PX mb fuel oa sz r ch g2) := by
  refine h.mono ?_ ?_
  · rintro v g' _ hp
    have h2 := PV.base hs ha hp
    obtain ⟨t, left, out, p, h1, rfl, _⟩ := hp
    exact ⟨p, rfl, fun g2 m2 => h2.ex m2⟩
  · exact fun ch g' _ hp g2 m2 => (PX.base hs ha hp).ex m2
section
variable {g : G} {mb fuel left : Nat} {out : List Lab} {oa : Option Addr} {on oc : Nat}
theorem relay0 {k : FuncId} {args : Array Value} {g0 : G} {r : Res Th} (h : RunsX k args g mb fuel oa r) (m : Ex g0 g) :
    CallsX Tryz.prog k args g (mset mb oa) (fun v g' => ∃ x : Option Addr, v = .pointer x ∧ ∀ g2 : G, Ex g' g2 → PV mb fuel oa g0.w.heap.size r (.pointer x) g2) (fun ch g' => ∀ g2 : G, Ex g' g2 → PX mb fuel oa g0.w.heap.size r ch g2) :=
  relay h m.size (fun _ hb => .inl hb)
theorem Mach.s {op n : Int} (hm : Mach 98 g mb fuel left op n out oa on oc) (sz : Nat) : MachS 98 g mb fuel left op n out oa sz := ⟨oa, on, oc, hm, fun _ hb => .inl hb⟩
theorem endX (hm : Mach 98 g mb fuel left 1 0 out oa on oc) (o2 n2 : Int) {sz : Nat} {r : Res Th} (hr : r = .stop o2 n2 left out) {Q : Value → G → Prop} : CallsX Tryz.prog 93 #[.pointer (some ⟨mb, 0, none⟩), .int .i64 o2, .int .i64 n2] g (mset mb oa) Q (fun ch g' => ∀ g2 : G, Ex g' g2 → PX mb fuel oa sz r ch g2) := by
  refine (kl93 hm o2 n2).mono (fun v g' _ hh => hh.elim) ?_
  rintro ch g1 _ ⟨rfl, h1⟩ g2 m2
  exact ⟨o2, n2, left, out, hr, rfl, Mach.s (h1.ex m2) _⟩
theorem E27 : Elem Tryz.prog 25 9 1 16 := ⟨Tryz.underlying25, by kernel_rfl⟩
theorem kl128 (hm : Mach 98 g mb fuel left 1 0 out oa on oc) (n : Int) : RunsX 128 #[.pointer (some ⟨mb, 0, none⟩), .int .i64 n] g mb fuel oa (numberN n left out) := by
  refine call128 _ n g _ _ _ ?_
  unfold F128
  refine (kl120 n _ _ g).mono ?_
  rintro v g1 m1 rfl
  refine ⟨_, rfl, ifPn (fun q => ?_) (fun q g7 n7 g8 m8 => ?_)⟩
  · exact ⟨mset mb oa, fun _ _ h => h, endX (hm.ex m1) 2 2 (if_pos (by unfold mostN; omega))⟩
  · exact ⟨intT n, left, out, _, if_neg (by unfold mostN; omega), rfl, (new_val (t := intT n) n7 rfl rfl rfl (VPs.nil _)).mono m8.le, Mach.s (((hm.ex m1).ex n7.ex).ex m8) _⟩
theorem kl131 (hm : Mach 98 g mb fuel left 1 0 out oa on oc) (a b : Int) (ha : -mostN ≤ a ∧ a ≤ mostN) (hb : -mostN ≤ b ∧ b ≤ mostN) :
    RunsX 131 #[.pointer (some ⟨mb, 0, none⟩), .int .i64 a, .int .i64 b] g mb fuel oa (if a ≠ 0 ∧ Int.tdiv mostN (absN a) < absN b then .stop 2 2 left out else numberN (a * b) left out) := by
  refine call131 _ a b g _ _ _ ?_
  have hm0 : mostN = 4503599627370496 := rfl
  unfold F131
  intro J hJ
  have fin : ∀ g1, Ex g g1 → ¬ (a ≠ 0 ∧ Int.tdiv mostN (absN a) < absN b) → J g1 := by
    intro g1 m1 hh
    refine hJ g1 ?_
    rw [if_neg hh]
    refine ⟨?_, mset mb oa, fun _ _ h => h, relay0 (kl128 (hm.ex m1) (a * b)) m1⟩
    by_cases q : a = 0
    · subst q; exact i64 (by simp) (by simp)
    · have h1 : absN b ≤ Int.tdiv mostN (absN a) := by
        by_cases q2 : Int.tdiv mostN (absN a) < absN b
        · exact absurd ⟨q, q2⟩ hh
        · omega
      have ha0 : 0 < absN a := by unfold absN; split <;> omega
      rw [Int.tdiv_eq_ediv_of_nonneg (by omega)] at h1
      have h2 : absN b * absN a ≤ mostN := Int.le_trans (Int.mul_le_mul_of_nonneg_right h1 (by omega)) (Int.ediv_mul_le _ (by omega))
      have h3 : (a * b = absN b * absN a ∨ a * b = -(absN b * absN a)) ∧ 0 ≤ absN b * absN a := by
        have hb0 : 0 ≤ absN b := by unfold absN; split <;> omega
        refine ⟨?_, Int.mul_nonneg hb0 (by omega)⟩
        unfold absN
        split <;> split
        · left; rw [Int.zero_sub, Int.zero_sub, Int.neg_mul_neg, Int.mul_comm]
        · right; rw [Int.zero_sub, Int.neg_mul, Int.neg_neg, Int.mul_comm]
        · right; rw [Int.zero_sub, Int.mul_neg, Int.neg_neg, Int.mul_comm]
        · left; rw [Int.mul_comm]
      generalize absN b * absN a = z at h2 h3
      generalize a * b = y at h3
      exact i64 (by omega) (by omega)
  clear hJ
  refine ifNe (fun q => (kl134 b (by omega) (by omega) g).mono ?_) (fun q => fin g (Ex.refl _) (fun hh => hh.1 q))
  rintro v g6 m6 rfl
  refine ⟨_, rfl, (kl134 a (by omega) (by omega) g6).mono ?_⟩
  rintro v g7 m7 rfl
  have m07 := m6.trans m7
  have ha0 : 0 < absN a := by unfold absN; split <;> omega
  have hd0 := Int.tdiv_eq_ediv_of_nonneg (a := mostN) (b := absN a) (by omega)
  have hd1 : 0 ≤ Int.tdiv mostN (absN a) := by rw [hd0]; exact Int.ediv_nonneg (by omega) (by omega)
  have hd2 : Int.tdiv mostN (absN a) ≤ mostN := by rw [hd0]; exact Int.ediv_le_self _ (by omega)
  refine ⟨_, rfl, by omega, i64 (by rw [← hm0]; omega) (by rw [← hm0]; omega), ifLt (fun q2 => ?_) (fun q2 => fin g7 m07 (fun hh => by have := hh.2; rw [hm0] at this; omega))⟩
  exact ⟨mset mb oa, fun _ _ h => h, endX (hm.ex m07) 2 2 (if_pos ⟨q, by rw [hm0]; exact q2⟩)⟩
theorem kl116 (hm : Mach 98 g mb fuel left 1 0 out oa on oc) {l : List Th} {la : Option Addr} {ln lc : Nat} (hl : VPs g la ln lc l) (hn : ln ≤ 1000) (op : Int) :
    CallsX Tryz.prog 116 #[.pointer (some ⟨mb, 0, none⟩), .slice la ln lc, .int .i64 op] g (mset mb oa) (fun v g' => v = .tuple ⟨[]⟩ ∧ (∀ t ∈ l, t.op = op) ∧ Ex g g') (fun ch g' => ¬ (∀ t ∈ l, t.op = op) ∧ ch = endedC ∧ Mach 98 g' mb fuel left 4 0 out oa on oc) := by
  refine call116 _ la ln lc op g _ _ _ ?_
  have hll := hl.len
  unfold F116
  refine ⟨fun m i g' => ∃ j : Nat, i = ((j : Nat) : Int) ∧ j + m = ln ∧ Ex g g' ∧ ∀ t ∈ l.take j, t.op = op, ⟨ln, 0, rfl, by omega, Ex.refl _, by simp⟩, ?_⟩
  rintro m i g1 le ⟨j, rfl, hj, m1, hall⟩
  refine ifLt (fun q => ⟨⟨by omega, by omega⟩, ?_⟩) (fun q g5 m5 => ⟨rfl, by rwa [List.take_of_length_le (by omega)] at hall, m1.trans m5⟩)
  have gj := List.getElem?_eq_getElem (show j < l.length by omega)
  generalize l[j] = t at gj
  refine (hl.mono le).rd j rfl gj (fun p hp => ?_)
  obtain ⟨ad, ta, tn, tc, ba, bn, bc, ep, rfl, hlive, _⟩ := hp.get
  refine ⟨_, (live0 (hlive 0 _ rfl)).1, mset mb oa, fun _ _ h => h, (kl95 (hm.ex m1) _).mono ?_ ?_⟩
  · rintro v g2 _ ⟨rfl, hb, m2⟩
    refine ⟨rfl, i64 (by omega) (by omega), m - 1, by omega, j + 1, by omega, by omega, m1.trans m2, (all_take gj (fun t => t.op = op)).2 ⟨hall, by simpa using hb⟩⟩
  · rintro ch g3 _ ⟨hb, rfl, h3⟩ g4 m4
    exact ⟨fun hh => by have := hh t (List.mem_of_getElem? gj); simp [this] at hb, rfl, h3.ex m4⟩
theorem kl117 (hm : Mach 98 g mb fuel left 1 0 out oa on oc) (hout : out.length ≤ 1000) (op : Int) {a b : Lab} (ha : a.length ≤ 16384) (hb : b.length ≤ 16384) :
    RunsX 117 #[.pointer (some ⟨mb, 0, none⟩), .int .i64 op, .string (bstr a), .string (bstr b)] g mb fuel oa (textsN op a b left out) := by
  refine call117 _ op _ _ g _ _ _ ?_
  unfold F117 textsN
  rw [bstr_size, bstr_size]
  refine ifEq (fun e => ?_) (fun e1 => ifEq (fun e => ?_) (fun e2 => ifEq (fun e => ?_) (fun e3 => ?_)))
  · rw [if_pos e]
    exact ⟨mset mb oa, fun _ _ h => h, relay0 (kl128 hm _) (Ex.refl _)⟩
  · rw [if_neg e1, if_pos e]
    refine (kl129 (a = b) (by rw [strEq_true]; exact ⟨fun h => bstr_inj.1 h, fun h => bstr_inj.2 h⟩) g).mono ?_
    rintro v g5 m5 ⟨p, rfl, hp⟩
    exact ⟨p, rfl, fun g6 m6 => ⟨_, left, out, p, rfl, rfl, hp.mono m6.le, Mach.s ((hm.ex m5).ex m6) _⟩⟩
  · rw [if_neg e1, if_neg e2, if_pos e]
    refine ⟨i64 (by omega) (by omega), ifLt (fun q => ?_) (fun q => ⟨by omega, fun g12 n12 g13 m13 => ?_⟩)⟩
    · rw [if_pos (by omega)]
      exact ⟨mset mb oa, fun _ _ h => h, endX hm 2 2 rfl⟩
    · rw [if_neg (by omega)]
      rw [bstr_cat] at n12
      exact ⟨textT (a ++ b), left, out, _, rfl, rfl, (new_val (t := textT (a ++ b)) n12 rfl rfl rfl (VPs.nil _)).mono m13.le, Mach.s ((hm.ex n12.ex).ex m13) _⟩
  · rw [if_neg e1, if_neg e2, if_neg e3]
    have hol := hm.len
    intro J hJ
    refine ⟨_, _, _, hm.blk.rd (j := 2) rfl, ifLe (fun q => ?_) (fun q => ?_)⟩
    · rw [if_pos (by omega)]
      exact ⟨mset mb oa, fun _ _ h => h, endX hm 2 2 rfl⟩
    · refine hJ g ?_
      rw [if_neg (by omega)]
      refine ⟨_, _, _, hm.blk.rd (j := 2) rfl, fun g15 n15 => ?_⟩
      have h15 := hm.ex n15.ex
      have hN : Sl g15 1 (some ⟨g.w.heap.size, 0, none⟩) 1 1 [encStr a] := n15.sl (by simp) (by unfold maxLen; omega)
      obtain ⟨oa', oc', w', hr, g16, hw, _, ho, hs2, hnew⟩ := h15.row.app (P := Tryz.prog) E27 25 (Nat.zero_le _) hN (fun u hu => by simp at hu; subst hu; rfl) (by omega) (by unfold maxLen; omega)
      have b16 := hs2.but (Nat.le_refl _)
      have hmb := h15.blk.but b16 (fun hh => hm.apart hh)
      refine ⟨oa', _, oc', w', hr, g16, hw, ?_, hmb.ok (j := 2) (n := 1) (by simp), hmb.nxA 2, hmb.mutA 2 1, fun _ => .inl (add_block _ _), fun g17 k17 => ?_⟩
      · exact hs2.mono n15.ex.size (fun z hz h => .inr h)
      obtain ⟨hm17, b17⟩ := hmb.st k17
      have hnot : ¬ blkOf oa' mb := fun hh => (hnew mb hh).elim hm.apart (fun h2 => by have := h15.blk.lt; omega)
      have H17 : Mach 98 g17 mb fuel left 1 0 (out ++ [a]) oa' (on + 1) oc' := by
        refine ⟨hm17, ?_, hnot⟩
        rw [List.map_append]
        exact ho.but b17 (fun z hz e => hnot (e ▸ hz))
      refine (kl130 g17).mono ?_
      rintro v g18 m18 ⟨p, rfl, hp⟩
      refine ⟨p, rfl, fun g19 m19 => ⟨_, left, _, p, rfl, rfl, hp.mono m19.le, oa', _, oc', (H17.ex m18).ex m19, fun z hz => (hnew z hz).elim .inl (fun h2 => .inr (Nat.le_trans n15.ex.size h2))⟩⟩
theorem kl118 (hm : Mach 98 g mb fuel left 1 0 out oa on oc) (ht : TabG g) (op : Int) {a b : Int} (ha : -mostN ≤ a ∧ a ≤ mostN) (hb : -mostN ≤ b ∧ b ≤ mostN) :
    RunsX 118 #[.pointer (some ⟨mb, 0, none⟩), .int .i64 op, .int .i64 a, .int .i64 b] g mb fuel oa (numbersN op a b left out) := by
  refine call118 _ op a b g _ _ _ ?_
  have hm0 : mostN = 4503599627370496 := rfl
  unfold F118 numbersN
  have nu : ∀ n : Int, ∃ M1 : Nat → Prop, (∀ b, b < g.w.heap.size → M1 b → mset mb oa b) ∧ CallsX Tryz.prog 128 #[.pointer (some ⟨mb, 0, none⟩), .int .i64 n] g M1 (fun v g1 => ∃ x : Option Addr, v = .pointer x ∧ ∀ g2 : G, Ex g1 g2 → PV mb fuel oa g.w.heap.size (numberN n left out) (.pointer x) g2) (fun ch g3 => ∀ g4 : G, Ex g3 g4 → PX mb fuel oa g.w.heap.size (numberN n left out) ch g4) :=
    fun n => ⟨mset mb oa, fun _ _ h => h, relay0 (kl128 hm n) (Ex.refl _)⟩
  have tr : ∀ (p : Prop) [Decidable p] {x : Bool}, (x = true ↔ p) → CallsP Tryz.prog 129 #[.bool x] g fun v g17 => ∃ x_4 : Option Addr, v = .pointer x_4 ∧ ∀ g18 : G, Ex g17 g18 → PV mb fuel oa g.w.heap.size (.ok (truthT p) left out) (.pointer x_4) g18 := by
    intro p _ x hx
    refine (kl129 p hx g).mono ?_
    rintro v g5 m5 ⟨q, rfl, hq⟩
    exact ⟨q, rfl, fun g6 m6 => ⟨_, left, out, q, rfl, rfl, hq.mono m6.le, Mach.s ((hm.ex m5).ex m6) _⟩⟩
  refine ifEq (fun e => ?_) (fun e1 => ?_)
  · rw [if_pos e]; exact ⟨i64 (by omega) (by omega), nu _⟩
  rw [if_neg e1]
  refine ifEq (fun e => ?_) (fun e2 => ?_)
  · rw [if_pos e]; exact ⟨i64 (by omega) (by omega), nu _⟩
  rw [if_neg e2]
  refine ifEq (fun e => ?_) (fun e3 => ?_)
  · rw [if_pos e]; exact ⟨mset mb oa, fun _ _ h => h, relay0 (kl131 hm a b ha hb) (Ex.refl _)⟩
  rw [if_neg e3]
  refine ifEq (fun e => ?_) (fun e6 => ?_)
  · rw [if_pos e]; exact ⟨i64 (by omega) (by omega), nu _⟩
  rw [if_neg e6]
  refine ifEq (fun e => ?_) (fun e7 => ?_)
  · rw [if_pos e]; exact tr _ (by simp)
  rw [if_neg e7]
  refine ifEq (fun e => ?_) (fun e8 => ?_)
  · rw [if_pos e]; exact tr _ (by simp)
  rw [if_neg e8]
  refine ifEq (fun e => ?_) (fun e9 => ?_)
  · rw [if_pos e]; exact tr _ (by simp)
  rw [if_neg e9]
  refine ifEq (fun e => ?_) (fun e13 => ?_)
  · rw [if_pos e]
    refine (k102 a (by omega) (by omega) g ht).mono ?_
    rintro v g23 m23 rfl
    refine ⟨_, rfl, fun g24 n24 g25 m25 => ⟨textT (Lib.itoa a), left, out, _, rfl, rfl, (new_val (t := textT (Lib.itoa a)) n24 rfl rfl rfl (VPs.nil _)).mono m25.le, Mach.s (((hm.ex m23).ex n24.ex).ex m25) _⟩⟩
  rw [if_neg e13]
  intro J hJ
  refine ifEq (fun q => ?_) (fun q => ?_)
  · rw [if_pos q]
    exact ⟨mset mb oa, fun _ _ h => h, endX hm 2 3 rfl⟩
  · rw [if_neg q] at hJ
    refine hJ g (ifEq (fun e => ?_) (fun e => ?_))
    · rw [if_pos e]
      have h1 : (Int.tdiv a b).natAbs ≤ a.natAbs := by rw [Int.natAbs_tdiv]; exact Nat.div_le_self _ _
      exact ⟨q, i64 (by omega) (by omega), nu _⟩
    · rw [if_neg e]
      exact ⟨q, nu _⟩
end
end Go.Proofs.YthlcdgpemjdgnaaGreatDoor.PL
/- find; combine. -/
set_option linter.unusedVariables false
namespace Go.Proofs.YthlcdgpemjdgnaaGreatDoor.PL
open Go Go.Vc Go.RowKit Go.Syn Go.Lam Go.Sort
theorem kl94 {g : G} {p : Option Addr} {env : List Th} (h : EP g p env) {n : Nat} (hn : n < env.length) (hb : n ≤ 9223372036854775807) : CallsP Tryz.prog 94 #[.pointer p, .int .i64 ((n : Nat) : Int)] g fun v g' => ∃ q, v = .pointer q ∧ VP g' q (env.getD n unitT) := by
  refine call94 _ _ g _ ?_
  unfold F94
  refine ⟨fun m c k g' => k = ((m : Nat) : Int) ∧ m ≤ n ∧ ∃ e, EP g' c e ∧ m < e.length ∧ e.getD m unitT = env.getD n unitT, ⟨n, rfl, Nat.le_refl _, env, h, hn, rfl⟩, ?_⟩
  rintro m c k g1 le ⟨rfl, hm, e, he, hl, hd⟩
  cases e with
  | nil => simp at hl
  | cons t e =>
    obtain ⟨ad, v, nx, rfl, l1, l2, hv, he2⟩ := he.un
    refine ifLt (fun q => ⟨_, l2.1, i64 (by omega) (by omega), m - 1, by omega, by omega, by omega, e, he2, ?_, ?_⟩) (fun q => ⟨_, l1.1, fun g2 m2 => ⟨v, rfl, ?_⟩⟩)
    · simp at hl; omega
    · rw [← hd]
      obtain ⟨m', rfl⟩ : ∃ m', m = m' + 1 := ⟨m - 1, by omega⟩
      simp
    · have e0 : m = 0 := by omega
      subst e0
      rw [← hd]
      exact hv.mono m2.le
def PVf (mb fuel : Nat) (oa : Option Addr) (sz : Nat) (r : Res Th) (v : Value) (g' : G) : Prop := ∃ p : Nat → Prop, (∀ b, p b → sz ≤ b) ∧ PV mb fuel oa sz r v (g'.frozP p)
def PXf (mb fuel : Nat) (oa : Option Addr) (sz : Nat) (r : Res Th) (ch : List PanicEntry) (g' : G) : Prop := ∃ p : Nat → Prop, (∀ b, p b → sz ≤ b) ∧ PX mb fuel oa sz r ch (g'.frozP p)
theorem PV.f {mb fuel : Nat} {oa : Option Addr} {sz : Nat} {r : Res Th} {v : Value} {g' : G} (h : PV mb fuel oa sz r v g') : PVf mb fuel oa sz r v g' := ⟨nobody, fun _ h => h.elim, by rw [froz_none]; exact h⟩
theorem PX.f {mb fuel : Nat} {oa : Option Addr} {sz : Nat} {r : Res Th} {ch : List PanicEntry} {g' : G} (h : PX mb fuel oa sz r ch g') : PXf mb fuel oa sz r ch g' := ⟨nobody, fun _ h => h.elim, by rw [froz_none]; exact h⟩
theorem relayF {k : FuncId} {args : Array Value} {g1 : G} {mb fuel : Nat} {oa oa1 : Option Addr} {sz : Nat} {r : Res Th} {p : Nat → Prop} (h : RunsX k args (g1.frozP p) mb fuel oa1 r) (hp : ∀ b, p b → sz ≤ b ∧ b < g1.w.heap.size ∧ ¬ mset mb oa1 b) (hs : sz ≤ g1.w.heap.size) (ha : ∀ b, blkOf oa1 b → blkOf oa b ∨ sz ≤ b) :
    CallsX Tryz.prog k args g1 (mset mb oa1) (fun v g' => ∃ x : Option Addr, v = .pointer x ∧ ∀ g2 : G, Ex g' g2 → PVf mb fuel oa sz r (.pointer x) g2) (fun ch g' => ∀ g2 : G, Ex g' g2 → PXf mb fuel oa sz r ch g2) := by
  refine (CallsX.thawP (fun b hb => (hp b hb).2) h).mono ?_ ?_
  · rintro v g' _ hq
    have h2 := PV.base hs ha hq
    obtain ⟨t, left, out, q, h1, rfl, _⟩ := hq
    exact ⟨q, rfl, fun g2 m2 => ⟨p, fun b hb => (hp b hb).1, h2.ex (m2.frozP p)⟩⟩
  · exact fun ch g' _ hq g2 m2 => ⟨p, fun b hb => (hp b hb).1, (PX.base hs ha hq).ex (m2.frozP p)⟩
theorem relayN {k : FuncId} {args : Array Value} {g1 : G} {mb fuel : Nat} {oa oa1 : Option Addr} {sz : Nat} {r : Res Th} (h : RunsX k args g1 mb fuel oa1 r) (hs : sz ≤ g1.w.heap.size) (ha : ∀ b, blkOf oa1 b → blkOf oa b ∨ sz ≤ b) :
    CallsX Tryz.prog k args g1 (mset mb oa1) (fun v g' => ∃ x : Option Addr, v = .pointer x ∧ ∀ g2 : G, Ex g' g2 → PVf mb fuel oa sz r (.pointer x) g2) (fun ch g' => ∀ g2 : G, Ex g' g2 → PXf mb fuel oa sz r ch g2) := by
  refine (relay h hs ha).mono ?_ ?_
  · rintro v g' _ ⟨x, rfl, hx⟩
    exact ⟨x, rfl, fun g2 m2 => (hx g2 m2).f⟩
  · exact fun ch g' _ hx g2 m2 => (hx g2 m2).f
def K48 (d : Nat) : Prop := ∀ {x : E} {env : List Th} {ep a : Option Addr} {n c : Nat} {g : G} {mb fuel left : Nat} {out : List Lab} {oa : Option Addr} {on oc : Nat}, left ≤ d → left ≤ fuel → fuel ≤ 1048576 → formE x → scopedE env.length x → (∀ t ∈ env, OkT t) →
  SlE expE g a n c x.kids → EP g ep env → TabG g → Mach 98 g mb fuel left 1 0 out oa on oc → out.length ≤ 1000 → RunsX 73 #[.pointer (some ⟨mb, 0, none⟩), expV x a n c, .pointer ep] g mb fuel oa (evalN d x env left out)
theorem cell_live {g g1 : G} {v nx : Option Addr} (hn : NewD g g1 157 [.pointer v, .pointer nx]) : Live (g1.frozP (fun b => b = g.w.heap.size)) ⟨g.w.heap.size, 0, none⟩ (.pointer v) ∧ Live (g1.frozP (fun b => b = g.w.heap.size)) (Addr.add ⟨g.w.heap.size, 0, none⟩ 1) (.pointer nx) := by
  have h := hn.mut
  exact ⟨⟨h.rd0 rfl, h.nx, fun hh => hh.2 rfl⟩, ⟨h.rd (j := 1) rfl, h.nxA 1, fun hh => hh.2 (add_block _ _)⟩⟩
section
variable {g : G} {mb fuel left : Nat} {out : List Lab} {oa : Option Addr} {on oc : Nat}
theorem endF (hm : Mach 98 g mb fuel left 1 0 out oa on oc) (o2 n2 : Int) {oa0 : Option Addr} {sz : Nat} {r : Res Th} (hr : r = .stop o2 n2 left out) (ha : ∀ b, blkOf oa b → blkOf oa0 b ∨ sz ≤ b) {Q : Value → G → Prop} : CallsX Tryz.prog 93 #[.pointer (some ⟨mb, 0, none⟩), .int .i64 o2, .int .i64 n2] g (mset mb oa) Q (fun ch g' => ∀ g2 : G, Ex g' g2 → PXf mb fuel oa0 sz r ch g2) := by
  refine (kl93 hm o2 n2).mono (fun v g' _ hh => hh.elim) ?_
  rintro ch g1 _ ⟨rfl, h1⟩ g2 m2
  exact PX.f ⟨o2, n2, left, out, hr, rfl, oa, on, oc, h1.ex m2, ha⟩
theorem stuckF (hm : Mach 98 g mb fuel left 1 0 out oa on oc) {b : Bool} {oa0 : Option Addr} {sz : Nat} {r : Res Th} (hr : b = false → r = .stop 4 0 left out) (ha : ∀ z, blkOf oa z → blkOf oa0 z ∨ sz ≤ z) {Q : Value → G → Prop} (hQ : b = true → ∀ g', Ex g g' → Q (.tuple ⟨[]⟩) g') :
    CallsX Tryz.prog 95 #[.pointer (some ⟨mb, 0, none⟩), .bool b] g (mset mb oa) Q (fun ch g' => ∀ g2 : G, Ex g' g2 → PXf mb fuel oa0 sz r ch g2) := by
  refine (kl95 hm b).mono ?_ ?_
  · rintro v g' _ ⟨rfl, hb, m⟩
    exact hQ hb g' m
  · rintro ch g1 _ ⟨hb, rfl, h1⟩ g2 m2
    exact PX.f ⟨4, 0, left, out, hr hb, rfl, oa, on, oc, h1.ex m2, ha⟩
theorem kl96 {d : Nat} (hK : K48 d) {x : E} (hx : formE x) (hop : x.dat.op = 5 ∨ x.dat.op = 6 ∨ x.dat.op = 7 ∨ x.dat.op = 8 ∨ x.dat.op = 12) {a : Option Addr} {n c : Nat} {l : List Th} {la : Option Addr} {ln lc : Nat} (hld : left ≤ d) (hlf : left ≤ fuel) (hf : fuel ≤ 1048576)
    (hok : ∀ t ∈ l, OkT t) (hlen : l.length = x.kids.length) (hl : VPs g la ln lc l) (ht : TabG g) (hm : Mach 98 g mb fuel left 1 0 out oa on oc) (hout : out.length ≤ 1000) :
    RunsX 96 #[.pointer (some ⟨mb, 0, none⟩), expV x a n c, .slice la ln lc] g mb fuel oa (combN (evalN d) x l left out) := by
  obtain ⟨n4, n5, n7, n9, n10, n12, n6, n1, n2, n3, nr, nk⟩ := node_len hx
  have hll := hl.len
  have l0 := fun (h : 0 < l.length) => List.getElem?_eq_getElem h
  have getd : ∀ {i : Nat} {t : Th}, l[i]? = some t → l.getD i unitT = t := fun h => by rw [List.getD_eq_getElem?_getD, h]; rfl
  refine CallsX.frz (call96 _ _ _ _ _ _ _ _ _ _ g _ _ _ ?_)
  have noa : ∀ b, blkOf oa b → blkOf oa b ∨ g.w.heap.size ≤ b := fun b h => .inl h
  have sub : ∀ b, b < g.w.heap.size → mset mb oa b → mset mb oa b := fun _ _ h => h
  unfold F96 combN
  refine ifEq (fun e => ?_) (fun e5 => ?_)
  · -- application
    rw [if_pos e]
    have h2 := n5 (.inl e)
    have g0 := List.getElem?_eq_getElem (show 0 < l.length by omega)
    have g1' := List.getElem?_eq_getElem (show 1 < l.length by omega)
    generalize l[0] = f at g0
    generalize l[1] = y at g1'
    have hf0 := hok f (List.mem_of_getElem? g0)
    rw [getd g0, getd g1']
    refine ⟨⟨by omega, by omega⟩, ?_⟩
    cases la with
    | none =>
      exfalso
      obtain ⟨ps, k1, k2, _⟩ := hl
      have := k1.nil rfl
      have := k1.le
      omega
    | some lad =>
      intro g1 m1
      have hl1 := hl.mono m1.le
      have r0 := hl1.rd (i := 0) 0 rfl g0 (K := fun q => VP g1 q f) (fun q h => h)
      obtain ⟨q0, hq0, hv0⟩ := r0
      refine ⟨q0, hq0, ?_⟩
      obtain ⟨fad, ta, tn, tc, ba, bn, bc, fep, rfl, hlive, hfl, hbody, henv⟩ := hv0.get
      refine ⟨_, (live0 (hlive 0 _ rfl)).1, mset mb oa, sub, stuckF (hm.ex m1) (fun hb => by rw [if_neg (by simpa using hb)]) noa (fun hb g2 m2 => ⟨rfl, fun g3 m3 => ?_⟩)⟩
      have e7 : f.op = 7 := by simpa using hb
      rw [if_pos e7]
      have m13 := m2.trans m3
      have m03 := m1.trans m13
      have hl3 := hl1.mono m13.le
      refine ⟨⟨by omega, by omega⟩, ?_⟩
      obtain ⟨q0', hq0', hv0'⟩ := hl3.rd (i := 0) 0 rfl g0 (K := fun q => VP g3 q f) (fun q h => h)
      obtain ⟨q1, hq1, hv1⟩ := hl3.rd (i := 1) 1 rfl g1' (K := fun q => VP g3 q y) (fun q h => h)
      obtain ⟨fad, ta, tn, tc, ba, bn, bc, fep, rfl, hlive, hfl, hbody, henv⟩ := hv0'.get
      have lv : ∀ {k : Nat} {v : Value}, (vrow f ta tn tc ba bn bc fep)[4 + k]? = some v → g3.w.cell? (Addr.add (Addr.add fad 4) k) = some v := fun {k v} h => by
        rw [add_add]; exact (hlive (4 + k) v h).1
      refine ⟨_, hq0', _, _, _, _, _, _, (hlive 4 _ rfl).1, lv (k := 1) rfl, lv (k := 2) rfl, lv (k := 3) rfl, ⟨by omega, by omega⟩, q1, hq1, ⟨by omega, by omega⟩, _, hq0', _, (hlive 8 _ rfl).1, fun g4 n4' => ?_⟩
      have m04 := m03.trans n4'.ex
      obtain ⟨c1, c2⟩ := cell_live n4'
      have lef : Le g3 (g4.frozP (fun b => b = g3.w.heap.size)) := n4'.ex.le.trans (frozP_le _ _)
      obtain ⟨body, self, env, ef, hb1, hs1, he1⟩ := ok_fun hf0 e7
      have hin := ok_inner hf0
      subst ef
      have hm4 := (hm.ex m03).ex n4'.ex
      have hnew : ∀ b, b = g3.w.heap.size → ¬ mset mb oa b := fun b e hh => by have := (hm.ex m03).lt hh; omega
      refine ⟨mset mb oa, sub, relayF (p := fun b => b = g3.w.heap.size) (hK hld hlf hf hb1 ?_ (fun t h => (List.mem_cons.1 h).elim (fun e => e ▸ hok y (List.mem_of_getElem? g1')) (hin t)) (hbody.mono lef) (EP.cons c1 c2 (hv1.mono lef) (henv.mono lef)) (ht.mono (m03.le.trans lef)) (hm4.frozP (hnew mb · (.inl rfl)) (fun b hb h => hnew b h (.inr hb))) hout) (fun b e => ⟨by have := m03.size; omega, by have := n4'.ex.size; have h5 : g3.w.heap.size < g4.w.heap.size := heap_lt n4'.blk; omega, hnew b e⟩) m04.size noa⟩
      rw [List.length_cons, inner_len]
      exact hs1
  rw [if_neg e5]
  refine ifEq (fun e => ?_) (fun e6 => ?_)
  · rw [if_pos e]
    intro g11 m11 g12 n12 g13 m13
    exact PV.f ⟨recT l, left, out, _, rfl, rfl, (new_val (t := recT l) n12 rfl rfl rfl (hl.mono m11.le)).mono m13.le, Mach.s (((hm.ex m11).ex n12.ex).ex m13) _⟩
  rw [if_neg e6]
  refine ifEq (fun e => ?_) (fun e8 => ?_)
  · rw [if_pos e]
    intro g11 m11 g12 n12 g13 m13
    exact PV.f ⟨injT x.dat.n l, left, out, _, rfl, rfl, (new_val (t := injT x.dat.n l) n12 rfl rfl rfl (hl.mono m11.le)).mono m13.le, Mach.s (((hm.ex m11).ex n12.ex).ex m13) _⟩
  rw [if_neg e8]
  have gl : 0 < l.length := by
    rcases hop with h | h | h | h | h
    · exact absurd h e5
    · exact absurd h e6
    · have := (n7 (.inl h)).1; omega
    · exact absurd h e8
    · have h3 := (n12 h).2.2
      have : 1 ≤ arityN x.dat.n := by unfold arityN; split <;> omega
      omega
  have g0 := List.getElem?_eq_getElem gl
  generalize l[0] = f at g0
  have hf0 := hok f (List.mem_of_getElem? g0)
  rw [getd g0]
  refine ifEq (fun e => ?_) (fun e7 => ?_)
  · rw [if_pos e]
    obtain ⟨k1, k2, k3⟩ := n7 (.inl e)
    intro J hJ g20 m20
    have hl20 := hl.mono m20.le
    refine ⟨⟨by omega, by omega⟩, hl20.rd (i := 0) 0 rfl g0 (fun q hq => ?_)⟩
    obtain ⟨fad, ta, tn, tc, ba, bn, bc, fep, rfl, hlive, hfl, _, _⟩ := hq.get
    have hfn := hfl.len
    have stuckN : ¬ (f.op = 3 ∧ x.dat.n < ((f.l.length : Nat) : Int)) → ∃ M4 : Nat → Prop, (∀ b, b < g.w.heap.size → M4 b → mset mb oa b) ∧ True := fun _ => ⟨mset mb oa, sub, trivial⟩
    refine ⟨_, (live0 (hlive 0 _ rfl)).1, ifEq (fun e3 => ⟨⟨by omega, by omega⟩, hl20.rd (i := 0) 0 rfl g0 (fun q2 hq2 => ?_)⟩) (fun e3 => ?_)⟩
    · obtain ⟨fad2, ta2, tn2, tc2, ba2, bn2, bc2, fep2, rfl, hlive2, hfl2, _, _⟩ := hq2.get
      have hfn2 := hfl2.len
      refine ⟨_, _, _, (hlive2 3 _ rfl).1, mset mb oa, sub, stuckF (hm.ex m20) (fun hb => by rw [if_neg (fun hh => by have := hh.2; simp at hb; omega)]) noa (fun hb g21 m21 => ⟨rfl, hJ g21 (fun g18 m18 => ?_)⟩)⟩
      have hlt : x.dat.n < ((f.l.length : Nat) : Int) := by simp at hb; omega
      rw [if_pos ⟨e3, hlt⟩]
      have m218 := m21.trans m18
      refine ⟨⟨by omega, by omega⟩, (hl20.mono m218.le).rd (i := 0) 0 rfl g0 (fun q3 hq3 => ?_)⟩
      obtain ⟨fad3, ta3, tn3, tc3, ba3, bn3, bc3, fep3, rfl, hlive3, hfl3, _, _⟩ := hq3.get
      have hfn3 := hfl3.len
      have gi := List.getElem?_eq_getElem (show x.dat.n.toNat < f.l.length by omega)
      refine ⟨_, _, _, (hlive3 3 _ rfl).1, ⟨by omega, by omega⟩, hfl3.rd (i := x.dat.n) x.dat.n.toNat (by omega) gi (fun q4 hq4 g19 m19 => ?_)⟩
      refine PV.f ⟨_, left, out, q4, rfl, rfl, ?_, Mach.s (((hm.ex m20).ex m218).ex m19) _⟩
      rw [List.getD_eq_getElem?_getD, gi]
      exact hq4.mono m19.le
    · exact ⟨mset mb oa, sub, stuckF (hm.ex m20) (fun _ => by rw [if_neg (fun hh => e3 hh.1)]) noa (fun hb => by cases hb)⟩
  rw [if_neg e7]
  have e12 : x.dat.op = 12 := by
    rcases hop with h | h | h | h | h
    · exact absurd h e5
    · exact absurd h e6
    · exact absurd h e7
    · exact absurd h e8
    · exact h
  obtain ⟨p1, p2, p3⟩ := n12 e12
  have har : arityN x.dat.n ≤ 2 := by unfold arityN; split <;> omega
  have glast := List.getElem?_eq_getElem (show l.length - 1 < l.length by omega)
  generalize l[l.length - 1] = y at glast
  have hlast : lastT l = y := getd glast
  intro J hJ
  have main : ∀ (b : Bool) (g27 : G), Ex g g27 → (b = true ↔ textual x.dat.n) → J b g27 := by
    intro b g27 m27 hb
    refine hJ b g27 ?_
    unfold primN
    have hl27 := hl.mono m27.le
    refine ifT (fun e => ?_) (fun e => ?_)
    · have ht2 := hb.1 e
      rw [if_pos ht2, if_pos ht2]
      refine ⟨mset mb oa, sub, (kl116 (hm.ex m27) hl27 (by omega) 2).mono ?_ ?_⟩
      · rintro v g28 _ ⟨rfl, hall, m28⟩
        refine ⟨rfl, fun g29 m29 => ?_⟩
        have m2729 := m28.trans m29
        have hl29 := hl27.mono m2729.le
        obtain ⟨s0, es0, hs0⟩ := ok_text hf0 (hall f (List.mem_of_getElem? g0))
        obtain ⟨s1, es1, hs1⟩ := ok_text (hok y (List.mem_of_getElem? glast)) (hall y (List.mem_of_getElem? glast))
        rw [if_pos hall, getd g0, hlast]
        refine ⟨⟨by omega, by omega⟩, hl29.rd (i := 0) 0 rfl g0 (fun q hq => ?_)⟩
        obtain ⟨fad, ta, tn, tc, ba, bn, bc, fep, rfl, hlive, _, _, _⟩ := hq.get
        refine ⟨_, (hlive 2 _ rfl).1, i64 (by omega) (by omega), ⟨by omega, by omega⟩, hl29.rd (i := ((ln : Nat) : Int) - 1) (l.length - 1) (by omega) glast (fun q2 hq2 => ?_)⟩
        obtain ⟨fad2, ta2, tn2, tc2, ba2, bn2, bc2, fep2, rfl, hlive2, _, _, _⟩ := hq2.get
        refine ⟨_, (hlive2 2 _ rfl).1, mset mb oa, sub, relayN (kl117 ((hm.ex m27).ex m2729) hout x.dat.n ?_ ?_) (m27.trans m2729).size noa⟩
        · rw [es0]; exact hs0
        · rw [es1]; exact hs1
      · rintro ch g34 _ ⟨hno, rfl, h34⟩ g35 m35
        rw [if_neg hno]
        exact PX.f ⟨4, 0, left, out, rfl, rfl, oa, on, oc, h34.ex m35, noa⟩
    · have ht2 : ¬ textual x.dat.n := fun h => by rw [hb.2 h] at e; cases e
      rw [if_neg ht2, if_neg ht2]
      refine ⟨mset mb oa, sub, (kl116 (hm.ex m27) hl27 (by omega) 1).mono ?_ ?_⟩
      · rintro v g28 _ ⟨rfl, hall, m28⟩
        refine ⟨rfl, fun g29 m29 => ?_⟩
        have m2729 := m28.trans m29
        have hl29 := hl27.mono m2729.le
        obtain ⟨s0, es0, hs0⟩ := ok_int hf0 (hall f (List.mem_of_getElem? g0))
        obtain ⟨s1, es1, hs1⟩ := ok_int (hok y (List.mem_of_getElem? glast)) (hall y (List.mem_of_getElem? glast))
        rw [if_pos hall, getd g0, hlast]
        refine ⟨⟨by omega, by omega⟩, hl29.rd (i := 0) 0 rfl g0 (fun q hq => ?_)⟩
        obtain ⟨fad, ta, tn, tc, ba, bn, bc, fep, rfl, hlive, _, _, _⟩ := hq.get
        refine ⟨_, (hlive 1 _ rfl).1, i64 (by omega) (by omega), ⟨by omega, by omega⟩, hl29.rd (i := ((ln : Nat) : Int) - 1) (l.length - 1) (by omega) glast (fun q2 hq2 => ?_)⟩
        obtain ⟨fad2, ta2, tn2, tc2, ba2, bn2, bc2, fep2, rfl, hlive2, _, _, _⟩ := hq2.get
        refine ⟨_, (hlive2 1 _ rfl).1, mset mb oa, sub, relayN (kl118 ((hm.ex m27).ex m2729) ((ht.exm m27).exm m2729) x.dat.n ?_ ?_) (m27.trans m2729).size noa⟩
        · rw [es0]; exact hs0
        · rw [es1]; exact hs1
      · rintro ch g34 _ ⟨hno, rfl, h34⟩ g35 m35
        rw [if_neg hno]
        exact PX.f ⟨4, 0, left, out, rfl, rfl, oa, on, oc, h34.ex m35, noa⟩
  refine ifEq (fun e g44 m44 => main true g44 m44 ?_) (fun q10 => ifEq (fun e g44 m44 => main true g44 m44 ?_) (fun q11 => ifEq (fun e g44 m44 => main true g44 m44 ?_) (fun q12 g47 m47 => main _ g47 m47 ?_)))
  · unfold textual; simp [e]
  · unfold textual; simp [e]
  · unfold textual; simp [e]
  · unfold textual; simp [q10, q11, q12]
end
end Go.Proofs.YthlcdgpemjdgnaaGreatDoor.PL
/- run. -/
set_option linter.unusedVariables false
namespace Go.Proofs.YthlcdgpemjdgnaaGreatDoor.PL
open Go Go.Vc Go.RowKit Go.Syn Go.Lam Go.Sort
theorem E97 : Elem Tryz.prog 151 132 1 8 := ⟨Tryz.underlying151, by kernel_rfl⟩
section
variable {g : G} {mb fuel left : Nat} {out : List Lab} {oa : Option Addr} {on oc : Nat}
theorem Mach.step (hm : Mach 98 g mb fuel (left + 1) 1 0 out oa on oc) {g2 : G} (k : StG false g ⟨mb, 0, none⟩ [.int .i64 (((fuel : Nat) : Int) - ((left + 1 : Nat) : Int) + 1)] g2) : Mach 98 g2 mb fuel left 1 0 out oa on oc ∧ Le g g2 := by
  obtain ⟨h1, h2⟩ := hm.blk.st0 k
  refine ⟨⟨?_, hm.row.but h2 (fun b hb e => hm.apart (e ▸ hb)), hm.apart⟩, h2.le (fun z hz i => by have e : z = mb := hz; rw [e]; exact hm.blk.d i)⟩
  rw [show ((fuel : Nat) : Int) - ((left : Nat) : Int) = ((fuel : Nat) : Int) - ((left + 1 : Nat) : Int) + 1 by omega]
  exact h1
theorem k48fun (hm : Mach 98 g mb fuel left 1 0 out oa on oc) (hlf : left ≤ fuel) (hf : fuel ≤ 1048576) {x : E} (hx : formE x) (hop : x.dat.op = 4) {a : Option Addr} {n c : Nat} (hI : SlE expE g a n c x.kids) (q : Option Addr) :
    CallsX Tryz.prog 73 #[.pointer (some ⟨mb, 0, none⟩), expV x a n c, .pointer q] g (mset mb oa)
      (fun v g' => 0 < left ∧ ∃ ad ba bn bc, v = .pointer (some ad) ∧ (∀ (j : Nat) (v : Value), (vrow (funT (kid x 0) true []) none 0 0 ba bn bc q)[j]? = some v → Live g' (Addr.add ad j) v) ∧ SlE expE g' ba bn bc (kid x 0).kids ∧ Mach 98 g' mb fuel (left - 1) 1 0 out oa on oc)
      (fun ch g' => left = 0 ∧ ch = endedC ∧ Mach 98 g' mb fuel left 3 0 out oa on oc) := by
  have hk1 := (node_len hx).1 hop
  have hnl := hI.len
  refine call73 _ _ _ _ _ _ _ _ g _ _ _ ?_
  unfold F73
  intro J hJ g58 m58
  have h58 := hm.ex m58
  refine ⟨nobody, fun _ h => h.elim, fun h => h, _, h58.blk.rd0 rfl, fun h => h, _, h58.blk.rd (j := 1) rfl, ifLe (fun q0 => ?_) (fun q0 => hJ g58 ?_)⟩
  · refine ⟨mset mb oa, fun _ _ h => h, (kl93 h58 3 0).mono (fun v g' _ hh => hh.elim) ?_⟩
    rintro ch g1 _ ⟨rfl, h1⟩ g2 m2
    have e0 : left = 0 := by omega
    exact ⟨e0, rfl, h1.ex m2⟩
  · obtain ⟨l, rfl⟩ : ∃ l, left = l + 1 := ⟨left - 1, by omega⟩
    refine ⟨_, h58.blk.rd0 rfl, i64 (by omega) (by omega), h58.blk.ok0 (by simp), h58.blk.nx, h58.blk.mut0 1, fun _ => .inl rfl, fun g2 k2 => ?_⟩
    obtain ⟨hm2, le2⟩ := Mach.step h58 k2
    have hI2 := (hI.exm m58).mono le2
    intro J1 hJ1
    refine ifEq (fun e => by omega) (fun _ => ifEq (fun e => by omega) (fun _ => ifEq (fun e => by omega) (fun _ => ifEq (fun e => ?_) (fun e => absurd hop e))))
    refine ⟨⟨by omega, by omega⟩, rdE hI2 0 rfl (kid_get (by omega)) (fun ka kn kc hk g21 n21 g22 m22 => ?_)⟩
    exact ⟨by omega, _, ka, kn, kc, rfl, fun j v hv => (n21.at_ hv).mono m22.le, (hk.mono n21.ex.le).mono m22.le, (hm2.ex n21.ex).ex m22⟩
end
theorem kl73 : ∀ d, K48 d := by
  intro d
  induction d with
  | zero =>
    intro x env ep a n c g mb fuel left out oa on oc hd hlf hf hx hs he hI hep ht hm hout
    have e0 : left = 0 := by omega
    subst e0
    refine call73 _ _ _ _ _ _ _ _ g _ _ _ ?_
    unfold F73
    intro J hJ g58 m58
    have h58 := hm.ex m58
    exact ⟨nobody, fun _ h => h.elim, fun h => h, _, h58.blk.rd0 rfl, fun h => h, _, h58.blk.rd (j := 1) rfl, ifLe (fun q0 => ⟨mset mb oa, fun _ _ h => h, endX h58 3 0 rfl⟩) (fun q0 => by omega)⟩
  | succ d hK =>
    intro x env ep a n c g mb fuel left out oa on oc hd hlf hf hx hs he hI hep ht hm hout
    have noa : ∀ b, blkOf oa b → blkOf oa b ∨ g.w.heap.size ≤ b := fun b h => .inl h
    have sub : ∀ b, b < g.w.heap.size → mset mb oa b → mset mb oa b := fun _ _ h => h
    refine CallsX.frz (call73 _ _ _ _ _ _ _ _ g _ _ _ ?_)
    unfold F73
    intro J hJ g58 m58
    have h58 := hm.ex m58
    refine ⟨nobody, fun _ h => h.elim, fun h => h, _, h58.blk.rd0 rfl, fun h => h, _, h58.blk.rd (j := 1) rfl, ifLe (fun q0 => ?_) (fun q0 => hJ g58 ?_)⟩
    · have e0 : left = 0 := by omega
      subst e0
      exact ⟨mset mb oa, sub, endF h58 3 0 (by unfold evalN; rw [if_pos rfl]) noa⟩
    obtain ⟨l, rfl⟩ : ∃ l, left = l + 1 := ⟨left - 1, by omega⟩
    have ev : evalN (d + 1) x env (l + 1) out = stepN (evalN d) x env l out := by unfold evalN; rw [if_neg (by omega)]; rfl
    rw [ev]
    clear ev hJ
    refine ⟨_, h58.blk.rd0 rfl, i64 (by omega) (by omega), h58.blk.ok0 (by simp), h58.blk.nx, h58.blk.mut0 1, fun _ => .inl rfl, fun g2 k2 => ?_⟩
    obtain ⟨hm2, le58⟩ := Mach.step h58 k2
    have le2 : Le g g2 := m58.le.trans le58
    have hz2 : g.w.heap.size ≤ g2.w.heap.size := le2.size
    have hI2 := hI.mono le2
    have hep2 := hep.mono le2
    have ht2 := ht.mono le2
    have hnl := hI.len
    clear h58 hm k2
    obtain ⟨n4, n5, n7, n9, n10, n12, n6, n1, n2, n3, nr, nk⟩ := node_len hx
    have hk := fun {i : Nat} (hi : i < x.kids.length) => And.intro (kid_form hx hi) (scoped_kid hs (kid_get hi))
    have cons : ∀ {t : Th}, OkT t → ∀ u ∈ t :: env, OkT u := fun ht u hu => (List.mem_cons.1 hu).elim (fun e => e ▸ ht) (he u)
    have hcap := hI.cap
    have hnc := hI.le
    unfold maxLen at hcap
    intro J1 hJ1
    unfold stepN
    refine ifEq (fun e => ?_) (fun e1 => ?_)
    · rw [if_pos e]
      obtain ⟨v1, v2⟩ := n1 e
      have hlt := scoped_var hs e v1
      have h65 := kl94 hep2 hlt (by omega)
      rw [show ((x.dat.n.toNat : Nat) : Int) = x.dat.n by omega] at h65
      refine h65.mono ?_
      rintro v g15 m15 ⟨q, rfl, hq⟩
      exact ⟨q, rfl, fun g16 m16 => PV.f ⟨_, l, out, q, rfl, rfl, hq.mono m16.le, Mach.s ((hm2.ex m15).ex m16) _⟩⟩
    rw [if_neg e1]
    refine ifEq (fun e => ?_) (fun e2 => ?_)
    · rw [if_pos e]
      intro g17 n17 g18 m18
      exact PV.f ⟨intT x.dat.n, l, out, _, rfl, rfl, (new_val (t := intT x.dat.n) n17 rfl rfl rfl (VPs.nil _)).mono m18.le, Mach.s ((hm2.ex n17.ex).ex m18) _⟩
    rw [if_neg e2]
    refine ifEq (fun e => ?_) (fun e3 => ?_)
    · rw [if_pos e]
      intro g17 n17 g18 m18
      exact PV.f ⟨textT x.dat.s, l, out, _, rfl, rfl, (new_val (t := textT x.dat.s) n17 rfl rfl rfl (VPs.nil _)).mono m18.le, Mach.s ((hm2.ex n17.ex).ex m18) _⟩
    rw [if_neg e3]
    refine ifEq (fun e => ?_) (fun e4 => ?_)
    · rw [if_pos e]
      have hk1 := n4 e
      refine ⟨⟨by omega, by omega⟩, rdE hI2 0 rfl (kid_get (by omega)) (fun ka kn kc hkk g21 n21 g22 m22 => ?_)⟩
      refine PV.f ⟨funT (kid x 0) false env, l, out, _, rfl, rfl, ?_, Mach.s ((hm2.ex n21.ex).ex m22) _⟩
      have le22 := n21.ex.le.trans m22.le
      exact VP.new (fun j v hv => (n21.at_ hv).mono m22.le) (VPs.nil _) (hkk.mono le22) rfl (hep2.mono le22)
    rw [if_neg e4]
    refine ifEq (fun e => ?_) (fun e10 => ?_)
    · rw [if_pos e]
      obtain ⟨hk1, hk4⟩ := n10 e
      have h0 := hk (i := 0) (by omega)
      intro g23 n23
      have hown := n23.mut
      have hm23 := hm2.ex n23.ex
      have hbn : ¬ mset mb oa g2.w.heap.size := fun hh => by have := hm2.lt hh; omega
      refine ⟨⟨by omega, by omega⟩, rdE (hI2.mono n23.ex.le) 0 rfl (kid_get (by omega)) (fun ka kn kc hkk => ?_)⟩
      refine ⟨mset mb oa, sub, (k48fun hm23 (by omega) hf h0.1 hk4 hkk (some ⟨g2.w.heap.size, 0, none⟩)).mono ?_ ?_⟩
      · rintro v g24 hs24 ⟨hl0, ad, ba, bn, bc, rfl, hlive, hbody, hm24⟩
        have b24 := hs24.but (Nat.le_refl _)
        have hown24 := hown.but b24 hbn
        refine ⟨some ad, rfl, hown24.ok0 (by simp), hown24.nx, hown24.mut0 1, fun hh => by have hh' : g2.w.heap.size < g.w.heap.size := hh; omega, fun g25 k25 => ?_⟩
        obtain ⟨hown25, b25⟩ := hown24.st0 k25
        have le25 : Le g24 g25 := b25.le (fun z hz i => by have e : z = g2.w.heap.size := hz; rw [e]; exact hown24.d i)
        have hm25 := hm24.but b25 (fun e => hbn (e ▸ .inl rfl)) (fun b hb e => hbn (e ▸ .inr hb))
        refine ⟨some ad, hown25.rd0 rfl, fun g26 m26 => ?_⟩
        rw [if_neg (by omega)]
        have hown26 := hown25.ex m26
        have lef : Le g24 (g26.frozP (fun b => b = g2.w.heap.size)) := (le25.trans m26.le).trans (frozP_le _ _)
        have hk0 := (node_len h0.1).1 hk4
        have leg : Le g2 (g26.frozP (fun b => b = g2.w.heap.size)) := (n23.ex.le.trans hs24.le).trans lef
        obtain ⟨cs, q1, q2, q3⟩ := hep2.mono leg
        refine ⟨fun b => b = g2.w.heap.size, fun b e => by omega, funT (kid (kid x 0) 0) true env, l - 1, out, some ad, rfl, rfl, ?_, oa, on, oc, (hm25.ex m26).frozP (fun e => hbn (e ▸ .inl rfl)) (fun b hb e => hbn (e ▸ .inr hb)), noa⟩
        exact VP.mk ad (funT (kid (kid x 0) 0) true env) none 0 0 ba bn bc (some ⟨g2.w.heap.size, 0, none⟩) [] cs (fun j v hv => (hlive j v hv).mono lef) (Sl.zero _ _) rfl (fun i p u h => by simp at h) (hbody.mono lef) (fun e => by cases e)
          (fun _ => ⟨⟨g2.w.heap.size, 0, none⟩, ep, rfl, ⟨hown26.rd0 rfl, hown26.nx, fun hh => hh.2 rfl⟩, ⟨hown26.rd (j := 1) rfl, hown26.nxA 1, fun hh => hh.2 (add_block _ _)⟩, q1⟩) q2 q3
      · rintro ch g27 _ ⟨hl0, rfl, hm27⟩ g28 m28
        subst hl0
        rw [if_pos rfl]
        exact PX.f ⟨3, 0, 0, out, rfl, rfl, oa, on, oc, hm27.ex m28, noa⟩
    rw [if_neg e10]
    refine ifEq (fun e => ?_) (fun e13 => ?_)
    · rw [if_pos e]
      exact ⟨mset mb oa, sub, endF hm2 2 x.dat.n rfl noa⟩
    rw [if_neg e13]
    refine ifEq (fun e => ?_) (fun e11 => ?_)
    · rw [if_pos e]
      have hlen := n5 (.inr e)
      have h0 := hk (i := 0) (by omega)
      have h1 := hk (i := 1) (by omega)
      rw [bnd_first (by omega)] at h0
      rw [bnd_more (.inl e) (by omega)] at h1
      intro g32 m32
      have hm32 := hm2.ex m32
      have hI32 := hI2.mono m32.le
      have notm : ∀ {ad : Addr} {k : Nat} {v : Value}, Live g32 (Addr.add (Addr.add ad k) 0) v → ¬ mset mb oa (Addr.block (Addr.add ad k)) := fun h => by rw [Addr.add_zero'] at h; exact hm32.live h
      refine ⟨mset mb oa, fun b hb => hm32.nx hb, ⟨by omega, by omega⟩, rdEL hI32 1 rfl (kid_get (by omega)) (fun ad5 ka kn kc _ hk1 hl5 => ?_)⟩
      refine ⟨notm (hl5 0 _ rfl), _, _, _, _, _, _, (live0 (hl5 0 _ rfl)).1, (hl5 1 _ rfl).1, (hl5 2 _ rfl).1, (hl5 3 _ rfl).1, ⟨by omega, by omega⟩, rdEL hI32 0 rfl (kid_get (by omega)) (fun ad6 ka6 kn6 kc6 _ hk6 hl6 => ?_)⟩
      refine ⟨notm (hl6 0 _ rfl), _, _, _, _, _, _, (live0 (hl6 0 _ rfl)).1, (hl6 1 _ rfl).1, (hl6 2 _ rfl).1, (hl6 3 _ rfl).1, mset mb oa, sub, ?_⟩
      have hok := eval_ok d (kid x 0) env l out h0.1 h0.2 he hout
      refine (hK (by omega) (by omega) hf h0.1 h0.2 he hk6 (hep2.mono m32.le) (ht2.mono m32.le) hm32 hout).mono ?_ ?_
      · rintro v g33 hs33 ⟨t, l1, o1, q, hr, rfl, hv, oa1, on1, oc1, hm33, hn1⟩
        rw [hr] at hok ⊢
        obtain ⟨ok1, ok2, ok3⟩ := hok
        refine ⟨q, rfl, fun b hb hx' hp => hs33.same b hb hp, fun g34 n34 => ?_⟩
        have ha1 : ∀ b, blkOf oa1 b → blkOf oa b ∨ g.w.heap.size ≤ b := fun b hb => (hn1 b hb).elim .inl (fun h => .inr (Nat.le_trans (Nat.le_trans hz2 m32.size) h))
        obtain ⟨c1, c2⟩ := cell_live n34
        have le33 : Le g2 g33 := m32.le.trans hs33.le
        have hz33 : g.w.heap.size ≤ g33.w.heap.size := Nat.le_trans hz2 le33.size
        have lef : Le g33 (g34.frozP (fun b => b = g33.w.heap.size)) := n34.ex.le.trans (frozP_le _ _)
        have hnew : ∀ b, b = g33.w.heap.size → ¬ mset mb oa1 b := fun b e hh => by have := hm33.lt hh; omega
        have hlt34 : g33.w.heap.size < g34.w.heap.size := heap_lt n34.blk
        refine ⟨mset mb oa1, mset_sub ha1, relayF (p := fun b => b = g33.w.heap.size) (hK (by omega) (by omega) hf h1.1 (by simpa using h1.2) (cons ok1) ((hk1.mono hs33.le).mono lef) (EP.cons c1 c2 (hv.mono lef) ((hep2.mono le33).mono lef)) ((ht2.mono le33).mono lef) ((hm33.ex n34.ex).frozP (hnew mb · (.inl rfl)) (fun b hb h => hnew b h (.inr hb))) ok3) (fun b e => ⟨by omega, by omega, hnew b e⟩) (by omega) ha1⟩
      · rintro ch g39 hs39 ⟨op', code, l1, o1, hr, rfl, oa1, on1, oc1, hm39, hn1⟩ g40 m40
        rw [hr]
        exact PX.f ⟨op', code, l1, o1, rfl, rfl, oa1, on1, oc1, hm39.ex m40, fun b hb => (hn1 b hb).elim .inl (fun h => .inr (Nat.le_trans (Nat.le_trans hz2 m32.size) h))⟩
    rw [if_neg e11]
    refine ifEq (fun e => ?_) (fun e9 => ?_)
    · rw [if_pos e]
      obtain ⟨k1, k2⟩ := n9 e
      have h0 := hk (i := 0) (by omega)
      rw [bnd_first (by omega)] at h0
      refine ⟨⟨by omega, by omega⟩, rdE hI2 0 rfl (kid_get (by omega)) (fun ka kn kc hkk => ?_)⟩
      have hok := eval_ok d (kid x 0) env l out h0.1 h0.2 he hout
      refine ⟨mset mb oa, sub, (hK (by omega) (by omega) hf h0.1 h0.2 he hkk hep2 ht2 hm2 hout).mono ?_ ?_⟩
      · rintro v g41 hs41 ⟨t, l1, o1, q, hr, rfl, hv, oa1, on1, oc1, hm41, hn1⟩
        rw [hr] at hok ⊢
        obtain ⟨ok1, ok2, ok3⟩ := hok
        have ha1 : ∀ b, blkOf oa1 b → blkOf oa b ∨ g.w.heap.size ≤ b := fun b hb => (hn1 b hb).elim .inl (fun h => .inr (Nat.le_trans hz2 h))
        have sub1 := mset_sub (mb := mb) ha1
        refine ⟨q, rfl, ?_⟩
        intro J2 hJ2 g49 m49
        have le49 : Le g2 g49 := hs41.le.trans m49.le
        have hm49 := hm41.ex m49
        obtain ⟨vad, ta, tn, tc, ba, bn, bc, fep, rfl, hlive, hfl, _, _⟩ := (hv.mono m49.le).get
        show ∃ MR10 : Nat → Prop, _
        have hfin : ∀ g42, Ex g49 g42 → (t.op = 4 ∧ t.n + 1 < ((x.kids.length : Nat) : Int)) → J2 g42 := by
          intro g42 m42 hcond
          refine hJ2 g42 (fun g43 m43 => ?_)
          have m4943 := m42.trans m43
          obtain ⟨tn', u, rfl, w1, w2, hu⟩ := ok_inj ok1 hcond.1
          have hn2 : tn' + 1 < ((x.kids.length : Nat) : Int) := hcond.2
          have hj := hk (i := (tn' + 1).toNat) (by omega)
          rw [bnd_more (.inr e) (by omega)] at hj
          have gj := kid_get (x := x) (i := (tn' + 1).toNat) (by omega)
          have hlv : ∀ (j : Nat) (v : Value), _ → Live g43 (Addr.add vad j) v := fun j v hvv => (hlive j v hvv).mono m4943.le
          refine ⟨nobody, fun _ h => h.elim, fun h => h, tn', (hlv 1 (.int .i64 tn') rfl).1, i64 (by omega) (by omega), ⟨by omega, by omega⟩, rdEL (hI2.mono (le49.trans m4943.le)) (i := tn' + 1) (tn' + 1).toNat (by omega) gj (fun ad9 ka9 kn9 kc9 _ hk9 hl9 => ?_)⟩
          refine ⟨fun h => h, _, _, _, _, _, _, (live0 (hl9 0 _ rfl)).1, (hl9 1 _ rfl).1, (hl9 2 _ rfl).1, (hl9 3 _ rfl).1, fun h => h, _, _, _, (hlv 3 _ rfl).1, ?_⟩
          have hfl43 := hfl.mono m4943.le
          have hfn := hfl43.len
          have hfn' : 1 = tn := hfn
          refine ⟨⟨by omega, by omega⟩, ?_⟩
          obtain ⟨q, hq0, hq1⟩ := derefP_some (hfl43.rd (i := 0) 0 rfl (t := u) rfl (K := fun q => VP g43 q u) (fun q h => h))
          rw [hq0]
          obtain ⟨q', hq2, hq3⟩ := hq1
          refine ⟨fun h => h, q', hq2, fun g44 n44 => ?_⟩
          obtain ⟨c1, c2⟩ := cell_live n44
          have hm43 := hm49.ex m4943
          have lef : Le g43 (g44.frozP (fun b => b = g43.w.heap.size)) := n44.ex.le.trans (frozP_le _ _)
          have hnew : ∀ b, b = g43.w.heap.size → ¬ mset mb oa1 b := fun b e hh => by have := hm43.lt hh; omega
          have hlt44 : g43.w.heap.size < g44.w.heap.size := heap_lt n44.blk
          have le43 := le49.trans m4943.le
          have hz43 : g.w.heap.size ≤ g43.w.heap.size := Nat.le_trans hz2 le43.size
          refine ⟨mset mb oa1, sub1, ?_⟩
          simp only [Res.bind_ok]
          rw [if_pos hcond]
          refine relayF (p := fun b => b = g43.w.heap.size) (hK (by omega) (by omega) hf hj.1 hj.2 (cons hu) (hk9.mono lef) (EP.cons c1 c2 (hq3.mono lef) ((hep2.mono le43).mono lef)) ((ht2.mono le43).mono lef) ((hm43.ex n44.ex).frozP (hnew mb · (.inl rfl)) (fun b hb h => hnew b h (.inr hb))) ok3) (fun b e => ⟨by omega, by omega, hnew b e⟩) (by omega) ha1
        refine ⟨nobody, fun _ h => h.elim, fun h => h, _, (live0 (hlive 0 _ rfl)).1, ifEq (fun eop => ?_) (fun eop => ?_)⟩
        · obtain ⟨tn', u, et, w1, w2, hu⟩ := ok_inj ok1 eop
          have etn : t.n = tn' := by rw [et]; rfl
          refine ⟨fun h => h, _, (hlive 1 _ rfl).1, i64 (by omega) (by omega), mset mb oa1, sub1, stuckF hm49 (fun hb => ?_) ha1 (fun hb g42 m42 => ⟨rfl, hfin g42 m42 ⟨eop, ?_⟩⟩)⟩
          · simp at hb
            show (if t.op = 4 ∧ t.n + 1 < ((x.kids.length : Nat) : Int) then _ else _) = _
            rw [if_neg (fun hh => by have := hh.2; omega)]
          · simp at hb
            omega
        · refine ⟨mset mb oa1, sub1, stuckF hm49 (fun _ => ?_) ha1 (fun hb => by cases hb)⟩
          show (if t.op = 4 ∧ t.n + 1 < ((x.kids.length : Nat) : Int) then _ else _) = _
          rw [if_neg (fun hh => eop hh.1)]
      · rintro ch g39 hs39 ⟨op', code, l1, o1, hr, rfl, oa1, on1, oc1, hm39, hn1⟩ g40 m40
        rw [hr]
        exact PX.f ⟨op', code, l1, o1, rfl, rfl, oa1, on1, oc1, hm39.ex m40, fun b hb => (hn1 b hb).elim .inl (fun h => .inr (Nat.le_trans hz2 h))⟩
    have hst : stepN (evalN d) x env l out = (evL (evalN d) x.kids env l out).bind fun ts left out => combN (evalN d) x ts left out := by
      unfold stepN
      rw [if_neg e1, if_neg e2, if_neg e3, if_neg e4, if_neg e10, if_neg e13, if_neg e11, if_neg e9]
    rw [hst] at hJ1
    have hop : x.dat.op = 5 ∨ x.dat.op = 6 ∨ x.dat.op = 7 ∨ x.dat.op = 8 ∨ x.dat.op = 12 := by omega
    have hb0 : ∀ j, bndN x.dat.op j = 0 := bnd_none (by omega)
    have hkl : ∀ y ∈ x.kids, formE y ∧ scopedE env.length y := by
      intro y hy
      obtain ⟨j, hj, rfl⟩ := List.mem_iff_getElem.1 hy
      have := scoped_kid hs (List.getElem?_eq_getElem hj)
      rw [hb0] at this
      exact ⟨(formE_un hx).2 _ hy, this⟩
    refine hJ1 g2 ⟨fun m la ll lc i g' => ∃ (j : Nat) (ts : List Th) (l1 : Nat) (o1 : List Lab) (oa1 : Option Addr) (on1 oc1 : Nat) (ps : List (Option Addr)), i = ((j : Nat) : Int) ∧ j + m = n ∧ evL (evalN d) (x.kids.take j) env l out = .ok ts l1 o1 ∧
      OwnE ptrE g' g.w.heap.size 132 la ll lc ps ∧ ps.length = ts.length ∧ (∀ (i : Nat) (p : Option Addr) (u : Th), ps[i]? = some p → ts[i]? = some u → VP g' p u) ∧ Mach 98 g' mb fuel l1 1 0 o1 oa1 on1 oc1 ∧ (∀ b, blkOf oa1 b → blkOf oa b ∨ g.w.heap.size ≤ b) ∧ (∀ b, blkOf la b → ¬ mset mb oa1 b),
      ⟨n, 0, [], l, out, oa, on, oc, [], rfl, by omega, rfl, OwnE.nil _ _ _, rfl, fun i p u h => by simp at h, hm2, noa, fun b hb => by obtain ⟨_, hh, _⟩ := hb; cases hh⟩, ?_⟩
    rintro m la ll lc i g4 le4 ⟨j, ts, l1, o1, oa1, on1, oc1, ps, rfl, hj, hev, hps, hpl, hpv, hm4, ha1, hap⟩
    have hokL := evL_ok (eval_ok d) (x.kids.take j) env l out (fun y hy => hkl y (List.mem_of_mem_take hy)) he hout
    rw [hev] at hokL
    obtain ⟨okt, oklen, okl, oko⟩ := hokL
    rw [List.length_take] at oklen
    have hpsl := hps.len
    refine ifLt (fun q => ⟨⟨by omega, by omega⟩, ?_⟩) (fun q => ?_)
    · have gj := List.getElem?_eq_getElem (show j < x.kids.length by omega)
      generalize x.kids[j] = y at gj
      have hy := hkl y (List.mem_of_getElem? gj)
      have htk := evL_take (evalN d) gj env l out
      rw [hev, Res.bind_ok] at htk
      refine rdE (hI2.mono le4) j rfl gj (fun ka kn kc hkk g5 m5 => ?_)
      have hok := eval_ok d y env l1 o1 hy.1 hy.2 he oko
      have hm5 := hm4.ex m5
      have le5 := le4.trans m5.le
      have hz5 : g.w.heap.size ≤ g5.w.heap.size := Nat.le_trans hz2 le5.size
      refine ⟨mset mb oa1, mset_sub ha1, (hK (by omega) (by omega) hf hy.1 hy.2 he (hkk.exm m5) (hep2.mono le5) (ht2.mono le5) hm5 oko).mono ?_ ?_⟩
      · rintro v g6 hs6 ⟨t, l2, o2, p, hr, rfl, hv, oa2, on2, oc2, hm6, hn2⟩
        rw [hr, Res.bind_ok] at htk
        refine ⟨p, rfl, fun g7 n7 => ?_⟩
        have hps5 := hps.exm m5
        have hap6 : ∀ b, blkOf la b → ¬ mset mb oa2 b := by
          intro b hb hh
          rcases hh with rfl | hh
          · exact hap b hb (.inl rfl)
          · rcases hn2 b hh with h2 | h2
            · exact hap b hb (.inr h2)
            · have := hps5.lt hb; omega
        have hps6 := hps5.but (hs6.but (Nat.le_refl _)) hap hs6.le
        obtain ⟨a', c', w', hrun, g8, hw, hs8, ho8, hs8', hnew8⟩ := hps6.app1 E97 151 (Nat.le_trans hz5 hs6.le.size) n7 (x := p) rfl (by omega) (by unfold maxLen; omega)
        have b8 := hs8'.but (Nat.le_refl _)
        have hm8 := (hm6.ex n7.ex).but b8 (fun hh => hap6 mb hh (.inl rfl)) (fun b hb hh => hap6 b hh (.inr hb))
        have le58' : Le g4 g8 := ((m5.le.trans hs6.le).trans n7.ex.le).trans hs8.le
        refine ⟨a', _, c', w', hrun, g8, hw, hs8.mono (Nat.le_refl _) (fun _ _ h => h.elim), i64 (by omega) (by omega), m - 1, by omega, j + 1, ts ++ [t], l2, o2, oa2, on2, oc2, ps ++ [p], by omega, by omega, htk, ho8, by simp [hpl], ?_, hm8, fun b hb => (hn2 b hb).elim (ha1 b) (fun h => .inr (Nat.le_trans hz5 h)), ?_⟩
        · intro i q u hq hu
          rw [List.getElem?_append] at hq hu
          by_cases hi : i < ps.length
          · rw [if_pos hi] at hq
            rw [if_pos (by omega)] at hu
            exact (hpv i q u hq hu).mono le58'
          · rw [if_neg hi] at hq
            rw [if_neg (by omega)] at hu
            have e0 : i = ps.length := by
              have := (List.getElem?_eq_some_iff.1 hq).1
              simp at this; omega
            subst e0
            rw [Nat.sub_self] at hq
            rw [hpl, Nat.sub_self] at hu
            simp at hq hu
            subst hq; subst hu
            exact (hv.mono n7.ex.le).mono hs8.le
        · intro b hb hh
          rcases hnew8 b hb with h2 | h2
          · exact hap6 b h2 hh
          · have h3 := hm6.lt hh
            have := n7.ex.size
            omega
      · rintro ch g9 hs9 ⟨op', code, l2, o2, hr, rfl, oa2, on2, oc2, hm9, hn2⟩ g10 m10
        rw [hr, Res.bind_stop] at htk
        rw [evL_stop (evalN d) htk]
        exact PX.f ⟨op', code, l2, o2, rfl, rfl, oa2, on2, oc2, hm9.ex m10, fun b hb => (hn2 b hb).elim (ha1 b) (fun h => .inr (Nat.le_trans hz5 h))⟩
    · rw [List.take_of_length_le (by omega)] at hev
      rw [hev, Res.bind_ok]
      have hvs : VPs g4 la ll lc ts := VPs.of hps.sl hpl hpv
      have hlen : ts.length = x.kids.length := by omega
      exact ⟨mset mb oa1, mset_sub ha1, relayN (kl96 hK hx hop (by omega) (by omega) hf okt hlen hvs (ht2.mono le4) hm4 oko) (Nat.le_trans hz2 le4.size) ha1⟩
end Go.Proofs.YthlcdgpemjdgnaaGreatDoor.PL
/- observe. -/
set_option linter.unusedVariables false
namespace Go.Proofs.YthlcdgpemjdgnaaGreatDoor.PL
open Go Go.Vc Go.RowKit Go.Syn Go.Lam Go.Sort
theorem E28 : Elem Tryz.prog 26 28 5 80 := ⟨Tryz.underlying26, by kernel_rfl⟩
def oset (mb : Nat) (oa : Option Addr) (lb : Nat) : Nat → Prop := fun b => mset mb oa b ∨ b = lb
theorem kl72 : ∀ (d : Nat) {t : Th} {p : Option Addr} {g : G} {mb fuel sl : Nat} {out : List Lab} {oa : Option Addr} {on oc lb left depth : Nat}, OkT t → VP g p t → Mach 98 g mb fuel sl 1 0 out oa on oc → MutB g lb 3 [.int .i64 ((left : Nat) : Int)] → ¬ mset mb oa lb → left ≤ 20000 → depth + d = 401 →
    CallsX Tryz.prog 72 #[.pointer (some ⟨mb, 0, none⟩), .pointer p, .pointer (some ⟨lb, 0, none⟩), .int .i64 ((depth : Nat) : Int)] g (oset mb oa lb)
      (fun v g' => ∃ y left' na nn nc a n c, obsN d t left = some (y, left') ∧ v = synV y na nn nc a n c ∧ SynI g' y na nn nc a n c ∧ MutB g' lb 3 [.int .i64 ((left' : Nat) : Int)] ∧ Mach 98 g' mb fuel sl 1 0 out oa on oc)
      (fun ch g' => obsN d t left = none ∧ ch = endedC ∧ Mach 98 g' mb fuel sl 2 2 out oa on oc) := by
  intro d
  induction d with
  | zero =>
    intro t p g mb fuel sl out oa on oc lb left depth ho hv hm hb hlb hleft hd
    refine call72 _ _ _ _ g _ _ _ ?_
    unfold F72
    intro g1 m1
    have hb1 := hb.ex m1
    have hm1 := hm.ex m1
    refine ⟨_, hb1.rd0 rfl, i64 (by omega) (by omega), hb1.ok0 (by simp), hb1.nx, hb1.mut0 1, fun _ => .inr rfl, fun g2 k2 => ?_⟩
    obtain ⟨hb2, b2⟩ := hb1.st0 k2
    have hm2 := hm1.but b2 (fun e => hlb (e ▸ .inl rfl)) (fun b h e => hlb (e ▸ .inr h))
    intro J hJ
    have fail : CallsX Tryz.prog 93 #[.pointer (some ⟨mb, 0, none⟩), .int .i64 2, .int .i64 2] g2 (mset mb oa) (fun v g34 => v = .tuple ⟨[]⟩ ∧ J g34) (fun ch g35 => ∀ g36 : G, Ex g35 g36 → obsN 0 t left = none ∧ ch = endedC ∧ Mach 98 g36 mb fuel sl 2 2 out oa on oc) := by
      refine (kl93 hm2 2 2).mono (fun v g' _ hh => hh.elim) ?_
      rintro ch g' _ ⟨rfl, h1⟩ g'' m''
      exact ⟨rfl, rfl, h1.ex m''⟩
    exact ⟨_, hb2.rd0 rfl, ifLt (fun _ => ⟨mset mb oa, fun _ _ h => .inl h, fail⟩) (fun _ => ifLt (fun _ => ⟨mset mb oa, fun _ _ h => .inl h, fail⟩) (fun q => by omega))⟩
  | succ d ih =>
    intro t p g mb fuel sl out oa on oc lb left depth ho hv hm hb hlb hleft hd
    refine call72 _ _ _ _ g _ _ _ ?_
    unfold F72
    intro g1 m1
    have hb1 := hb.ex m1
    have hm1 := hm.ex m1
    refine ⟨_, hb1.rd0 rfl, i64 (by omega) (by omega), hb1.ok0 (by simp), hb1.nx, hb1.mut0 1, fun _ => .inr rfl, fun g2 k2 => ?_⟩
    obtain ⟨hb2, b2⟩ := hb1.st0 k2
    have le12 : Le g1 g2 := b2.le (fun z hz i => by have e : z = lb := hz; rw [e]; exact hb1.d i)
    have le2 : Le g g2 := m1.le.trans le12
    have hm2 := hm1.but b2 (fun e => hlb (e ▸ .inl rfl)) (fun b h e => hlb (e ▸ .inr h))
    have hv2 := hv.mono le2
    intro J hJ
    refine ⟨_, hb2.rd0 rfl, ifLt (fun q => ⟨mset mb oa, fun _ _ h => .inl h, ?_⟩) (fun q => ifLt (fun _ => by omega) (fun _ => hJ g2 ?_))⟩
    · have e0 : left = 0 := by omega
      refine (kl93 hm2 2 2).mono (fun v g' _ hh => hh.elim) ?_
      rintro ch g' _ ⟨rfl, h1⟩ g'' m''
      exact ⟨by unfold obsN; rw [if_pos e0], rfl, h1.ex m''⟩
    clear hJ
    have hn0 : left ≠ 0 := by omega
    obtain ⟨ad, ta, tn, tc, ba, bn, bc, ep, rfl, hlive, hl, _, _⟩ := hv2.get
    have hb3 : MutB g2 lb 3 [.int .i64 ((left - 1 : Nat) : Int)] := by
      rw [show ((left - 1 : Nat) : Int) = ((left : Nat) : Int) - 1 by omega]; exact hb2
    refine ⟨_, (live0 (hlive 0 _ rfl)).1, ifEq (fun e => fun g4 m4 => ?_) (fun e => ?_)⟩
    · exact ⟨.mk ⟨7, 0, [], []⟩ [], left - 1, none, 0, 0, none, 0, 0, by unfold obsN; rw [if_neg hn0, if_pos e], rfl, ⟨SlE.zero _, SlE.zero _⟩, hb3.ex m4, hm2.ex m4⟩
    have hobs : obsN (d + 1) t left = (obsL (obsN d) t.l (left - 1)).map fun p => (.mk ⟨t.op, t.n, t.s, []⟩ p.1, p.2) := by
      unfold obsN; rw [if_neg hn0, if_neg e]
    have hll := hl.len
    obtain ⟨hol, hok⟩ := ok_l ho
    intro J1 hJ1 g29 m29
    have lv : ∀ {g' : G} (le : Le g2 g') (j : Nat) (v : Value), (vrow t ta tn tc ba bn bc ep)[j]? = some v → Live g' (Addr.add ad j) v := fun le j v hh => (hlive j v hh).mono le
    have nxA : ∀ {g' : G} (j : Nat), (∃ v, Live g' (Addr.add ad j) v) → ¬ g'.X (Addr.block (Addr.add ad j)) := fun j ⟨v, h⟩ => h.2.1
    refine ⟨nobody, fun _ h => h.elim, (live0 (lv m29.le 0 _ rfl)).2.1, fun h => h, _, (live0 (lv m29.le 0 _ rfl)).1, (lv m29.le 1 _ rfl).2.1, fun h => h, _, (lv m29.le 1 _ rfl).1, (lv m29.le 2 _ rfl).2.1, fun h => h, _, (lv m29.le 2 _ rfl).1, rep ?_ _⟩
    intro g30 m30 g31 m31
    have m231 := (m29.trans m30).trans m31
    refine hJ1 _ _ _ _ _ _ _ _ _ g31 ⟨_, _, _, (lv m231.le 3 _ rfl).1, ?_⟩
    clear hJ1
    refine ⟨fun m i o0 o1 o2 na nn nc oa4 on4 oc4 g' => ∃ (j : Nat) (ys : List Sy) (l1 : Nat), i = ((j : Nat) : Int) ∧ j + m = tn ∧ o0 = t.op ∧ o1 = t.n ∧ o2 = bstr t.s ∧ na = none ∧ nn = 0 ∧ nc = 0 ∧ obsL (obsN d) (t.l.take j) (left - 1) = some (ys, l1) ∧ OwnE synE g' g.w.heap.size 28 oa4 on4 oc4 ys ∧ ys.length = j ∧
      MutB g' lb 3 [.int .i64 ((l1 : Nat) : Int)] ∧ Mach 98 g' mb fuel sl 1 0 out oa on oc ∧ l1 ≤ 20000 ∧ (∀ b, blkOf oa4 b → ¬ oset mb oa lb b),
      ⟨tn, 0, [], left - 1, rfl, by omega, rfl, rfl, rfl, rfl, rfl, rfl, rfl, OwnE.nil _ _ _, rfl, hb3.ex m231, hm2.ex m231, by omega, fun b hb => by obtain ⟨_, hh, _⟩ := hb; cases hh⟩, ?_⟩
    rintro m i o0 o1 o2 na nn nc oa4 on4 oc4 g6 le6 ⟨j, ys, l1, rfl, hj, rfl, rfl, rfl, rfl, rfl, rfl, hobL, hown, hyl, hb6, hm6, hl1, hap⟩
    have le26 : Le g2 g6 := m231.le.trans le6
    have hownl := hown.len
    refine ifLt (fun q => ⟨⟨by omega, by omega⟩, ?_⟩) (fun q g28 m28 => ?_)
    · have gj := List.getElem?_eq_getElem (show j < t.l.length by omega)
      generalize t.l[j] = u at gj
      have hou := hok u (List.mem_of_getElem? gj)
      have htk := obsL_take (obsN d) gj (left - 1)
      rw [hobL] at htk
      change _ = (obsN d u l1).map _ at htk
      refine (hl.mono le26).rd j rfl gj (fun q hq g7 m7 => ?_)
      have hlbX : ∀ b, oset mb oa lb b → ¬ g7.X b := fun b hb => by
        rcases hb with hb | rfl
        · exact (hm6.ex m7).nx hb
        · exact (hb6.ex m7).nx
      have call : ∀ g8, Ex g7 g8 → CallsX Tryz.prog 72 #[.pointer (some ⟨mb, 0, none⟩), .pointer q, .pointer (some ⟨lb, 0, none⟩), .int .i64 (((depth : Nat) : Int) + 1)] g8 (oset mb oa lb)
          (fun v g9 => ∃ y l2 na nn nc a n c, obsN d u l1 = some (y, l2) ∧ v = synV y na nn nc a n c ∧ SameBut (oset mb oa lb) g7 g9 ∧ ∀ g10, Ex g9 g10 → ∀ g11, NewL g10 g11 28 [.int .i64 y.dat.op, .int .i64 y.dat.n, .string (bstr y.dat.s), .slice na nn nc, .slice a n c] →
            ∃ xa_1 : Option Addr, ∃ xl_1 : Nat, ∃ xc_1 : Nat, ∃ wo1 : World, Sem.run Tryz.prog (Builtin.append_ #[26, 26] 26 #[(.slice oa4 on4 oc4), (.slice (some ⟨g10.w.heap.size, 0, none⟩) 1 1)]) g11.w = .ok (.slice xa_1 xl_1 xc_1) wo1 ∧ ∃ g12 : G, g12.w = wo1 ∧ Stp g.w.heap.size (oset mb oa lb) g11 g12 ∧ InI64 (((j : Nat) : Int) + (1 : Int)) ∧ ∀ g13 : G, Ex g12 g13 →
              (∃ m_2 : Nat, m_2 < m ∧ ∃ (j' : Nat) (ys : List Sy) (l1 : Nat), ((j : Nat) : Int) + 1 = ((j' : Nat) : Int) ∧ j' + m_2 = tn ∧ t.op = t.op ∧ t.n = t.n ∧ bstr t.s = bstr t.s ∧ (none : Option Addr) = none ∧ 0 = 0 ∧ 0 = 0 ∧ obsL (obsN d) (t.l.take j') (left - 1) = some (ys, l1) ∧ OwnE synE g13 g.w.heap.size 28 xa_1 xl_1 xc_1 ys ∧ ys.length = j' ∧
                MutB g13 lb 3 [.int .i64 ((l1 : Nat) : Int)] ∧ Mach 98 g13 mb fuel sl 1 0 out oa on oc ∧ l1 ≤ 20000 ∧ (∀ b, blkOf xa_1 b → ¬ oset mb oa lb b)))
          (fun ch g14 => ∀ g15 : G, Ex g14 g15 → obsN (d + 1) t left = none ∧ ch = endedC ∧ Mach 98 g15 mb fuel sl 2 2 out oa on oc) := by
        intro g8 m8
        have m68 := m7.trans m8
        have hc := ih (depth := depth + 1) hou (hq.mono m68.le) (hm6.ex m68) (hb6.ex m68) hlb hl1 (by omega)
        rw [show ((depth + 1 : Nat) : Int) = ((depth : Nat) : Int) + 1 by omega] at hc
        refine hc.mono ?_ ?_
        · rintro v g9 hs9 ⟨y, l2, na, nn, nc, a, n, c, ho9, rfl, hI9, hb9, hm9⟩
          have hl2 := obs_left _ _ _ _ _ ho9
          rw [ho9] at htk
          have hown9 := (hown.exm m68).but (hs9.but (Nat.le_refl _)) hap hs9.le
          refine ⟨y, l2, na, nn, nc, a, n, c, ho9, rfl, fun b h1 h2 h3 => ((m8.but _).trans (hs9.but (Nat.le_refl _))).same b h1 h2 h3, fun g10 m10 g11 n11 => ?_⟩
          have hz : g.w.heap.size ≤ g10.w.heap.size := by
            have h1 := le2.size; have h2 := le26.size; have h3 := m68.size; have h4 := hs9.le.size; have h5 := m10.size
            omega
          obtain ⟨a', c', w', hrun, g12, hw, hs12, ho12, hs12', hnew⟩ := (hown9.exm m10).app1 (E := synE) E28 26 hz n11 (x := y) (hI9.exm m10).rep (by omega) (by unfold maxLen; omega)
          have b12 := hs12'.but (Nat.le_refl _)
          refine ⟨a', _, c', w', hrun, g12, hw, hs12.mono (Nat.le_refl _) (fun _ _ h => h.elim), i64 (by omega) (by omega), fun g13 m13 => ⟨m - 1, by omega, j + 1, ys ++ [y], l2, by omega, by omega, rfl, rfl, rfl, rfl, rfl, rfl, htk, ho12.exm m13, by simp [hyl], ?_, ?_, by omega, ?_⟩⟩
          · exact (((hb9.ex m10).ex n11.ex).but b12 (fun hh => hap lb hh (.inr rfl))).ex m13
          · exact (((hm9.ex m10).ex n11.ex).but b12 (fun hh => hap mb hh (.inl (.inl rfl))) (fun b hb hh => hap b hh (.inl (.inr hb)))).ex m13
          · intro b hb hh
            rcases hnew b hb with h2 | h2
            · exact hap b h2 hh
            · have h3 : b < g9.w.heap.size := by
                rcases hh with hh | rfl
                · exact hm9.lt hh
                · exact hb9.lt
              have := m10.size
              have := n11.ex.size
              omega
        · rintro ch g14 _ ⟨hno, rfl, h14⟩ g15 m15
          rw [hno] at htk
          refine ⟨?_, rfl, h14.ex m15⟩
          rw [hobs, obsL_none (obsN d) htk]
          rfl
      refine ⟨oset mb oa lb, hlbX, i64 (by omega) (by omega), fun g8 m8 => ⟨oset mb oa lb, fun _ _ h => h, (call g8 m8).mono ?_ (fun ch g' _ h => h)⟩, fun g16 m16 => ⟨oset mb oa lb, fun _ _ h => h, (call g16 m16).mono ?_ (fun ch g' _ h => h)⟩⟩
      · rintro v g9 _ ⟨y, l2, na, nn, nc, a, n, c, ho9, rfl, hsame, hk⟩
        exact ⟨_, _, _, _, _, _, _, _, _, rfl, hsame, hk⟩
      · rintro v g9 _ ⟨y, l2, na, nn, nc, a, n, c, ho9, rfl, hsame, hk⟩
        exact ⟨_, _, _, _, _, _, _, _, _, rfl, hsame, rep hk _⟩
    · rw [List.take_of_length_le (by omega)] at hobL
      refine ⟨.mk ⟨t.op, t.n, t.s, []⟩ ys, l1, none, 0, 0, oa4, on4, oc4, by rw [hobs, hobL]; rfl, rfl, ⟨SlE.zero _, hown.sl.exm m28⟩, hb6.ex m28, hm6.ex m28⟩
end Go.Proofs.YthlcdgpemjdgnaaGreatDoor.PL
/- whole: what its deferred function does. -/
set_option linter.unusedVariables false
namespace Go.Proofs.YthlcdgpemjdgnaaGreatDoor.PL
open Go Go.Vc Go.RowKit Go.Syn Go.Lam Go.Sort
set_option linter.unusedSimpArgs false
theorem assert77 (w : World) : (Instr.typeAssert (.iface 129 (.agg { toList := [] })) 20 129 true).run Tryz.prog w = .ok (.tuple #[.agg { toList := [] }, .bool true]) w := by kernel_rfl
def zeroV (b : Nat) (w : World) : World := ((((w.setCell ⟨b, 0, none⟩ (.int .i64 0)).setCell ⟨b, 1, none⟩ (.int .i64 0)).setCell ⟨b, 2, none⟩ (.string ⟨#[]⟩)).setCell ⟨b, 3, none⟩ (.slice none 0 0)).setCell ⟨b, 4, none⟩ (.slice none 0 0)
set_option maxRecDepth 20000 in
theorem catch_panicking (b : Nat) (older : List PanicEntry) (w : World) (L : List Value) (hL : L.length = 5) (hb : Blk w b 28 L) :
    CallsD Tryz.prog 71 #[.pointer (some ⟨b, 0, none⟩)] (.panicking ({ v := .iface 129 (.agg ⟨[]⟩), recovered := false } :: older)) w fun e u' w' =>
      e = .returned (.tuple #[]) ∧ u' = .panicking ({ v := .iface 129 (.agg ⟨[]⟩), recovered := true } :: older) ∧ w' = zeroV b (w.alloc (.cells #[] 129)) := by
  refine callsD_of_wpS Tryz.func71 rfl fun c₀ cs hu => ?_
  apply wpS_seq
  apply wpS_region
  simp [wpOpsS, go_sem, recoverD, hu, Tryz.ntmps71, Exit.thenS]
  apply wpS_seq
  apply wpS_region
  simp [wpOpsS, go_sem, recoverD, hu, Tryz.ntmps71, Exit.thenS]
  refine wpS_cond (t := true) (by simp [Act.eval, Array.replicate]) ?_
  simp only [if_true]
  apply wpS_seq
  apply wpS_seq
  apply wpS_region
  simp [wpOpsS, go_sem, recoverD, hu, Tryz.ntmps71, Exit.thenS, assert77]
  apply wpS_seq
  apply wpS_region
  simp [wpOpsS, go_sem, recoverD, hu, Tryz.ntmps71, Exit.thenS]
  refine wpS_cond (t := false) (by simp [Act.eval, Array.replicate]) ?_
  simp only [Bool.false_eq_true, if_false]
  refine wpS_of_wp (wp_skip ?_)
  apply wpS_region
  have hb1 : Blk (w.alloc (.cells #[] 129)) b 28 L := hb.alloc _
  have hcell : ∀ i, i < 5 → ∃ v, (w.alloc (.cells #[] 129)).cell? ⟨b, i, none⟩ = some v := fun i hi => by
    rw [hb1.cell]; exact ⟨_, List.getElem?_eq_getElem (by omega)⟩
  have hfr := hb1.frozen
  obtain ⟨v0, c0⟩ := hcell 0 (by omega)
  obtain ⟨v1, c1⟩ := hcell 1 (by omega)
  obtain ⟨v2, c2⟩ := hcell 2 (by omega)
  obtain ⟨v3, c3⟩ := hcell 3 (by omega)
  obtain ⟨v4, c4⟩ := hcell 4 (by omega)
  simp [wpOpsS, go_sem, bodyPostS, results, Tryz.results71, c0, c1, c2, c3, c4, hfr, World.cell?_setCell_other, zeroV]
set_option maxRecDepth 20000 in
theorem catch_idle (p : Addr) (w : World) :
    CallsD Tryz.prog 71 #[.pointer (some p)] .returning w fun e u' w' => e = .returned (.tuple #[]) ∧ u' = .returning ∧ w' = w := by
  refine callsD_of_wpS Tryz.func71 rfl fun c₀ cs hu => ?_
  apply wpS_seq
  apply wpS_region
  simp [wpOpsS, go_sem, recoverD, hu, Tryz.ntmps71, Exit.thenS]
  apply wpS_seq
  apply wpS_region
  simp [wpOpsS, go_sem, recoverD, hu, Tryz.ntmps71, Exit.thenS]
  refine wpS_cond (t := false) (by simp [Act.eval, Array.replicate]) ?_
  simp only [Bool.false_eq_true, if_false]
  refine wpS_of_wp (wp_skip ?_)
  cases c₀
  simp only at hu
  subst hu
  show _ ∧ _
  refine ⟨rfl, .returning, rfl, .tuple #[], ?_, rfl, rfl, rfl⟩
  simp [results, Tryz.results71]
def setV (b : Nat) (a0 a1 a2 a3 a4 : Value) (w : World) : World := ((((w.setCell ⟨b, 0, none⟩ a0).setCell ⟨b, 1, none⟩ a1).setCell ⟨b, 2, none⟩ a2).setCell ⟨b, 3, none⟩ a3).setCell ⟨b, 4, none⟩ a4
abbrev zeroA : Value := .agg ⟨[.int .i64 0, .int .i64 0, .string ⟨#[]⟩, .slice none 0 0, .slice none 0 0]⟩
def okV (b : Nat) (w : World) : Prop := ∃ L, L.length = 5 ∧ Blk w b 28 L
abbrev W3 (x0 x1 : Int) (x2 : ByteArray) (xa : Option Addr) (xn xc : Nat) (w : World) : World :=
  ((w.alloc (.cells ⟨[.int .i64 x0, .int .i64 x1, .string x2, .slice xa xn xc]⟩ 44)).alloc (.cells ⟨[.int .i64 0, .int .i64 0, .string ⟨#[]⟩, .slice none 0 0, .slice none 0 0]⟩ 28)).alloc (.cells ⟨[.int .i64 20000]⟩ 3)
theorem setV_stL (b : Nat) (a0 a1 a2 a3 a4 : Value) (w : World) : setV b a0 a1 a2 a3 a4 w = stL ⟨b, 0, none⟩ 0 [a0, a1, a2, a3, a4] w := by
  simp [setV, stL, add_zero_row]
theorem setV_blk {b : Nat} {L : List Value} (hL : L.length = 5) {w : World} (h : Blk w b 28 L) (a0 a1 a2 a3 a4 : Value) : Blk (setV b a0 a1 a2 a3 a4 w) b 28 [a0, a1, a2, a3, a4] := by
  rw [setV_stL]
  have := blk_stL (w := w) 0 [a0, a1, a2, a3, a4] 0 L h
  obtain ⟨v0, v1, v2, v3, v4, rfl⟩ : ∃ v0 v1 v2 v3 v4, L = [v0, v1, v2, v3, v4] := by
    match L, hL with
    | [a, b, c, d, e], _ => exact ⟨a, b, c, d, e, rfl⟩
  exact this
set_option maxRecDepth 20000 in
theorem res34 {W : World} {tmps : Array Value} {b : Nat} (ht : tmps.getD 4 undef = .pointer (some ⟨b, 0, none⟩)) {v0 v1 v2 v3 v4 : Value} (h : Blk W b 28 [v0, v1, v2, v3, v4]) : (results Tryz.f46 tmps).run Tryz.prog W = .ok (.agg ⟨[v0, v1, v2, v3, v4]⟩) W := by
  have c0 : W.cell? ⟨b, 0, none⟩ = some v0 := h.cell 0
  have c1 : W.cell? ⟨b, 1, none⟩ = some v1 := h.cell 1
  have c2 : W.cell? ⟨b, 2, none⟩ = some v2 := h.cell 2
  have c3 : W.cell? ⟨b, 3, none⟩ = some v3 := h.cell 3
  have c4 : W.cell? ⟨b, 4, none⟩ = some v4 := h.cell 4
  have ht' : tmps[4]?.getD undef = .pointer (some ⟨b, 0, none⟩) := by simpa using ht
  simp [results, Tryz.results46, ht', go_sem, c0, c1, c2, c3, c4]
set_option maxRecDepth 20000 in
theorem whole_calls (m : Addr) (x0 x1 : Int) (x2 : ByteArray) (xa : Option Addr) (xn xc : Nat) (w : World) (R : Ending → World → Prop)
   (hC : Calls Tryz.prog 73 #[.pointer (some m), .agg ⟨[.int .i64 x0, .int .i64 x1, .string x2, .slice xa xn xc]⟩, .pointer none] (W3 x0 x1 x2 xa xn xc w) fun e w1 =>
     (∃ p, e = .returned (.pointer p) ∧ Calls Tryz.prog 72 #[.pointer (some m), .pointer p, .pointer (some ⟨w.heap.size + 1 + 1, 0, none⟩), .int .i64 1] w1 fun e w2 =>
       (∃ y0 y1 y2 na nn nc a n c, e = .returned (.agg ⟨[.int .i64 y0, .int .i64 y1, .string y2, .slice na nn nc, .slice a n c]⟩) ∧ okV (w.heap.size + 1) w2 ∧ R (.returned (.agg ⟨[.int .i64 y0, .int .i64 y1, .string y2, .slice na nn nc, .slice a n c]⟩)) (setV (w.heap.size + 1) (.int .i64 y0) (.int .i64 y1) (.string y2) (.slice na nn nc) (.slice a n c) w2)) ∨
       (e = .panicked endedC ∧ okV (w.heap.size + 1) w2 ∧ R (.returned zeroA) (zeroV (w.heap.size + 1) (w2.alloc (.cells #[] 129))))) ∨
     (e = .panicked endedC ∧ okV (w.heap.size + 1) w1 ∧ R (.returned zeroA) (zeroV (w.heap.size + 1) (w1.alloc (.cells #[] 129))))) :
    Calls Tryz.prog 46 #[.pointer (some m), .agg ⟨[.int .i64 x0, .int .i64 x1, .string x2, .slice xa xn xc]⟩] w R := by
  have hmf : ∀ (fn : Fn) (first cap : Array Value) (w : World), (Instr.makeFunc fn first cap).run Tryz.prog w = .ok (.func fn first cap) w := fun _ _ _ _ => rfl
  have bad : ∀ w1, okV (w.heap.size + 1) w1 → R (.returned zeroA) (zeroV (w.heap.size + 1) (w1.alloc (.cells #[] 129))) → ∀ tmps : Array Value, tmps.getD 4 undef = .pointer (some ⟨w.heap.size + 1, 0, none⟩) →
      Leaves Tryz.prog Tryz.f46 tmps R [{ target := .fn (.func 71) #[.pointer (some ⟨w.heap.size + 1, 0, none⟩)], args := #[] }] (.panicking endedC) w1 := by
    rintro w1 ⟨L, hL, hb⟩ hR tmps ht
    refine leaves_cons (f := 71) (args := #[.pointer (some ⟨w.heap.size + 1, 0, none⟩)]) (by simp) (by simp [go_sem]) ?_
    refine (catch_panicking (w.heap.size + 1) [] w1 L hL hb).mono ?_
    rintro e u' w'' ⟨rfl, rfl, rfl⟩
    exact ⟨_, res34 ht (setV_blk hL (hb.alloc _) _ _ _ _ _), hR⟩
  go_enter_defers Tryz.func46, Tryz.ntmps46
  go_wp2_with (fail)
  refine Calls.mono hC ?_
  rintro e w' (⟨p, rfl, hC2⟩ | ⟨rfl, hok, hR⟩)
  · dsimp only
    go_at_K
    go_wp2_with (fail)
    refine Calls.mono hC2 ?_
    rintro e w' (⟨y0, y1, y2, na, nn, nc, a, n, c, rfl, ⟨L, hL, hb⟩, hR⟩ | ⟨rfl, hok, hR⟩)
    · dsimp only
      go_at_K
      have hfr := hb.frozen
      have hcell : ∀ i, i < 5 → ∃ v, w'.cell? ⟨w.heap.size + 1, i, none⟩ = some v := fun i hi => by
        rw [hb.cell]; exact ⟨_, List.getElem?_eq_getElem (by omega)⟩
      obtain ⟨v0, c0⟩ := hcell 0 (by omega)
      obtain ⟨v1, c1⟩ := hcell 1 (by omega)
      obtain ⟨v2, c2⟩ := hcell 2 (by omega)
      obtain ⟨v3, c3⟩ := hcell 3 (by omega)
      obtain ⟨v4, c4⟩ := hcell 4 (by omega)
      go_wp2_with (fail)
      refine leaves_cons (f := 71) (args := #[.pointer (some ⟨w.heap.size + 1, 0, none⟩)]) (by simp) (by simp [go_sem]) ?_
      refine (catch_idle _ _).mono ?_
      rintro e u' w'' ⟨rfl, rfl, rfl⟩
      exact ⟨_, res34 rfl (setV_blk hL hb _ _ _ _ _), hR⟩
    · exact bad _ hok hR _ rfl
  · exact bad _ hok hR _ rfl
end Go.Proofs.YthlcdgpemjdgnaaGreatDoor.PL
/- whole. -/
set_option linter.unusedVariables false
namespace Go.Proofs.YthlcdgpemjdgnaaGreatDoor.PL
open Go Go.Vc Go.RowKit Go.Syn Go.Lam Go.Sort
def finN (x : E) (fuel : Nat) : Fin := finR (evalN fuel x [] fuel [])
theorem finish {g g5 : G} {M : Nat → Prop} (hs : Stp g.size M g g5) {vB : Nat} {L : List Value} (hm : MutB g5 vB 28 L) (hL : L.length = 5) (hge : g.w.heap.size ≤ vB) (a0 a1 a2 a3 a4 : Value) :
    ∃ g', g'.w = setV vB a0 a1 a2 a3 a4 g5.w ∧ Stp g.size M g g' ∧ But (fun x => x = vB) g5 g' ∧ Le g5 g' := by
  have h1 : Stp g.size M g5 (g5.store false ⟨vB, 0, none⟩ [a0, a1, a2, a3, a4]) := store_stp hm.nx (hm.mut0 5) (fun hh => by have hh' : vB < g.w.heap.size := hh; omega)
  obtain ⟨_, h2⟩ := hm.st0 (store_stG g5 false ⟨vB, 0, none⟩ [a0, a1, a2, a3, a4])
  exact ⟨g5.store false ⟨vB, 0, none⟩ [a0, a1, a2, a3, a4], (store_stG g5 false ⟨vB, 0, none⟩ [a0, a1, a2, a3, a4]).w.trans (setV_stL _ _ _ _ _ _ _).symm, hs.trans h1, h2, h1.le⟩
theorem kl46 {x : E} (hx : formE x) (hs : scopedE 0 x) {a : Option Addr} {n c : Nat} {g : G} (hI : SlE expE g a n c x.kids) (ht : TabG g) {mb fuel : Nat} (hf : fuel ≤ 1048576) (hm : Mach 98 g mb fuel fuel 1 0 [] none 0 0) :
    CallsG Tryz.prog 46 #[.pointer (some ⟨mb, 0, none⟩), expV x a n c] g (mset mb none) fun v g' =>
      ∃ na nn nc a n c, v = synV (finN x fuel).y na nn nc a n c ∧ SynI g' (finN x fuel).y na nn nc a n c ∧ MachS 98 g' mb fuel (finN x fuel).left (finN x fuel).op (finN x fuel).code (finN x fuel).out none g.w.heap.size := by
  have n1 := push_newL g 44 [.int .i64 x.dat.op, .int .i64 x.dat.n, .string (bstr x.dat.s), .slice a n c]
  have s1 := push_stp (g := g) (B := g.size) (Nat.le_refl _) (.cells ⟨[.int .i64 x.dat.op, .int .i64 x.dat.n, .string (bstr x.dat.s), .slice a n c]⟩ 44) false (mset mb none)
  generalize e1 : g.push (.cells ⟨[.int .i64 x.dat.op, .int .i64 x.dat.n, .string (bstr x.dat.s), .slice a n c]⟩ 44) false false = g1 at n1 s1
  have z1 : g1.w.heap.size = g.w.heap.size + 1 := by rw [← e1]; exact Array.size_push ..
  have w1 : g1.w = g.w.alloc (.cells ⟨[.int .i64 x.dat.op, .int .i64 x.dat.n, .string (bstr x.dat.s), .slice a n c]⟩ 44) := by rw [← e1]; rfl
  have n2 := push_newD g1 28 [.int .i64 0, .int .i64 0, .string ⟨#[]⟩, .slice none 0 0, .slice none 0 0]
  have s2 := push_stp (g := g1) (B := g.size) s1.le.size (.cells ⟨[.int .i64 0, .int .i64 0, .string ⟨#[]⟩, .slice none 0 0, .slice none 0 0]⟩ 28) true (mset mb none)
  generalize e2 : g1.push (.cells ⟨[.int .i64 0, .int .i64 0, .string ⟨#[]⟩, .slice none 0 0, .slice none 0 0]⟩ 28) false true = g2 at n2 s2
  have z2 : g2.w.heap.size = g.w.heap.size + 1 + 1 := by rw [← e2, ← z1]; exact Array.size_push ..
  have w2 : g2.w = g1.w.alloc (.cells ⟨[.int .i64 0, .int .i64 0, .string ⟨#[]⟩, .slice none 0 0, .slice none 0 0]⟩ 28) := by rw [← e2]; rfl
  have s12 := s1.trans s2
  have n3 := push_newD g2 3 [.int .i64 20000]
  have s3 := push_stp (g := g2) (B := g.size) s12.le.size (.cells ⟨[.int .i64 20000]⟩ 3) true (mset mb none)
  generalize e3 : g2.push (.cells ⟨[.int .i64 20000]⟩ 3) false true = g3 at n3 s3
  have w3 : g3.w = g2.w.alloc (.cells ⟨[.int .i64 20000]⟩ 3) := by rw [← e3]; rfl
  have s13 := s12.trans s3
  have hW : g3.w = W3 x.dat.op x.dat.n (bstr x.dat.s) a n c g.w := by rw [w3, w2, w1]
  clear e1 e2 e3 w1 w2 w3
  have m13 := (n1.ex.trans n2.ex).trans n3.ex
  have hm3 := hm.ex m13
  have hv3 := (n2.mut).ex n3.ex
  have hl3 := n3.mut
  rw [z1] at hv3
  rw [z2] at hl3
  have hml := hm.lt (b := mb) (.inl rfl)
  have novB : ¬ mset mb none (g.w.heap.size + 1) := by
    rintro (h | ⟨_, h, _⟩)
    · omega
    · cases h
  have nolB : ¬ mset mb none (g.w.heap.size + 1 + 1) := by
    rintro (h | ⟨_, h, _⟩)
    · omega
    · cases h
  have hz3 : g.w.heap.size + 1 + 1 < g3.w.heap.size := hl3.lt
  unfold CallsG
  refine whole_calls ⟨mb, 0, none⟩ x.dat.op x.dat.n (bstr x.dat.s) a n c g.w _ ?_
  rw [← hW]
  have hok := eval_ok fuel x [] fuel [] hx hs (by simp) (by simp)
  -- behind an ending
  have bad : ∀ {g4 : G} {op code : Int} {left : Nat} {out : List Lab} {oa on oc}, Stp g.size (mset mb none) g g4 → MutB g4 (g.w.heap.size + 1) 28 [.int .i64 0, .int .i64 0, .string ⟨#[]⟩, .slice none 0 0, .slice none 0 0] → Mach 98 g4 mb fuel left op code out oa on oc → (∀ b, blkOf oa b → g3.w.heap.size ≤ b) → finN x fuel = ⟨op, code, left, zeroSy, out⟩ →
      okV (g.w.heap.size + 1) g4.w ∧ ∃ v g', Ending.returned zeroA = .returned v ∧ g'.w = zeroV (g.w.heap.size + 1) (g4.w.alloc (.cells #[] 129)) ∧ Stp g.size (mset mb none) g g' ∧
        ∃ na nn nc a n c, v = synV (finN x fuel).y na nn nc a n c ∧ SynI g' (finN x fuel).y na nn nc a n c ∧ MachS 98 g' mb fuel (finN x fuel).left (finN x fuel).op (finN x fuel).code (finN x fuel).out none g.w.heap.size := by
    intro g4 op code left out oa on oc hs4 hmv hm4 hoa hfin
    refine ⟨⟨_, rfl, hmv.blk⟩, ?_⟩
    have n5 := push_newL g4 129 []
    have s5 := push_stp (g := g4) (B := g.size) hs4.le.size (.cells ⟨[]⟩ 129) false (mset mb none)
    obtain ⟨g', hw, hs', hb, hle⟩ := finish (hs4.trans s5) (hmv.ex n5.ex) rfl (by omega) (.int .i64 0) (.int .i64 0) (.string ⟨#[]⟩) (.slice none 0 0) (.slice none 0 0)
    rw [hfin]
    have nov : ¬ mset mb oa (g.w.heap.size + 1) := by
      rintro (h | h)
      · omega
      · have := hoa _ h; omega
    refine ⟨_, g', rfl, hw, hs', none, 0, 0, none, 0, 0, rfl, ⟨SlE.zero _, SlE.zero _⟩, oa, on, oc, (hm4.ex n5.ex).but hb (fun e => nov (e ▸ .inl rfl)) (fun b hb e => nov (e ▸ .inr hb)), fun b hb => .inr (by have := hoa b hb; omega)⟩
  refine Calls.mono (kl73 fuel (Nat.le_refl _) (Nat.le_refl _) hf hx (show scopedE ([] : List Th).length x from hs) (by simp) (hI.exm m13) (EP.nil g3 none) (ht.exm m13) hm3 (by simp)) ?_
  rintro e w' ⟨g4, rfl, hs4, ⟨v, rfl, t, left, out, p, hr, rfl, hv, oa, on, oc, hm4, hn4⟩ | ⟨ch, rfl, op, code, left, out, hr, rfl, oa, on, oc, hm4, hn4⟩⟩
  · have b4 := hs4.but (Nat.le_refl _)
    have hoa : ∀ b, blkOf oa b → g3.w.heap.size ≤ b := fun b hb => (hn4 b hb).elim (fun ⟨_, h, _⟩ => by cases h) (fun h => h)
    have hv4 := hv3.but b4 novB
    have hl4 := hl3.but b4 nolB
    have s4 := s13.trans (hs4.mono (show g.w.heap.size ≤ g3.w.heap.size by omega) (fun b _ h => h))
    rw [hr] at hok
    have hlb : ¬ mset mb oa (g.w.heap.size + 1 + 1) := by
      rintro (h | h)
      · omega
      · have := hoa _ h; omega
    refine .inl ⟨p, rfl, Calls.mono (kl72 400 (left := 20000) (depth := 1) hok.1 hv hm4 hl4 hlb (Nat.le_refl _) rfl) ?_⟩
    have hz4 : g3.w.heap.size ≤ g4.w.heap.size := hs4.le.size
    have nov : ¬ oset mb oa (g.w.heap.size + 1 + 1) (g.w.heap.size + 1) := by
      rintro ((h | h) | h)
      · omega
      · have := hoa _ h; omega
      · omega
    have conv : ∀ {g5 : G}, Stp g4.size (oset mb oa (g.w.heap.size + 1 + 1)) g4 g5 → Stp g.size (mset mb none) g g5 := fun h => s4.trans (h.mono (by show g.w.heap.size ≤ g4.w.heap.size; omega) (fun b hb hh => by
      have hb' : b < g.w.heap.size := hb
      rcases hh with (h1 | h1) | h1
      · exact .inl h1
      · have := hoa _ h1; omega
      · omega))
    rintro e w' ⟨g5, rfl, hs5, ⟨v, rfl, y, left2, na, nn, nc, a', n', c', hob, rfl, hI5, hb5, hm5⟩ | ⟨ch, rfl, hob, rfl, hm5⟩⟩
    · have hv5 := hv4.but (hs5.but (Nat.le_refl _)) nov
      have hfin : finN x fuel = ⟨1, 0, left, y, out⟩ := by unfold finN; rw [hr]; exact finR_some hob
      obtain ⟨g', hw, hs', hb, hle⟩ := finish (conv hs5) hv5 rfl (by omega) (.int .i64 y.dat.op) (.int .i64 y.dat.n) (.string (bstr y.dat.s)) (.slice na nn nc) (.slice a' n' c')
      refine .inl ⟨_, _, _, na, nn, nc, a', n', c', rfl, ⟨_, rfl, hv5.blk⟩, _, g', rfl, hw, hs', ?_⟩
      rw [hfin]
      have nov2 : ¬ mset mb oa (g.w.heap.size + 1) := fun h => nov (.inl h)
      exact ⟨na, nn, nc, a', n', c', rfl, hI5.mono hle, oa, on, oc, hm5.but hb (fun e => nov2 (e ▸ .inl rfl)) (fun b hb e => nov2 (e ▸ .inr hb)), fun b hb => .inr (by have := hoa b hb; omega)⟩
    · have hv5 := hv4.but (hs5.but (Nat.le_refl _)) nov
      have hfin : finN x fuel = ⟨2, 2, left, zeroSy, out⟩ := by unfold finN; rw [hr]; exact finR_none hob
      exact .inr ⟨rfl, bad (conv hs5) hv5 hm5 hoa hfin⟩
  · have b4 := hs4.but (Nat.le_refl _)
    have hoa : ∀ b, blkOf oa b → g3.w.heap.size ≤ b := fun b hb => (hn4 b hb).elim (fun ⟨_, h, _⟩ => by cases h) (fun h => h)
    have hv4 := hv3.but b4 novB
    have s4 := s13.trans (hs4.mono (show g.w.heap.size ≤ g3.w.heap.size by omega) (fun b _ h => h))
    have hfin : finN x fuel = ⟨op, code, left, zeroSy, out⟩ := by unfold finN; rw [hr]; rfl
    exact .inr ⟨rfl, bad s4 hv4 hm4 hoa hfin⟩
end Go.Proofs.YthlcdgpemjdgnaaGreatDoor.PL
/- Run. -/
set_option linter.unusedVariables false
namespace Go.Proofs.YthlcdgpemjdgnaaGreatDoor.PL
open Go Go.Vc Go.RowKit Go.Syn Go.Lam Go.Sort
def closedE (x : E) : Prop := validE x ∧ scopedE 0 x
theorem kl45 {x : E} (hx : i64E x) {a : Option Addr} {n c : Nat} {g : G} (hI : SlE expE g a n c x.kids) : CallsP Tryz.prog 45 #[expV x a n c] g fun v _ => v = .bool (tf (closedE x)) := by
  refine call45 _ _ _ _ _ _ g _ ?_
  unfold F45
  refine fun g1 m1 => (kk17 hx (hI.exm m1)).mono ?_
  rintro v g2 _ ⟨fa, fn, fc, e, rfl, h⟩
  refine ⟨_, _, _, _, rfl, ifEq (fun q g3 _ => ?_) (fun q g4 _ => ?_)⟩
  · rcases h with ⟨hv, _, F, hF, ha⟩ | ⟨_, h1, _⟩
    · show Value.bool (eqI _ _) = _
      rw [tf_eq]
      refine vP ?_
      have hl := hF.len
      have h0 := asc_nil ha
      constructor
      · intro hh
        exact ⟨hv, h0.1 (List.eq_nil_of_length_eq_zero (by omega))⟩
      · rintro ⟨_, hs⟩
        have := h0.2 hs
        rw [this] at hl
        simp at hl
        omega
    · omega
  · refine vF (fun hh => ?_)
    rcases h with ⟨_, h1, _⟩ | ⟨hv, _⟩
    · exact q h1
    · exact hv hh.1
def outO (x : E) (fuel : Nat) : Outc := ⟨(finN x fuel).op, (finN x fuel).code, ((fuel : Nat) : Int) - (((finN x fuel).left : Nat) : Int), (finN x fuel).y, (finN x fuel).out⟩
open Classical in
noncomputable def runA (x : E) (fuel : Int) : Outc × Int := if closedE x then (if 0 ≤ fuel ∧ fuel ≤ 1048576 then (outO x fuel.toNat, 0) else (zeroO, 2)) else (zeroO, 1)
def RunSay (x : E) (fuel : Int) (v : Value) (g' : G) : Prop := ∃ o, v = .tuple ⟨[o, .int .i64 (runA x fuel).2]⟩ ∧ OutI g' (runA x fuel).1 o
theorem kl19 {x : E} (hx : i64E x) (fuel : Int) {a : Option Addr} {n c : Nat} {g : G} (hI : SlE expE g a n c x.kids) (ht : TabG g) : CallsP Tryz.prog 19 #[expV x a n c, .int .i64 fuel] g fun v g' => RunSay x fuel v g' := by
  refine CallsP.frz (call19 _ _ _ _ _ _ fuel g _ ?_)
  unfold F19
  have nof : ∀ (v : Value) (g' : G), RunSay x fuel v g' → ∃ p : Nat → Prop, (∀ b, p b → g.w.heap.size ≤ b) ∧ RunSay x fuel v (g'.frozP p) := fun v g' h => ⟨nobody, fun _ hh => hh.elim, by rw [froz_none]; exact h⟩
  intro J hJ g6 m6
  refine (kl45 hx (hI.exm m6)).mono ?_
  rintro v g7 m7 rfl
  have m07 := m6.trans m7
  refine ⟨_, rfl, ifPn (fun q g8 _ => nof _ _ ?_) (fun hcl => ?_)⟩
  · have e : runA x fuel = (zeroO, 1) := by unfold runA; rw [if_neg q]
    refine ⟨_, by rw [e], by rw [e]; exact zero_out g8⟩
  have rng : ¬ (0 ≤ fuel ∧ fuel ≤ 1048576) → ∀ g9 : G, ∃ p : Nat → Prop, (∀ b, p b → g.w.heap.size ≤ b) ∧ RunSay x fuel (.tuple ⟨[.agg ⟨[.int .i64 0, .int .i64 0, .int .i64 0, .int .i64 0, .int .i64 0, .string (bs []), .slice none 0 0, .slice none 0 0, .slice none 0 0]⟩, .int .i64 2]⟩) (g9.frozP p) := by
    intro q g9
    have e : runA x fuel = (zeroO, 2) := by unfold runA; rw [if_pos hcl, if_neg q]
    exact nof _ _ ⟨_, by rw [e], by rw [e]; exact zero_out g9⟩
  refine ifLt (fun q g9 _ => rng (by omega) g9) (fun q1 => ifLt (fun q g10 _ => rng (by omega) g10) (fun q2 => hJ _ _ _ _ _ _ _ _ _ _ _ _ _ _ _ g7 ?_))
  clear hJ rng
  intro g2 n2
  obtain ⟨F, rfl⟩ : ∃ F : Nat, fuel = ((F : Nat) : Int) := ⟨fuel.toNat, by omega⟩
  have m02 := m07.trans n2.ex
  have hm2 : Mach 98 g2 g7.w.heap.size F F 1 0 [] none 0 0 := by
    refine ⟨?_, MutR.nil _ _ _ _, fun ⟨_, h, _⟩ => by cases h⟩
    rw [Int.sub_self]
    exact n2.mut
  refine ⟨mset g7.w.heap.size none, fun b hb h => ?_, (kl46 hcl.1.1 hcl.2 (hI.exm m02) (ht.exm m02) (by omega) hm2).mono ?_⟩
  · rcases h with rfl | ⟨_, h, _⟩
    · have := m07.size; omega
    · cases h
  rintro v g3 s3 ⟨na, nn, nc, ya, yn, yc, rfl, hy, oa, on, oc, hm3, hn3⟩
  refine ⟨_, _, _, _, _, _, _, _, _, rfl, fun g4 m4 => ?_⟩
  have hm4 := hm3.ex m4
  refine ⟨hm4.blk.nxA 3, _, hm4.blk.rd (j := 3) rfl, hm4.blk.nxA 4, _, hm4.blk.rd (j := 4) rfl, hm4.blk.nx, _, hm4.blk.rd0 rfl, hm4.blk.nxA 2, _, _, _, hm4.blk.rd (j := 2) rfl, fun g5 m5 => ?_⟩
  have e : runA x ((F : Nat) : Int) = (outO x F, 0) := by unfold runA; rw [if_pos hcl, if_pos ⟨by omega, by omega⟩]; rfl
  have m35 := m4.trans m5
  refine ⟨blkOf oa, fun b hb => (hn3 b hb).elim (fun ⟨_, h, _⟩ => by cases h) (fun h => Nat.le_trans m02.size h), _, by rw [e], ?_⟩
  rw [e]
  exact ⟨na, nn, nc, ya, yn, yc, oa, on, oc, rfl, (hy.exm m35).mono (frozP_le _ _), MutR.fro (hm3.row.ex m35)⟩
end Go.Proofs.YthlcdgpemjdgnaaGreatDoor.PL
