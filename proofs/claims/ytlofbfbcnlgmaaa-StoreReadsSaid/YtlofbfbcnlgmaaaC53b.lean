/- The store: equality, new stores, slices that are cloned and joined, records. -/
import Derived.Test.YtlofbfbcnlgmaaaC53a
import Derived.Test.YtlofbfbcnlgmaaaVf3
import Derived.Lib.AppendZeros
set_option linter.unusedVariables false
namespace Go.Proofs.Ytlofbfbcnlgmaaa
open Go Go.Vc Go.RowKit

theorem E22 : Elem Try.prog 22 5 1 1 := ⟨Try.underlying22, by kernel_rfl⟩
def bstr (l : List UInt8) : ByteArray := ⟨l.toArray⟩
theorem bstr_inj {a b : List UInt8} : bstr a = bstr b ↔ a = b := by
  constructor
  · intro h
    have := congrArg (fun x => x.data.toList) h
    simpa [bstr] using this
  · rintro rfl; rfl
theorem bstr_data (s : ByteArray) : bstr s.data.toList = s := rfl
theorem bstr_size (l : List UInt8) : (bstr l).size = l.length := by simp [bstr, ByteArray.size]

theorem k38 (x y : List UInt8) {a : Option Addr} {l c : Nat} {b : Option Addr} {m d : Nat} {g : G} (hx : SlB g a l c x) (hy : SlB g b m d y) :
    CallsP Try.prog 38 #[.slice a l c, .slice b m d] g fun v _ => v = .bool (tf (x = y)) := by
  refine call38 a l c b m d g _ ?_
  unfold F38
  refine ⟨_, _, SlB.str hx Try.underlying22 Try.underlying5 Try.underlying9, g, rfl, Stp.refl _ _ _, _, _, SlB.str hy Try.underlying22 Try.underlying5 Try.underlying9, g, rfl, Stp.refl _ _ _, fun g3 m3 => ?_⟩
  rw [tf_str]
  exact vP bstr_inj

theorem k19 (x y : List UInt8) {a : Option Addr} {l c : Nat} {b : Option Addr} {m d : Nat} {g : G} (hx : SlB g a l c x) (hy : SlB g b m d y) (x1 x2 y1 y2 : Int) :
    CallsP Try.prog 19 #[(.agg ⟨[(.slice a l c), (.int .i64 x1), (.int .i64 x2)]⟩), (.agg ⟨[(.slice b m d), (.int .i64 y1), (.int .i64 y2)]⟩)] g fun v _ => v = .bool (tf (x = y ∧ x1 = y1 ∧ x2 = y2)) := by
  refine call19 a l c x1 x2 b m d y1 y2 g _ ?_
  unfold F19
  refine fun g1 m1 => (k38 x y (hx.ex m1) (hy.ex m1)).mono ?_
  rintro v g2 m2 rfl
  refine ⟨_, rfl, ifP (fun h1 => ifEq (fun h2 g3 m3 => vP ?_) (fun h2 g3 m3 => vF ?_)) (fun h1 g3 m3 => vF ?_)⟩
  · exact ⟨fun h => ⟨h1, h2, h⟩, fun h => h.2.2⟩
  · exact fun h => h2 h.2.1
  · exact fun h => h1 h.1

theorem k15 (x : List UInt8) {a : Option Addr} {l c : Nat} {g : G} (hx : SlB g a l c x) (x1 x2 : Int) :
    CallsP Try.prog 15 #[(.agg ⟨[(.slice a l c), (.int .i64 x1), (.int .i64 x2)]⟩)] g fun v _ => v = .bool (tf (x = [] ∧ x1 = 0 ∧ x2 = 0)) := by
  refine call15 a l c x1 x2 g _ ?_
  unfold F15
  refine fun g1 m1 => (k19 x [] (hx.ex m1) (Sl.zero _ _) x1 x2 0 0).mono ?_
  rintro v g2 m2 rfl
  exact ⟨_, rfl, fun g3 m3 => rfl⟩

theorem k11 (a : Option Addr) (l c : Nat) (x1 x2 : Int) (g : G) :
    CallsP Try.prog 11 #[(.agg ⟨[(.slice a l c), (.int .i64 x1), (.int .i64 x2)]⟩)] g fun v _ => v = .bool (tf (l ≤ 3000 ∨ 1048576 < l ∧ l < 1048676)) := by
  refine call11 a l c x1 x2 g _ ?_
  unfold F11
  refine ifLe (fun h1 g1 m1 => vT (.inl (by omega))) (fun h1 => ifLt (fun h2 g2 m2 => vP ?_) (fun h2 g2 m2 => vF (by omega)))
  omega

/-- The value of a store. -/
def stV (a : Option Addr) (l c : Nat) (x1 x2 : Int) : Value := .agg ⟨[(.slice a l c), (.int .i64 x1), (.int .i64 x2)]⟩
def resV (a : Option Addr) (l c : Nat) (x1 x2 e : Int) : Value := .tuple ⟨[stV a l c x1 x2, .int .i64 e]⟩

theorem k22 (after : Int) (g : G) : CallsP Try.prog 22 #[.int .i64 after] g fun v _ => v = if -1 ≤ after ∧ after ≤ 1048576 then resV none 0 0 0 after 0 else resV none 0 0 0 0 2 := by
  refine call22 after g _ ?_
  unfold F22
  refine ifLt (fun h1 g1 m1 g2 m2 => ?_) (fun h1 => ifLt (fun h2 g1 m1 g2 m2 => ?_) (fun h2 g1 m1 g2 m2 => ?_))
  · rw [if_neg (by omega)]; rfl
  · rw [if_neg (by omega)]; rfl
  · rw [if_pos (by omega)]; rfl

/-- slices.Clone. -/
theorem k32 (x : List UInt8) {a : Option Addr} {l c : Nat} {g : G} (hx : SlB g a l c x) (hl : l ≤ 70368744177664) :
    CallsP Try.prog 32 #[.slice a l c] g fun v g' => ∃ a' c', v = .slice a' l c' ∧ OwnB g' g.size 5 a' l c' x := by
  refine call32 a l c g _ ?_
  unfold F32
  refine ifT (fun hn g1 m1 => ?_) (fun hn g2 n2 => ?_)
  · have ha : a = none := by cases a <;> first | rfl | cases hn
    have hc := hx.nil ha
    have hle := hx.le
    have h0 : l = 0 := by omega
    subst h0
    have : x = [] := List.eq_nil_of_length_eq_zero (SlB.length hx)
    subst this
    exact ⟨none, 0, rfl, OwnG.nil _ _ _ _⟩
  · have o := OwnG.lit (B := g.size) (m := 1) n2 (n := 0) (Nat.le_refl _) rfl (by unfold maxLen; omega)
    obtain ⟨a', c', w', hr, g3, hw, hs, ho, _, _⟩ := OwnB.app (s := []) E22 22 (B := g.size) n2.ex.size o (hx.ex n2.ex) (by omega) (by unfold maxLen; omega)
    rw [Nat.zero_add] at hr ho
    exact ⟨a', l, c', w', hr, g3, hw, hs, fun g4 m4 => ⟨a', c', rfl, ho.ex m4⟩⟩

/-- slices.Grow of nil. -/
theorem k69 (n : Nat) (hn : n ≤ 70368744177664) (g : G) : CallsP Try.prog 69 #[(.slice none 0 0), (.int .i64 (n : Int))] g fun v g' => ∃ a c, v = .slice a 0 c ∧ OwnB g' g.size 5 a 0 c [] := by
  refine call69 none 0 0 n g _ ?_
  unfold F69
  intro J hJ
  refine ifLt (fun h => by omega) (fun _ => hJ g ⟨i64 (by omega) (by omega), i64 (by omega) (by omega), ifLt (fun h => ?_) (fun h g4 m4 => ⟨none, 0, rfl, OwnG.nil _ _ _ _⟩)⟩)
  obtain ⟨i, z, hi, hz, hs, hby, hzs, hm0⟩ := E22.info
  have e2 : ((n : Int) - (((0 : Nat) : Int) - ((0 : Nat) : Int))) = (n : Int) := by omega
  have hr := Lib.run_append_nil_zeros (P := Try.prog) g.w 22 3 22 5 i z .i64 .i64 Try.underlying22 Try.underlying3 hi hz n (by omega) (by omega) (by omega) (by rw [hby]; omega)
  have e1 : slAddr none 0 0 1 = none := rfl
  have hge := grownCap_ge g.w n 0 5
  have hcm := grownCap_le_maxLen g.w n 0 5 (by unfold maxLen; omega)
  refine ⟨⟨by omega, by omega⟩, _, _, _, _, by rw [e1, e2]; exact hr, ?_⟩
  have hsz : g.w.heap.size < (g.w.drew.alloc (.cells (Builtin.zeroCells z.cells n ++ Builtin.zeroCells z.cells (grownCap g.w n 0 5 - n)) 5)).heap.size := by simp
  obtain ⟨s1, s2⟩ := row_stp (hs := hsz) (k := 0) (M := nobody) (B := g.w.heap.size) (Nat.le_refl _) ⟨rfl, rfl, rfl⟩ (fun b hb => Below.heap_alloc g.w.drew _ b hb)
  refine ⟨_, rfl, s1, ⟨by omega, by omega⟩, fun g3 m3 => ?_⟩
  rw [slAddr_zero]
  refine ⟨some ⟨g.w.heap.size, 0, none⟩, _, rfl, OwnG.ex ⟨by simp [nums, vs], Or.inr ⟨_, Builtin.zeroCells z.cells n ++ Builtin.zeroCells z.cells (grownCap g.w n 0 5 - n), rfl, Nat.le_refl _, ?_, by omega, ?_, ?_, by simp [nums, vs], ?_, by omega, ?_⟩⟩ m3⟩
  · show (g.w.heap.push _)[g.w.heap.size]? = _
    simp
  · simpa using hcm
  · have : z.cells.size = 1 := hzs
    simp [Builtin.zeroCells, this]
    omega
  · intro hx
    exact absurd (g.hX _ hx) (by simp)
  · intro j _ _
    exact Or.inr ⟨rfl, Nat.zero_le _⟩

theorem sum3 (a b c : Nat) : ([a, b, c] : List Nat).sum = a + b + c := by simp; omega
/-- slices.Concat of three. -/
theorem k60 (x y z : List UInt8) {a : Option Addr} {xa ya za : Option Addr} {xl xc yl yc zl zc : Nat} {g : G} (h : Sl g 1 a 3 3 [.slice xa xl xc, .slice ya yl yc, .slice za zl zc]) (hx : SlB g xa xl xc x) (hy : SlB g ya yl yc y) (hz : SlB g za zl zc z)
    (hl : xl + yl + zl ≤ 70368744177664) : CallsP Try.prog 60 #[.slice a 3 3] g fun v g' => ∃ a' c', v = .slice a' (xl + yl + zl) c' ∧ OwnB g' g.size 5 a' (xl + yl + zl) c' (x ++ y ++ z) := by
  refine call60 a 3 3 g _ ?_
  have hlx := SlB.length hx
  have hly := SlB.length hy
  have hlz := SlB.length hz
  unfold F60
  refine ⟨fun m s v g' => ∃ i : Nat, v = i ∧ i + m = 3 ∧ s = ((([xl, yl, zl].take i).sum : Nat) : Int), ⟨3, 0, rfl, rfl, rfl⟩, ?_⟩
  rintro m s v g1 le ⟨i, rfl, him, rfl⟩
  have h1 := h.mono le
  have pick : ∀ {K : Option Addr → Nat → Nat → Prop} {g1 : G}, Sl g1 1 a 3 3 [.slice xa xl xc, .slice ya yl yc, .slice za zl zc] → i < 3 → (i = 0 → K xa xl xc) → (i = 1 → K ya yl yc) → (i = 2 → K za zl zc) →
      derefP a fun ad => ∃ sa : Option Addr, ∃ sl : Nat, ∃ sc : Nat, g1.w.cell? (Addr.add ad (Int.toNat (i : Int) * 1)) = some (.slice sa sl sc) ∧ K sa sl sc := by
    intro K g1 h hi k0 k1 k2
    rw [Int.toNat_natCast, Nat.mul_one]
    rcases (by omega : i = 0 ∨ i = 1 ∨ i = 2) with rfl | rfl | rfl
    · exact h.rd (k := 0) rfl fun ad _ hc => ⟨_, _, _, hc.1, k0 rfl⟩
    · exact h.rd (k := 1) rfl fun ad _ hc => ⟨_, _, _, hc.1, k1 rfl⟩
    · exact h.rd (k := 2) rfl fun ad _ hc => ⟨_, _, _, hc.1, k2 rfl⟩
  refine ifLt (fun hlt => ⟨⟨by omega, by omega⟩, pick h1 (by omega) ?_ ?_ ?_⟩) (fun hge => ?_)
  · rintro rfl
    exact ⟨i64 (by simp) (by simp; omega), ifLt (fun h => by simp at h; omega) fun _ => ⟨i64 (by omega) (by omega), m - 1, by omega, 1, by omega, by omega, by simp⟩⟩
  · rintro rfl
    exact ⟨i64 (by simp; omega) (by simp; omega), ifLt (fun h => by simp at h; omega) fun _ => ⟨i64 (by omega) (by omega), m - 1, by omega, 2, by omega, by omega, by simp⟩⟩
  · rintro rfl
    exact ⟨i64 (by simp; omega) (by simp; omega), ifLt (fun h => by simp at h; omega) fun _ => ⟨i64 (by omega) (by omega), m - 1, by omega, 3, by omega, by omega, by simp; omega⟩⟩
  · have : i = 3 := by omega
    subst this
    rw [show (([xl, yl, zl].take 3).sum : Nat) = xl + yl + zl by simp; omega]
    refine (k69 (xl + yl + zl) hl g1).mono ?_
    rintro v g2 m2 ⟨na, nc, rfl, ho⟩
    have hgs := le.size
    refine ⟨_, _, _, rfl, fun m na l nc v g3 => ∃ i : Nat, v = i ∧ i + m = 3 ∧ l = ([xl, yl, zl].take i).sum ∧ g.size ≤ g3.size ∧ OwnB g3 g.size 5 na l nc (([x, y, z].take i).flatten), ⟨3, 0, rfl, rfl, rfl, Nat.le_trans hgs m2.size, ho.base hgs⟩, ?_⟩
    rintro m na l nc v g3 le3 ⟨i, rfl, him, rfl, hsz, ho⟩
    have hm : Le g g3 := (le.trans m2.le).trans le3
    have h3 := h.mono hm
    have hsum : ([xl, yl, zl].take i).sum ≤ xl + yl + zl := by
      rcases (by omega : i = 0 ∨ i = 1 ∨ i = 2 ∨ i = 3) with rfl | rfl | rfl | rfl <;> simp <;> omega
    have pick : ∀ {K : Option Addr → Nat → Nat → Prop}, i < 3 → (i = 0 → K xa xl xc) → (i = 1 → K ya yl yc) → (i = 2 → K za zl zc) →
        derefP a fun ad => ∃ sa : Option Addr, ∃ sl : Nat, ∃ sc : Nat, g3.w.cell? (Addr.add ad (Int.toNat (i : Int) * 1)) = some (.slice sa sl sc) ∧ K sa sl sc := by
      intro K hi k0 k1 k2
      rw [Int.toNat_natCast, Nat.mul_one]
      rcases (by omega : i = 0 ∨ i = 1 ∨ i = 2) with rfl | rfl | rfl
      · exact h3.rd (k := 0) rfl fun ad _ hc => ⟨_, _, _, hc.1, k0 rfl⟩
      · exact h3.rd (k := 1) rfl fun ad _ hc => ⟨_, _, _, hc.1, k1 rfl⟩
      · exact h3.rd (k := 2) rfl fun ad _ hc => ⟨_, _, _, hc.1, k2 rfl⟩
    refine ifLt (fun hlt => ⟨⟨by omega, by omega⟩, pick (by omega) ?_ ?_ ?_⟩) (fun hge g5 m5 => ?_)
    · rintro rfl
      obtain ⟨a', c', w', hr, g4, hw, hs, ho', _, _⟩ := OwnB.app E22 22 hsz ho (hx.mono hm) (by simp; omega) (by simp; unfold maxLen; omega)
      exact ⟨a', _, c', w', hr, g4, hw, hs, i64 (by omega) (by omega), m - 1, by omega, 1, by omega, by omega, by simp, Nat.le_trans hsz hs.le.size, by simpa using ho'⟩
    · rintro rfl
      obtain ⟨a', c', w', hr, g4, hw, hs, ho', _, _⟩ := OwnB.app E22 22 hsz ho (hy.mono hm) (by simp; omega) (by simp; unfold maxLen; omega)
      exact ⟨a', _, c', w', hr, g4, hw, hs, i64 (by omega) (by omega), m - 1, by omega, 2, by omega, by omega, by simp, Nat.le_trans hsz hs.le.size, by simpa using ho'⟩
    · rintro rfl
      obtain ⟨a', c', w', hr, g4, hw, hs, ho', _, _⟩ := OwnB.app E22 22 hsz ho (hz.mono hm) (by simp; omega) (by simp; unfold maxLen; omega)
      exact ⟨a', _, c', w', hr, g4, hw, hs, i64 (by omega) (by omega), m - 1, by omega, 3, by omega, by omega, by simp; omega, Nat.le_trans hsz hs.le.size, by simpa [Nat.add_assoc] using ho'⟩
    · have : i = 3 := by omega
      subst this
      refine ⟨na, nc, by simp; omega, ?_⟩
      have := ho.ex m5
      simpa [Nat.add_assoc] using this
end Go.Proofs.Ytlofbfbcnlgmaaa
