/- The store: writing. -/
import Derived.Test.YtlofbfbcnlgmaaaC53f
set_option linter.unusedVariables false
namespace Go.Proofs.Ytlofbfbcnlgmaaa
open Go Go.Vc Go.RowKit

structure SR where
  b : List UInt8
  d : Int
  a : Int
  e : Int
/-- The store to which a record is written behind n bytes. -/
def writeR (b : List UInt8) (n : Nat) (d a : Int) (r : List UInt8) : SR :=
  if 1048576 < n + r.length then ⟨[], 0, 0, 5⟩ else
  if a < 0 then ⟨b.take n ++ r, ((n + r.length : Nat) : Int), a, 0⟩ else
  if a ≤ r.length then ⟨b.take n ++ r.take a.toNat, minI d n, 0, 30⟩ else
  ⟨b.take n ++ r, ((n + r.length : Nat) : Int), a - r.length, 0⟩
/-- What is left of the bytes that can be written, behind i. -/
def aft (a : Int) (i : Nat) : Int := if a < 0 then a else a - i
/-- A result that is a store and a code. -/
def IsSR (v : Value) (g : G) (s : SR) : Prop := ∃ a l c, v = resV a l c s.d s.a s.e ∧ SlB g a l c s.b

theorem k59 {D : Nat} {xa : Option Addr} {xl xc : Nat} {d af : Int} {g : G} (hm : MutB g D 99 [.slice xa xl xc, .int .i64 d, .int .i64 af]) :
    CallsP Try.prog 59 #[.pointer (some ⟨D, 0, none⟩)] g fun v _ => v = .bool (tf (af ≠ 0)) := by
  refine call59 (some ⟨D, 0, none⟩) g _ ?_
  unfold F59
  simp only [derefP_of_some, -eq_self]
  refine ⟨af, hm.rd rfl, fun g1 m1 => ?_⟩
  rw [tf_eq, tf_not]

theorem k58 (s : List UInt8) (b : UInt8) {D B : Nat} {xa : Option Addr} {xl xc : Nat} {d af : Int} {g : G} (hm : MutB g D 99 [.slice xa xl xc, .int .i64 d, .int .i64 af]) (ho : OwnB g B 5 xa xl xc s) (hD : D < B) (hB : B ≤ g.size) (hl : xl ≤ 1048576) (ha : -1 ≤ af ∧ af ≤ 1048576) :
    CallsG Try.prog 58 #[.pointer (some ⟨D, 0, none⟩), .int .u8 ((b.toNat : Nat) : Int)] g (fun x => x = D ∨ blkOf xa x) fun v g' =>
      (af = 0 ∧ v = .bool false ∧ MutB g' D 99 [.slice xa xl xc, .int .i64 d, .int .i64 af] ∧ OwnB g' B 5 xa xl xc s) ∨
      (af ≠ 0 ∧ v = .bool true ∧ ∃ xa' xc', MutB g' D 99 [.slice xa' (xl + 1) xc', .int .i64 d, .int .i64 (aft af 1)] ∧ OwnB g' B 5 xa' (xl + 1) xc' (s ++ [b])) := by
  refine call58 (some ⟨D, 0, none⟩) ((b.toNat : Nat) : Int) g _ _ ?_
  unfold F58
  simp only [derefP_of_some, -eq_self]
  refine (k59 hm).mono ?_
  rintro v g1 m1 rfl
  refine ⟨_, rfl, ifPn (fun h0 g2 m2 => ?_) (fun h0 => ?_)⟩
  · have : af = 0 := Classical.not_not.1 h0
    exact .inl ⟨this, rfl, (hm.ex m1).ex m2, (ho.ex m1).ex m2⟩
  · have hm1 := hm.ex m1
    have ho1 := ho.ex m1
    refine ⟨xa, xl, xc, hm1.rd0 rfl, fun g3 n3 => ?_⟩
    have hm3 := hm1.ex n3.ex
    have ho3 := ho1.ex n3.ex
    have hs3 : SlB g3 (some ⟨g1.w.heap.size, 0, none⟩) 1 1 [b] := n3.sl (m := 1) (n := 1) rfl (by unfold maxLen; omega)
    have hB3 : B ≤ g3.w.heap.size := Nat.le_trans hB (Nat.le_trans m1.size n3.ex.size)
    obtain ⟨xa', xc', w1, hr, g4, hw, hst, ho4, hst2, hloc⟩ := OwnB.app E22 22 hB3 ho3 hs3 (by omega) (by unfold maxLen; omega)
    have hDx : ¬ blkOf xa D := ho3.ne hD
    have hst3 : Stp g.w.heap.size (fun x => x = D ∨ blkOf xa x) g3 g4 := hst2.mono (Nat.le_trans m1.size n3.ex.size) (fun x _ hx => .inr hx)
    have hm4 := hm3.but (hst2.but (Nat.le_refl _)) hDx
    have hDx' : ¬ blkOf xa' D := ho4.ne hD
    refine ⟨xa', _, xc', w1, hr, g4, hw, hst3, hm4.ok0 (show 1 ≤ 3 by omega), hm4.nx, hm4.mut0 _, fun _ => .inl rfl, fun g5 k5 => ?_⟩
    obtain ⟨hm5, b5⟩ := hm4.st0 k5
    have ho5 : OwnB g5 B 5 xa' (xl + 1) xc' (s ++ [b]) := ho4.but b5 (fun x hx e => hDx' (e ▸ hx))
    refine ⟨af, hm5.rd rfl, ifLt (fun hlt => ?_) (fun hge g8 m8 => ?_)⟩
    · refine ⟨af, hm5.rd rfl, i64 (by omega) (by omega), hm5.ok (show 2 + 1 ≤ 3 by omega), hm5.nxA _, hm5.mutA _ _, fun _ => .inl (add_block _ _), fun g6 k6 g7 m7 => ?_⟩
      obtain ⟨hm6, b6⟩ := hm5.st k6
      have ho6 : OwnB g6 B 5 xa' (xl + 1) xc' (s ++ [b]) := ho5.but b6 (fun x hx e => hDx' (e ▸ hx))
      refine .inr ⟨h0, rfl, xa', xc', ?_, ho6.ex m7⟩
      have := hm6.ex m7
      unfold aft
      rw [if_neg (by omega)]
      exact this
    · refine .inr ⟨h0, rfl, xa', xc', ?_, ho5.ex m8⟩
      have := hm5.ex m8
      unfold aft
      rw [if_pos (by omega)]
      exact this

theorem aft_succ (a : Int) (i : Nat) (h : -1 ≤ a) (h2 : aft a i ≠ 0) (h3 : a < 0 ∨ i ≤ a) : aft (aft a i) 1 = aft a (i + 1) ∧ (a < 0 ∨ ((i + 1 : Nat) : Int) ≤ a) := by
  unfold aft at h2 ⊢
  by_cases h0 : a < 0
  · simp [h0]
  · simp only [h0, if_false, false_or] at *
    rw [if_neg (by omega)]
    exact ⟨by omega, by omega⟩

theorem take_snoc (r : List UInt8) (i : Nat) (h : i < r.length) : r.take (i + 1) = r.take i ++ [r.getD i 0] := by
  rw [List.take_add_one, List.getElem?_eq_getElem h]
  simp [List.getD_eq_getElem?_getD, h]

/-- appended. -/
theorem k45 (b r : List UInt8) {a : Option Addr} {n c : Nat} {ra : Option Addr} {rl rc : Nat} {g : G} (h : SlB g a n c b) (hr : SlB g ra rl rc r) (d af : Int) (k : Nat) (hk : k ≤ n) (hn : n ≤ 1048576) (hrl : rl ≤ 1148676) (ha : -1 ≤ af ∧ af ≤ 1048576) (hd : 0 ≤ d ∧ d ≤ n) :
    CallsP Try.prog 45 #[stV a n c d af, .int .i64 (k : Int), .slice ra rl rc] g fun v g' => IsSR v g' (writeR b k d af r) := by
  refine call45 a n c d af k ra rl rc g _ ?_
  have hlb := SlB.length h
  have hlr := SlB.length hr
  have hle := h.le
  unfold F45
  refine ⟨i64 (by omega) (by omega), ifLt (fun hbig g1 m1 g2 m2 => ⟨none, 0, 0, ?_, ?_⟩) (fun hsm g3 m3 g4 n4 => ?_)⟩
  · unfold writeR; rw [if_pos (by omega)]; rfl
  · unfold writeR; rw [if_pos (by omega)]; exact Sl.zero _ _
  rw [Int.toNat_natCast]
  have h4 := (h.ex m3).ex n4.ex
  refine ⟨⟨by omega, by omega⟩, (k32 _ (SlB.take h4 (hi := k) hk) (by omega)).mono ?_⟩
  rintro v g5 m5 ⟨xa, xc, rfl, ho⟩
  have hm5 := n4.mut.ex m5
  refine ⟨_, _, _, rfl, hm5.ok0 (show 1 ≤ 3 by omega), hm5.nx, hm5.mut0 _, fun hh => absurd hh (by have := m3.size; show ¬ g3.w.heap.size < _; omega), fun g6 k6 => ?_⟩
  obtain ⟨hm6, b6⟩ := hm5.st0 k6
  have hD : g3.w.heap.size < g4.size := heap_lt n4.blk
  have ho6 := ho.but b6 (fun x hx e => (ho.ne hD) (e ▸ hx))
  refine ⟨hm6.ok (show 1 + 1 ≤ 3 by omega), hm6.nxA _, hm6.mutA _ _, fun hh => absurd hh (by rw [add_block]; have := m3.size; show ¬ g3.w.heap.size < _; omega), fun g7 k7 => ?_⟩
  obtain ⟨hm7, b7⟩ := hm6.st k7
  have ho7 := ho6.but b7 (fun x hx e => (ho6.ne hD) (e ▸ hx))
  have hr7 : SlB g7 ra rl rc r := (((hr.ex m3).ex n4.ex).ex m5).mono ((b6.le (fun b hb i => hb ▸ hm5.d i)).trans (b7.le (fun b hb i => hb ▸ hm6.d i)))
  have hsz7 : g4.size ≤ g7.w.heap.size := Nat.le_trans m5.size (Nat.le_trans b6.size b7.size)
  refine ⟨fun m i x0a x0l x0c x1 x2 g8 => ∃ j xa' xc', i = ((j : Nat) : Int) ∧ j + m = rl ∧ MutB g8 g3.w.heap.size 99 [.slice xa' (k + j) xc', .int .i64 (minI d k), .int .i64 (aft af j)] ∧ OwnB g8 g4.size 5 xa' (k + j) xc' (b.take k ++ r.take j) ∧ (af < 0 ∨ (j : Int) ≤ af) ∧ g4.size ≤ g8.w.heap.size,
    ⟨rl, 0, xa, xc, rfl, by omega, ?_, ?_, ?_, hsz7⟩, ?_⟩
  · have e : aft af 0 = af := by unfold aft; split <;> omega
    rw [e]
    exact hm7
  · simpa using ho7
  · omega
  rintro m i x0a x0l x0c x1 x2 g8 le8 ⟨j, xa', xc', rfl, hjm, hm8, ho8, haj, hsz8⟩
  have hr8 := hr7.mono le8
  have haft : -1 ≤ aft af j ∧ aft af j ≤ 1048576 := by
    unfold aft
    split <;> omega
  refine ifLt (fun hlt => ⟨⟨by omega, by omega⟩, SlB.rdN hr8 j rfl (by omega) ?_⟩) (fun hge => ?_)
  · refine ⟨_, fun x hx hx2 => ?_, (k58 _ (r.getD j 0) hm8 ho8 hD hsz8 (by omega) haft).mono ?_⟩
    · have hg4 : g.w.heap.size ≤ g4.w.heap.size := Nat.le_trans m3.size n4.ex.size
      rcases hx2 with e | e
      · have := m3.size; omega
      · have : g4.w.heap.size ≤ x := ho8.ge e
        omega
    · rintro v g9 st9 (⟨h0, rfl, hm9, ho9⟩ | ⟨h0, rfl, xa9, xc9, hm9, ho9⟩)
      · refine ⟨_, rfl, ifF (fun _ => ?_) (fun hh => by cases hh)⟩
        refine ⟨_, _, _, _, _, hm9.rd0 rfl, hm9.rd rfl, hm9.rd rfl, fun g10 m10 => ⟨xa', k + j, xc', ?_, ?_⟩⟩
        · have hj : af = j := by unfold aft at h0; split at h0 <;> omega
          unfold writeR
          rw [if_neg (by omega), if_neg (by omega), if_pos (by omega), h0]
          rfl
        · have hj : af = j := by unfold aft at h0; split at h0 <;> omega
          unfold writeR
          rw [if_neg (by omega), if_neg (by omega), if_pos (by omega)]
          have e : af.toNat = j := by omega
          simp only [e]
          exact (ho9.ex m10).sl
      · refine ⟨_, rfl, ifF (fun hh => by cases hh) (fun _ => ?_)⟩
        obtain ⟨e1, e2⟩ := aft_succ af j ha.1 h0 haj
        rw [e1] at hm9
        refine ⟨i64 (by omega) (by omega), m - 1, by omega, j + 1, xa9, xc9, by omega, by omega, hm9, ?_, e2, Nat.le_trans hsz8 st9.le.size⟩
        rw [take_snoc r j (by omega), ← List.append_assoc]
        exact ho9
  · have hj : j = rl := by omega
    subst hj
    have et : r.take j = r := List.take_of_length_le (by omega)
    rw [et] at ho8
    refine (k59 hm8).mono ?_
    rintro v g11 m11 rfl
    have hm11 := hm8.ex m11
    have ho11 := ho8.ex m11
    refine ⟨_, rfl, ifPn (fun h0 => ?_) (fun h0 => ?_)⟩
    · have h0 : aft af j = 0 := Classical.not_not.1 h0
      have hj : af = j := by unfold aft at h0; split at h0 <;> omega
      refine ⟨_, _, _, _, _, hm11.rd0 rfl, hm11.rd rfl, hm11.rd rfl, fun g12 m12 => ⟨xa', k + j, xc', ?_, ?_⟩⟩
      · unfold writeR
        rw [if_neg (by omega), if_neg (by omega), if_pos (by omega), h0]
        rfl
      · unfold writeR
        rw [if_neg (by omega), if_neg (by omega), if_pos (by omega)]
        have e : r.take af.toNat = r := List.take_of_length_le (by omega)
        simp only [e]
        exact (ho11.ex m12).sl
    · refine ⟨xa', k + j, xc', hm11.rd0 rfl, hm11.ok (show 1 + 1 ≤ 3 by omega), hm11.nxA _, hm11.mutA _ _, fun hh => absurd hh (by rw [add_block]; have := m3.size; show ¬ g3.w.heap.size < _; omega), fun g13 k13 => ?_⟩
      obtain ⟨hm13, b13⟩ := hm11.st k13
      have ho13 := ho11.but b13 (fun x hx e => (ho11.ne hD) (e ▸ hx))
      have ew : writeR b k d af r = ⟨b.take k ++ r, ((k + j : Nat) : Int), aft af j, 0⟩ := by
        unfold aft at h0
        unfold writeR aft
        rw [if_neg (by omega), hlr]
        by_cases h9 : af < 0
        · rw [if_pos h9, if_pos h9]
        · rw [if_neg h9] at h0
          rw [if_neg h9, if_neg h9, if_neg (by omega)]
      exact ⟨_, _, _, _, _, hm13.rd0 rfl, hm13.rd rfl, hm13.rd rfl, fun g14 m14 => ⟨xa', k + j, xc', by rw [ew]; rfl, by rw [ew]; exact (ho13.ex m14).sl⟩⟩
end Go.Proofs.Ytlofbfbcnlgmaaa
