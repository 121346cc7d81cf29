/- The store: the reader. -/
import Derived.Test.YtlofbfbcnlgmaaaC53d
set_option linter.unusedVariables false
namespace Go.Proofs.Ytlofbfbcnlgmaaa
open Go Go.Vc Go.RowKit

theorem numB4_lt (l : List UInt8) : numB (l.take 4) < 256 ^ 4 := Nat.lt_of_lt_of_le (numB_lt _) (Nat.pow_le_pow_right (by omega) (by rw [List.length_take]; omega))
theorem numB2_lt (l : List UInt8) (h : l.length = 2) : numB l < 65536 := by have := numB_lt l; rw [h] at this; omega
theorem numB2 (l : List UInt8) (h : 3 ≤ l.length) : numB ((l.drop 1).take 2) = keyLen l := by
  match l, h with
  | x :: y :: z :: r, _ => simp [numB, keyLen]

/-- (*reader).next. -/
theorem k56 (l : List UInt8) {D : Nat} {xa : Option Addr} {xl xc : Nat} {pos : Int} {g : G} (hm : MutB g D 95 [.slice xa xl xc, .int .i64 pos]) (h : SlB g xa xl xc l) (hl : xl ≤ 1048576) (hp : 0 ≤ pos ∧ pos ≤ 1048576) :
    CallsG Try.prog 56 #[.pointer (some ⟨D, 0, none⟩)] g (fun b => b = D) fun v g' =>
      (firstR l = none ∧ v = .tuple ⟨[.slice none 0 0, .bool false]⟩ ∧ MutB g' D 95 [.slice xa xl xc, .int .i64 pos]) ∨
      (∃ n c ca cc xa' xc', Right l n c ∧ v = .tuple ⟨[.slice ca n cc, .bool true]⟩ ∧ SlB g' ca n cc c ∧ MutB g' D 95 [.slice xa' (xl - (n + 8)) xc', .int .i64 (pos + ((n + 8 : Nat) : Int))] ∧ SlB g' xa' (xl - (n + 8)) xc' (l.drop (n + 8))) := by
  refine call56 (some ⟨D, 0, none⟩) g _ _ ?_
  have hll := SlB.length h
  have hle := h.le
  have hcap := h.cap
  unfold maxLen at hcap
  have hq4 := numB4_lt l
  unfold F56
  simp only [derefP_of_some, -eq_self]
  have no : ∀ {g' g'' : G}, firstR l = none → MutB g' D 95 [.slice xa xl xc, .int .i64 pos] → Ex g' g'' → (firstR l = none ∧ (.tuple ⟨[.slice none 0 0, .bool false]⟩ : Value) = .tuple ⟨[.slice none 0 0, .bool false]⟩ ∧ MutB g'' D 95 [.slice xa xl xc, .int .i64 pos]) ∨
      (∃ n c ca cc xa' xc', Right l n c ∧ (.tuple ⟨[.slice none 0 0, .bool false]⟩ : Value) = .tuple ⟨[.slice ca n cc, .bool true]⟩ ∧ SlB g'' ca n cc c ∧ MutB g'' D 95 [.slice xa' (xl - (n + 8)) xc', .int .i64 (pos + ((n + 8 : Nat) : Int))] ∧ SlB g'' xa' (xl - (n + 8)) xc' (l.drop (n + 8))) := fun hf hmm m => .inl ⟨hf, rfl, hmm.ex m⟩
  refine ⟨xa, xl, xc, hm.rd0 rfl, ifLt (fun h8 g1 m1 => no (by unfold firstR; rw [if_pos (by omega)]) hm m1) (fun h8 => ⟨xa, xl, xc, hm.rd0 rfl, ⟨by omega, by omega⟩, ?_⟩)⟩
  refine (k57 (l.take 4) (SlB.take h (hi := 4) (by omega)) (by omega)).mono ?_
  rintro v g2 m2 rfl
  refine ⟨_, rfl, fun J hJ => ?_⟩
  have hm2 := hm.ex m2
  have h2 := h.ex m2
  have bad1 : ∀ {q : Nat}, numB (l.take 4) = q → (q < 4 ∨ xl < q + 8) → firstR l = none := by
    intro q hq hh
    unfold firstR
    rw [if_neg (by omega), if_pos (by omega)]
  generalize hq : numB (l.take 4) = q at *
  refine ifLt (fun h9 g13 m13 => no (bad1 rfl (by omega)) hm2 m13) (fun h9 => ⟨xa, xl, xc, hm2.rd0 rfl, i64 (by omega) (by omega), ifLt (fun h10 g14 m14 => no (bad1 rfl (by omega)) hm2 m14) (fun h10 => hJ _ ?_)⟩)
  have e4 : Int.toNat ((4 : Int) + (q : Int)) = q + 4 := by omega
  have e8 : Int.toNat ((8 : Int) + (q : Int)) = q + 8 := by omega
  have e44 : Int.toNat (4 : Int) = 4 := rfl
  have e33 : Int.toNat (3 : Int) = 3 := rfl
  have e11 : Int.toNat (1 : Int) = 1 := rfl
  rw [e4, e8, e44, e33, e11]
  refine ⟨xa, xl, xc, hm2.rd0 rfl, i64 (by omega) (by omega), ⟨by omega, by omega⟩, xa, xl, xc, hm2.rd0 rfl, i64 (by omega) (by omega), i64 (by omega) (by omega), ⟨by omega, by omega⟩, ⟨by omega, by omega⟩, ?_⟩
  refine (k57 _ (SlB.sub h2 (lo := q + 4) (hi := q + 8) (by omega) (by omega)) (by omega)).mono ?_
  rintro v g4 m4 rfl
  refine ⟨_, rfl, (k62 _ (SlB.take (h2.ex m4) (hi := q + 4) (by omega))).mono ?_⟩
  rintro v g5 m5 rfl
  have hsl := sumN_lt (l.take (q + 4))
  have e0 : q + 8 - (q + 4) = 4 := by omega
  rw [e0]
  have hm5 := (hm2.ex m4).ex m5
  have h5 := (h2.ex m4).ex m5
  refine ⟨_, rfl, i64 (by omega) (by omega), ifNe (fun h11 g6 m6 => no ?_ hm5 m6) (fun h11 => ?_)⟩
  · unfold firstR
    rw [if_neg (by omega), hq, if_neg (by omega), if_pos (by omega)]
  generalize hc : (l.drop 4).take q = cc
  have hcl : cc.length = q := by rw [← hc, List.length_take, List.length_drop]; omega
  have s5 : SlB g5 (slAddr (slAddr xa xc 0 1) (xc - 0) 4 1) (q + 4 - 0 - 4) (xc - 0 - 4) cc := by
    have := SlB.drop (SlB.take h5 (hi := q + 4) (by omega)) (lo := 4) (by omega)
    rw [List.drop_take, show q + 4 - 4 = q by omega, hc] at this
    exact this
  have b1 := nums_lt cc 1
  have b2 := nums_lt cc 2
  have b0 := nums_lt cc 0
  refine ⟨⟨by omega, by omega⟩, ⟨by omega, by omega⟩, ⟨by omega, by omega⟩, ?_⟩
  refine (k57 _ (SlB.sub s5 (lo := 1) (hi := 3) (by omega) (by omega)) (by omega)).mono ?_
  rintro v g7 m7 rfl
  rw [show 3 - 1 = 2 by rfl, numB2 cc (by omega)]
  refine ⟨_, rfl, fun J1 hJ1 => ?_⟩
  have hm7 := hm5.ex m7
  have s7 := s5.ex m7
  have h7 := h5.ex m7
  have hbad : badR q cc → firstR l = none := by
    intro hb
    unfold firstR
    rw [if_neg (by omega), hq, if_neg (by omega), if_neg (by omega), hc, if_pos hb]
  have fin : badR q cc → J1 true g7 := fun hb => hJ1 _ _ (ifT (fun _ g9 m9 => no (hbad hb) hm7 m9) (fun hh => by cases hh))
  have good : ∀ b, b = false → ¬ badR q cc → J1 b g7 := by
    rintro b rfl hok
    refine hJ1 _ _ (ifT (fun hh => by cases hh) (fun _ => ?_))
    refine ⟨xa, xl, xc, hm7.rd0 rfl, i64 (by omega) (by omega), ⟨by omega, by omega⟩, hm7.ok0 (show 1 ≤ 2 by omega), hm7.nx, hm7.mut0 _, fun _ => rfl, fun g10 k10 => ?_⟩
    obtain ⟨hm10, b10⟩ := hm7.st0 k10
    have l10 := b10.le (fun b hb i => hb ▸ hm7.d i)
    refine ⟨pos, hm10.rd rfl, i64 (by omega) (by omega), i64 (by omega) (by omega), hm10.ok (show 1 + 1 ≤ 2 by omega), hm10.nxA _, hm10.mutA _ _, fun _ => add_block _ _, fun g11 k11 g12 m12 => ?_⟩
    obtain ⟨hm11, b11⟩ := hm10.st k11
    have l12 : Le g7 g12 := (l10.trans (b11.le (fun b hb i => hb ▸ hm10.d i))).trans m12.le
    refine .inr ⟨q, cc, slAddr (slAddr xa xc 0 1) (xc - 0) 4 1, xc - 0 - 4, slAddr xa xc (q + 8) 1, xc - (q + 8), ⟨by omega, by omega, hq, hc.symm, ?_, hok⟩, ?_, ?_, ?_, ?_⟩
    · have : ((l.drop (q + 4)).take 4) = (l.drop (q + 4)).take 4 := rfl
      omega
    · rw [show q + 4 - 0 - 4 = q by omega]
    · have := s7.mono l12
      rwa [show q + 4 - 0 - 4 = q by omega] at this
    · have := hm11.ex m12
      rwa [show pos + (8 + (q : Int)) = pos + ((q + 8 : Nat) : Int) by omega] at this
    · exact SlB.drop (h7.mono l12) (lo := q + 8) (by omega)
  have hkl : keyLen cc = (cc.getD 1 0).toNat * 256 + (cc.getD 2 0).toNat := rfl
  refine ifLt (fun hk => fin (.inl (by omega))) (fun hk => ifLt (fun hk2 => fin (.inr (.inl (by omega)))) (fun hk2 => ⟨i64 (by omega) (by omega), ifLt (fun hk3 => fin (.inr (.inr (.inl (by omega))))) (fun hk3 => ?_)⟩))
  refine ⟨⟨by omega, by omega⟩, SlB.rdN s7 0 rfl (by omega) (ifNe (fun h0 => ?_) (fun h0 => good _ rfl (by unfold badR; omega)))⟩
  refine ⟨⟨by omega, by omega⟩, SlB.rdN s7 0 rfl (by omega) (ifNe (fun h1 => fin (.inr (.inr (.inr (by omega))))) (fun h1 => ⟨i64 (by omega) (by omega), ?_⟩))⟩
  by_cases hkk : ((keyLen cc : Nat) : Int) = (q : Int) - 3
  · exact good _ (by rw [eqI_true.mpr hkk]; rfl) (by unfold badR; omega)
  · have : (!eqI ((keyLen cc : Nat) : Int) ((q : Int) - 3)) = true := by rw [eqI_false.mpr hkk]; rfl
    rw [this]
    exact fin (.inr (.inr (.inr (by omega))))
end Go.Proofs.Ytlofbfbcnlgmaaa
