/- The store: the first record of some bytes. -/
import Derived.Test.YtlofbfbcnlgmaaaC53c
import Derived.Test.YtlofbfbcnlgmaaaVm1
set_option linter.unusedVariables false
namespace Go.Proofs.Ytlofbfbcnlgmaaa
open Go Go.Vc Go.RowKit

structure Rec where
  kind : Nat
  key : List UInt8
  data : List UInt8
  len : Nat
def badR (n : Nat) (c : List UInt8) : Prop :=
  (c.getD 1 0).toNat * 256 + (c.getD 2 0).toNat < 1 ∨ 100 < (c.getD 1 0).toNat * 256 + (c.getD 2 0).toNat ∨ n < (c.getD 1 0).toNat * 256 + (c.getD 2 0).toNat + 3 ∨
    ¬ ((c.getD 0 0).toNat = 1 ∨ (c.getD 0 0).toNat = 2 ∧ (c.getD 1 0).toNat * 256 + (c.getD 2 0).toNat + 3 = n)
instance (n : Nat) (c : List UInt8) : Decidable (badR n c) := by unfold badR; infer_instance
def keyLen (c : List UInt8) : Nat := (c.getD 1 0).toNat * 256 + (c.getD 2 0).toNat
def firstR (l : List UInt8) : Option Rec :=
  if l.length < 8 then none else
  if numB (l.take 4) < 4 ∨ l.length < numB (l.take 4) + 8 then none else
  if sumN (l.take (numB (l.take 4) + 4)) ≠ numB ((l.drop (numB (l.take 4) + 4)).take 4) then none else
  if badR (numB (l.take 4)) ((l.drop 4).take (numB (l.take 4))) then none else
  some ⟨(((l.drop 4).take (numB (l.take 4))).getD 0 0).toNat, (((l.drop 4).take (numB (l.take 4))).drop 3).take (keyLen ((l.drop 4).take (numB (l.take 4)))), ((l.drop 4).take (numB (l.take 4))).drop (3 + keyLen ((l.drop 4).take (numB (l.take 4)))), numB (l.take 4) + 8⟩
def recOf (l : List UInt8) : Rec := (firstR l).getD ⟨0, [], [], 0⟩

/-- A record begins the bytes. -/
structure Right (l : List UInt8) (n : Nat) (c : List UInt8) : Prop where
  len : n + 8 ≤ l.length
  n4 : 4 ≤ n
  num : numB (l.take 4) = n
  c_eq : c = (l.drop 4).take n
  sum : sumN (l.take (n + 4)) = numB ((l.drop (n + 4)).take 4)
  ok : ¬ badR n c
theorem first_of {l : List UInt8} {n : Nat} {c : List UInt8} (h : Right l n c) : firstR l = some ⟨(c.getD 0 0).toNat, (c.drop 3).take (keyLen c), c.drop (3 + keyLen c), n + 8⟩ := by
  obtain ⟨h1, h2, h3, h4, h5, h6⟩ := h
  unfold firstR
  rw [h3, ← h4, if_neg (by omega), if_neg (by omega), if_neg (by simp [h5]), if_neg h6]
theorem right_of {l : List UInt8} {r : Rec} (h : firstR l = some r) : ∃ n c, Right l n c ∧ r = ⟨(c.getD 0 0).toNat, (c.drop 3).take (keyLen c), c.drop (3 + keyLen c), n + 8⟩ := by
  unfold firstR at h
  split at h
  · cases h
  · split at h
    · cases h
    · split at h
      · cases h
      · split at h
        · cases h
        · rename_i h1 h2 h3 h4
          cases h
          exact ⟨_, _, ⟨by omega, by omega, rfl, rfl, Decidable.not_not.1 h3, h4⟩, rfl⟩

theorem k48 (l : List UInt8) {a : Option Addr} {n c : Nat} {g : G} (h : SlB g a n c l) (hn : n ≤ 1148676) :
    CallsP Try.prog 48 #[.slice a n c] g fun v g' => ∃ da dl dc, v = .agg ⟨[.int .i64 ((recOf l).kind : Int), .string (bstr (recOf l).key), .slice da dl dc, .int .i64 ((recOf l).len : Int)]⟩ ∧ SlB g' da dl dc (recOf l).data := by
  refine call48 a n c g _ ?_
  have hl := SlB.length h
  have hle := h.le
  have hcap := h.cap
  have hnum := numB_lt (l.take 4)
  have hnum4 : numB (l.take 4) < 256 ^ 4 := Nat.lt_of_lt_of_le hnum (Nat.pow_le_pow_right (by omega) (by rw [List.length_take]; omega))
  have no : ∀ (g' : G), firstR l = none → ∃ da dl dc, (.agg ⟨[.int .i64 (0 : Int), .string (bs []), .slice none 0 0, .int .i64 (0 : Int)]⟩ : Value) = .agg ⟨[.int .i64 ((recOf l).kind : Int), .string (bstr (recOf l).key), .slice da dl dc, .int .i64 ((recOf l).len : Int)]⟩ ∧ SlB g' da dl dc (recOf l).data := by
    intro g' hf
    refine ⟨none, 0, 0, ?_, ?_⟩
    · simp only [recOf, hf]; rfl
    · simp only [recOf, hf]; exact Sl.zero _ _
  unfold F48
  refine ifLt (fun h8 g1 m1 g2 m2 => no g2 (by unfold firstR; rw [if_pos (by omega)])) (fun h8 g3 m3 => ?_)
  refine (k63 l (h.ex m3) (by omega)).mono ?_
  rintro v g4 m4 rfl
  refine ⟨_, rfl, fun J hJ g12 m12 => ?_⟩
  have e4 : Int.toNat (((numB (l.take 4) : Nat) : Int) + 4) = numB (l.take 4) + 4 := by omega
  have h12 : SlB g12 a n c l := ((h.ex m3).ex m4).ex m12
  have bad1 : ∀ {q : Nat}, numB (l.take 4) = q → (q < 4 ∨ n < q + 8) → firstR l = none := by
    intro q hq hh
    unfold firstR
    rw [if_neg (by omega), if_pos (by omega)]
  generalize hq : numB (l.take 4) = q at *
  refine ifLt (fun h9 g13 m13 => no _ (bad1 rfl (by omega))) (fun h9 => ⟨i64 (by omega) (by omega), ifLt (fun h10 g14 m14 => no _ (bad1 rfl (by omega))) (fun h10 => ?_)⟩)
  refine ⟨i64 (by omega) (by omega), ⟨by omega, by omega⟩, i64 (by omega) (by omega), ⟨by omega, by omega⟩, ?_⟩
  rw [e4]
  refine (k42 _ (SlB.take h12 (hi := q + 4) (by omega))).mono ?_
  rintro v g15 m15 rfl
  refine ⟨_, rfl, (k63 _ (SlB.drop (h12.ex m15) (lo := q + 4) (by omega)) (by omega)).mono ?_⟩
  rintro v g16 m16 rfl
  refine ⟨_, rfl, ifNe (fun h11 g17 m17 => no _ ?_) (fun h11 => hJ _ _ _ _ _ _ _ ?_)⟩
  · unfold firstR
    rw [if_neg (by omega), hq]
    split
    · rfl
    · rw [if_pos (by omega)]
  have h16 := (h12.ex m15).ex m16
  have e44 : Int.toNat (4 : Int) = 4 := rfl
  have e33 : Int.toNat (3 : Int) = 3 := rfl
  refine ⟨i64 (by omega) (by omega), ⟨by omega, by omega⟩, ⟨by omega, by omega⟩, fun g6 m6 => ?_⟩
  rw [e4, e44]
  generalize hc : (l.drop 4).take q = cc
  have hcl : cc.length = q := by rw [← hc, List.length_take, List.length_drop]; omega
  have s6 : SlB g6 (slAddr a c 4 1) (q + 4 - 4) (c - 4) cc := by
    have := SlB.sub (h16.ex m6) (lo := 4) (hi := q + 4) (by omega) (by omega)
    rw [show q + 4 - 4 = q by omega] at this ⊢
    rw [hc] at this
    exact this
  have b1 := nums_lt cc 1
  have b2 := nums_lt cc 2
  have b0 := nums_lt cc 0
  by_cases hq3 : q = 3
  · subst hq3
    -- a record of three bytes has no key
    refine ⟨⟨by omega, by omega⟩, SlB.rdN s6 1 rfl (by omega) ?_⟩
    refine ⟨i64 (by omega) (by omega), i64 (by omega) (by omega), ⟨by omega, by omega⟩, SlB.rdN s6 2 rfl (by omega) ?_⟩
    have hbad : firstR l = none := bad1 rfl (by omega)
    refine ⟨i64 (by omega) (by omega), i64 (by omega) (by omega), fun J1 hJ1 => ?_⟩
    have fin : ∀ g', J1 true g' := fun g' => hJ1 _ _ (ifT (fun _ g8 m8 => no _ hbad) (fun hh => by cases hh))
    refine ifLt (fun _ => fin _) (fun hk => ifLt (fun _ => fin _) (fun _ => ⟨i64 (by omega) (by omega), ifLt (fun _ => fin _) (fun hh => by omega)⟩))
  refine ⟨⟨by omega, by omega⟩, SlB.rdN s6 1 rfl (by omega) ?_⟩
  refine ⟨i64 (by omega) (by omega), i64 (by omega) (by omega), ⟨by omega, by omega⟩, SlB.rdN s6 2 rfl (by omega) ?_⟩
  refine ⟨i64 (by omega) (by omega), i64 (by omega) (by omega), fun J1 hJ1 => ?_⟩
  have hbad : badR q cc → firstR l = none := by
    intro hb
    unfold firstR
    rw [if_neg (by omega), hq, if_neg (by omega), if_neg (by omega), hc, if_pos hb]
  have fin : ∀ g', badR q cc → J1 true g' := fun g' hb => hJ1 _ _ (ifT (fun _ g8 m8 => no _ (hbad hb)) (fun hh => by cases hh))
  have good : ∀ b, b = false → ¬ badR q cc → J1 b g6 := by
    rintro b rfl hok
    refine hJ1 _ _ (ifT (fun hh => by cases hh) (fun _ g9 m9 => ?_))
    have hf : firstR l = _ := first_of (l := l) (n := q) (c := cc) ⟨by omega, by omega, hq, hc.symm, by omega, hok⟩
    have hrec : recOf l = ⟨(cc.getD 0 0).toNat, (cc.drop 3).take (keyLen cc), cc.drop (3 + keyLen cc), q + 8⟩ := by unfold recOf; rw [hf]; rfl
    have s9 := s6.ex m9
    unfold badR at hok
    have ek : Int.toNat ((3 : Int) + ((((cc.getD 1 0).toNat : Nat) : Int) * 256 + (((cc.getD 2 0).toNat : Nat) : Int))) = 3 + keyLen cc := by unfold keyLen; omega
    have hkl : 3 + keyLen cc ≤ q := by unfold keyLen; omega
    have sk := SlB.sub s9 (lo := 3) (hi := 3 + keyLen cc) (by omega) (by omega)
    refine ⟨⟨by omega, by omega⟩, SlB.rdN s9 0 rfl (by omega) ?_⟩
    refine ⟨i64 (by omega) (by omega), i64 (by omega) (by omega), ⟨by omega, by omega⟩, ⟨by omega, by omega⟩, i64 (by omega) (by omega), ⟨by omega, by omega⟩, i64 (by omega) (by omega), ?_⟩
    rw [ek, e33]
    refine ⟨_, _, SlB.str sk Try.underlying22 Try.underlying5 Try.underlying9, g9, rfl, Stp.refl _ _ _, fun _ _ _ => rfl, fun g11 m11 => ?_⟩
    have sd := SlB.drop (s9.ex m11) (lo := 3 + keyLen cc) (by omega)
    refine ⟨_, _, _, ?_, by rw [hrec]; exact sd⟩
    rw [hrec]
    show Value.agg ⟨[_, _, _, _]⟩ = Value.agg ⟨[_, _, _, _]⟩
    rw [show 3 + keyLen cc - 3 = keyLen cc by omega]
    congr 5
  refine ifLt (fun hk => fin _ (.inl (by omega))) (fun hk => ifLt (fun hk2 => fin _ (.inr (.inl (by omega)))) (fun hk2 => ⟨i64 (by omega) (by omega), ifLt (fun hk3 => fin _ (.inr (.inr (.inl (by omega))))) (fun hk3 => ?_)⟩))
  refine ⟨⟨by omega, by omega⟩, SlB.rdN s6 0 rfl (by omega) (ifLt (fun h0 => fin _ (.inr (.inr (.inr (by omega))))) (fun h0 => ?_))⟩
  refine ⟨⟨by omega, by omega⟩, SlB.rdN s6 0 rfl (by omega) (ifLt (fun h0 => fin _ (.inr (.inr (.inr (by omega))))) (fun h1 => ?_))⟩
  refine ⟨⟨by omega, by omega⟩, SlB.rdN s6 0 rfl (by omega) (ifEq (fun h2 => ⟨i64 (by omega) (by omega), ?_⟩) (fun h2 => good _ rfl ?_))⟩
  · by_cases hkk : (((cc.getD 1 0).toNat : Nat) : Int) * 256 + (((cc.getD 2 0).toNat : Nat) : Int) = (q : Int) - 3
    · exact good _ (by rw [eqI_true.mpr hkk]; rfl) (by unfold badR; omega)
    · have : (!eqI ((((cc.getD 1 0).toNat : Nat) : Int) * 256 + (((cc.getD 2 0).toNat : Nat) : Int)) ((q : Int) - 3)) = true := by rw [eqI_false.mpr hkk]; rfl
      rw [this]
      exact fin _ (.inr (.inr (.inr (by omega))))
  · unfold badR; omega
end Go.Proofs.Ytlofbfbcnlgmaaa
