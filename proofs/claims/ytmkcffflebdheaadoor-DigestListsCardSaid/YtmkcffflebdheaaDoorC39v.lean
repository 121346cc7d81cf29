/- Which strings are digests; the law DigestForms. -/
import Derived.Test.YtmkcffflebdheaaDoorC39k
set_option linter.unusedVariables false
namespace Go.Proofs.YtmkcffflebdheaaDoor
open Go Go.Vc Go.RowKit

def isHex (b : UInt8) : Prop := (48 ≤ b.toNat ∧ b.toNat ≤ 57) ∨ (97 ≤ b.toNat ∧ b.toNat ≤ 102)
def validP (s : ByteArray) : Prop := (∀ (j : Nat) (b : UInt8), s[j]? = some b → isHex b) ∧ s.size = 64
def hexTo (s : ByteArray) (i : Nat) : Prop := ∀ (j : Nat) (b : UInt8), j < i → s[j]? = some b → isHex b

theorem byte_at (s : ByteArray) (i : Nat) (h : i < s.size) : ∃ b, s[i]? = some b := ⟨s[i], by simp [h]⟩
theorem hexTo_succ {s : ByteArray} {i : Nat} {b : UInt8} (h : hexTo s i) (hb : s[i]? = some b) (hx : isHex b) : hexTo s (i + 1) := by
  intro j c hj hc
  by_cases e : j = i
  · subst e
    rw [hb] at hc
    cases hc
    exact hx
  · exact h j c (by omega) hc
theorem not_valid {s : ByteArray} {i : Nat} {b : UInt8} (hb : s[i]? = some b) (hx : ¬ isHex b) : ¬ validP s := fun h => hx (h.1 i b hb)
theorem valid_end {s : ByteArray} (h : hexTo s s.size) : validP s ↔ s.size = 64 := by
  refine ⟨fun h => h.2, fun e => ⟨fun j b hb => h j b ?_ hb, e⟩⟩
  by_cases hj : j < s.size
  · exact hj
  · simp [hj] at hb

theorem c13_any (s : ByteArray) (hs : s.size ≤ 4611686018427387904) (w : World) :
    Calls Tryd.prog 13 #[(.string s)] w fun e w' => ∃ x : Bool, e = .returned (.bool x) ∧ (x = true ↔ validP s) ∧ w' = w := by
  refine (call13 s w (fun v w' => ∃ x : Bool, v = .bool x ∧ (x = true ↔ validP s) ∧ w' = w) ?_).mono (by rintro e w' ⟨v, rfl, x, rfl, h, rfl⟩; exact ⟨x, rfl, h, rfl⟩)
  unfold F13
  refine ⟨fun v x => ∃ i : Nat, v = i ∧ i ≤ s.size ∧ hexTo s i ∧ x = w, fun v _ => (s.size - v).toNat, ⟨0, rfl, by omega, fun j b hj => by omega, rfl⟩, ?_⟩
  rintro v w1 ⟨i, rfl, hi, hh, hw⟩
  simp only [ifB_iff, ltI_true, ltI_false]
  constructor
  · intro hlt
    obtain ⟨b, hb⟩ := byte_at s i (by omega)
    have hbI : 0 ≤ (i : Int) ∧ s[Int.toNat (i : Int)]? = some b := ⟨by omega, hb⟩
    have no : ¬ isHex b → ∃ x : Bool, Value.bool false = .bool x ∧ (x = true ↔ validP s) ∧ w1 = w := fun hx => ⟨false, rfl, ⟨fun h => (by cases h), fun h => absurd h (not_valid hb hx)⟩, hw⟩
    have yes : isHex b → InI64 ((i : Int) + 1) ∧ (∃ k : Nat, (i : Int) + 1 = k ∧ k ≤ s.size ∧ hexTo s k ∧ w1 = w) ∧ ((s.size : Int) - ((i : Int) + 1)).toNat < ((s.size : Int) - (i : Int)).toNat := fun hx =>
      ⟨by unfold InI64; omega, ⟨i + 1, by simp, by omega, hexTo_succ hh hb hx, hw⟩, by omega⟩
    refine ⟨b, hbI, fun h => ⟨b, hbI, fun h2 => no (by unfold isHex; omega), fun h2 => ⟨b, hbI, fun h3 => no (by unfold isHex; omega), fun h3 => yes (by unfold isHex; omega)⟩⟩, fun h => ⟨b, hbI, fun h2 => ⟨b, hbI, fun h3 => no (by unfold isHex; omega), fun h3 => ⟨b, hbI, fun h4 => no (by unfold isHex; omega), fun h4 => yes (by unfold isHex; omega)⟩⟩, fun h2 => yes (by unfold isHex; omega)⟩⟩
  · intro hge
    have : i = s.size := by omega
    subst this
    refine ⟨_, rfl, ?_, hw⟩
    rw [valid_end hh, eqI_true]
    omega

theorem c14_any (s : ByteArray) (hs : s.size ≤ 4611686018427387904) (w : World) :
    Calls Tryd.prog 14 #[(.string s)] w fun e w' => ∃ x : Bool, e = .returned (.bool x) ∧ (x = true ↔ validP s) ∧ w' = w := by
  refine (call14 s w (fun v w' => ∃ x : Bool, v = .bool x ∧ (x = true ↔ validP s) ∧ w' = w) ?_).mono (by rintro e w' ⟨v, rfl, x, rfl, h, rfl⟩; exact ⟨x, rfl, h, rfl⟩)
  unfold F14
  refine ⟨fun v x => ∃ i : Nat, v = i ∧ i ≤ s.size ∧ hexTo s i ∧ x = w, fun v _ => (s.size - v).toNat, ⟨0, rfl, by omega, fun j b hj => by omega, rfl⟩, ?_⟩
  rintro v w1 ⟨i, rfl, hi, hh, hw⟩
  simp only [ifB_iff, ltI_true, ltI_false, leI_true, leI_false, Bool.not_eq_true', Bool.not_eq_false']
  constructor
  · intro hlt J hJ
    obtain ⟨b, hb⟩ := byte_at s i (by omega)
    have hbI : 0 ≤ (i : Int) ∧ s[Int.toNat (i : Int)]? = some b := ⟨by omega, hb⟩
    have no : ¬ isHex b → ∃ x : Bool, Value.bool false = .bool x ∧ (x = true ↔ validP s) ∧ w1 = w := fun hx => ⟨false, rfl, ⟨fun h => (by cases h), fun h => absurd h (not_valid hb hx)⟩, hw⟩
    have yes : isHex b → J w1 := fun hx => hJ _
      ⟨by unfold InI64; omega, ⟨i + 1, by simp, by omega, hexTo_succ hh hb hx, hw⟩, by omega⟩
    refine ⟨b, hbI, fun h => ⟨b, hbI, fun h2 => yes (by unfold isHex; omega), fun h2 => ⟨b, hbI, fun h3 => ⟨b, hbI, fun h4 => no (by unfold isHex; omega), fun h4 => yes (by unfold isHex; omega)⟩, fun h3 => no (by unfold isHex; omega)⟩⟩, fun h => ⟨b, hbI, fun h2 => ⟨b, hbI, fun h3 => no (by unfold isHex; omega), fun h3 => yes (by unfold isHex; omega)⟩, fun h2 => no (by unfold isHex; omega)⟩⟩
  · intro hge
    have : i = s.size := by omega
    subst this
    refine ⟨_, rfl, ?_, hw⟩
    rw [valid_end hh, eqI_true]
    omega

theorem c15_any (n : Int) (h : InI64 n) (hn : n ≤ 1125899906842624) (w : World) :
    Calls Tryd.prog 15 #[(.int .i64 n)] w fun e w' => e = .returned (.int .i64 (blocks n)) ∧ w' = w := by
  refine fin (call15 n w _ ?_)
  unfold F15
  unfold InI64 at h
  simp only [ifB_iff, ltI_true, ltI_false]
  constructor
  · intro h
    rw [blocks, if_pos h]
    exact ⟨rfl, trivial⟩
  · intro h0
    have ed : Int.tdiv (n + 8) 64 = (n + 8) / 64 := Int.tdiv_eq_ediv_of_nonneg (by omega)
    rw [ed]
    unfold InI64
    refine ⟨by omega, by omega, by omega, by omega, ?_, trivial⟩
    have e1 : blocks n = if 55 < n % 64 then n / 64 + 2 else n / 64 + 1 := by rw [blocks, if_neg (by omega)]
    have e2 : (n + 8) / 64 + 1 = blocks n := by
      rw [e1]
      by_cases h55 : 55 < n % 64
      · rw [if_pos h55]; omega
      · rw [if_neg h55]; omega
    rw [e2]

theorem c5_any (s : ByteArray) (n : Int) (h : InI64 n) (w : World) (hT : Tab w) :
    Calls Tryd.prog 5 #[(.string s), (.int .i64 n)] w fun e w' => e = .returned (.bool true) ∧ Below w.heap.size w w' := by
  refine fin (call5 s n w _ ?_)
  unfold F5
  refine (c8_any w hT).mono ?_
  rintro _ w1 ⟨rfl, f1⟩
  refine ⟨_, rfl, ?_⟩
  rw [ifB_iff]
  refine ⟨fun h => (by cases h), fun _ => ?_⟩
  intro J hJ
  simp only [ifB_iff, ltI_true, ltI_false]
  refine ⟨fun _ => ⟨trivial, f1⟩, fun hs => ⟨fun _ => ⟨trivial, f1⟩, fun hn => ?_⟩⟩
  apply hJ
  refine (c13_any s (by omega) w1).mono ?_
  rintro _ w1 ⟨x, rfl, hx, rfl⟩
  refine ⟨x, rfl, ?_⟩
  refine (c14_any s (by omega) w1).mono ?_
  rintro _ w1 ⟨y, rfl, hy, rfl⟩
  refine ⟨y, rfl, ?_⟩
  have e : (x == y) = true := by
    have : x = true ↔ y = true := hx.trans hy.symm
    cases x <;> cases y <;> simp_all
  rw [e, ifB_iff]
  refine ⟨fun _ => ?_, fun h => (by cases h)⟩
  refine (c12_any n h w1).mono ?_
  rintro _ w1 ⟨rfl, rfl⟩
  refine ⟨_, rfl, ?_⟩
  refine (c15_any n h (by omega) w1).mono ?_
  rintro _ w1 ⟨rfl, rfl⟩
  refine ⟨_, rfl, ?_, f1⟩
  simp [eqI]
end Go.Proofs.YtmkcffflebdheaaDoor
