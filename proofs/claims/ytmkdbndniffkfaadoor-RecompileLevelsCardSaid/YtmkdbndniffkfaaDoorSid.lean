/- Names: what is a lower name, an upper name, a type variable. -/
import Derived.Test.YtmkdbndniffkfaaDoorVt2
set_option linter.unusedVariables false
namespace Go.Syn
open Go Go.Vc

/-- The key words. -/
def keys : List (List UInt8) := [
  [97, 110, 100, 97, 108, 115, 111],
  [99, 97, 115, 101],
  [100, 97, 116, 97],
  [100, 105, 118],
  [101, 108, 115, 101],
  [101, 110, 100],
  [102, 110],
  [102, 117, 110],
  [102, 117, 110, 99, 116, 111, 114],
  [103, 101, 110, 101, 114, 97, 116, 105, 118, 101],
  [105, 102],
  [105, 109, 112, 111, 114, 116],
  [105, 110],
  [105, 110, 99, 108, 117, 100, 101],
  [108, 101, 116],
  [109, 111, 100],
  [109, 111, 100, 117, 108, 101],
  [111, 102],
  [111, 112, 101, 110],
  [111, 114, 101, 108, 115, 101],
  [112, 97, 99, 107],
  [115, 104, 97, 114, 105, 110, 103],
  [115, 105, 103],
  [115, 105, 103, 110, 97, 116, 117, 114, 101],
  [115, 116, 114, 117, 99, 116],
  [115, 116, 114, 117, 99, 116, 117, 114, 101],
  [116, 104, 101, 110],
  [116, 121, 112, 101],
  [117, 110, 112, 97, 99, 107],
  [118, 97, 108],
  [119, 105, 116, 104]]
def smallC (c : UInt8) : Prop := 97 ≤ c.toNat ∧ c.toNat ≤ 122
def capC (c : UInt8) : Prop := 65 ≤ c.toNat ∧ c.toNat ≤ 90
def digC (c : UInt8) : Prop := 48 ≤ c.toNat ∧ c.toNat ≤ 57
def innerC (c : UInt8) : Prop := smallC c ∨ capC c ∨ digC c ∨ c.toNat = 95
def innerP (s : List UInt8) : Prop := ∀ c ∈ s, innerC c
def wordP (s : List UInt8) : Prop := 1 ≤ s.length ∧ s.length ≤ 24 ∧ innerP s
def lowerP (s : List UInt8) : Prop := wordP s ∧ smallC (s.getD 0 0) ∧ s ∉ keys
def upperP (s : List UInt8) : Prop := wordP s ∧ capC (s.getD 0 0)
def tvarP (s : List UInt8) : Prop := 2 ≤ s.length ∧ s.length ≤ 24 ∧ (s.getD 0 0).toNat = 39 ∧ smallC (s.getD 1 0) ∧ innerP (s.drop 1)
/-- The class of a byte. -/
def clsN (c : Nat) : Int := if 97 ≤ c ∧ c ≤ 122 then 1 else if 65 ≤ c ∧ c ≤ 90 then 2 else if 48 ≤ c ∧ c ≤ 57 then 3 else if c = 95 then 4 else if c = 46 then 5 else 0
theorem cls_inner (c : UInt8) : innerC c ↔ ¬ clsN c.toNat = 0 ∧ ¬ clsN c.toNat = 5 := by
  unfold innerC smallC capC digC clsN
  split <;> rename_i h1
  · simp [h1]
  split <;> rename_i h2
  · simp [h2]
  split <;> rename_i h3
  · simp [h3]
  split <;> rename_i h4
  · simp [h4]
  split <;> simp [h1, h2, h3, h4]
theorem cls_small (c : UInt8) : clsN c.toNat = 1 ↔ smallC c := by
  unfold smallC clsN
  split <;> rename_i h1
  · simp [h1]
  · simp only [h1, iff_false]
    repeat' split
    all_goals decide
theorem cls_cap (c : UInt8) : clsN c.toNat = 2 ↔ capC c := by
  unfold capC clsN
  split <;> rename_i h1
  · constructor
    · intro h; cases h
    · intro h; omega
  split <;> rename_i h2
  · simp [h2]
  · simp only [h2, iff_false]
    repeat' split
    all_goals decide
/-- What the function name tests. -/
theorem name_iff (s : List UInt8) (k : Int) : (s ≠ [] ∧ s.length ≤ 24 ∧ clsN (s.getD 0 0).toNat = k ∧ ∀ c ∈ s, ¬ clsN c.toNat = 0 ∧ ¬ clsN c.toNat = 5) ↔ wordP s ∧ clsN (s.getD 0 0).toNat = k := by
  unfold wordP innerP
  have h1 : s ≠ [] ↔ 1 ≤ s.length := by
    cases s with
    | nil => simp
    | cons a r => simp
  have h2 : (∀ c ∈ s, ¬ clsN c.toNat = 0 ∧ ¬ clsN c.toNat = 5) ↔ ∀ c ∈ s, innerC c := by
    constructor
    · exact fun h c hc => (cls_inner c).2 (h c hc)
    · exact fun h c hc => (cls_inner c).1 (h c hc)
  rw [h1, h2]
  constructor
  · rintro ⟨a, b, c, d⟩; exact ⟨⟨a, b, d⟩, c⟩
  · rintro ⟨⟨a, b, d⟩, c⟩; exact ⟨a, b, c, d⟩
/-- A type variable: a quote, and a name of a small first byte. -/
theorem tvar_iff (s : List UInt8) : tvarP s ↔ ((1 ≤ s.length ∧ s.take 1 = [39]) ∧ s.length ≤ 24 ∧ (wordP (s.drop 1) ∧ clsN ((s.drop 1).getD 0 0).toNat = 1)) := by
  unfold tvarP wordP
  rw [cls_small]
  cases s with
  | nil => simp
  | cons a r =>
    have hq : a.toNat = 39 ↔ a = 39 := by
      constructor
      · intro h
        exact UInt8.toNat_inj.1 h
      · rintro rfl; rfl
    simp only [List.length_cons, List.take_succ_cons, List.take_zero, List.cons.injEq, and_true, List.drop_succ_cons, List.drop_zero, List.getD_cons_zero, List.getD_cons_succ, hq]
    constructor
    · rintro ⟨h1, h2, h3, h4, h5⟩
      exact ⟨⟨by omega, h3⟩, by omega, ⟨by omega, by omega, h5⟩, h4⟩
    · rintro ⟨⟨_, h3⟩, h2, ⟨h6, h7, h5⟩, h4⟩
      exact ⟨by omega, by omega, h3, h4, h5⟩
/-- All of the first elements. -/
theorem all_take {α : Type} {L : List α} {j : Nat} {x : α} (h : L[j]? = some x) (p : α → Prop) : (∀ y ∈ L.take (j + 1), p y) ↔ (∀ y ∈ L.take j, p y) ∧ p x := by
  rw [List.take_add_one, h]
  simp only [Option.toList_some, List.mem_append, List.mem_singleton]
  constructor
  · exact fun hh => ⟨fun y hy => hh y (.inl hy), hh x (.inr rfl)⟩
  · rintro ⟨h1, h2⟩ y (hy | rfl)
    · exact h1 y hy
    · exact h2
theorem take_all {α : Type} {L : List α} {j : Nat} (h : L.length ≤ j) : L.take j = L := List.take_of_length_le h
end Go.Syn
