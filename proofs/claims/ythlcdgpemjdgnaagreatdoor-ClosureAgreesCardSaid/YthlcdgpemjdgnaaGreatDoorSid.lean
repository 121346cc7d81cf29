/- Names: what is a lower name, an upper name, a type variable. -/
import Derived.Test.YthlcdgpemjdgnaaGreatDoorVt2
set_option linter.unusedVariables false
namespace Go.Syn
open Go Go.Vc
def keys : List (List UInt8) := [
  [97, 110, 100, 97, 108, 115, 111],
  [99, 97, 115, 101],
  [100, 97, 116, 97],
  [100, 105, 118],
  [101, 108, 115, 101],
  [101, 110, 100],
  [102, 110],
  [102, 117, 110],
  [102, 117, 110, 99, 116, 111, 114],
  [103, 101, 110, 101, 114, 97, 116, 105, 118, 101],
  [105, 102],
  [105, 109, 112, 111, 114, 116],
  [105, 110],
  [105, 110, 99, 108, 117, 100, 101],
  [108, 101, 116],
  [109, 111, 100],
  [109, 111, 100, 117, 108, 101],
  [111, 102],
  [111, 112, 101, 110],
  [111, 114, 101, 108, 115, 101],
  [112, 97, 99, 107],
  [115, 104, 97, 114, 105, 110, 103],
  [115, 105, 103],
  [115, 105, 103, 110, 97, 116, 117, 114, 101],
  [115, 116, 114, 117, 99, 116],
  [115, 116, 114, 117, 99, 116, 117, 114, 101],
  [116, 104, 101, 110],
  [116, 121, 112, 101],
  [117, 110, 112, 97, 99, 107],
  [118, 97, 108],
  [119, 105, 116, 104]]
def smallC (c : UInt8) : Prop := 97 ≤ c.toNat ∧ c.toNat ≤ 122
def capC (c : UInt8) : Prop := 65 ≤ c.toNat ∧ c.toNat ≤ 90
def digC (c : UInt8) : Prop := 48 ≤ c.toNat ∧ c.toNat ≤ 57
def innerC (c : UInt8) : Prop := smallC c ∨ capC c ∨ digC c ∨ c.toNat = 95
def innerP (s : List UInt8) : Prop := ∀ c ∈ s, innerC c
def wordP (s : List UInt8) : Prop := 1 ≤ s.length ∧ s.length ≤ 24 ∧ innerP s
def lowerP (s : List UInt8) : Prop := wordP s ∧ smallC (s.getD 0 0) ∧ s ∉ keys
def upperP (s : List UInt8) : Prop := wordP s ∧ capC (s.getD 0 0)
def tvarP (s : List UInt8) : Prop := 2 ≤ s.length ∧ s.length ≤ 24 ∧ (s.getD 0 0).toNat = 39 ∧ smallC (s.getD 1 0) ∧ innerP (s.drop 1)
theorem all_take {α : Type} {L : List α} {j : Nat} {x : α} (h : L[j]? = some x) (p : α → Prop) : (∀ y ∈ L.take (j + 1), p y) ↔ (∀ y ∈ L.take j, p y) ∧ p x := by
  rw [List.take_add_one, h]
  simp only [Option.toList_some, List.mem_append, List.mem_singleton]
  constructor
  · exact fun hh => ⟨fun y hy => hh y (.inl hy), hh x (.inr rfl)⟩
  · rintro ⟨h1, h2⟩ y (hy | rfl)
    · exact h1 y hy
    · exact h2
end Go.Syn
