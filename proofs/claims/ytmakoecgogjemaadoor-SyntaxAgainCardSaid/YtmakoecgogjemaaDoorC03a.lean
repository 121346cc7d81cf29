/- Names: the tests of bytes and words. -/
import Derived.Test.YtmakoecgogjemaaDoorSid
import Derived.Test.YtmakoecgogjemaaDoorFn03b
set_option linter.unusedVariables false
namespace Go.Proofs.YtmakoecgogjemaaDoor
open Go Go.Vc Go.RowKit Go.Syn

theorem getD0 {s : List UInt8} {i : Nat} (h : i < s.length) : s[i]? = some (s.getD i 0) := by
  rw [List.getD_eq_getElem?_getD, List.getElem?_eq_getElem h]; rfl
theorem bstr_at {s : List UInt8} {i : Nat} (h : i < s.length) : (bstr s)[i]? = some (s.getD i 0) := by rw [bstr_get]; exact getD0 h
theorem size_i (s : List UInt8) : (((bstr s).size : Nat) : Int) = ((s.length : Nat) : Int) := by rw [bstr_size]
/-- Of the reference: Digit, Small, Capital. -/
theorem k113 (b : UInt8) (g : G) : CallsP Tryd.prog 113 #[.int .u8 ((b.toNat : Nat) : Int)] g fun v _ => v = .bool (tf (digC b)) := by
  refine call113 _ g _ ?_
  unfold F113 digC
  refine ifLe (fun h g1 _ => ?_) (fun h g1 _ => ?_)
  · rw [tf_le]; exact vP ⟨fun hh => by omega, fun hh => by omega⟩
  · exact vF (by omega)
theorem k104 (b : UInt8) (g : G) : CallsP Tryd.prog 104 #[.int .u8 ((b.toNat : Nat) : Int)] g fun v _ => v = .bool (tf (smallC b)) := by
  refine call104 _ g _ ?_
  unfold F104 smallC
  refine ifLe (fun h g1 _ => ?_) (fun h g1 _ => ?_)
  · rw [tf_le]; exact vP ⟨fun hh => by omega, fun hh => by omega⟩
  · exact vF (by omega)
theorem k109 (b : UInt8) (g : G) : CallsP Tryd.prog 109 #[.int .u8 ((b.toNat : Nat) : Int)] g fun v _ => v = .bool (tf (capC b)) := by
  refine call109 _ g _ ?_
  unfold F109 capC
  refine ifLe (fun h g1 _ => ?_) (fun h g1 _ => ?_)
  · rw [tf_le]; exact vP ⟨fun hh => by omega, fun hh => by omega⟩
  · exact vF (by omega)
theorem k112 (b : UInt8) (g : G) : CallsP Tryd.prog 112 #[.int .u8 ((b.toNat : Nat) : Int)] g fun v _ => v = .bool (tf (innerC b)) := by
  refine call112 _ g _ ?_
  unfold F112 innerC
  refine (k104 b g).mono ?_
  rintro v g1 _ rfl
  refine ⟨_, rfl, ifP (fun h g2 _ => vT (.inl h)) (fun h => (k109 b g1).mono ?_)⟩
  rintro v g3 _ rfl
  refine ⟨_, rfl, ifP (fun h2 g4 _ => vT (.inr (.inl h2))) (fun h2 => (k113 b g3).mono ?_)⟩
  rintro v g5 _ rfl
  refine ⟨_, rfl, ifP (fun h3 g6 _ => vT (.inr (.inr (.inl h3)))) (fun h3 g7 _ => ?_)⟩
  rw [tf_eq]
  exact vP ⟨fun hh => .inr (.inr (.inr (by omega))), fun hh => by
    rcases hh with hh | hh | hh | hh
    · exact absurd hh h
    · exact absurd hh h2
    · exact absurd hh h3
    · omega⟩
theorem k105 (s : List UInt8) (g : G) (hs : s.length ≤ 1048576) : CallsP Tryd.prog 105 #[.string (bstr s)] g fun v _ => v = .bool (tf (innerP s)) := by
  refine call105 _ g _ ?_
  unfold F105
  refine ⟨fun m i g' => ∃ j : Nat, i = ((j : Nat) : Int) ∧ j + m = s.length ∧ ∀ c ∈ s.take j, innerC c, ⟨s.length, 0, rfl, by omega, by simp⟩, ?_⟩
  rintro m i g1 _ ⟨j, rfl, hj, hall⟩
  rw [size_i]
  refine ifLt (fun hlt => ⟨s.getD j 0, ⟨by omega, bstr_at (by omega)⟩, (k112 _ g1).mono ?_⟩) (fun hge g4 _ => vT ?_)
  · rintro v g2 _ rfl
    refine ⟨_, rfl, ifPn (fun hn g3 _ => vF (fun hh => hn ?_)) (fun hi => ⟨i64 (by omega) (by omega), m - 1, by omega, j + 1, by omega, by omega, (all_take (getD0 (by omega)) _).2 ⟨hall, hi⟩⟩)⟩
    exact hh _ (List.mem_of_getElem? (getD0 (by omega)))
  · rw [take_all (by omega)] at hall
    exact hall
theorem k106 (s : List UInt8) (g : G) : CallsP Tryd.prog 106 #[.string (bstr s)] g fun v _ => v = .bool (tf (wordP s)) := by
  refine call106 _ g _ ?_
  unfold F106 wordP
  rw [size_i]
  refine ifLe (fun h1 => ifLe (fun h2 => (k105 s g (by omega)).mono ?_) (fun h2 g1 _ => vF (by omega))) (fun h1 g1 _ => vF (by omega))
  rintro v g1 _ rfl
  exact ⟨_, rfl, fun g2 _ => vP ⟨fun h => ⟨by omega, by omega, h⟩, fun h => h.2.2⟩⟩
/-- Find, of the reference. -/
theorem k107 (L : List (List UInt8)) (s : List UInt8) {a : Option Addr} {n c : Nat} {g : G} (h : SlE strE g a n c L) (hn : n ≤ 1048576) : CallsP Tryd.prog 107 #[.slice a n c, .string (bstr s)] g fun v _ => ∃ i : Int, v = .int .i64 i ∧ (0 ≤ i ↔ s ∈ L) := by
  refine call107 a n c _ g _ ?_
  have hl := h.len
  unfold F107
  refine ⟨fun m i g' => ∃ j : Nat, i = ((j : Nat) : Int) ∧ j + m = n ∧ ∀ x ∈ L.take j, x ≠ s, ⟨n, 0, rfl, by omega, by simp⟩, ?_⟩
  rintro m i g1 le ⟨j, rfl, hj, hall⟩
  refine ifLt (fun hlt => ⟨⟨by omega, by omega⟩, ?_⟩) (fun hge g3 _ => ⟨_, rfl, ?_⟩)
  · have gj := List.getElem?_eq_getElem (show j < L.length by omega)
    refine rdS (h.mono le) j rfl gj (ifS (fun e g2 _ => ⟨_, rfl, ?_⟩) (fun e => ⟨i64 (by omega) (by omega), m - 1, by omega, j + 1, by omega, by omega, (all_take gj _).2 ⟨hall, fun hh => e (by rw [hh])⟩⟩))
    have := bstr_inj.1 e
    exact ⟨fun _ => this ▸ List.mem_of_getElem? gj, fun _ => by omega⟩
  · rw [take_all (by omega)] at hall
    exact ⟨fun hh => by omega, fun hh => absurd rfl (hall s hh)⟩
/-- slices.Contains, of strings. -/
theorem k86 (L : List (List UInt8)) (s : List UInt8) {a : Option Addr} {n c : Nat} {g : G} (h : SlE strE g a n c L) (hn : n ≤ 1048576) : CallsP Tryd.prog 86 #[.slice a n c, .string (bstr s)] g fun v _ => ∃ i : Int, v = .int .i64 i ∧ (0 ≤ i ↔ s ∈ L) := by
  refine call86 a n c _ g _ ?_
  have hl := h.len
  unfold F86
  refine ⟨fun m i g' => ∃ j : Nat, i = ((j : Nat) : Int) ∧ j + m = n ∧ ∀ x ∈ L.take j, x ≠ s, ⟨n, 0, rfl, by omega, by simp⟩, ?_⟩
  rintro m i g1 le ⟨j, rfl, hj, hall⟩
  refine ifLt (fun hlt => ⟨⟨by omega, by omega⟩, ?_⟩) (fun hge g3 _ => ⟨_, rfl, ?_⟩)
  · have gj := List.getElem?_eq_getElem (show j < L.length by omega)
    refine rdS (h.mono le) j rfl gj (ifS (fun e g2 _ => ⟨_, rfl, ?_⟩) (fun e => ⟨i64 (by omega) (by omega), m - 1, by omega, j + 1, by omega, by omega, (all_take gj _).2 ⟨hall, fun hh => e (by rw [hh])⟩⟩))
    have := bstr_inj.1 e
    exact ⟨fun _ => this ▸ List.mem_of_getElem? gj, fun _ => by omega⟩
  · rw [take_all (by omega)] at hall
    exact ⟨fun hh => by omega, fun hh => absurd rfl (hall s hh)⟩
theorem k72 (L : List (List UInt8)) (s : List UInt8) {a : Option Addr} {n c : Nat} {g : G} (h : SlE strE g a n c L) (hn : n ≤ 1048576) : CallsP Tryd.prog 72 #[.slice a n c, .string (bstr s)] g fun v _ => v = .bool (tf (s ∈ L)) := by
  refine call72 a n c _ g _ ?_
  unfold F72
  refine (k86 L s h hn).mono ?_
  rintro v g1 _ ⟨i, rfl, hi⟩
  refine ⟨_, rfl, fun g2 _ => ?_⟩
  rw [tf_le]
  exact vP hi
/-- slices.Contains, of numbers. -/
theorem k87 (L : List Int) (x : Int) {a : Option Addr} {n c : Nat} {g : G} (h : SlE intE' g a n c L) (hn : n ≤ 1048576) : CallsP Tryd.prog 87 #[.slice a n c, .int .i64 x] g fun v _ => ∃ i : Int, v = .int .i64 i ∧ (0 ≤ i ↔ x ∈ L) := by
  refine call87 a n c _ g _ ?_
  have hl := h.len
  unfold F87
  refine ⟨fun m i g' => ∃ j : Nat, i = ((j : Nat) : Int) ∧ j + m = n ∧ ∀ y ∈ L.take j, y ≠ x, ⟨n, 0, rfl, by omega, by simp⟩, ?_⟩
  rintro m i g1 le ⟨j, rfl, hj, hall⟩
  refine ifLt (fun hlt => ⟨⟨by omega, by omega⟩, ?_⟩) (fun hge g3 _ => ⟨_, rfl, ?_⟩)
  · have gj := List.getElem?_eq_getElem (show j < L.length by omega)
    refine rdN (h.mono le) j rfl gj (ifEq (fun e g2 _ => ⟨_, rfl, ?_⟩) (fun e => ⟨i64 (by omega) (by omega), m - 1, by omega, j + 1, by omega, by omega, (all_take gj _).2 ⟨hall, fun hh => e hh.symm⟩⟩))
    exact ⟨fun _ => e ▸ List.mem_of_getElem? gj, fun _ => by omega⟩
  · rw [take_all (by omega)] at hall
    exact ⟨fun hh => by omega, fun hh => absurd rfl (hall x hh)⟩
theorem k75 (L : List Int) (x : Int) {a : Option Addr} {n c : Nat} {g : G} (h : SlE intE' g a n c L) (hn : n ≤ 1048576) : CallsP Tryd.prog 75 #[.slice a n c, .int .i64 x] g fun v _ => v = .bool (tf (x ∈ L)) := by
  refine call75 a n c _ g _ ?_
  unfold F75
  refine (k87 L x h hn).mono ?_
  rintro v g1 _ ⟨i, rfl, hi⟩
  refine ⟨_, rfl, fun g2 _ => ?_⟩
  rw [tf_le]
  exact vP hi
/-- The key words, of the reference. -/
theorem k108 (g : G) : CallsP Tryd.prog 108 #[] g fun v g' => ∃ a n c, v = .slice a n c ∧ SlE strE g' a n c keys ∧ n ≤ 100 := by
  refine call108 g _ ?_
  unfold F108
  intro g1 n1 g2 m2
  refine ⟨_, _, _, rfl, (n1.sle (E := strE) (xs := keys) ?_ (by decide)).exm m2, by decide⟩
  exact ⟨keys.map fun x => [.string (bstr x)], rfl, by
    generalize keys = K
    induction K with
    | nil => exact .nil
    | cons x r ih => exact .cons rfl ih⟩
theorem k101 (s : List UInt8) (g : G) : CallsP Tryd.prog 101 #[.string (bstr s)] g fun v _ => v = .bool (tf (lowerP s)) := by
  refine call101 _ g _ ?_
  unfold F101 lowerP
  refine (k106 s g).mono ?_
  rintro v g1 _ rfl
  refine ⟨_, rfl, ifP (fun hw => ?_) (fun hw g2 _ => vF (fun hh => hw hh.1))⟩
  refine ⟨s.getD 0 0, ⟨by omega, bstr_at (by have := hw.1; omega)⟩, (k104 _ g1).mono ?_⟩
  rintro v g2 _ rfl
  refine ⟨_, rfl, ifP (fun hs => (k108 g2).mono ?_) (fun hs g3 _ => vF (fun hh => hs hh.2.1))⟩
  rintro v g3 _ ⟨a, n, c, rfl, hk, hn⟩
  refine ⟨_, _, _, rfl, (k107 keys s hk (by omega)).mono ?_⟩
  rintro v g4 _ ⟨i, rfl, hi⟩
  refine ⟨_, rfl, fun g5 _ => ?_⟩
  rw [tf_lt]
  refine vP ⟨fun hh => ⟨hw, hs, fun hm => by have := hi.2 hm; omega⟩, fun hh => ?_⟩
  have : ¬ 0 ≤ i := fun h0 => hh.2.2 (hi.1 h0)
  omega
theorem k102 (s : List UInt8) (g : G) : CallsP Tryd.prog 102 #[.string (bstr s)] g fun v _ => v = .bool (tf (upperP s)) := by
  refine call102 _ g _ ?_
  unfold F102 upperP
  refine (k106 s g).mono ?_
  rintro v g1 _ rfl
  refine ⟨_, rfl, ifP (fun hw => ?_) (fun hw g2 _ => vF (fun hh => hw hh.1))⟩
  refine ⟨s.getD 0 0, ⟨by omega, bstr_at (by have := hw.1; omega)⟩, (k109 _ g1).mono ?_⟩
  rintro v g2 _ rfl
  exact ⟨_, rfl, fun g3 _ => vP ⟨fun hh => ⟨hw, hh⟩, fun hh => hh.2⟩⟩
theorem k100 (s : List UInt8) (g : G) : CallsP Tryd.prog 100 #[.string (bstr s)] g fun v _ => v = .bool (tf (tvarP s)) := by
  refine call100 _ g _ ?_
  unfold F100 tvarP
  rw [size_i]
  refine ifLe (fun h1 => ifLe (fun h2 => ⟨s.getD 0 0, ⟨by omega, bstr_at (by omega)⟩, ifEq (fun h3 => ⟨s.getD 1 0, ⟨by omega, bstr_at (by omega)⟩, (k104 _ g).mono ?_⟩) (fun h3 g1 _ => vF (by omega))⟩) (fun h2 g1 _ => vF (by omega))) (fun h1 g1 _ => vF (by omega))
  rintro v g1 _ rfl
  refine ⟨_, rfl, ifP (fun h4 => ⟨⟨by omega, by omega⟩, ?_⟩) (fun h4 g2 _ => vF (fun hh => h4 hh.2.2.2.1))⟩
  rw [bstr_extract, bstr_size, List.take_length]
  refine (k105 (s.drop 1) g1 (by rw [List.length_drop]; omega)).mono ?_
  rintro v g2 _ rfl
  exact ⟨_, rfl, fun g3 _ => vP ⟨fun hh => ⟨by omega, by omega, by omega, h4, hh⟩, fun hh => hh.2.2.2.2⟩⟩
theorem k89 (s : List UInt8) (g : G) : CallsP Tryd.prog 89 #[.string (bstr s)] g fun v _ => v = .bool (tf (tvarP s)) := by
  refine call89 _ g _ ?_
  unfold F89
  refine (k100 s g).mono ?_
  rintro v g1 _ rfl
  exact ⟨_, rfl, fun g2 _ => rfl⟩
theorem k93 (s : List UInt8) (g : G) : CallsP Tryd.prog 93 #[.string (bstr s)] g fun v _ => v = .bool (tf (lowerP s)) := by
  refine call93 _ g _ ?_
  unfold F93
  refine (k101 s g).mono ?_
  rintro v g1 _ rfl
  exact ⟨_, rfl, fun g2 _ => rfl⟩
theorem k96 (s : List UInt8) (g : G) : CallsP Tryd.prog 96 #[.string (bstr s)] g fun v _ => v = .bool (tf (upperP s)) := by
  refine call96 _ g _ ?_
  unfold F96
  refine (k102 s g).mono ?_
  rintro v g1 _ rfl
  exact ⟨_, rfl, fun g2 _ => rfl⟩
end Go.Proofs.YtmakoecgogjemaaDoor
