/- Syntax trees: categories, fields, paths, parameters, texts. -/
import Derived.Test.YtmakoecgogjemaaDoorSsyn
import Derived.Test.YtmakoecgogjemaaDoorC03b
set_option linter.unusedVariables false
namespace Go.Proofs.YtmakoecgogjemaaDoor
open Go Go.Vc Go.RowKit Go.Syn

/-- Category. -/
theorem k13 (op : Int) (g : G) : CallsP Tryd.prog 13 #[.int .i64 op] g fun v _ => v = .int .i64 (catN op) := by
  refine call13 op g _ ?_
  unfold F13 catN
  intro J hJ
  refine oneOf [1, 2, 3, 4, 5] (hJ _ _ ?_)
  refine ifP (fun h g2 _ => by rw [if_pos h]) (fun h => ?_)
  rw [if_neg h]
  intro J1 hJ1
  refine oneOf [11, 12, 13, 14, 15] (hJ1 _ _ ?_)
  refine ifP (fun h g2 _ => by rw [if_pos h]) (fun h => ?_)
  rw [if_neg h]
  intro J2 hJ2
  refine oneOf [21, 22, 23, 24, 25, 26, 27, 28, 29, 31, 32, 33, 34] (hJ2 _ _ ?_)
  refine ifP (fun h g2 _ => by rw [if_pos h]) (fun h => ?_)
  rw [if_neg h]
  intro J3 hJ3
  refine oneOf [41, 42, 43, 44, 46, 47, 48, 49, 50] (hJ3 _ _ ?_)
  refine ifP (fun h g2 _ => by rw [if_pos h]) (fun h => ?_)
  rw [if_neg h]
  intro J4 hJ4
  refine oneOf [61, 62, 63, 64, 65, 66] (hJ4 _ _ ?_)
  refine ifP (fun h g2 _ => by rw [if_pos h]) (fun h => ?_)
  rw [if_neg h]
  intro J5 hJ5
  refine oneOf [71, 72, 73, 74] (hJ5 _ _ ?_)
  refine ifP (fun h g2 _ => by rw [if_pos h]) (fun h => ?_)
  rw [if_neg h]
  intro J6 hJ6
  refine oneOf [81, 82, 83, 84, 85, 86, 87, 88] (hJ6 _ _ ?_)
  exact ifP (fun h g2 _ => by rw [if_pos h]) (fun h g2 _ => by rw [if_neg h])
/-- Category, of the reference. -/
theorem catR (op : Int) : catN op = if 1 ≤ op ∧ op ≤ 5 then 1 else if 11 ≤ op ∧ op ≤ 15 then 2 else if 21 ≤ op ∧ op ≤ 34 ∧ op ≠ 30 then 3 else if 41 ≤ op ∧ op ≤ 50 ∧ op ≠ 45 then 4 else if 61 ≤ op ∧ op ≤ 66 then 5 else if 71 ≤ op ∧ op ≤ 74 then 6 else if 81 ≤ op ∧ op ≤ 88 then 7 else 0 := by
  have e : ∀ {p q : Prop} [Decidable p] [Decidable q] {a b c d : Int}, (p ↔ q) → a = b → c = d → (if p then a else c) = if q then b else d := by
    intro p q _ _ a b c d h h1 h2
    subst h1; subst h2
    by_cases hp : p
    · rw [if_pos hp, if_pos (h.1 hp)]
    · rw [if_neg hp, if_neg (fun hh => hp (h.2 hh))]
  unfold catN
  refine e ?_ rfl (e ?_ rfl (e ?_ rfl (e ?_ rfl (e ?_ rfl (e ?_ rfl (e ?_ rfl rfl)))))) <;> (simp only [List.mem_cons, List.not_mem_nil, or_false]; omega)
theorem k14 (op : Int) (g : G) : CallsP Tryd.prog 14 #[.int .i64 op] g fun v _ => v = .int .i64 (catN op) := by
  refine call14 op g _ ?_
  rw [catR]
  unfold F14
  intro J hJ
  have a1 : ¬ (1 ≤ op ∧ op ≤ 5) → J g := by
    intro n1
    refine hJ g ?_
    rw [if_neg n1]
    intro J1 hJ1
    have a2 : ¬ (11 ≤ op ∧ op ≤ 15) → J1 g := by
      intro n2
      refine hJ1 g ?_
      rw [if_neg n2]
      intro J2 hJ2
      have a3 : ¬ (21 ≤ op ∧ op ≤ 34 ∧ op ≠ 30) → J2 g := by
        intro n3
        refine hJ2 g ?_
        rw [if_neg n3]
        intro J3 hJ3
        have a4 : ¬ (41 ≤ op ∧ op ≤ 50 ∧ op ≠ 45) → J3 g := by
          intro n4
          refine hJ3 g ?_
          rw [if_neg n4]
          intro J4 hJ4
          have a5 : ¬ (61 ≤ op ∧ op ≤ 66) → J4 g := by
            intro n5
            refine hJ4 g ?_
            rw [if_neg n5]
            intro J5 hJ5
            have a6 : ¬ (71 ≤ op ∧ op ≤ 74) → J5 g := by
              intro n6
              refine hJ5 g ?_
              rw [if_neg n6]
              exact ifLe (fun h1 => ifLe (fun h2 g7 _ => by rw [if_pos ⟨h1, h2⟩]) (fun h2 g8 _ => by rw [if_neg (by omega)])) (fun h1 g9 _ => by rw [if_neg (by omega)])
            exact ifLe (fun h1 => ifLe (fun h2 g7 _ => by rw [if_pos ⟨h1, h2⟩]) (fun h2 => a6 (by omega))) (fun h1 => a6 (by omega))
          exact ifLe (fun h1 => ifLe (fun h2 g7 _ => by rw [if_pos ⟨h1, h2⟩]) (fun h2 => a5 (by omega))) (fun h1 => a5 (by omega))
        exact ifLe (fun h1 => ifLe (fun h2 => ifNe (fun h3 g7 _ => by rw [if_pos ⟨h1, h2, h3⟩]) (fun h3 => a4 (by omega))) (fun h2 => a4 (by omega))) (fun h1 => a4 (by omega))
      exact ifLe (fun h1 => ifLe (fun h2 => ifNe (fun h3 g7 _ => by rw [if_pos ⟨h1, h2, h3⟩]) (fun h3 => a3 (by omega))) (fun h2 => a3 (by omega))) (fun h1 => a3 (by omega))
    exact ifLe (fun h1 => ifLe (fun h2 g7 _ => by rw [if_pos ⟨h1, h2⟩]) (fun h2 => a2 (by omega))) (fun h1 => a2 (by omega))
  exact ifLe (fun h1 => ifLe (fun h2 g7 _ => by rw [if_pos ⟨h1, h2⟩]) (fun h2 => a1 (by omega))) (fun h1 => a1 (by omega))
/-- belongs. -/
theorem k31 (cat : Int) (t : Sy) (na : Option Addr) (nn nc : Nat) (a : Option Addr) (n c : Nat) (g : G) : CallsP Tryd.prog 31 #[.int .i64 cat, synV t na nn nc a n c] g fun v _ => v = .bool (tf (belP cat t.dat.op)) := by
  refine call31 cat _ _ _ _ _ _ _ _ _ g _ ?_
  unfold F31 belP
  intro J hJ
  have key : ∀ g1, ¬ (cat = 5 ∧ (t.dat.op = 43 ∨ t.dat.op = 44)) → J g1 := by
    intro g1 hn
    refine hJ g1 (ifNe (fun h => (k13 _ g1).mono ?_) (fun h g4 _ => vF (fun hh => hh.elim hn (fun hh => hh.1 h))))
    rintro v g2 _ rfl
    refine ⟨_, rfl, fun g3 _ => ?_⟩
    rw [tf_eq]
    exact vP ⟨fun hh => .inr ⟨h, hh⟩, fun hh => hh.elim (fun hh => absurd hh hn) (fun hh => hh.2)⟩
  exact ifEq (fun h => ifEq (fun h1 g5 _ => vT (.inl ⟨h, .inl h1⟩)) (fun h1 => ifEq (fun h2 g6 _ => vT (.inl ⟨h, .inr h2⟩)) (fun h2 g7 _ => key g7 (fun hh => hh.2.elim h1 h2)))) (fun h g8 _ => key g8 (fun hh => h hh.1))
/-- belongs, of the reference. -/
theorem k33 (op cat : Int) (hc : cat ≠ 0) (g : G) : CallsP Tryd.prog 33 #[.int .i64 op, .int .i64 cat] g fun v _ => v = .bool (tf (belP cat op)) := by
  refine call33 op cat g _ ?_
  unfold F33 belP
  refine (k14 op g).mono ?_
  rintro v g1 _ rfl
  refine ⟨_, rfl, ifEq (fun h g2 _ => vT (.inr ⟨hc, h⟩)) (fun h => ifEq (fun h5 => ifEq (fun h1 g3 _ => vT (.inl ⟨h5, .inl h1⟩)) (fun h1 g4 _ => ?_)) (fun h5 g5 _ => vF (fun hh => hh.elim (fun hh => h5 hh.1) (fun hh => h hh.2))))⟩
  rw [tf_eq]
  exact vP ⟨fun hh => .inl ⟨h5, .inr hh⟩, fun hh => hh.elim (fun hh => hh.2.elim (fun e => absurd e h1) id) (fun hh => absurd hh.2 h)⟩
/-- fields. -/
theorem k41 (op : Int) (g : G) : CallsP Tryd.prog 41 #[.int .i64 op] g fun v _ => v = .agg ⟨[.bool (tf (usesN op)), .bool (tf (usesS op)), .bool (tf (usesL op))]⟩ := by
  refine call41 op g _ ?_
  unfold F41
  unfold usesN usesS usesL
  simp only [List.mem_cons, List.not_mem_nil, or_false]
  have fin : ∀ {x y z : Bool} {N S U : Prop}, (x = true ↔ (N)) → (y = true ↔ (S)) → (z = true ↔ (U)) → Value.agg ⟨[.bool x, .bool y, .bool z]⟩ = .agg ⟨[.bool (tf ((N))), .bool (tf ((S))), .bool (tf ((U)))]⟩ := by
    intro x y z N S U hx hy hz
    rw [← tf_iff hx, ← tf_iff hy, ← tf_iff hz, tf_bool, tf_bool, tf_bool]
  have no : ∀ {p : Prop}, ¬ p → (false = true ↔ p) := fun h => ⟨fun hh => (by cases hh), fun hh => absurd hh h⟩
  have ye : ∀ {p : Prop}, p → (true = true ↔ p) := fun h => ⟨fun _ => h, fun _ => rfl⟩
  intro J hJ
  refine oneOfX [13, 21, 32] (by simp) (fun g0 _ => hJ _ _ ?_)
  simp only [List.mem_cons, List.not_mem_nil, or_false]
  refine ifP (fun h g2 _ => fin (ye (by omega)) (no (by omega)) (no (by omega))) (fun h0 => ?_)
  intro J1 hJ1
  refine oneOf [1, 12, 22, 25, 41, 45, 46, 47, 50, 61, 63, 64] (hJ1 _ _ ?_)
  simp only [List.mem_cons, List.not_mem_nil, or_false]
  refine ifP (fun h g2 _ => fin (no (by omega)) (ye (by omega)) (no (by omega))) (fun h1 => ?_)
  intro J2 hJ2
  refine oneOf [2, 5, 14, 23, 24, 34, 48, 49, 66, 72, 74, 82] (hJ2 _ _ ?_)
  simp only [List.mem_cons, List.not_mem_nil, or_false]
  refine ifP (fun h g2 _ => fin (no (by omega)) (no (by omega)) (ye (by omega))) (fun h2 => ?_)
  intro J3 hJ3
  refine oneOf [42, 43, 44, 62] (hJ3 _ _ ?_)
  simp only [List.mem_cons, List.not_mem_nil, or_false]
  refine ifP (fun h g2 _ => fin (no (by omega)) (ye (by omega)) (ye (by omega))) (fun h3 => ?_)
  exact ifEq (fun h g2 _ => fin (ye (by omega)) (ye (by omega)) (no (by omega))) (fun h4 => ifEq (fun h g2 _ => fin (ye (by omega)) (ye (by omega)) (no (by omega))) (fun h5 g2 _ => fin (no (by omega)) (no (by omega)) (no (by omega))))
/-- slices.ContainsFunc, of strings. -/
theorem k54 (f : FuncId) (c0 : Array Value) (p : List UInt8 → Prop) (L : List (List UInt8)) {a : Option Addr} {n c : Nat} {g : G} (h : SlE strE g a n c L) (hn : n ≤ 1048576) (he : Go.Vc.Enters Tryd.prog f)
    (hf : ∀ g', Le g g' → ∀ s ∈ L, CallsP Tryd.prog f (#[.string (bstr s)] ++ c0) g' fun v _ => v = .bool (tf (p s))) : CallsP Tryd.prog 54 #[.slice a n c, .func (.func f) #[] c0] g fun v _ => ∃ i : Int, v = .int .i64 i ∧ (0 ≤ i ↔ ∃ s ∈ L, p s) := by
  refine call54 a n c f c0 g _ ?_
  have hl := h.len
  unfold F54
  refine ⟨fun m i g' => ∃ j : Nat, i = ((j : Nat) : Int) ∧ j + m = n ∧ ∀ x ∈ L.take j, ¬ p x, ⟨n, 0, rfl, by omega, by simp⟩, ?_⟩
  rintro m i g1 le ⟨j, rfl, hj, hall⟩
  refine ifLt (fun hlt => ⟨⟨by omega, by omega⟩, ?_⟩) (fun hge g4 _ => ⟨_, rfl, ?_⟩)
  · have gj := List.getElem?_eq_getElem (show j < L.length by omega)
    refine rdS (h.mono le) j rfl gj ⟨he, (hf g1 le _ (List.mem_of_getElem? gj)).mono ?_⟩
    rintro v g2 _ rfl
    refine ⟨_, rfl, ifP (fun hp g3 _ => ⟨_, rfl, fun _ => ⟨_, List.mem_of_getElem? gj, hp⟩, fun _ => by omega⟩) (fun hp => ⟨i64 (by omega) (by omega), m - 1, by omega, j + 1, by omega, by omega, (all_take gj _).2 ⟨hall, hp⟩⟩)⟩
  · rw [take_all (by omega)] at hall
    exact ⟨fun hh => by omega, fun ⟨s, hs, hp⟩ => absurd hp (hall s hs)⟩
theorem k35 (f : FuncId) (c0 : Array Value) (p : List UInt8 → Prop) (L : List (List UInt8)) {a : Option Addr} {n c : Nat} {g : G} (h : SlE strE g a n c L) (hn : n ≤ 1048576) (he : Go.Vc.Enters Tryd.prog f)
    (hf : ∀ g', Le g g' → ∀ s ∈ L, CallsP Tryd.prog f (#[.string (bstr s)] ++ c0) g' fun v _ => v = .bool (tf (p s))) : CallsP Tryd.prog 35 #[.slice a n c, .func (.func f) #[] c0] g fun v _ => v = .bool (tf (∃ s ∈ L, p s)) := by
  refine call35 a n c f c0 g _ ?_
  unfold F35
  refine (k54 f c0 p L h hn he hf).mono ?_
  rintro v g1 _ ⟨i, rfl, hi⟩
  refine ⟨_, rfl, fun g2 _ => ?_⟩
  rw [tf_le]
  exact vP hi
theorem k70 (s : List UInt8) (g : G) : CallsP Tryd.prog 70 #[.string (bstr s)] g fun v _ => v = .bool (tf (¬ upperP s)) := by
  refine call70 _ g _ ?_
  unfold F70
  refine (k62 s g).mono ?_
  rintro v g1 _ rfl
  exact ⟨_, rfl, fun g2 _ => by rw [tf_not]⟩
theorem k60 (s : List UInt8) (g : G) (ht : TabG g) : CallsP Tryd.prog 60 #[.string (bstr s)] g fun v _ => v = .bool (tf (¬ lowerP s)) := by
  refine call60 _ g _ ?_
  unfold F60
  refine (k58 s g ht).mono ?_
  rintro v g1 _ rfl
  exact ⟨_, rfl, fun g2 _ => by rw [tf_not]⟩
/-- path. -/
theorem k57 (L : List (List UInt8)) (low : Bool) {a : Option Addr} {n c : Nat} {g : G} (ht : TabG g) (h : SlE strE g a n c L) : CallsP Tryd.prog 57 #[.slice a n c, .bool low] g fun v _ => v = .bool (tf (pathP L low)) := by
  refine call57 a n c low g _ ?_
  have hl := h.len
  have hc := h.le
  unfold F57 pathP
  intro J hJ
  refine ifLt (fun h1 g8 _ => vF (by omega)) (fun h1 => ifLt (fun h2 g9 _ => vF (by omega)) (fun h2 => hJ g ?_))
  have e1 : Int.toNat (((n : Nat) : Int) - 1) = n - 1 := by omega
  rw [e1]
  have e2 : L.length - 1 = n - 1 := by omega
  rw [e2]
  have gl : L[n - 1]? = some (L.getD (n - 1) []) := by rw [List.getD_eq_getElem?_getD, List.getElem?_eq_getElem (by omega)]; rfl
  refine ⟨i64 (by omega) (by omega), ⟨by omega, by omega⟩, (k35 70 #[] (fun s => ¬ upperP s) (L.take (n - 1)) (h.take (by omega)) (by omega) ⟨_, Tryd.func70, by kernel_rfl, by kernel_rfl⟩ (fun g' _ s _ => k70 s g')).mono ?_⟩
  rintro v g2 m2 rfl
  refine ⟨_, rfl, ifP (fun hb g3 _ => vF (fun hh => ?_)) (fun hb => ?_)⟩
  · obtain ⟨s, hs, hn⟩ := hb
    exact hn (hh.2.2.1 s hs)
  have hall : ∀ s ∈ L.take (n - 1), upperP s := fun s hs => Classical.byContradiction fun hn => hb ⟨s, hs, hn⟩
  cases low with
  | true =>
    refine ifT (fun _ => ⟨⟨by omega, by omega⟩, ?_⟩) (fun hh => by cases hh)
    rw [← e1]
    refine rdS (h.exm m2) (n - 1) (by omega) gl ((k58 _ g2 (ht.exm m2)).mono ?_)
    rintro v g4 _ rfl
    exact ⟨_, rfl, fun g5 _ => vP ⟨fun hh => ⟨by omega, by omega, by rw [e1]; exact hall, by rw [e1]; exact hh⟩, fun hh => by have := hh.2.2.2; rw [e1] at this; exact this⟩⟩
  | false =>
    refine ifT (fun hh => by cases hh) (fun _ => ⟨⟨by omega, by omega⟩, ?_⟩)
    rw [← e1]
    refine rdS (h.exm m2) (n - 1) (by omega) gl ((k62 _ g2).mono ?_)
    rintro v g4 _ rfl
    exact ⟨_, rfl, fun g5 _ => vP ⟨fun hh => ⟨by omega, by omega, by rw [e1]; exact hall, by rw [e1]; exact hh⟩, fun hh => by have := hh.2.2.2; rw [e1] at this; exact this⟩⟩
/-- plain. -/
theorem k59 (s : List UInt8) (g : G) (hs : s.length ≤ 1048576) : CallsP Tryd.prog 59 #[.string (bstr s)] g fun v _ => v = .bool (tf (plainP s)) := by
  refine call59 _ g _ ?_
  unfold F59 plainP
  refine ⟨fun m i g' => ∃ j : Nat, i = ((j : Nat) : Int) ∧ j + m = s.length ∧ ∀ c ∈ s.take j, c.toNat = 10 ∨ (32 ≤ c.toNat ∧ c.toNat ≤ 126), ⟨s.length, 0, rfl, by omega, by simp⟩, ?_⟩
  rintro m i g1 le ⟨j, rfl, hj, hall⟩
  rw [size_i]
  refine ifLt (fun hlt => ?_) (fun hge g4 _ => ?_)
  · have hat := bstr_at (s := s) (i := j) (by omega)
    have gj := getD0 (s := s) (i := j) (by omega)
    generalize s.getD j 0 = b at hat gj
    have hin := List.mem_of_getElem? gj
    refine ⟨b, ⟨by omega, hat⟩, ifNe (fun h1 => ⟨b, ⟨by omega, hat⟩, ifLt (fun h2 g2 _ => vF (fun hh => by have := hh.1 b hin; omega)) (fun h2 => ⟨b, ⟨by omega, hat⟩, ifLt (fun h3 g3 _ => vF (fun hh => by have := hh.1 b hin; omega)) (fun h3 => ?_)⟩)⟩) (fun h1 => ?_)⟩
    · exact ⟨i64 (by omega) (by omega), m - 1, by omega, j + 1, by omega, by omega, (all_take gj _).2 ⟨hall, by omega⟩⟩
    · exact ⟨i64 (by omega) (by omega), m - 1, by omega, j + 1, by omega, by omega, (all_take gj _).2 ⟨hall, by omega⟩⟩
  · rw [take_all (by omega)] at hall
    rw [tf_le]
    exact vP ⟨fun hh => ⟨hall, by omega⟩, fun hh => by omega⟩
theorem nodup_take {α : Type} {L : List α} {j : Nat} {x : α} (h : L[j]? = some x) : (L.take (j + 1)).Nodup ↔ (L.take j).Nodup ∧ x ∉ L.take j := by
  rw [List.take_add_one, h]
  simp only [Option.toList_some, List.nodup_append]
  constructor
  · rintro ⟨h1, _, h3⟩
    exact ⟨h1, fun hx => h3 x hx x (by simp) rfl⟩
  · rintro ⟨h1, h2⟩
    exact ⟨h1, by simp, fun y hy z hz e => by
      have : z = x := by simpa using hz
      subst this; subst e
      exact h2 hy⟩
/-- params. -/
theorem k61 (L : List (List UInt8)) {a : Option Addr} {n c : Nat} {g : G} (h : SlE strE g a n c L) (hn : n ≤ 1048576) : CallsP Tryd.prog 61 #[.slice a n c] g fun v _ => v = .bool (tf (paramsP L)) := by
  refine call61 a n c g _ ?_
  have hl := h.len
  have hc := h.le
  unfold F61 paramsP
  refine ⟨fun m i g' => ∃ j : Nat, i = ((j : Nat) : Int) ∧ j + m = n ∧ (∀ x ∈ L.take j, tvarP x) ∧ (L.take j).Nodup, ⟨n, 0, rfl, by omega, by simp, by simp⟩, ?_⟩
  rintro m i g1 le ⟨j, rfl, hj, hall, hnd⟩
  refine ifLt (fun hlt => ⟨⟨by omega, by omega⟩, ?_⟩) (fun hge g4 _ => ?_)
  · have gj := List.getElem?_eq_getElem (show j < L.length by omega)
    have hin := List.mem_of_getElem? gj
    generalize L[j] = x at gj hin
    refine rdS (h.mono le) j rfl gj ((k56 x g1).mono ?_)
    rintro v g2 m2 rfl
    refine ⟨_, rfl, ifPn (fun hv g3 _ => vF (fun hh => hv (hh.1 _ hin))) (fun hv => ⟨⟨by omega, by omega⟩, ?_⟩)⟩
    rw [Int.toNat_natCast]
    refine (k72 (L.take j) x (((h.mono le).exm m2).take (by omega)) (by omega)).mono ?_
    rintro v g4 _ rfl
    refine ⟨_, rfl, ifP (fun hm g5 _ => vF (fun hh => ?_)) (fun hm => ⟨i64 (by omega) (by omega), m - 1, by omega, j + 1, by omega, by omega, (all_take gj _).2 ⟨hall, hv⟩, (nodup_take gj).2 ⟨hnd, hm⟩⟩)⟩
    have hsub : (L.take (j + 1)).Nodup := hh.2.1.sublist (List.take_sublist _ _)
    exact ((nodup_take gj).1 hsub).2 hm
  · rw [take_all (by omega)] at hall hnd
    rw [tf_le]
    exact vP ⟨fun hh => ⟨hall, hnd, by omega⟩, fun hh => by omega⟩
end Go.Proofs.YtmakoecgogjemaaDoor
