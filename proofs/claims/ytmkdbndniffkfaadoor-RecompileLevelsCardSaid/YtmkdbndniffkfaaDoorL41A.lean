/- Joined texts. -/
import Derived.Test.YtmkdbndniffkfaaDoorSid
import Derived.Test.YtmkdbndniffkfaaDoorFnL41
import Derived.Test.YtmkdbndniffkfaaDoorShelfL
import Derived.Lib.LaidTab
import Derived.Test.YtmkdbndniffkfaaDoorSsyn
/- Names: the tests of bytes and words. -/
set_option linter.unusedVariables false
namespace Go.Proofs.YtmkdbndniffkfaaDoor
open Go Go.Vc Go.RowKit Go.Syn

theorem getD0 {s : List UInt8} {i : Nat} (h : i < s.length) : s[i]? = some (s.getD i 0) := by
  rw [List.getD_eq_getElem?_getD, List.getElem?_eq_getElem h]; rfl
theorem bstr_at {s : List UInt8} {i : Nat} (h : i < s.length) : (bstr s)[i]? = some (s.getD i 0) := by rw [bstr_get]; exact getD0 h
theorem size_i (s : List UInt8) : (((bstr s).size : Nat) : Int) = ((s.length : Nat) : Int) := by rw [bstr_size]
/-- slices.Contains, of strings. -/
theorem kk45 (L : List (List UInt8)) (s : List UInt8) {a : Option Addr} {n c : Nat} {g : G} (h : SlE strE g a n c L) (hn : n ≤ 1048576) : CallsP Tryd.prog 24 #[.slice a n c, .string (bstr s)] g fun v _ => ∃ i : Int, v = .int .i64 i ∧ (0 ≤ i ↔ s ∈ L) := by
  refine call24 a n c _ g _ ?_
  have hl := h.len
  unfold F24
  refine ⟨fun m i g' => ∃ j : Nat, i = ((j : Nat) : Int) ∧ j + m = n ∧ ∀ x ∈ L.take j, x ≠ s, ⟨n, 0, rfl, by omega, by simp⟩, ?_⟩
  rintro m i g1 le ⟨j, rfl, hj, hall⟩
  refine ifLt (fun hlt => ⟨⟨by omega, by omega⟩, ?_⟩) (fun hge g3 _ => ⟨_, rfl, ?_⟩)
  · have gj := List.getElem?_eq_getElem (show j < L.length by omega)
    refine rdS (h.mono le) j rfl gj (ifS (fun e g2 _ => ⟨_, rfl, ?_⟩) (fun e => ⟨i64 (by omega) (by omega), m - 1, by omega, j + 1, by omega, by omega, (all_take gj _).2 ⟨hall, fun hh => e (by rw [hh])⟩⟩))
    have := bstr_inj.1 e
    exact ⟨fun _ => this ▸ List.mem_of_getElem? gj, fun _ => by omega⟩
  · rw [take_all (by omega)] at hall
    exact ⟨fun hh => by omega, fun hh => absurd rfl (hall s hh)⟩
theorem kk19 (L : List (List UInt8)) (s : List UInt8) {a : Option Addr} {n c : Nat} {g : G} (h : SlE strE g a n c L) (hn : n ≤ 1048576) : CallsP Tryd.prog 10 #[.slice a n c, .string (bstr s)] g fun v _ => v = .bool (tf (s ∈ L)) := by
  refine call10 a n c _ g _ ?_
  unfold F10
  refine (kk45 L s h hn).mono ?_
  rintro v g1 _ ⟨i, rfl, hi⟩
  refine ⟨_, rfl, fun g2 _ => ?_⟩
  rw [tf_le]
  exact vP hi
/-- slices.Contains, of numbers. -/
theorem kk183 (L : List Int) (x : Int) {a : Option Addr} {n c : Nat} {g : G} (h : SlE intE' g a n c L) (hn : n ≤ 1048576) : CallsP Tryd.prog 92 #[.slice a n c, .int .i64 x] g fun v _ => ∃ i : Int, v = .int .i64 i ∧ (0 ≤ i ↔ x ∈ L) := by
  refine call92 a n c _ g _ ?_
  have hl := h.len
  unfold F92
  refine ⟨fun m i g' => ∃ j : Nat, i = ((j : Nat) : Int) ∧ j + m = n ∧ ∀ y ∈ L.take j, y ≠ x, ⟨n, 0, rfl, by omega, by simp⟩, ?_⟩
  rintro m i g1 le ⟨j, rfl, hj, hall⟩
  refine ifLt (fun hlt => ⟨⟨by omega, by omega⟩, ?_⟩) (fun hge g3 _ => ⟨_, rfl, ?_⟩)
  · have gj := List.getElem?_eq_getElem (show j < L.length by omega)
    refine rdN (h.mono le) j rfl gj (ifEq (fun e g2 _ => ⟨_, rfl, ?_⟩) (fun e => ⟨i64 (by omega) (by omega), m - 1, by omega, j + 1, by omega, by omega, (all_take gj _).2 ⟨hall, fun hh => e hh.symm⟩⟩))
    exact ⟨fun _ => e ▸ List.mem_of_getElem? gj, fun _ => by omega⟩
  · rw [take_all (by omega)] at hall
    exact ⟨fun hh => by omega, fun hh => absurd rfl (hall x hh)⟩
theorem kk168 (L : List Int) (x : Int) {a : Option Addr} {n c : Nat} {g : G} (h : SlE intE' g a n c L) (hn : n ≤ 1048576) : CallsP Tryd.prog 88 #[.slice a n c, .int .i64 x] g fun v _ => v = .bool (tf (x ∈ L)) := by
  refine call88 a n c _ g _ ?_
  unfold F88
  refine (kk183 L x h hn).mono ?_
  rintro v g1 _ ⟨i, rfl, hi⟩
  refine ⟨_, rfl, fun g2 _ => ?_⟩
  rw [tf_le]
  exact vP hi
end Go.Proofs.YtmkdbndniffkfaaDoor
/- Names: the program's tests. -/
set_option linter.unusedVariables false
namespace Go.Proofs.YtmkdbndniffkfaaDoor
open Go Go.Vc Go.RowKit Go.Syn

/-- The table of white space lies in its place, and nobody writes it. -/
def TabG (g : G) : Prop := ∃ n, Tryd.prog.globalNamed "strings.asciiSpace" = some n ∧ LiveO g n (Lib.asciiSpaceTab.map fun z => Value.int .u8 z).toArray
theorem TabG.mono {g g' : G} (h : TabG g) (m : Le g g') : TabG g' := by obtain ⟨n, h1, h2⟩ := h; exact ⟨n, h1, h2.mono m⟩
theorem TabG.exm {g g' : G} (h : TabG g) (m : Ex g g') : TabG g' := h.mono m.le
theorem TabG.is {g : G} (h : TabG g) : Lib.TabIs Tryd.prog g.w "strings.asciiSpace" .u8 Lib.asciiSpaceTab := by
  obtain ⟨n, h1, e, fr, h2, _⟩ := h
  unfold Lib.TabIs World.var?
  rw [h1]
  simp only [Option.bind_some, h2]
def wordsText : List UInt8 := [97, 110, 100, 97, 108, 115, 111, 32, 99, 97, 115, 101, 32, 100, 97, 116, 97, 32, 100, 105, 118, 32, 101, 108, 115, 101, 32, 101, 110, 100, 32, 102, 110, 32, 102, 117, 110, 32, 102, 117, 110, 99, 116, 111, 114, 32, 103, 101, 110, 101, 114, 97, 116, 105, 118, 101, 32, 105, 102, 32, 105, 109, 112, 111, 114, 116, 32, 105, 110, 32, 105, 110, 99, 108, 117, 100, 101, 32, 108, 101, 116, 32, 109, 111, 100, 32, 109, 111, 100, 117, 108, 101, 32, 111, 102, 32, 111, 112, 101, 110, 32, 111, 114, 101, 108, 115, 101, 32, 112, 97, 99, 107, 32, 115, 104, 97, 114, 105, 110, 103, 32, 115, 105, 103, 32, 115, 105, 103, 110, 97, 116, 117, 114, 101, 32, 115, 116, 114, 117, 99, 116, 32, 115, 116, 114, 117, 99, 116, 117, 114, 101, 32, 116, 104, 101, 110, 32, 116, 121, 112, 101, 32, 117, 110, 112, 97, 99, 107, 32, 118, 97, 108, 32, 119, 105, 116, 104]
theorem words_keys : Lib.fields wordsText = keys := by decide +kernel
theorem strs_rws (g : G) (K : List (List UInt8)) : Rws strE g (K.map fun x => Value.string (bstr x)) K := by
  refine ⟨K.map fun x => [.string (bstr x)], ?_, ?_⟩
  · induction K with
    | nil => rfl
    | cons x r ih => simp [ih]
  · induction K with
    | nil => exact .nil
    | cons x r ih => exact .cons rfl ih
theorem kk182 (g : G) (h : TabG g) : CallsP Tryd.prog 91 #[.string (bs wordsText)] g fun v g' => ∃ a n c, v = .slice a n c ∧ SlE strE g' a n c keys ∧ n ≤ 100 := by
  refine Calls.mono (Tryd.strings_Fields (bs wordsText) g.w (by decide +kernel) (fun j b hb => ?_) h.is) ?_
  · have hm := List.mem_of_getElem? hb
    have : ∀ b ∈ wordsText, b.toNat < 128 := by decide +kernel
    exact this b hm
  · rintro e w' ⟨rfl, rfl⟩
    have hf : Lib.fields (bs wordsText).data.toList = keys := words_keys
    refine ⟨_, g.push (.cells ⟨keys.map fun x => Value.string (bstr x)⟩ 9) false false, rfl, ?_, push_stp (Nat.le_refl _) _ _ _, _, _, _, rfl, ?_, ?_⟩
    · rw [hf]; rfl
    · rw [hf]
      exact (push_newL g 9 (keys.map fun x => Value.string (bstr x))).sle (strs_rws g keys) (by decide)
    · rw [hf]; decide
theorem kk165 (s : List UInt8) (g : G) (h : TabG g) : CallsP Tryd.prog 85 #[.string (bstr s)] g fun v _ => v = .bool (tf (s ∈ keys)) := by
  refine call85 _ g _ ?_
  unfold F85
  refine (kk182 g h).mono ?_
  rintro v g1 _ ⟨a, n, c, rfl, hk, hn⟩
  refine ⟨_, _, _, rfl, (kk19 keys s hk (by omega)).mono ?_⟩
  rintro v g2 _ rfl
  exact ⟨_, rfl, fun g3 _ => rfl⟩
theorem kk155 (b : UInt8) (g : G) : CallsP Tryd.prog 66 #[.int .u8 ((b.toNat : Nat) : Int)] g fun v _ => v = .int .i64 (clsN b.toNat) := by
  refine call66 _ g _ ?_
  unfold F66
  have tw : ∀ (a c : Int) (J : Bool → G → Prop) (g : G), (J (tf (a ≤ ((b.toNat : Nat) : Int) ∧ ((b.toNat : Nat) : Int) ≤ c)) g) → ifB (leI a ((b.toNat : Nat) : Int)) (J (leI ((b.toNat : Nat) : Int) c) g) (J false g) := by
    intro a c J g hJ
    refine ifLe (fun h => ?_) (fun h => ?_)
    · rw [tf_le, tf_iff (q := a ≤ ((b.toNat : Nat) : Int) ∧ ((b.toNat : Nat) : Int) ≤ c) ⟨fun hh => ⟨h, hh⟩, fun hh => hh.2⟩]; exact hJ
    · rwa [tf_no (by omega)] at hJ
  unfold clsN
  intro J hJ
  refine tw 97 122 J g (hJ _ _ ?_)
  refine ifP (fun h g2 _ => by rw [if_pos (by omega)]) (fun h => ?_)
  rw [if_neg (by omega)]
  intro J1 hJ1
  refine tw 65 90 J1 g (hJ1 _ _ ?_)
  refine ifP (fun h g2 _ => by rw [if_pos (by omega)]) (fun h => ?_)
  rw [if_neg (by omega)]
  intro J2 hJ2
  refine tw 48 57 J2 g (hJ2 _ _ ?_)
  refine ifP (fun h g2 _ => by rw [if_pos (by omega)]) (fun h => ?_)
  rw [if_neg (by omega)]
  refine ifEq (fun h g2 _ => by rw [if_pos (by omega)]) (fun h => ?_)
  rw [if_neg (by omega)]
  exact ifEq (fun h g2 _ => by rw [if_pos (by omega)]) (fun h g2 _ => by rw [if_neg (by omega)])
theorem kk136 (s : List UInt8) (k : Int) (g : G) : CallsP Tryd.prog 61 #[.string (bstr s), .int .i64 k] g fun v _ => v = .bool (tf (wordP s ∧ clsN (s.getD 0 0).toNat = k)) := by
  refine call61 _ k g _ ?_
  unfold F61
  rw [size_i, show bs [] = bstr [] from rfl, strEq_bstr]
  rw [← tf_iff (name_iff s k)]
  intro J hJ
  refine ifP (fun h g1 _ => vF (fun hh => hh.1 h)) (fun hne => ifLt (fun h g1 _ => vF (by omega)) (fun hle => ⟨s.getD 0 0, ⟨by omega, bstr_at (by have := List.length_pos_iff.2 hne; omega)⟩, (kk155 _ g).mono ?_⟩))
  rintro v g1 m1 rfl
  refine ⟨_, rfl, ifNe (fun h g2 _ => vF (fun hh => h hh.2.2.1)) (fun hk => hJ g1 ?_)⟩
  obtain ⟨a, c, w', hrun, g2, e2, s2, hb, m2⟩ := bytesG (P := Tryd.prog) (g := g1) (B := g.w.heap.size) (bstr s) Tryd.underlying9 Tryd.underlying100 Tryd.underlying5 m1.size (by rw [bstr_size]; unfold maxLen; omega)
  refine ⟨a, _, c, w', hrun, g2, e2, s2, ?_⟩
  rw [bstr_size] at hb ⊢
  have hb : SlB g2 a s.length c s := hb
  refine ⟨fun m i g' => ∃ j : Nat, i = ((j : Nat) : Int) ∧ j + m = s.length ∧ ∀ c ∈ s.take j, ¬ clsN c.toNat = 0 ∧ ¬ clsN c.toNat = 5, ⟨s.length, 0, rfl, by omega, by simp⟩, ?_⟩
  rintro m i g3 le ⟨j, rfl, hj, hall⟩
  refine ifLt (fun hlt => ⟨⟨by omega, by omega⟩, SlB.rdN (Sl.mono hb le) j rfl (by omega) ((kk155 _ g3).mono ?_)⟩) (fun hge g7 _ => vT ?_)
  · have hin : s.getD j 0 ∈ s := List.mem_of_getElem? (getD0 (by omega))
    rintro v g4 _ rfl
    refine ⟨_, rfl, ifEq (fun h g5 _ => vF (fun hh => (hh.2.2.2 _ hin).1 h)) (fun h0 => ifEq (fun h g6 _ => vF (fun hh => (hh.2.2.2 _ hin).2 h)) (fun h5 => ⟨i64 (by omega) (by omega), m - 1, by omega, j + 1, by omega, by omega, (all_take (getD0 (by omega)) _).2 ⟨hall, h0, h5⟩⟩))⟩
  · rw [take_all (by omega)] at hall
    exact ⟨hne, by omega, hk, hall⟩
theorem kk145 (s : List UInt8) (g : G) (ht : TabG g) : CallsP Tryd.prog 75 #[.string (bstr s)] g fun v _ => v = .bool (tf (lowerP s)) := by
  refine call75 _ g _ ?_
  unfold F75 lowerP
  refine (kk136 s 1 g).mono ?_
  rintro v g1 m1 rfl
  refine ⟨_, rfl, ifP (fun h => (kk165 s g1 (ht.exm m1)).mono ?_) (fun h g4 _ => vF (fun hh => h ⟨hh.1, (cls_small _).2 hh.2.1⟩))⟩
  rintro v g2 _ rfl
  refine ⟨_, rfl, fun g3 _ => ?_⟩
  rw [tf_not]
  exact vP ⟨fun hh => ⟨h.1, (cls_small _).1 h.2, hh⟩, fun hh => hh.2.2⟩
theorem kk111 (s : List UInt8) (g : G) : CallsP Tryd.prog 52 #[.string (bstr s)] g fun v _ => v = .bool (tf (upperP s)) := by
  refine call52 _ g _ ?_
  unfold F52 upperP
  refine (kk136 s 2 g).mono ?_
  rintro v g1 m1 rfl
  exact ⟨_, rfl, fun g3 _ => vP (and_congr_right fun _ => cls_cap _)⟩
theorem kk186 (s p : List UInt8) (g : G) : CallsP Tryd.prog 93 #[.string (bstr s), .string (bstr p)] g fun v _ => v = .bool (tf (p.length ≤ s.length ∧ s.take p.length = p)) := by
  refine call93 _ _ g _ ?_
  unfold F93
  rw [size_i, size_i]
  refine ifLe (fun h => ⟨⟨by omega, by omega⟩, fun g1 _ => ?_⟩) (fun h g2 _ => vF (by omega))
  rw [bstr_extract, strEq_bstr]
  refine vP ?_
  rw [Int.toNat_natCast, List.drop_zero]
  exact ⟨fun hh => ⟨by omega, hh⟩, fun hh => hh.2⟩
theorem kk181 (s p : List UInt8) (g : G) : CallsP Tryd.prog 90 #[.string (bstr s), .string (bstr p)] g fun v _ => (¬ (p.length ≤ s.length ∧ s.take p.length = p) ∧ v = .tuple ⟨[.string (bstr s), .bool false]⟩) ∨ ((p.length ≤ s.length ∧ s.take p.length = p) ∧ v = .tuple ⟨[.string (bstr (s.drop p.length)), .bool true]⟩) := by
  refine call90 _ _ g _ ?_
  unfold F90
  refine (kk186 s p g).mono ?_
  rintro v g1 _ rfl
  refine ⟨_, rfl, ifPn (fun h g2 _ => .inl ⟨h, rfl⟩) (fun h => ?_)⟩
  rw [size_i, size_i]
  refine ⟨⟨by omega, by have := h.1; omega⟩, fun g3 _ => .inr ⟨h, ?_⟩⟩
  rw [bstr_extract, bstr_size, List.take_length, Int.toNat_natCast]
theorem kk163 (s p : List UInt8) (g : G) : CallsP Tryd.prog 83 #[.string (bstr s), .string (bstr p)] g fun v _ => (¬ (p.length ≤ s.length ∧ s.take p.length = p) ∧ v = .tuple ⟨[.string (bstr s), .bool false]⟩) ∨ ((p.length ≤ s.length ∧ s.take p.length = p) ∧ v = .tuple ⟨[.string (bstr (s.drop p.length)), .bool true]⟩) := by
  refine call83 _ _ g _ ?_
  unfold F83
  refine (kk181 s p g).mono ?_
  rintro v g1 _ (⟨h, rfl⟩ | ⟨h, rfl⟩)
  · exact ⟨_, _, rfl, fun g2 _ => .inl ⟨h, rfl⟩⟩
  · exact ⟨_, _, rfl, fun g2 _ => .inr ⟨h, rfl⟩⟩
theorem kk143 (s : List UInt8) (g : G) : CallsP Tryd.prog 73 #[.string (bstr s)] g fun v _ => v = .bool (tf (tvarP s)) := by
  refine call73 _ g _ ?_
  unfold F73
  rw [size_i, tf_iff (tvar_iff s)]
  refine (kk163 s [39] g).mono ?_
  rintro v g1 _ (⟨h, rfl⟩ | ⟨h, rfl⟩)
  · exact ⟨_, _, rfl, ifT (fun hh => by cases hh) (fun _ g5 _ => vF (fun hh => h hh.1))⟩
  · refine ⟨_, _, rfl, ifT (fun _ => ifLe (fun hl => (kk136 (s.drop 1) 1 g1).mono ?_) (fun hl g4 _ => vF (by omega))) (fun hh => by cases hh)⟩
    rintro v g2 _ rfl
    exact ⟨_, rfl, fun g3 _ => vP ⟨fun hh => ⟨h, by omega, hh⟩, fun hh => hh.2.2⟩⟩
end Go.Proofs.YtmkdbndniffkfaaDoor
/- Syntax trees: categories, fields, paths, parameters, texts. -/
set_option linter.unusedVariables false
namespace Go.Proofs.YtmkdbndniffkfaaDoor
open Go Go.Vc Go.RowKit Go.Syn

/-- Category. -/
theorem kk60 (op : Int) (g : G) : CallsP Tryd.prog 67 #[.int .i64 op] g fun v _ => v = .int .i64 (catN op) := by
  refine call67 op g _ ?_
  unfold F67 catN
  intro J hJ
  refine oneOf [1, 2, 3, 4, 5] (hJ _ _ ?_)
  refine ifP (fun h g2 _ => by rw [if_pos h]) (fun h => ?_)
  rw [if_neg h]
  intro J1 hJ1
  refine oneOf [11, 12, 13, 14, 15] (hJ1 _ _ ?_)
  refine ifP (fun h g2 _ => by rw [if_pos h]) (fun h => ?_)
  rw [if_neg h]
  intro J2 hJ2
  refine oneOf [21, 22, 23, 24, 25, 26, 27, 28, 29, 31, 32, 33, 34] (hJ2 _ _ ?_)
  refine ifP (fun h g2 _ => by rw [if_pos h]) (fun h => ?_)
  rw [if_neg h]
  intro J3 hJ3
  refine oneOf [41, 42, 43, 44, 46, 47, 48, 49, 50] (hJ3 _ _ ?_)
  refine ifP (fun h g2 _ => by rw [if_pos h]) (fun h => ?_)
  rw [if_neg h]
  intro J4 hJ4
  refine oneOf [61, 62, 63, 64, 65, 66] (hJ4 _ _ ?_)
  refine ifP (fun h g2 _ => by rw [if_pos h]) (fun h => ?_)
  rw [if_neg h]
  intro J5 hJ5
  refine oneOf [71, 72, 73, 74] (hJ5 _ _ ?_)
  refine ifP (fun h g2 _ => by rw [if_pos h]) (fun h => ?_)
  rw [if_neg h]
  intro J6 hJ6
  refine oneOf [81, 82, 83, 84, 85, 86, 87, 88] (hJ6 _ _ ?_)
  exact ifP (fun h g2 _ => by rw [if_pos h]) (fun h g2 _ => by rw [if_neg h])
/-- belongs. -/
theorem kk95 (cat : Int) (t : Sy) (na : Option Addr) (nn nc : Nat) (a : Option Addr) (n c : Nat) (g : G) : CallsP Tryd.prog 62 #[.int .i64 cat, synV t na nn nc a n c] g fun v _ => v = .bool (tf (belP cat t.dat.op)) := by
  refine call62 cat _ _ _ _ _ _ _ _ _ g _ ?_
  unfold F62 belP
  intro J hJ
  have key : ∀ g1, ¬ (cat = 5 ∧ (t.dat.op = 43 ∨ t.dat.op = 44)) → J g1 := by
    intro g1 hn
    refine hJ g1 (ifNe (fun h => (kk60 _ g1).mono ?_) (fun h g4 _ => vF (fun hh => hh.elim hn (fun hh => hh.1 h))))
    rintro v g2 _ rfl
    refine ⟨_, rfl, fun g3 _ => ?_⟩
    rw [tf_eq]
    exact vP ⟨fun hh => .inr ⟨h, hh⟩, fun hh => hh.elim (fun hh => absurd hh hn) (fun hh => hh.2)⟩
  exact ifEq (fun h => ifEq (fun h1 g5 _ => vT (.inl ⟨h, .inl h1⟩)) (fun h1 => ifEq (fun h2 g6 _ => vT (.inl ⟨h, .inr h2⟩)) (fun h2 g7 _ => key g7 (fun hh => hh.2.elim h1 h2)))) (fun h g8 _ => key g8 (fun hh => h hh.1))
/-- fields. -/
theorem kk142 (op : Int) (g : G) : CallsP Tryd.prog 72 #[.int .i64 op] g fun v _ => v = .agg ⟨[.bool (tf (usesN op)), .bool (tf (usesS op)), .bool (tf (usesL op))]⟩ := by
  refine call72 op g _ ?_
  unfold F72
  unfold usesN usesS usesL
  simp only [List.mem_cons, List.not_mem_nil, or_false]
  have fin : ∀ {x y z : Bool} {N S U : Prop}, (x = true ↔ (N)) → (y = true ↔ (S)) → (z = true ↔ (U)) → Value.agg ⟨[.bool x, .bool y, .bool z]⟩ = .agg ⟨[.bool (tf ((N))), .bool (tf ((S))), .bool (tf ((U)))]⟩ := by
    intro x y z N S U hx hy hz
    rw [← tf_iff hx, ← tf_iff hy, ← tf_iff hz, tf_bool, tf_bool, tf_bool]
  have no : ∀ {p : Prop}, ¬ p → (false = true ↔ p) := fun h => ⟨fun hh => (by cases hh), fun hh => absurd hh h⟩
  have ye : ∀ {p : Prop}, p → (true = true ↔ p) := fun h => ⟨fun _ => h, fun _ => rfl⟩
  intro J hJ
  refine oneOfX [13, 21, 32] (by simp) (fun g0 _ => hJ _ _ ?_)
  simp only [List.mem_cons, List.not_mem_nil, or_false]
  refine ifP (fun h g2 _ => fin (ye (by omega)) (no (by omega)) (no (by omega))) (fun h0 => ?_)
  intro J1 hJ1
  refine oneOf [1, 12, 22, 25, 41, 45, 46, 47, 50, 61, 63, 64] (hJ1 _ _ ?_)
  simp only [List.mem_cons, List.not_mem_nil, or_false]
  refine ifP (fun h g2 _ => fin (no (by omega)) (ye (by omega)) (no (by omega))) (fun h1 => ?_)
  intro J2 hJ2
  refine oneOf [2, 5, 14, 23, 24, 34, 48, 49, 66, 72, 74, 82] (hJ2 _ _ ?_)
  simp only [List.mem_cons, List.not_mem_nil, or_false]
  refine ifP (fun h g2 _ => fin (no (by omega)) (no (by omega)) (ye (by omega))) (fun h2 => ?_)
  intro J3 hJ3
  refine oneOf [42, 43, 44, 62] (hJ3 _ _ ?_)
  simp only [List.mem_cons, List.not_mem_nil, or_false]
  refine ifP (fun h g2 _ => fin (no (by omega)) (ye (by omega)) (ye (by omega))) (fun h3 => ?_)
  exact ifEq (fun h g2 _ => fin (ye (by omega)) (ye (by omega)) (no (by omega))) (fun h4 => ifEq (fun h g2 _ => fin (ye (by omega)) (ye (by omega)) (no (by omega))) (fun h5 g2 _ => fin (no (by omega)) (no (by omega)) (no (by omega))))
/-- slices.ContainsFunc, of strings. -/
theorem kk63 (f : FuncId) (c0 : Array Value) (p : List UInt8 → Prop) (L : List (List UInt8)) {a : Option Addr} {n c : Nat} {g : G} (h : SlE strE g a n c L) (hn : n ≤ 1048576) (he : Go.Vc.Enters Tryd.prog f)
    (hf : ∀ g', Le g g' → ∀ s ∈ L, CallsP Tryd.prog f (#[.string (bstr s)] ++ c0) g' fun v _ => v = .bool (tf (p s))) : CallsP Tryd.prog 25 #[.slice a n c, .func (.func f) #[] c0] g fun v _ => ∃ i : Int, v = .int .i64 i ∧ (0 ≤ i ↔ ∃ s ∈ L, p s) := by
  refine call25 a n c f c0 g _ ?_
  have hl := h.len
  unfold F25
  refine ⟨fun m i g' => ∃ j : Nat, i = ((j : Nat) : Int) ∧ j + m = n ∧ ∀ x ∈ L.take j, ¬ p x, ⟨n, 0, rfl, by omega, by simp⟩, ?_⟩
  rintro m i g1 le ⟨j, rfl, hj, hall⟩
  refine ifLt (fun hlt => ⟨⟨by omega, by omega⟩, ?_⟩) (fun hge g4 _ => ⟨_, rfl, ?_⟩)
  · have gj := List.getElem?_eq_getElem (show j < L.length by omega)
    refine rdS (h.mono le) j rfl gj ⟨he, (hf g1 le _ (List.mem_of_getElem? gj)).mono ?_⟩
    rintro v g2 _ rfl
    refine ⟨_, rfl, ifP (fun hp g3 _ => ⟨_, rfl, fun _ => ⟨_, List.mem_of_getElem? gj, hp⟩, fun _ => by omega⟩) (fun hp => ⟨i64 (by omega) (by omega), m - 1, by omega, j + 1, by omega, by omega, (all_take gj _).2 ⟨hall, hp⟩⟩)⟩
  · rw [take_all (by omega)] at hall
    exact ⟨fun hh => by omega, fun ⟨s, hs, hp⟩ => absurd hp (hall s hs)⟩
theorem kk33 (f : FuncId) (c0 : Array Value) (p : List UInt8 → Prop) (L : List (List UInt8)) {a : Option Addr} {n c : Nat} {g : G} (h : SlE strE g a n c L) (hn : n ≤ 1048576) (he : Go.Vc.Enters Tryd.prog f)
    (hf : ∀ g', Le g g' → ∀ s ∈ L, CallsP Tryd.prog f (#[.string (bstr s)] ++ c0) g' fun v _ => v = .bool (tf (p s))) : CallsP Tryd.prog 11 #[.slice a n c, .func (.func f) #[] c0] g fun v _ => v = .bool (tf (∃ s ∈ L, p s)) := by
  refine call11 a n c f c0 g _ ?_
  unfold F11
  refine (kk63 f c0 p L h hn he hf).mono ?_
  rintro v g1 _ ⟨i, rfl, hi⟩
  refine ⟨_, rfl, fun g2 _ => ?_⟩
  rw [tf_le]
  exact vP hi
theorem kk164 (s : List UInt8) (g : G) : CallsP Tryd.prog 84 #[.string (bstr s)] g fun v _ => v = .bool (tf (¬ upperP s)) := by
  refine call84 _ g _ ?_
  unfold F84
  refine (kk111 s g).mono ?_
  rintro v g1 _ rfl
  exact ⟨_, rfl, fun g2 _ => by rw [tf_not]⟩
theorem kk147 (s : List UInt8) (g : G) (ht : TabG g) : CallsP Tryd.prog 77 #[.string (bstr s)] g fun v _ => v = .bool (tf (¬ lowerP s)) := by
  refine call77 _ g _ ?_
  unfold F77
  refine (kk145 s g ht).mono ?_
  rintro v g1 _ rfl
  exact ⟨_, rfl, fun g2 _ => by rw [tf_not]⟩
/-- path. -/
theorem kk144 (L : List (List UInt8)) (low : Bool) {a : Option Addr} {n c : Nat} {g : G} (ht : TabG g) (h : SlE strE g a n c L) : CallsP Tryd.prog 74 #[.slice a n c, .bool low] g fun v _ => v = .bool (tf (pathP L low)) := by
  refine call74 a n c low g _ ?_
  have hl := h.len
  have hc := h.le
  unfold F74 pathP
  intro J hJ
  refine ifLt (fun h1 g8 _ => vF (by omega)) (fun h1 => ifLt (fun h2 g9 _ => vF (by omega)) (fun h2 => hJ g ?_))
  have e1 : Int.toNat (((n : Nat) : Int) - 1) = n - 1 := by omega
  rw [e1]
  have e2 : L.length - 1 = n - 1 := by omega
  rw [e2]
  have gl : L[n - 1]? = some (L.getD (n - 1) []) := by rw [List.getD_eq_getElem?_getD, List.getElem?_eq_getElem (by omega)]; rfl
  refine ⟨i64 (by omega) (by omega), ⟨by omega, by omega⟩, (kk33 84 #[] (fun s => ¬ upperP s) (L.take (n - 1)) (h.take (by omega)) (by omega) ⟨_, Tryd.func84, by kernel_rfl, by kernel_rfl⟩ (fun g' _ s _ => kk164 s g')).mono ?_⟩
  rintro v g2 m2 rfl
  refine ⟨_, rfl, ifP (fun hb g3 _ => vF (fun hh => ?_)) (fun hb => ?_)⟩
  · obtain ⟨s, hs, hn⟩ := hb
    exact hn (hh.2.2.1 s hs)
  have hall : ∀ s ∈ L.take (n - 1), upperP s := fun s hs => Classical.byContradiction fun hn => hb ⟨s, hs, hn⟩
  cases low with
  | true =>
    refine ifT (fun _ => ⟨⟨by omega, by omega⟩, ?_⟩) (fun hh => by cases hh)
    rw [← e1]
    refine rdS (h.exm m2) (n - 1) (by omega) gl ((kk145 _ g2 (ht.exm m2)).mono ?_)
    rintro v g4 _ rfl
    exact ⟨_, rfl, fun g5 _ => vP ⟨fun hh => ⟨by omega, by omega, by rw [e1]; exact hall, by rw [e1]; exact hh⟩, fun hh => by have := hh.2.2.2; rw [e1] at this; exact this⟩⟩
  | false =>
    refine ifT (fun hh => by cases hh) (fun _ => ⟨⟨by omega, by omega⟩, ?_⟩)
    rw [← e1]
    refine rdS (h.exm m2) (n - 1) (by omega) gl ((kk111 _ g2).mono ?_)
    rintro v g4 _ rfl
    exact ⟨_, rfl, fun g5 _ => vP ⟨fun hh => ⟨by omega, by omega, by rw [e1]; exact hall, by rw [e1]; exact hh⟩, fun hh => by have := hh.2.2.2; rw [e1] at this; exact this⟩⟩
/-- plain. -/
theorem kk146 (s : List UInt8) (g : G) (hs : s.length ≤ 1048576) : CallsP Tryd.prog 76 #[.string (bstr s)] g fun v _ => v = .bool (tf (plainP s)) := by
  refine call76 _ g _ ?_
  unfold F76 plainP
  refine ⟨fun m i g' => ∃ j : Nat, i = ((j : Nat) : Int) ∧ j + m = s.length ∧ ∀ c ∈ s.take j, c.toNat = 10 ∨ (32 ≤ c.toNat ∧ c.toNat ≤ 126), ⟨s.length, 0, rfl, by omega, by simp⟩, ?_⟩
  rintro m i g1 le ⟨j, rfl, hj, hall⟩
  rw [size_i]
  refine ifLt (fun hlt => ?_) (fun hge g4 _ => ?_)
  · have hat := bstr_at (s := s) (i := j) (by omega)
    have gj := getD0 (s := s) (i := j) (by omega)
    generalize s.getD j 0 = b at hat gj
    have hin := List.mem_of_getElem? gj
    refine ⟨b, ⟨by omega, hat⟩, ifNe (fun h1 => ⟨b, ⟨by omega, hat⟩, ifLt (fun h2 g2 _ => vF (fun hh => by have := hh.1 b hin; omega)) (fun h2 => ⟨b, ⟨by omega, hat⟩, ifLt (fun h3 g3 _ => vF (fun hh => by have := hh.1 b hin; omega)) (fun h3 => ?_)⟩)⟩) (fun h1 => ?_)⟩
    · exact ⟨i64 (by omega) (by omega), m - 1, by omega, j + 1, by omega, by omega, (all_take gj _).2 ⟨hall, by omega⟩⟩
    · exact ⟨i64 (by omega) (by omega), m - 1, by omega, j + 1, by omega, by omega, (all_take gj _).2 ⟨hall, by omega⟩⟩
  · rw [take_all (by omega)] at hall
    rw [tf_le]
    exact vP ⟨fun hh => ⟨hall, by omega⟩, fun hh => by omega⟩
theorem nodup_take {α : Type} {L : List α} {j : Nat} {x : α} (h : L[j]? = some x) : (L.take (j + 1)).Nodup ↔ (L.take j).Nodup ∧ x ∉ L.take j := by
  rw [List.take_add_one, h]
  simp only [Option.toList_some, List.nodup_append]
  constructor
  · rintro ⟨h1, _, h3⟩
    exact ⟨h1, fun hx => h3 x hx x (by simp) rfl⟩
  · rintro ⟨h1, h2⟩
    exact ⟨h1, by simp, fun y hy z hz e => by
      have : z = x := by simpa using hz
      subst this; subst e
      exact h2 hy⟩
/-- params. -/
theorem kk148 (L : List (List UInt8)) {a : Option Addr} {n c : Nat} {g : G} (h : SlE strE g a n c L) (hn : n ≤ 1048576) : CallsP Tryd.prog 78 #[.slice a n c] g fun v _ => v = .bool (tf (paramsP L)) := by
  refine call78 a n c g _ ?_
  have hl := h.len
  have hc := h.le
  unfold F78 paramsP
  refine ⟨fun m i g' => ∃ j : Nat, i = ((j : Nat) : Int) ∧ j + m = n ∧ (∀ x ∈ L.take j, tvarP x) ∧ (L.take j).Nodup, ⟨n, 0, rfl, by omega, by simp, by simp⟩, ?_⟩
  rintro m i g1 le ⟨j, rfl, hj, hall, hnd⟩
  refine ifLt (fun hlt => ⟨⟨by omega, by omega⟩, ?_⟩) (fun hge g4 _ => ?_)
  · have gj := List.getElem?_eq_getElem (show j < L.length by omega)
    have hin := List.mem_of_getElem? gj
    generalize L[j] = x at gj hin
    refine rdS (h.mono le) j rfl gj ((kk143 x g1).mono ?_)
    rintro v g2 m2 rfl
    refine ⟨_, rfl, ifPn (fun hv g3 _ => vF (fun hh => hv (hh.1 _ hin))) (fun hv => ⟨⟨by omega, by omega⟩, ?_⟩)⟩
    rw [Int.toNat_natCast]
    refine (kk19 (L.take j) x (((h.mono le).exm m2).take (by omega)) (by omega)).mono ?_
    rintro v g4 _ rfl
    refine ⟨_, rfl, ifP (fun hm g5 _ => vF (fun hh => ?_)) (fun hm => ⟨i64 (by omega) (by omega), m - 1, by omega, j + 1, by omega, by omega, (all_take gj _).2 ⟨hall, hv⟩, (nodup_take gj).2 ⟨hnd, hm⟩⟩)⟩
    have hsub : (L.take (j + 1)).Nodup := hh.2.1.sublist (List.take_sublist _ _)
    exact ((nodup_take gj).1 hsub).2 hm
  · rw [take_all (by omega)] at hall hnd
    rw [tf_le]
    exact vP ⟨fun hh => ⟨hall, hnd, by omega⟩, fun hh => by omega⟩
end Go.Proofs.YtmkdbndniffkfaaDoor
/- Syntax trees: lists of parts. -/
set_option linter.unusedVariables false
namespace Go.Proofs.YtmkdbndniffkfaaDoor
open Go Go.Vc Go.RowKit Go.Syn

/-- What a function that is handed to ContainsFunc does at the place j. -/
def Stage (f : FuncId) (c0 : Array Value) (g : G) (M : Nat → Prop) (L : List Sy) (I : Nat → G → Prop) (Q : G → Prop) : Prop :=
  ∀ g' j t, Le g g' → g.w.heap.size ≤ g'.w.heap.size → L[j]? = some t → I j g' → ∀ na nn nc ka kn kc, SynI g' t na nn nc ka kn kc →
    ∃ M1 : Nat → Prop, (∀ b, b < g.w.heap.size → M1 b → M b) ∧ CallsG Tryd.prog f (#[synV t na nn nc ka kn kc] ++ c0) g' M1 fun v g2 => ∃ b, v = .bool b ∧ (b = true → Q g2) ∧ (b = false → I (j + 1) g2)
theorem kk92 (f : FuncId) (c0 : Array Value) (M : Nat → Prop) (I : Nat → G → Prop) (Q : G → Prop) (L : List Sy) {a : Option Addr} {n c : Nat} {g : G} (h : SlE synE g a n c L) (he : Go.Vc.Enters Tryd.prog f)
    (hI : ∀ j g1 g2, Ex g1 g2 → I j g1 → I j g2) (hQ : ∀ g1 g2, Ex g1 g2 → Q g1 → Q g2) (h0 : I 0 g) (hf : Stage f c0 g M L I Q) :
    CallsG Tryd.prog 27 #[.slice a n c, .func (.func f) #[] c0] g M fun v g' => ∃ i : Int, v = .int .i64 i ∧ ((0 ≤ i ∧ Q g') ∨ (i < 0 ∧ I L.length g')) := by
  refine call27 a n c f c0 g M _ ?_
  have hl := h.len
  have hc := h.le
  have hm := h.cap
  unfold maxLen at hm
  unfold F27
  refine ⟨fun m i g' => ∃ j : Nat, i = ((j : Nat) : Int) ∧ j + m = n ∧ I j g' ∧ g.w.heap.size ≤ g'.w.heap.size, ⟨n, 0, rfl, by omega, h0, Nat.le_refl _⟩, ?_⟩
  rintro m i g1 le ⟨j, rfl, hj, hIj, hsz⟩
  refine ifLt (fun hlt => ⟨⟨by omega, by omega⟩, ?_⟩) (fun hge g4 m4 => ⟨_, rfl, .inr ⟨by omega, ?_⟩⟩)
  · have gj := List.getElem?_eq_getElem (show j < L.length by omega)
    refine rdT (h.mono le) j rfl gj (fun na nn nc ka kn kc hs => ⟨he, ?_⟩)
    obtain ⟨M1, hM, hcall⟩ := hf g1 j _ le hsz gj hIj na nn nc ka kn kc hs
    refine ⟨M1, hM, hcall.mono ?_⟩
    rintro v g2 s2 ⟨b, rfl, hb1, hb2⟩
    refine ⟨_, rfl, ?_⟩
    cases b with
    | true => exact ifT (fun _ g3 m3 => ⟨_, rfl, .inl ⟨by omega, hQ _ _ m3 (hb1 rfl)⟩⟩) (fun hh => by cases hh)
    | false => exact ifT (fun hh => by cases hh) (fun _ => ⟨i64 (by omega) (by omega), m - 1, by omega, j + 1, by omega, by omega, hb2 rfl, Nat.le_trans hsz s2.le.size⟩)
  · have : j = L.length := by omega
    subst this
    exact hI _ _ _ m4 hIj
theorem kk55 (f : FuncId) (c0 : Array Value) (M : Nat → Prop) (I : Nat → G → Prop) (Q : G → Prop) (L : List Sy) {a : Option Addr} {n c : Nat} {g : G} (h : SlE synE g a n c L) (he : Go.Vc.Enters Tryd.prog f)
    (hI : ∀ j g1 g2, Ex g1 g2 → I j g1 → I j g2) (hQ : ∀ g1 g2, Ex g1 g2 → Q g1 → Q g2) (h0 : I 0 g) (hf : Stage f c0 g M L I Q) :
    CallsG Tryd.prog 15 #[.slice a n c, .func (.func f) #[] c0] g M fun v g' => ∃ b, v = .bool b ∧ (b = true → Q g') ∧ (b = false → I L.length g') := by
  refine call15 a n c f c0 g M _ ?_
  unfold F15
  refine ⟨M, fun _ _ h => h, (kk92 f c0 M I Q L h he hI hQ h0 hf).mono ?_⟩
  rintro v g1 _ ⟨i, rfl, hi⟩
  refine ⟨_, rfl, fun g2 m2 => ⟨_, rfl, fun hb => ?_, fun hb => ?_⟩⟩
  · rw [leI_true] at hb
    rcases hi with ⟨_, hq⟩ | ⟨hn, _⟩
    · exact hQ _ _ m2 hq
    · omega
  · rw [leI_false] at hb
    rcases hi with ⟨hn, _⟩ | ⟨_, hq⟩
    · omega
    · exact hI _ _ _ m2 hq
/-- .. of a function that turns nothing. -/
theorem kk55p (f : FuncId) (c0 : Array Value) (p : Sy → Prop) (L : List Sy) {a : Option Addr} {n c : Nat} {g : G} (h : SlE synE g a n c L) (he : Go.Vc.Enters Tryd.prog f)
    (hf : ∀ g' t, Le g g' → t ∈ L → ∀ na nn nc ka kn kc, SynI g' t na nn nc ka kn kc → CallsP Tryd.prog f (#[synV t na nn nc ka kn kc] ++ c0) g' fun v _ => v = .bool (tf (p t))) :
    CallsP Tryd.prog 15 #[.slice a n c, .func (.func f) #[] c0] g fun v _ => v = .bool (tf (∃ t ∈ L, p t)) := by
  refine (kk55 f c0 nobody (fun j _ => ∀ x ∈ L.take j, ¬ p x) (fun _ => ∃ t ∈ L, p t) L h he (fun _ _ _ _ h => h) (fun _ _ _ h => h) (by simp) ?_).mono ?_
  · intro g' j t le _ gj hall na nn nc ka kn kc hs
    refine ⟨nobody, fun _ _ h => h, (hf g' t le (List.mem_of_getElem? gj) na nn nc ka kn kc hs).mono ?_⟩
    rintro v g2 _ rfl
    refine ⟨_, rfl, fun hb => ⟨t, List.mem_of_getElem? gj, tf_true.mp hb⟩, fun hb => (all_take gj _).2 ⟨hall, tf_false.mp hb⟩⟩
  · rintro v g2 _ ⟨b, rfl, h1, h2⟩
    cases b with
    | true => exact vT (h1 rfl)
    | false =>
      have := h2 rfl
      rw [take_all (Nat.le_refl _)] at this
      exact vF (fun ⟨t, ht, hp⟩ => this t ht hp)
theorem live0 {g g' : G} {e : TypeId} {v : Value} (h : NewL g g' e [v]) : Live g' ⟨g.w.heap.size, 0, none⟩ v := h.at0 rfl
theorem kk166 (cat : Int) (t : Sy) (na : Option Addr) (nn nc : Nat) (a : Option Addr) (n c : Nat) {g : G} {ad : Addr} (h : Live g ad (.int .i64 cat)) : CallsP Tryd.prog 86 #[synV t na nn nc a n c, .pointer (some ad)] g fun v _ => v = .bool (tf (¬ belP cat t.dat.op)) := by
  refine call86 _ _ _ _ _ _ _ _ _ _ g _ ?_
  unfold F86
  intro g1 m1
  refine ⟨_, (h.mono m1.le).1, (kk95 cat t na nn nc a n c g1).mono ?_⟩
  rintro v g2 _ rfl
  exact ⟨_, rfl, fun g3 _ => by rw [tf_not]⟩
theorem kk167 (ops : List Int) (t : Sy) (na : Option Addr) (nn nc : Nat) (a : Option Addr) (n c : Nat) {g : G} {ad : Addr} {oa : Option Addr} {on oc : Nat} (h : Live g ad (.slice oa on oc)) (ho : SlE intE' g oa on oc ops) (hon : on ≤ 1048576) : CallsP Tryd.prog 87 #[synV t na nn nc a n c, .pointer (some ad)] g fun v _ => v = .bool (tf (¬ t.dat.op ∈ ops)) := by
  refine call87 _ _ _ _ _ _ _ _ _ _ g _ ?_
  unfold F87
  intro g1 m1
  refine ⟨_, _, _, (h.mono m1.le).1, (kk168 ops t.dat.op (ho.exm m1) hon).mono ?_⟩
  rintro v g2 _ rfl
  exact ⟨_, rfl, fun g3 _ => by rw [tf_not]⟩
theorem kk169 (s : List UInt8) (t : Sy) (na : Option Addr) (nn nc : Nat) (a : Option Addr) (n c : Nat) {g : G} {ad : Addr} (h : Live g (Addr.add ad 2) (.string (bstr s))) : CallsP Tryd.prog 89 #[synV t na nn nc a n c, .pointer (some ad)] g fun v _ => v = .bool (tf (s = t.dat.s)) := by
  refine call89 _ _ _ _ _ _ _ _ _ _ g _ ?_
  unfold F89
  intro g1 m1
  refine ⟨_, (h.mono m1.le).1, fun g2 _ => by rw [strEq_bstr]⟩
/-- many. -/
theorem kk149 (L : List Sy) (cat lo hi : Int) {a : Option Addr} {n c : Nat} {g : G} (h : SlE synE g a n c L) : CallsP Tryd.prog 79 #[.slice a n c, .int .i64 cat, .int .i64 lo, .int .i64 hi] g fun v _ => v = .bool (tf (manyP L cat lo hi)) := by
  refine call79 a n c cat lo hi g _ ?_
  have hl := h.len
  unfold F79 manyP
  rw [hl]
  refine fun g1 n1 => ifLe (fun h1 => ifLe (fun h2 => ⟨nobody, fun _ _ h => h, ?_⟩) (fun h2 g4 _ => vF (by omega))) (fun h1 g5 _ => vF (by omega))
  refine (kk55p 86 ⟨[.pointer (some ⟨g.w.heap.size, 0, none⟩)]⟩ (fun t => ¬ belP cat t.dat.op) L (h.exm n1.ex) ⟨_, Tryd.func86, by kernel_rfl, by kernel_rfl⟩ (fun g' t le _ na nn nc ka kn kc _ => kk166 cat t na nn nc ka kn kc ((live0 n1).mono le))).mono ?_
  rintro v g2 _ rfl
  refine ⟨_, rfl, fun g3 _ => ?_⟩
  rw [tf_not]
  exact vP ⟨fun hh => ⟨h1, h2, fun t ht => Classical.byContradiction fun hn => hh ⟨t, ht, hn⟩⟩, fun hh ⟨t, ht, hn⟩ => hn (hh.2.2 t ht)⟩
/-- only. -/
theorem kk151 (L : List Sy) (ops : List Int) {a : Option Addr} {n c : Nat} {g : G} (h : SlE synE g a n c L) {oa : Option Addr} {on oc : Nat} (ho : SlE intE' g oa on oc ops) (hon : on ≤ 1048576) : CallsP Tryd.prog 81 #[.slice a n c, .slice oa on oc] g fun v _ => v = .bool (tf (onlyP L ops)) := by
  refine call81 a n c oa on oc g _ ?_
  unfold F81 onlyP
  refine fun g1 n1 => ⟨nobody, fun _ _ h => h, ?_⟩
  refine (kk55p 87 ⟨[.pointer (some ⟨g.w.heap.size, 0, none⟩)]⟩ (fun t => ¬ t.dat.op ∈ ops) L (h.exm n1.ex) ⟨_, Tryd.func87, by kernel_rfl, by kernel_rfl⟩ (fun g' t le _ na nn nc ka kn kc _ => kk167 ops t na nn nc ka kn kc ((live0 n1).mono le) ((ho.exm n1.ex).mono le) hon)).mono ?_
  rintro v g2 _ rfl
  refine ⟨_, rfl, fun g3 _ => ?_⟩
  rw [tf_not]
  exact vP ⟨fun hh t ht => Classical.byContradiction fun hn => hh ⟨t, ht, hn⟩, fun hh ⟨t, ht, hn⟩ => hn (hh t ht)⟩
/-- parts. -/
theorem kk150 (t : Sy) (cats : List Int) {na : Option Addr} {nn nc : Nat} {a : Option Addr} {n c : Nat} {g : G} (h : SynI g t na nn nc a n c) {oa : Option Addr} {on oc : Nat} (ho : SlE intE' g oa on oc cats) (hon : on ≤ 1048576) : CallsP Tryd.prog 80 #[synV t na nn nc a n c, .slice oa on oc] g fun v _ => v = .bool (tf (partsP t.kids cats)) := by
  refine call80 _ _ _ _ _ _ _ _ _ oa on oc g _ ?_
  have hl := h.kids.len
  have hol := ho.len
  unfold F80 partsP
  refine ifNe (fun hne g1 _ => vF (by omega)) (fun heq => ?_)
  refine ⟨fun m i g' => ∃ j : Nat, i = ((j : Nat) : Int) ∧ j + m = on ∧ ∀ p ∈ (t.kids.zip cats).take j, belP p.2 p.1.dat.op, fun g2 m2 => ⟨on, 0, rfl, by omega, by simp⟩, ?_⟩
  rintro m i g3 le ⟨j, rfl, hj, hall⟩
  have hzl : (t.kids.zip cats).length = on := by rw [List.length_zip]; omega
  refine ifLt (fun hlt => ⟨⟨by omega, by omega⟩, ?_⟩) (fun hge g6 _ => vT ⟨by omega, ?_⟩)
  · have gj := List.getElem?_eq_getElem (show j < cats.length by omega)
    have gk := List.getElem?_eq_getElem (show j < t.kids.length by omega)
    have gz : (t.kids.zip cats)[j]? = some (t.kids[j], cats[j]) := by rw [List.getElem?_zip_eq_some]; exact ⟨gk, gj⟩
    generalize cats[j] = cat at gj gz
    generalize t.kids[j] = x at gk gz
    refine rdN (ho.mono le) j rfl gj ⟨⟨by omega, by omega⟩, rdT (h.kids.mono le) j rfl gk (fun na' nn' nc' ka kn kc _ => (kk95 cat x na' nn' nc' ka kn kc g3).mono ?_)⟩
    rintro v g4 _ rfl
    refine ⟨_, rfl, ifPn (fun hn g5 _ => vF (fun hh => hn (hh.2 _ (List.mem_of_getElem? gz)))) (fun hp => ⟨i64 (by omega) (by omega), m - 1, by omega, j + 1, by omega, by omega, (all_take gz _).2 ⟨hall, hp⟩⟩)⟩
  · rw [take_all (by omega)] at hall
    exact hall
theorem pair_take {L : List Sy} {j : Nat} {x : Sy} (h : L[j]? = some x) : differP (L.take (j + 1)) ↔ differP (L.take j) ∧ ∀ y ∈ L.take j, y.dat.s ≠ x.dat.s := by
  unfold differP
  rw [List.take_add_one, h]
  simp only [Option.toList_some, List.pairwise_append, List.pairwise_cons, List.mem_singleton, forall_eq]
  constructor
  · rintro ⟨h1, _, h3⟩; exact ⟨h1, h3⟩
  · rintro ⟨h1, h3⟩; exact ⟨h1, ⟨by simp, .nil⟩, h3⟩
/-- differ. -/
theorem kk152 (L : List Sy) {a : Option Addr} {n c : Nat} {g : G} (h : SlE synE g a n c L) : CallsP Tryd.prog 82 #[.slice a n c] g fun v _ => v = .bool (tf (differP L)) := by
  refine call82 a n c g _ ?_
  have hl := h.len
  have hc := h.le
  have hm := h.cap
  unfold maxLen at hm
  unfold F82
  refine ⟨fun m i g' => ∃ j : Nat, i = ((j : Nat) : Int) ∧ j + m = n ∧ differP (L.take j) ∧ g.w.heap.size ≤ g'.w.heap.size, ⟨n, 0, rfl, by omega, by simp [differP], Nat.le_refl _⟩, ?_⟩
  rintro m i g1 le ⟨j, rfl, hj, hall, hsz⟩
  refine ifLt (fun hlt => ⟨⟨by omega, by omega⟩, ?_⟩) (fun hge g6 _ => vT ?_)
  · have gj := List.getElem?_eq_getElem (show j < L.length by omega)
    generalize L[j] = x at gj
    refine rdT (h.mono le) j rfl gj (fun na nn nc ka kn kc hx => ?_)
    intro g2 n2
    have hmut := n2.mut
    refine ⟨hmut.ok0 (Nat.le_refl _), hmut.nx, hmut.mut0 _, fun hh => absurd hh (by show ¬ g1.w.heap.size < g.w.heap.size; omega), fun g3 k3 => ?_⟩
    obtain ⟨hlv, hbut⟩ := hmut.pub k3 rfl
    have e13 : Ex g1 g3 := ((n2.ex.but _).trans hbut).ex (fun b hb _ e => by omega)
    refine ⟨⟨by omega, by omega⟩, nobody, fun _ _ h => h, ?_⟩
    rw [Int.toNat_natCast]
    refine (kk55p 89 ⟨[.pointer (some ⟨g1.w.heap.size, 0, none⟩)]⟩ (fun t => x.dat.s = t.dat.s) (L.take j) (((h.mono le).exm e13).take (by omega)) ⟨_, Tryd.func89, by kernel_rfl, by kernel_rfl⟩ (fun g' t le' _ na nn nc ka kn kc _ => kk169 x.dat.s t na nn nc ka kn kc ((hlv 2 _ rfl).mono le'))).mono ?_
    rintro v g4 m4 rfl
    refine ⟨_, rfl, ifP (fun hb g5 _ => vF (fun hh => ?_)) (fun hb => ⟨i64 (by omega) (by omega), m - 1, by omega, j + 1, by omega, by omega, (pair_take gj).2 ⟨hall, fun y hy e => hb ⟨y, hy, e.symm⟩⟩, Nat.le_trans hsz (e13.trans m4).size⟩)⟩
    obtain ⟨y, hy, e⟩ := hb
    have h1 : differP (L.take (j + 1)) := List.Pairwise.sublist (List.take_sublist _ _) hh
    exact ((pair_take gj).1 h1).2 y hy e.symm
  · rwa [take_all (by omega)] at hall
end Go.Proofs.YtmkdbndniffkfaaDoor
