/- Names: the program's tests. -/
import Derived.Test.YtmakoecgogjemaaDoorC03a
import Derived.Test.YtmakoecgogjemaaDoorShelf03
import Derived.Lib.LaidTab
set_option linter.unusedVariables false
namespace Go.Proofs.YtmakoecgogjemaaDoor
open Go Go.Vc Go.RowKit Go.Syn

/-- The table of white space lies in its place, and nobody writes it. -/
def TabG (g : G) : Prop := ∃ n, Tryd.prog.globalNamed "strings.asciiSpace" = some n ∧ LiveO g n (Lib.asciiSpaceTab.map fun z => Value.int .u8 z).toArray
theorem TabG.mono {g g' : G} (h : TabG g) (m : Le g g') : TabG g' := by obtain ⟨n, h1, h2⟩ := h; exact ⟨n, h1, h2.mono m⟩
theorem TabG.exm {g g' : G} (h : TabG g) (m : Ex g g') : TabG g' := h.mono m.le
theorem TabG.is {g : G} (h : TabG g) : Lib.TabIs Tryd.prog g.w "strings.asciiSpace" .u8 Lib.asciiSpaceTab := by
  obtain ⟨n, h1, e, fr, h2, _⟩ := h
  unfold Lib.TabIs World.var?
  rw [h1]
  simp only [Option.bind_some, h2]
def wordsText : List UInt8 := [97, 110, 100, 97, 108, 115, 111, 32, 99, 97, 115, 101, 32, 100, 97, 116, 97, 32, 100, 105, 118, 32, 101, 108, 115, 101, 32, 101, 110, 100, 32, 102, 110, 32, 102, 117, 110, 32, 102, 117, 110, 99, 116, 111, 114, 32, 103, 101, 110, 101, 114, 97, 116, 105, 118, 101, 32, 105, 102, 32, 105, 109, 112, 111, 114, 116, 32, 105, 110, 32, 105, 110, 99, 108, 117, 100, 101, 32, 108, 101, 116, 32, 109, 111, 100, 32, 109, 111, 100, 117, 108, 101, 32, 111, 102, 32, 111, 112, 101, 110, 32, 111, 114, 101, 108, 115, 101, 32, 112, 97, 99, 107, 32, 115, 104, 97, 114, 105, 110, 103, 32, 115, 105, 103, 32, 115, 105, 103, 110, 97, 116, 117, 114, 101, 32, 115, 116, 114, 117, 99, 116, 32, 115, 116, 114, 117, 99, 116, 117, 114, 101, 32, 116, 104, 101, 110, 32, 116, 121, 112, 101, 32, 117, 110, 112, 97, 99, 107, 32, 118, 97, 108, 32, 119, 105, 116, 104]
theorem words_keys : Lib.fields wordsText = keys := by decide +kernel
theorem strs_rws (g : G) (K : List (List UInt8)) : Rws strE g (K.map fun x => Value.string (bstr x)) K := by
  refine ⟨K.map fun x => [.string (bstr x)], ?_, ?_⟩
  · induction K with
    | nil => rfl
    | cons x r ih => simp [ih]
  · induction K with
    | nil => exact .nil
    | cons x r ih => exact .cons rfl ih
theorem k85 (g : G) (h : TabG g) : CallsP Tryd.prog 85 #[.string (bs wordsText)] g fun v g' => ∃ a n c, v = .slice a n c ∧ SlE strE g' a n c keys ∧ n ≤ 100 := by
  refine Calls.mono (Tryd.strings_Fields (bs wordsText) g.w (by decide +kernel) (fun j b hb => ?_) h.is) ?_
  · have hm := List.mem_of_getElem? hb
    have : ∀ b ∈ wordsText, b.toNat < 128 := by decide +kernel
    exact this b hm
  · rintro e w' ⟨rfl, rfl⟩
    have hf : Lib.fields (bs wordsText).data.toList = keys := words_keys
    refine ⟨_, g.push (.cells ⟨keys.map fun x => Value.string (bstr x)⟩ 9) false false, rfl, ?_, push_stp (Nat.le_refl _) _ _ _, _, _, _, rfl, ?_, ?_⟩
    · rw [hf]; rfl
    · rw [hf]
      exact (push_newL g 9 (keys.map fun x => Value.string (bstr x))).sle (strs_rws g keys) (by decide)
    · rw [hf]; decide
theorem k71 (s : List UInt8) (g : G) (h : TabG g) : CallsP Tryd.prog 71 #[.string (bstr s)] g fun v _ => v = .bool (tf (s ∈ keys)) := by
  refine call71 _ g _ ?_
  unfold F71
  refine (k85 g h).mono ?_
  rintro v g1 _ ⟨a, n, c, rfl, hk, hn⟩
  refine ⟨_, _, _, rfl, (k72 keys s hk (by omega)).mono ?_⟩
  rintro v g2 _ rfl
  exact ⟨_, rfl, fun g3 _ => rfl⟩
theorem k84 (b : UInt8) (g : G) : CallsP Tryd.prog 84 #[.int .u8 ((b.toNat : Nat) : Int)] g fun v _ => v = .int .i64 (clsN b.toNat) := by
  refine call84 _ g _ ?_
  unfold F84
  have tw : ∀ (a c : Int) (J : Bool → G → Prop) (g : G), (J (tf (a ≤ ((b.toNat : Nat) : Int) ∧ ((b.toNat : Nat) : Int) ≤ c)) g) → ifB (leI a ((b.toNat : Nat) : Int)) (J (leI ((b.toNat : Nat) : Int) c) g) (J false g) := by
    intro a c J g hJ
    refine ifLe (fun h => ?_) (fun h => ?_)
    · rw [tf_le, tf_iff (q := a ≤ ((b.toNat : Nat) : Int) ∧ ((b.toNat : Nat) : Int) ≤ c) ⟨fun hh => ⟨h, hh⟩, fun hh => hh.2⟩]; exact hJ
    · rwa [tf_no (by omega)] at hJ
  unfold clsN
  intro J hJ
  refine tw 97 122 J g (hJ _ _ ?_)
  refine ifP (fun h g2 _ => by rw [if_pos (by omega)]) (fun h => ?_)
  rw [if_neg (by omega)]
  intro J1 hJ1
  refine tw 65 90 J1 g (hJ1 _ _ ?_)
  refine ifP (fun h g2 _ => by rw [if_pos (by omega)]) (fun h => ?_)
  rw [if_neg (by omega)]
  intro J2 hJ2
  refine tw 48 57 J2 g (hJ2 _ _ ?_)
  refine ifP (fun h g2 _ => by rw [if_pos (by omega)]) (fun h => ?_)
  rw [if_neg (by omega)]
  refine ifEq (fun h g2 _ => by rw [if_pos (by omega)]) (fun h => ?_)
  rw [if_neg (by omega)]
  exact ifEq (fun h g2 _ => by rw [if_pos (by omega)]) (fun h g2 _ => by rw [if_neg (by omega)])
theorem k69 (s : List UInt8) (k : Int) (g : G) : CallsP Tryd.prog 69 #[.string (bstr s), .int .i64 k] g fun v _ => v = .bool (tf (wordP s ∧ clsN (s.getD 0 0).toNat = k)) := by
  refine call69 _ k g _ ?_
  unfold F69
  rw [size_i, show bs [] = bstr [] from rfl, strEq_bstr]
  rw [← tf_iff (name_iff s k)]
  intro J hJ
  refine ifP (fun h g1 _ => vF (fun hh => hh.1 h)) (fun hne => ifLt (fun h g1 _ => vF (by omega)) (fun hle => ⟨s.getD 0 0, ⟨by omega, bstr_at (by have := List.length_pos_iff.2 hne; omega)⟩, (k84 _ g).mono ?_⟩))
  rintro v g1 m1 rfl
  refine ⟨_, rfl, ifNe (fun h g2 _ => vF (fun hh => h hh.2.2.1)) (fun hk => hJ g1 ?_)⟩
  obtain ⟨a, c, w', hrun, g2, e2, s2, hb, m2⟩ := bytesG (P := Tryd.prog) (g := g1) (B := g.w.heap.size) (bstr s) Tryd.underlying9 Tryd.underlying82 Tryd.underlying5 m1.size (by rw [bstr_size]; unfold maxLen; omega)
  refine ⟨a, _, c, w', hrun, g2, e2, s2, ?_⟩
  rw [bstr_size] at hb ⊢
  have hb : SlB g2 a s.length c s := hb
  refine ⟨fun m i g' => ∃ j : Nat, i = ((j : Nat) : Int) ∧ j + m = s.length ∧ ∀ c ∈ s.take j, ¬ clsN c.toNat = 0 ∧ ¬ clsN c.toNat = 5, ⟨s.length, 0, rfl, by omega, by simp⟩, ?_⟩
  rintro m i g3 le ⟨j, rfl, hj, hall⟩
  refine ifLt (fun hlt => ⟨⟨by omega, by omega⟩, SlB.rdN (Sl.mono hb le) j rfl (by omega) ((k84 _ g3).mono ?_)⟩) (fun hge g7 _ => vT ?_)
  · have hin : s.getD j 0 ∈ s := List.mem_of_getElem? (getD0 (by omega))
    rintro v g4 _ rfl
    refine ⟨_, rfl, ifEq (fun h g5 _ => vF (fun hh => (hh.2.2.2 _ hin).1 h)) (fun h0 => ifEq (fun h g6 _ => vF (fun hh => (hh.2.2.2 _ hin).2 h)) (fun h5 => ⟨i64 (by omega) (by omega), m - 1, by omega, j + 1, by omega, by omega, (all_take (getD0 (by omega)) _).2 ⟨hall, h0, h5⟩⟩))⟩
  · rw [take_all (by omega)] at hall
    exact ⟨hne, by omega, hk, hall⟩
theorem k58 (s : List UInt8) (g : G) (ht : TabG g) : CallsP Tryd.prog 58 #[.string (bstr s)] g fun v _ => v = .bool (tf (lowerP s)) := by
  refine call58 _ g _ ?_
  unfold F58 lowerP
  refine (k69 s 1 g).mono ?_
  rintro v g1 m1 rfl
  refine ⟨_, rfl, ifP (fun h => (k71 s g1 (ht.exm m1)).mono ?_) (fun h g4 _ => vF (fun hh => h ⟨hh.1, (cls_small _).2 hh.2.1⟩))⟩
  rintro v g2 _ rfl
  refine ⟨_, rfl, fun g3 _ => ?_⟩
  rw [tf_not]
  exact vP ⟨fun hh => ⟨h.1, (cls_small _).1 h.2, hh⟩, fun hh => hh.2.2⟩
theorem k62 (s : List UInt8) (g : G) : CallsP Tryd.prog 62 #[.string (bstr s)] g fun v _ => v = .bool (tf (upperP s)) := by
  refine call62 _ g _ ?_
  unfold F62 upperP
  refine (k69 s 2 g).mono ?_
  rintro v g1 m1 rfl
  exact ⟨_, rfl, fun g3 _ => vP (and_congr_right fun _ => cls_cap _)⟩
theorem k97 (s p : List UInt8) (g : G) : CallsP Tryd.prog 97 #[.string (bstr s), .string (bstr p)] g fun v _ => v = .bool (tf (p.length ≤ s.length ∧ s.take p.length = p)) := by
  refine call97 _ _ g _ ?_
  unfold F97
  rw [size_i, size_i]
  refine ifLe (fun h => ⟨⟨by omega, by omega⟩, fun g1 _ => ?_⟩) (fun h g2 _ => vF (by omega))
  rw [bstr_extract, strEq_bstr]
  refine vP ?_
  rw [Int.toNat_natCast, List.drop_zero]
  exact ⟨fun hh => ⟨by omega, hh⟩, fun hh => hh.2⟩
theorem k83 (s p : List UInt8) (g : G) : CallsP Tryd.prog 83 #[.string (bstr s), .string (bstr p)] g fun v _ => (¬ (p.length ≤ s.length ∧ s.take p.length = p) ∧ v = .tuple ⟨[.string (bstr s), .bool false]⟩) ∨ ((p.length ≤ s.length ∧ s.take p.length = p) ∧ v = .tuple ⟨[.string (bstr (s.drop p.length)), .bool true]⟩) := by
  refine call83 _ _ g _ ?_
  unfold F83
  refine (k97 s p g).mono ?_
  rintro v g1 _ rfl
  refine ⟨_, rfl, ifPn (fun h g2 _ => .inl ⟨h, rfl⟩) (fun h => ?_)⟩
  rw [size_i, size_i]
  refine ⟨⟨by omega, by have := h.1; omega⟩, fun g3 _ => .inr ⟨h, ?_⟩⟩
  rw [bstr_extract, bstr_size, List.take_length, Int.toNat_natCast]
theorem k68 (s p : List UInt8) (g : G) : CallsP Tryd.prog 68 #[.string (bstr s), .string (bstr p)] g fun v _ => (¬ (p.length ≤ s.length ∧ s.take p.length = p) ∧ v = .tuple ⟨[.string (bstr s), .bool false]⟩) ∨ ((p.length ≤ s.length ∧ s.take p.length = p) ∧ v = .tuple ⟨[.string (bstr (s.drop p.length)), .bool true]⟩) := by
  refine call68 _ _ g _ ?_
  unfold F68
  refine (k83 s p g).mono ?_
  rintro v g1 _ (⟨h, rfl⟩ | ⟨h, rfl⟩)
  · exact ⟨_, _, rfl, fun g2 _ => .inl ⟨h, rfl⟩⟩
  · exact ⟨_, _, rfl, fun g2 _ => .inr ⟨h, rfl⟩⟩
theorem k56 (s : List UInt8) (g : G) : CallsP Tryd.prog 56 #[.string (bstr s)] g fun v _ => v = .bool (tf (tvarP s)) := by
  refine call56 _ g _ ?_
  unfold F56
  rw [size_i, tf_iff (tvar_iff s)]
  refine (k68 s [39] g).mono ?_
  rintro v g1 _ (⟨h, rfl⟩ | ⟨h, rfl⟩)
  · exact ⟨_, _, rfl, ifT (fun hh => by cases hh) (fun _ g5 _ => vF (fun hh => h hh.1))⟩
  · refine ⟨_, _, rfl, ifT (fun _ => ifLe (fun hl => (k69 (s.drop 1) 1 g1).mono ?_) (fun hl g4 _ => vF (by omega))) (fun hh => by cases hh)⟩
    rintro v g2 _ rfl
    exact ⟨_, rfl, fun g3 _ => vP ⟨fun hh => ⟨h, by omega, hh⟩, fun hh => hh.2.2⟩⟩
end Go.Proofs.YtmakoecgogjemaaDoor
