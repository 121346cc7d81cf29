/- Joined texts. -/
import Derived.Test.YtmkdbndniffkfaaGreatDoorC41O
import Derived.Test.YtmkdbndniffkfaaGreatDoorSyb
/- Records: digests, names, valid records. -/
set_option linter.unusedVariables false
namespace Go.Proofs.YtmkdbndniffkfaaGreatDoor
open Go Go.Vc Go.RowKit Go.Syn

theorem ifLeN {a b : Int} {A B : Prop} (h1 : b < a → A) (h2 : a ≤ b → B) : ifB (!leI a b) A B := ifF (fun h => h1 (leI_false ▸ h)) (fun h => h2 (leI_true ▸ h))
/-- digest.Valid. -/
theorem k63 (s : Lab) (hs : s.length ≤ 1048576) (g : G) : CallsP Tryz.prog 63 #[.string (bstr s)] g fun v _ => v = .bool (tf (digestP s)) := by
  refine call63 _ g _ ?_
  unfold F63
  rw [size_i]
  refine ⟨fun m i g' => ∃ j : Nat, i = ((j : Nat) : Int) ∧ j + m = s.length ∧ ∀ b ∈ s.take j, hexB b, ⟨s.length, 0, rfl, by omega, by simp⟩, ?_⟩
  rintro m i g1 le ⟨j, rfl, hj, hall⟩
  refine ifLt (fun q => ?_) (fun q g6 _ => ?_)
  · have gj := getD0 (s := s) (i := j) (by omega)
    have hb := bstr_at (s := s) (i := j) (by omega)
    generalize s.getD j 0 = b at gj hb
    have rd : ∀ {K : UInt8 → Prop}, K b → ∃ b', (0 ≤ ((j : Nat) : Int) ∧ (bstr s)[Int.toNat ((j : Nat) : Int)]? = some b') ∧ K b' := fun hk => ⟨b, ⟨by omega, by simpa using hb⟩, hk⟩
    have nh : digestP s → hexB b := fun h => h.1 b (List.mem_of_getElem? gj)
    have step : hexB b → InI64 (((j : Nat) : Int) + 1) ∧ ∃ m_1 : Nat, m_1 < m ∧ ∃ j1 : Nat, ((j : Nat) : Int) + 1 = ((j1 : Nat) : Int) ∧ j1 + m_1 = s.length ∧ ∀ b ∈ s.take j1, hexB b := fun hh => ⟨i64 (by omega) (by omega), m - 1, by omega, j + 1, by omega, by omega, (all_take gj _).2 ⟨hall, hh⟩⟩
    refine rd (ifLt (fun h1 => rd (ifLt (fun h2 g2 _ => vF (fun hh => ?_)) (fun h2 => rd (ifLt (fun h3 g3 _ => vF (fun hh => ?_)) (fun h3 => step (.inr ⟨?_, ?_⟩)))))) (fun h1 => rd (ifLt (fun h2 => rd (ifLt (fun h3 g4 _ => vF (fun hh => ?_)) (fun h3 => rd (ifLt (fun h4 g5 _ => vF (fun hh => ?_)) (fun h4 => step (.inr ⟨?_, ?_⟩)))))) (fun h2 => step (.inl ⟨?_, ?_⟩)))))
    all_goals first
      | omega
      | (have := nh hh; unfold hexB at this; omega)
  · rw [take_all (by omega)] at hall
    rw [tf_eq]
    exact vP ⟨fun hh => ⟨hall, by omega⟩, fun hh => by have := hh.2; omega⟩
/-- .. of the reference. -/
theorem k65 (s : Lab) (hs : s.length ≤ 1048576) (g : G) : CallsP Tryz.prog 65 #[.string (bstr s)] g fun v _ => v = .bool (tf (digestP s)) := by
  refine call65 _ g _ ?_
  unfold F65
  rw [size_i]
  refine ⟨fun m i g' => ∃ j : Nat, i = ((j : Nat) : Int) ∧ j + m = s.length ∧ ∀ b ∈ s.take j, hexB b, ⟨s.length, 0, rfl, by omega, by simp⟩, ?_⟩
  rintro m i g1 le ⟨j, rfl, hj, hall⟩
  refine ifLt (fun q => ?_) (fun q g6 _ => ?_)
  · have gj := getD0 (s := s) (i := j) (by omega)
    have hb := bstr_at (s := s) (i := j) (by omega)
    generalize s.getD j 0 = b at gj hb
    have rd : ∀ {K : UInt8 → Prop}, K b → ∃ b', (0 ≤ ((j : Nat) : Int) ∧ (bstr s)[Int.toNat ((j : Nat) : Int)]? = some b') ∧ K b' := fun hk => ⟨b, ⟨by omega, by simpa using hb⟩, hk⟩
    have nh : digestP s → hexB b := fun h => h.1 b (List.mem_of_getElem? gj)
    intro J hJ
    have step : hexB b → J g1 := fun hh => hJ g1 ⟨i64 (by omega) (by omega), m - 1, by omega, j + 1, by omega, by omega, (all_take gj _).2 ⟨hall, hh⟩⟩
    refine rd (ifLe (fun h1 => rd (ifLe (fun h2 => step (.inl ⟨?_, ?_⟩)) (fun h2 => rd (ifLe (fun h3 => rd (ifLeN (fun h4 g3 _ => vF (fun hh => ?_)) (fun h4 => step (.inr ⟨?_, ?_⟩)))) (fun h3 g4 _ => vF (fun hh => ?_)))))) (fun h1 => rd (ifLe (fun h3 => rd (ifLeN (fun h4 g3 _ => vF (fun hh => ?_)) (fun h4 => step (.inr ⟨?_, ?_⟩)))) (fun h3 g4 _ => vF (fun hh => ?_)))))
    all_goals first
      | omega
      | (have := nh hh; unfold hexB at this; omega)
  · rw [take_all (by omega)] at hall
    rw [tf_eq]
    exact vP ⟨fun hh => ⟨hall, by omega⟩, fun hh => by have := hh.2; omega⟩
def shortL (L : List Lab) : Prop := L.length ≤ 1048576 ∧ ∀ s ∈ L, s.length ≤ 1048576
theorem k85 (s : Lab) (hs : s.length ≤ 1048576) (g : G) : CallsP Tryz.prog 85 #[.string (bstr s)] g fun v _ => v = .bool (tf (¬ digestP s)) := by
  refine call85 _ g _ ?_
  unfold F85
  refine (k63 s hs g).mono ?_
  rintro v g1 m1 rfl
  refine ⟨_, rfl, fun g2 _ => ?_⟩
  rw [tf_not]
/-- digests. -/
theorem k50 {L : List Lab} (hs : shortL L) {a : Option Addr} {n c : Nat} {g : G} (h : SlE strE g a n c L) : CallsP Tryz.prog 50 #[.slice a n c] g fun v _ => v = .bool (tf (∀ s ∈ L, digestP s)) := by
  refine call50 a n c g _ ?_
  have hl := h.len
  have h1 := hs.1
  unfold F50
  refine (kq61x 85 #[] (fun s => ¬ digestP s) L h (by omega) ⟨_, Tryz.func85, by kernel_rfl, by kernel_rfl⟩ (fun g' _ s hm => k85 s (hs.2 s hm) g')).mono ?_
  rintro v g1 m1 rfl
  refine ⟨_, rfl, fun g2 _ => ?_⟩
  rw [tf_not]
  exact vP ⟨fun hh s hm => Classical.byContradiction fun hc => hh ⟨s, hm, hc⟩, fun hh ⟨s, hm, hc⟩ => hc (hh s hm)⟩
/-- .. of the reference. -/
theorem k67 {L : List Lab} (hs : shortL L) {a : Option Addr} {n c : Nat} {g : G} (h : SlE strE g a n c L) : CallsP Tryz.prog 67 #[.slice a n c] g fun v _ => v = .bool (tf (∀ s ∈ L, digestP s)) := by
  refine call67 a n c g _ ?_
  have hl := h.len
  have h1 := hs.1
  unfold F67
  refine ⟨fun m i g' => ∃ j : Nat, i = ((j : Nat) : Int) ∧ j + m = n ∧ ∀ s ∈ L.take j, digestP s, ⟨n, 0, rfl, by omega, by simp⟩, ?_⟩
  rintro m i g1 le ⟨j, rfl, hj, hall⟩
  refine ifLt (fun q => ⟨⟨by omega, by omega⟩, ?_⟩) (fun q g4 _ => ?_)
  · have gj := List.getElem?_eq_getElem (show j < L.length by omega)
    generalize L[j] = s at gj
    have hm := List.mem_of_getElem? gj
    refine rdS (h.mono le) j rfl gj ((k65 s (hs.2 s hm) g1).mono ?_)
    rintro v g2 m2 rfl
    exact ⟨_, rfl, ifPn (fun q1 g3 _ => vF (fun hh => q1 (hh s hm))) (fun q1 => ⟨i64 (by omega) (by omega), m - 1, by omega, j + 1, by omega, by omega, (all_take gj _).2 ⟨hall, q1⟩⟩)⟩
  · rw [take_all (by omega)] at hall
    exact vT hall
/-- names. -/
theorem k64 {L : List Lab} {a : Option Addr} {n c : Nat} {g : G} (h : SlE strE g a n c L) : CallsP Tryz.prog 64 #[.slice a n c] g fun v _ => v = .bool (tf (namesP L)) := by
  refine call64 a n c g _ ?_
  have hl := h.len
  have hc := h.le
  unfold F64
  refine ifLt (fun q g1 _ => vF (fun hh => by have := hh.1; omega)) (fun q => ?_)
  refine ⟨fun m i g' => ∃ j : Nat, i = ((j : Nat) : Int) ∧ j + m = n ∧ (∀ s ∈ L.take j, upperP s) ∧ (L.take j).Nodup, ⟨n, 0, rfl, by omega, by simp, by simp⟩, ?_⟩
  rintro m i g2 le ⟨j, rfl, hj, hall, hnd⟩
  refine ifLt (fun q1 => ⟨⟨by omega, by omega⟩, ?_⟩) (fun q1 g7 _ => ?_)
  · have gj := List.getElem?_eq_getElem (show j < L.length by omega)
    generalize L[j] = s at gj
    have hm := List.mem_of_getElem? gj
    refine rdS (h.mono le) j rfl gj ((kk111 s g2).mono ?_)
    rintro v g3 m3 rfl
    refine ⟨_, rfl, ifPn (fun q2 g4 _ => vF (fun hh => q2 (hh.2.1 s hm))) (fun q2 => ⟨⟨by omega, by omega⟩, ?_⟩)⟩
    have ht := ((h.mono le).exm m3).take (hi := j) (by omega)
    rw [Int.toNat_natCast]
    refine (kk19 (L.take j) s ht (by omega)).mono ?_
    rintro v g5 m5 rfl
    refine ⟨_, rfl, ifP (fun q3 g6 _ => vF (fun hh => ?_)) (fun q3 => ⟨i64 (by omega) (by omega), m - 1, by omega, j + 1, by omega, by omega, (all_take gj _).2 ⟨hall, q2⟩, (nodup_take gj).2 ⟨hnd, q3⟩⟩)⟩
    exact ((nodup_take gj).1 (hh.2.2.sublist (List.take_sublist _ _))).2 q3
  · rw [take_all (by omega)] at hall hnd
    exact vT ⟨by omega, hall, hnd⟩
/-- Find, of the reference. -/
theorem k72 {L : List Lab} (s : Lab) {a : Option Addr} {n c : Nat} {g : G} (h : SlE strE g a n c L) (hn : n ≤ 1048576) : CallsP Tryz.prog 72 #[.slice a n c, .string (bstr s)] g fun v _ =>
    ∃ i : Int, v = .int .i64 i ∧ ((i = -1 ∧ s ∉ L) ∨ ∃ j : Nat, i = ((j : Nat) : Int) ∧ L[j]? = some s ∧ s ∉ L.take j) := by
  refine call72 a n c _ g _ ?_
  have hl := h.len
  unfold F72
  refine ⟨fun m i g' => ∃ j : Nat, i = ((j : Nat) : Int) ∧ j + m = n ∧ s ∉ L.take j, ⟨n, 0, rfl, by omega, by simp⟩, ?_⟩
  rintro m i g1 le ⟨j, rfl, hj, hno⟩
  refine ifLt (fun q => ⟨⟨by omega, by omega⟩, ?_⟩) (fun q g3 _ => ⟨_, rfl, .inl ⟨rfl, by rwa [take_all (by omega)] at hno⟩⟩)
  have gj := List.getElem?_eq_getElem (show j < L.length by omega)
  generalize L[j] = x at gj
  refine rdS (h.mono le) j rfl gj ?_
  rw [strEq_bstr]
  refine ifP (fun q1 g2 _ => ⟨_, rfl, .inr ⟨j, rfl, q1 ▸ gj, hno⟩⟩) (fun q1 => ⟨i64 (by omega) (by omega), m - 1, by omega, j + 1, by omega, by omega, ?_⟩)
  rw [List.take_add_one, gj, List.mem_append]
  rintro (hh | hh)
  · exact hno hh
  · simp at hh; exact q1 hh.symm
/-- names, of the reference. -/
theorem k66 {L : List Lab} {a : Option Addr} {n c : Nat} {g : G} (h : SlE strE g a n c L) (hn : n ≤ 1048576) : CallsP Tryz.prog 66 #[.slice a n c] g fun v _ => v = .bool (tf (namesP L)) := by
  refine call66 a n c g _ ?_
  have hl := h.len
  unfold F66
  refine ⟨fun m i g' => ∃ j : Nat, i = ((j : Nat) : Int) ∧ j + m = n ∧ (∀ s ∈ L.take j, upperP s) ∧ (L.take j).Nodup, ⟨n, 0, rfl, by omega, by simp, by simp⟩, ?_⟩
  rintro m i g1 le ⟨j, rfl, hj, hall, hnd⟩
  refine ifLt (fun q1 => ⟨⟨by omega, by omega⟩, ?_⟩) (fun q1 g7 _ => ?_)
  · have gj := List.getElem?_eq_getElem (show j < L.length by omega)
    generalize L[j] = s at gj
    have hm := List.mem_of_getElem? gj
    refine rdS (h.mono le) j rfl gj ((kk89 s g1).mono ?_)
    rintro v g2 m2 rfl
    refine ⟨_, rfl, ifPn (fun q2 g4 _ => vF (fun hh => q2 (hh.2.1 s hm))) (fun q2 => ⟨⟨by omega, by omega⟩, ?_⟩)⟩
    refine rdS ((h.mono le).exm m2) j rfl gj ((k72 s ((h.mono le).exm m2) hn).mono ?_)
    rintro v g4 m4 ⟨i, rfl, hi⟩
    have hi2 : i = ((j : Nat) : Int) ↔ s ∉ L.take j := by
      rcases hi with ⟨rfl, hno⟩ | ⟨p, rfl, hp, hno⟩
      · exact absurd hm hno
      · constructor
        · intro e
          have : p = j := by omega
          rwa [this] at hno
        · intro hno2
          rcases Nat.lt_trichotomy p j with e | e | e
          · exact absurd (List.mem_take_iff_getElem.2 ⟨p, by have := (List.getElem?_eq_some_iff.1 hp).1; omega, (List.getElem?_eq_some_iff.1 hp).2⟩) hno2
          · rw [e]
          · exact absurd (List.mem_take_iff_getElem.2 ⟨j, by have := (List.getElem?_eq_some_iff.1 gj).1; omega, (List.getElem?_eq_some_iff.1 gj).2⟩) hno
    refine ⟨_, rfl, ifNe (fun q3 g5 _ => vF (fun hh => ?_)) (fun q3 => ⟨i64 (by omega) (by omega), m - 1, by omega, j + 1, by omega, by omega, (all_take gj _).2 ⟨hall, q2⟩, (nodup_take gj).2 ⟨hnd, hi2.1 q3⟩⟩)⟩
    exact q3 (hi2.2 ((nodup_take gj).1 (hh.2.2.sublist (List.take_sublist _ _))).2)
  · rw [take_all (by omega)] at hall hnd
    rw [tf_le]
    exact vP ⟨fun hh => ⟨by omega, hall, hnd⟩, fun hh => by have := hh.1; omega⟩
def recOK (r : RecD) : Prop := r.source.length ≤ 1048576 ∧ r.face.length ≤ 1048576 ∧ r.imps.length ≤ 1048576 ∧ shortL r.digs
section
variable {r : RecD} {ia : Option Addr} {im ic : Nat} {da : Option Addr} {dn dc : Nat} {g : G}
/-- Valid. -/
theorem k31 (hr : recOK r) (h : RecI g r ia im ic da dn dc) : CallsP Tryz.prog 31 #[recV r ia im ic da dn dc] g fun v _ => v = .bool (tf (recP r)) := by
  refine call31 _ _ _ _ _ _ _ _ _ g _ ?_
  have hl := h.imps.len
  have hl2 := h.digs.len
  have h3 := hr.2.2.1
  unfold F31
  refine fun g1 m1 => (kk111 r.name g1).mono ?_
  rintro v g2 m2 rfl
  refine ⟨_, rfl, ifP (fun q1 => (k63 r.source hr.1 g2).mono ?_) (fun q1 g9 _ => vF (fun hh => q1 hh.1))⟩
  rintro v g3 m3 rfl
  refine ⟨_, rfl, ifP (fun q2 => (k63 r.face hr.2.1 g3).mono ?_) (fun q2 g9 _ => vF (fun hh => q2 hh.2.1))⟩
  rintro v g4 m4 rfl
  have m04 := ((m1.trans m2).trans m3).trans m4
  refine ⟨_, rfl, ifP (fun q3 => (k64 (h.imps.exm m04)).mono ?_) (fun q3 g9 _ => vF (fun hh => q3 hh.2.2.1))⟩
  rintro v g5 m5 rfl
  refine ⟨_, rfl, ifP (fun q4 => (kk19 r.imps r.name (h.imps.exm (m04.trans m5)) (by omega)).mono ?_) (fun q4 g9 _ => vF (fun hh => q4 hh.2.2.2.1))⟩
  rintro v g6 m6 rfl
  refine ⟨_, rfl, ifPn (fun q5 => ifEq (fun q6 => (k50 hr.2.2.2 (h.digs.exm ((m04.trans m5).trans m6))).mono ?_) (fun q6 g9 _ => vF (fun hh => q6 (by have := hh.2.2.2.2.2.1; omega)))) (fun q5 g9 _ => vF (fun hh => hh.2.2.2.2.1 q5))⟩
  rintro v g7 m7 rfl
  exact ⟨_, rfl, fun g8 _ => vP ⟨fun hh => ⟨q1, q2, q3, q4, q5, by omega, hh⟩, fun hh => hh.2.2.2.2.2.2⟩⟩
/-- .. of the reference. -/
theorem k32 (hr : recOK r) (h : RecI g r ia im ic da dn dc) : CallsP Tryz.prog 32 #[recV r ia im ic da dn dc] g fun v _ => v = .bool (tf (recP r)) := by
  refine call32 _ _ _ _ _ _ _ _ _ g _ ?_
  have hl := h.imps.len
  have hl2 := h.digs.len
  have h3 := hr.2.2.1
  unfold F32
  refine fun g1 m1 => (kk89 r.name g1).mono ?_
  rintro v g2 m2 rfl
  refine ⟨_, rfl, ifP (fun q1 => (k65 r.source hr.1 g2).mono ?_) (fun q1 g9 _ => vF (fun hh => q1 hh.1))⟩
  rintro v g3 m3 rfl
  refine ⟨_, rfl, ifP (fun q2 => (k65 r.face hr.2.1 g3).mono ?_) (fun q2 g9 _ => vF (fun hh => q2 hh.2.1))⟩
  rintro v g4 m4 rfl
  have m04 := ((m1.trans m2).trans m3).trans m4
  refine ⟨_, rfl, ifP (fun q3 => (k66 (h.imps.exm m04) (by omega)).mono ?_) (fun q3 g9 _ => vF (fun hh => q3 hh.2.2.1))⟩
  rintro v g5 m5 rfl
  refine ⟨_, rfl, ifP (fun q4 => (k72 r.name (h.imps.exm (m04.trans m5)) (by omega)).mono ?_) (fun q4 g9 _ => vF (fun hh => q4 hh.2.2.2.1))⟩
  rintro v g6 m6 ⟨i, rfl, hi⟩
  have hi2 : i < 0 ↔ r.name ∉ r.imps := by
    rcases hi with ⟨rfl, hno⟩ | ⟨p, rfl, hp, hno⟩
    · exact ⟨fun _ => hno, fun _ => by omega⟩
    · exact ⟨fun hh => by omega, fun hh => absurd (List.mem_of_getElem? hp) hh⟩
  refine ⟨_, rfl, ifLt (fun q5 => ifEq (fun q6 => (k67 hr.2.2.2 (h.digs.exm ((m04.trans m5).trans m6))).mono ?_) (fun q6 g9 _ => vF (fun hh => q6 (by have := hh.2.2.2.2.2.1; omega)))) (fun q5 g9 _ => vF (fun hh => by have := hi2.2 hh.2.2.2.2.1; omega))⟩
  rintro v g7 m7 rfl
  exact ⟨_, rfl, fun g8 _ => vP ⟨fun hh => ⟨q1, q2, q3, q4, hi2.1 q5, by omega, hh⟩, fun hh => hh.2.2.2.2.2.2⟩⟩
end
end Go.Proofs.YtmkdbndniffkfaaGreatDoor
/- Records: the reason to compile a unit. -/
set_option linter.unusedVariables false
namespace Go.Proofs.YtmkdbndniffkfaaGreatDoor
open Go Go.Vc Go.RowKit Go.Syn

abbrev reaV (x : ReaD) : Value := .agg ⟨[.int .i64 x.op, .string (bstr x.unit)]⟩
theorem other_step {D F I : List Lab} {j : Nat} {d f i : Lab} (hd : D[j]? = some d) (hf : F[j]? = some f) (hi : I[j]? = some i) : otherF (D.drop j) (F.drop j) (I.drop j) = if d = f then otherF (D.drop (j + 1)) (F.drop (j + 1)) (I.drop (j + 1)) else some i := by
  obtain ⟨h1, rfl⟩ := List.getElem?_eq_some_iff.1 hd
  obtain ⟨h2, rfl⟩ := List.getElem?_eq_some_iff.1 hf
  obtain ⟨h3, rfl⟩ := List.getElem?_eq_some_iff.1 hi
  rw [List.drop_eq_getElem_cons h1, List.drop_eq_getElem_cons h2, List.drop_eq_getElem_cons h3, otherF]
theorem other_end {D F I : List Lab} {j : Nat} (h : D.length ≤ j) : otherF (D.drop j) (F.drop j) (I.drop j) = none := by
  rw [List.drop_eq_nil_of_le h]
  cases F.drop j <;> rfl
theorem reason_src {r : RecD} {s : Lab} {I F : List Lab} (h : r.source ≠ s) : reasonN (some r) s I F = ⟨2, []⟩ := if_pos h
theorem reason_imp {r : RecD} {s : Lab} {I F : List Lab} (h : r.source = s) (k : r.imps ≠ I) : reasonN (some r) s I F = ⟨3, []⟩ := (if_neg (fun hh => hh h)).trans (if_pos k)
theorem reason_face {r : RecD} {s : Lab} {I F : List Lab} (h : r.source = s) (k : r.imps = I) {u : Lab} (e : otherF r.digs F I = some u) : reasonN (some r) s I F = ⟨4, u⟩ := by
  refine (if_neg (fun hh => hh h)).trans ((if_neg (fun hh => hh k)).trans ?_)
  rw [e]
theorem reason_fresh {r : RecD} {s : Lab} {I F : List Lab} (h : r.source = s) (k : r.imps = I) (e : otherF r.digs F I = none) : reasonN (some r) s I F = ⟨0, []⟩ := by
  refine (if_neg (fun hh => hh h)).trans ((if_neg (fun hh => hh k)).trans ?_)
  rw [e]
/-- reason: there is no record. -/
theorem k52n (s I F : List UInt8) {imps faces : List Lab} {a b : Option Addr} {n c m d : Nat} (g : G) : CallsP Tryz.prog 52 #[.pointer none, .string (bstr s), .slice a n c, .slice b m d] g fun v _ => v = reaV (reasonN none s imps faces) := by
  refine call52 _ _ _ _ _ _ _ _ g _ ?_
  unfold F52
  exact ifT (fun _ g1 _ g2 _ => rfl) (fun hh => by cases hh)
/-- .. where there is one. -/
theorem k52 {r : RecD} (s : Lab) {imps faces : List Lab} {ia : Option Addr} {im ic : Nat} {da : Option Addr} {dn dc : Nat} {a b : Option Addr} {n c m d : Nat} {g : G} {ad : Addr} (h : RecI g r ia im ic da dn dc)
    (hc : ∀ g', Ex g g' → g'.w.cell? (Addr.add ad 1) = some (.string (bstr r.source)) ∧ g'.w.cell? (Addr.add ad 2) = some (.slice ia im ic) ∧ g'.w.cell? (Addr.add ad 3) = some (.slice da dn dc))
    (hi : SlE strE g a n c imps) (hf : SlE strE g b m d faces) (hl : faces.length = imps.length) (hr : r.digs.length = r.imps.length) (hn : n ≤ 1048576) :
    CallsP Tryz.prog 52 #[.pointer (some ad), .string (bstr s), .slice a n c, .slice b m d] g fun v _ => v = reaV (reasonN (some r) s imps faces) := by
  refine call52 _ _ _ _ _ _ _ _ g _ ?_
  have l1 := hi.len
  have l2 := hf.len
  have l3 := h.digs.len
  have l4 := h.imps.len
  unfold F52
  refine ifT (fun hh => by cases hh) (fun _ g3 m3 => ?_)
  refine ⟨_, (hc g3 m3).1, ?_⟩
  rw [strEq_bstr]
  refine ifPn (fun q g4 _ => by rw [reason_src q]; rfl) (fun q => ?_)
  refine ⟨_, _, _, (hc g3 m3).2.1, (kk21 r.imps imps (h.imps.exm m3) (hi.exm m3)).mono ?_⟩
  rintro v g5 m5 rfl
  refine ⟨_, rfl, ifPn (fun q1 g6 _ => by rw [reason_imp q q1]; rfl) (fun q1 => ?_)⟩
  refine ⟨_, _, _, (hc g5 (m3.trans m5)).2.2, ?_⟩
  have hll : r.imps.length = imps.length := by rw [q1]
  refine ⟨fun m0 i x0 x1 g' => ∃ j : Nat, i = ((j : Nat) : Int) ∧ j + m0 = dn ∧ otherF r.digs faces imps = otherF (r.digs.drop j) (faces.drop j) (imps.drop j), ⟨dn, 0, rfl, by omega, by simp⟩, ?_⟩
  rintro m0 i x0 x1 g7 le ⟨j, rfl, hj, ho⟩
  have le7 : Le g g7 := (m3.trans m5).le.trans le
  refine ifLt (fun q2 => ⟨⟨by omega, by omega⟩, ?_⟩) (fun q2 g9 _ => ?_)
  · have g1' := List.getElem?_eq_getElem (show j < r.digs.length by omega)
    have g2' := List.getElem?_eq_getElem (show j < faces.length by omega)
    have g3' := List.getElem?_eq_getElem (show j < imps.length by omega)
    generalize r.digs[j] = x at g1'
    generalize faces[j] = y at g2'
    generalize imps[j] = z at g3'
    rw [other_step g1' g2' g3'] at ho
    refine rdS (h.digs.mono le7) j rfl g1' ⟨⟨by omega, by omega⟩, rdS (hf.mono le7) j rfl g2' ?_⟩
    rw [strEq_bstr]
    refine ifPn (fun q3 => ⟨⟨by omega, by omega⟩, rdS (hi.mono le7) j rfl g3' (fun g8 _ => ?_)⟩) (fun q3 => ⟨i64 (by omega) (by omega), m0 - 1, by omega, j + 1, by omega, by omega, ?_⟩)
    · rw [if_neg q3] at ho
      rw [reason_face q q1 ho]
    · rw [ho, if_pos q3]
  · rw [other_end (by omega)] at ho
    rw [reason_fresh q q1 ho]
    rfl
/-- Same, of the reference. -/
theorem k91 {xs ys : List Lab} {a b : Option Addr} {n c m d : Nat} {g : G} (hx : SlE strE g a n c xs) (hy : SlE strE g b m d ys) (hn : n ≤ 1048576) : CallsP Tryz.prog 91 #[.slice a n c, .slice b m d] g fun v _ => v = .bool (tf (xs = ys)) := by
  refine call91 _ _ _ _ _ _ g _ ?_
  have l1 := hx.len
  have l2 := hy.len
  unfold F91
  refine ifNe (fun q g1 _ => vF (fun hh => q (by rw [hh] at l1; omega))) (fun q => ?_)
  refine ⟨fun m0 i g' => ∃ j : Nat, i = ((j : Nat) : Int) ∧ j + m0 = n ∧ xs.take j = ys.take j, ⟨n, 0, rfl, by omega, rfl⟩, ?_⟩
  rintro m0 i g2 le ⟨j, rfl, hj, ht⟩
  refine ifLt (fun q1 g3 m3 => ⟨⟨by omega, by omega⟩, ?_⟩) (fun q1 g5 _ => ?_)
  · have g1' := List.getElem?_eq_getElem (show j < xs.length by omega)
    have g2' := List.getElem?_eq_getElem (show j < ys.length by omega)
    generalize xs[j] = x at g1'
    generalize ys[j] = y at g2'
    refine rdS ((hx.mono le).exm m3) j rfl g1' ⟨⟨by omega, by omega⟩, rdS ((hy.mono le).exm m3) j rfl g2' ?_⟩
    rw [strEq_bstr]
    refine ifPn (fun q3 g8 _ => vF (fun hh => q3 ?_)) (fun q3 => ⟨i64 (by omega) (by omega), m0 - 1, by omega, j + 1, by omega, by omega, ?_⟩)
    · rw [hh, g2'] at g1'
      exact (Option.some.inj g1').symm
    · rw [List.take_add_one, List.take_add_one, g1', g2', ht, q3]
  · rw [take_all (by omega), take_all (by omega)] at ht
    exact vT ht
/-- reason, of the reference. -/
theorem k68 {r : RecD} (s : Lab) {imps faces : List Lab} {ia : Option Addr} {im ic : Nat} {da : Option Addr} {dn dc : Nat} {a b : Option Addr} {n c m d : Nat} {g : G} (h : RecI g r ia im ic da dn dc)
    (hi : SlE strE g a n c imps) (hf : SlE strE g b m d faces) (hl : faces.length = imps.length) (hr : r.digs.length = r.imps.length) (hn : n ≤ 1048576) (hn2 : r.imps.length ≤ 1048576) :
    CallsP Tryz.prog 68 #[recV r ia im ic da dn dc, .string (bstr s), .slice a n c, .slice b m d] g fun v _ => v = reaV (reasonN (some r) s imps faces) := by
  refine call68 _ _ _ _ _ _ _ _ _ _ _ _ _ _ _ _ g _ ?_
  have l1 := hi.len
  have l2 := hf.len
  have l3 := h.digs.len
  have l4 := h.imps.len
  unfold F68
  rw [strEq_bstr]
  refine ifPn (fun q g1 _ g2 _ => by rw [reason_src q]; rfl) (fun q g3 m3 => (k91 (h.imps.exm m3) (hi.exm m3) (by omega)).mono ?_)
  rintro v g4 m4 rfl
  refine ⟨_, rfl, ifPn (fun q1 g6 _ => by rw [reason_imp q q1]; rfl) (fun q1 => ?_)⟩
  have hll : r.imps.length = imps.length := by rw [q1]
  refine ⟨fun m0 i x0 x1 g' => ∃ j : Nat, i = ((j : Nat) : Int) ∧ j + m0 = m ∧ otherF r.digs faces imps = otherF (r.digs.drop j) (faces.drop j) (imps.drop j), ⟨m, 0, rfl, by omega, by simp⟩, ?_⟩
  rintro m0 i x0 x1 g7 le ⟨j, rfl, hj, ho⟩
  have le7 : Le g g7 := (m3.trans m4).le.trans le
  refine ifLt (fun q2 g8 m8 => ⟨⟨by omega, by omega⟩, ?_⟩) (fun q2 g9 _ => ?_)
  · have g1' := List.getElem?_eq_getElem (show j < r.digs.length by omega)
    have g2' := List.getElem?_eq_getElem (show j < faces.length by omega)
    have g3' := List.getElem?_eq_getElem (show j < imps.length by omega)
    generalize r.digs[j] = x at g1'
    generalize faces[j] = y at g2'
    generalize imps[j] = z at g3'
    rw [other_step g1' g2' g3'] at ho
    refine rdS ((h.digs.mono le7).exm m8) j rfl g1' ⟨⟨by omega, by omega⟩, rdS ((hf.mono le7).exm m8) j rfl g2' ?_⟩
    rw [strEq_bstr]
    refine ifPn (fun q3 => ⟨⟨by omega, by omega⟩, rdS ((hi.mono le7).exm m8) j rfl g3' (fun g8 _ => ?_)⟩) (fun q3 => ⟨i64 (by omega) (by omega), m0 - 1, by omega, j + 1, by omega, by omega, ?_⟩)
    · rw [if_neg q3] at ho
      rw [reason_face q q1 ho]
    · rw [ho, if_pos q3]
  · rw [other_end (by omega)] at ho
    rw [reason_fresh q q1 ho]
    rfl
open Classical in
noncomputable def reasonA (r : RecD) (known : Bool) (s : Lab) (imps faces : List Lab) : ReaD × Int :=
  if digestP s ∧ namesP imps ∧ faces.length = imps.length ∧ (∀ d ∈ faces, digestP d) ∧ (known = true → recP r) then (reasonN (if known = true then some r else none) s imps faces, 0) else (⟨0, []⟩, 1)
section
variable {r : RecD} {ia : Option Addr} {im ic : Nat} {da : Option Addr} {dn dc : Nat} {a b : Option Addr} {n c m d : Nat} {g : G} {s : Lab} {imps faces : List Lab}
/-- Reason. -/
theorem k29 (known : Bool) (hr : recOK r) (hs : s.length ≤ 1048576) (hn : imps.length ≤ 1048576) (hfs : shortL faces) (h : RecI g r ia im ic da dn dc) (hi : SlE strE g a n c imps) (hf : SlE strE g b m d faces) :
    CallsP Tryz.prog 29 #[recV r ia im ic da dn dc, .bool known, .string (bstr s), .slice a n c, .slice b m d] g fun v _ => v = .tuple ⟨[reaV (reasonA r known s imps faces).1, .int .i64 (reasonA r known s imps faces).2]⟩ := by
  refine call29 _ _ _ _ _ _ _ _ _ known _ _ _ _ _ _ _ g _ ?_
  have l1 := hi.len
  have l2 := hf.len
  unfold F29
  intro g1 n1 J hJ g8 m8
  have mi : MutB g1 g.w.heap.size 59 [.string (bstr r.name), .string (bstr r.source), .slice ia im ic, .slice da dn dc, .string (bstr r.face)] := n1.mut
  have e01 : Ex g g1 := n1.ex
  have bad : ∀ g2, ¬ (digestP s ∧ namesP imps ∧ faces.length = imps.length ∧ (∀ d ∈ faces, digestP d) ∧ (known = true → recP r)) → J true g2 := fun g2 hh => hJ true g2 (ifT (fun _ g3 _ => by unfold reasonA; rw [if_neg hh]; rfl) (fun e => by cases e))
  have ok : ∀ g2, Ex g1 g2 → (digestP s ∧ namesP imps ∧ faces.length = imps.length ∧ (∀ d ∈ faces, digestP d) ∧ (known = true → recP r)) → J false g2 := by
    intro g2 m2 hh
    have eA : reasonA r known s imps faces = (reasonN (if known = true then some r else none) s imps faces, 0) := if_pos hh
    rw [eA] at hJ
    refine hJ false g2 (ifT (fun e => by cases e) (fun _ => ifF (fun e => ?_) (fun e => ?_)))
    · subst e
      refine (k52n s [] [] (imps := imps) (faces := faces) g2).mono ?_
      rintro v g4 m4 rfl
      exact ⟨_, _, rfl, fun g5 _ => rfl⟩
    · subst e
      have m02 := e01.trans m2
      refine (k52 (r := r) s (h.exm m02) (fun g' m' => ?_) (hi.exm m02) (hf.exm m02) hh.2.2.1 (hh.2.2.2.2 rfl).2.2.2.2.2.1 (by omega)).mono ?_
      · have mi' := (mi.ex m2).ex m'
        exact ⟨mi'.rd (j := 1) rfl, mi'.rd (j := 2) rfl, mi'.rd (j := 3) rfl⟩
      rintro v g6 m6 rfl
      exact ⟨_, _, rfl, fun g7 _ => rfl⟩
  clear hJ
  refine (k63 s hs g8).mono ?_
  rintro v g9 m9 rfl
  refine ⟨_, rfl, ifPn (fun q => bad g9 (fun hh => q hh.1)) (fun q => ?_)⟩
  have m09 := (e01.trans m8).trans m9
  refine (k64 (hi.exm m09)).mono ?_
  rintro v g10 m10 rfl
  refine ⟨_, rfl, ifPn (fun q1 => bad g10 (fun hh => q1 hh.2.1)) (fun q1 => ifNe (fun q2 => bad g10 (fun hh => q2 (by have := hh.2.2.1; omega))) (fun q2 => (k50 hfs (hf.exm (m09.trans m10))).mono ?_))⟩
  rintro v g11 m11 rfl
  have m111 := ((m8.trans m9).trans m10).trans m11
  refine ⟨_, rfl, ifPn (fun q3 => bad g11 (fun hh => q3 hh.2.2.2.1)) (fun q3 => ifT (fun e => ?_) (fun e => ok g11 m111 ⟨q, q1, by omega, q3, fun hh => by rw [e] at hh; cases hh⟩))⟩
  have mi' := mi.ex m111
  refine ⟨_, _, _, _, _, _, _, _, _, mi'.rd0 rfl, mi'.rd (j := 1) rfl, mi'.rd (j := 2) rfl, mi'.rd (j := 3) rfl, mi'.rd (j := 4) rfl, (k31 hr (h.exm (e01.trans m111))).mono ?_⟩
  rintro v g12 m12 rfl
  refine ⟨_, rfl, ?_⟩
  by_cases q4 : recP r
  · rw [tf_of q4]
    exact ok g12 (m111.trans m12) ⟨q, q1, by omega, q3, fun _ => q4⟩
  · rw [tf_no q4]
    exact bad g12 (fun hh => q4 (hh.2.2.2.2 e))
/-- Reason, of the reference. -/
theorem k30 (known : Bool) (hr : recOK r) (hs : s.length ≤ 1048576) (hn : imps.length ≤ 1048576) (hfs : shortL faces) (h : RecI g r ia im ic da dn dc) (hi : SlE strE g a n c imps) (hf : SlE strE g b m d faces) :
    CallsP Tryz.prog 30 #[recV r ia im ic da dn dc, .bool known, .string (bstr s), .slice a n c, .slice b m d] g fun v _ => v = .tuple ⟨[reaV (reasonA r known s imps faces).1, .int .i64 (reasonA r known s imps faces).2]⟩ := by
  refine call30 _ _ _ _ _ _ _ _ _ known _ _ _ _ _ _ _ g _ ?_
  have l1 := hi.len
  have l2 := hf.len
  unfold F30
  intro J hJ g6 m6
  have bad : ∀ g2, ¬ (digestP s ∧ namesP imps ∧ faces.length = imps.length ∧ (∀ d ∈ faces, digestP d) ∧ (known = true → recP r)) → J true g2 := fun g2 hh => hJ true g2 (ifT (fun _ g3 _ => by unfold reasonA; rw [if_neg hh]; rfl) (fun e => by cases e))
  have ok : ∀ g2, Ex g g2 → (digestP s ∧ namesP imps ∧ faces.length = imps.length ∧ (∀ d ∈ faces, digestP d) ∧ (known = true → recP r)) → J false g2 := by
    intro g2 m2 hh
    have eA : reasonA r known s imps faces = (reasonN (if known = true then some r else none) s imps faces, 0) := if_pos hh
    rw [eA] at hJ
    refine hJ false g2 (ifT (fun e => by cases e) (fun _ => ifF (fun e => ?_) (fun e => ?_)))
    · subst e
      exact fun g3 _ => rfl
    · subst e
      refine (k68 (r := r) s (h.exm m2) (hi.exm m2) (hf.exm m2) hh.2.2.1 (hh.2.2.2.2 rfl).2.2.2.2.2.1 (by omega) hr.2.2.1).mono ?_
      rintro v g6 m6 rfl
      exact ⟨_, _, rfl, fun g7 _ => rfl⟩
  clear hJ
  refine (k65 s hs g6).mono ?_
  rintro v g9 m9 rfl
  refine ⟨_, rfl, ifPn (fun q => bad g9 (fun hh => q hh.1)) (fun q => ?_)⟩
  have m09 := m6.trans m9
  refine (k66 (hi.exm m09) (by omega)).mono ?_
  rintro v g10 m10 rfl
  refine ⟨_, rfl, ifPn (fun q1 => bad g10 (fun hh => q1 hh.2.1)) (fun q1 => ifNe (fun q2 => bad g10 (fun hh => q2 (by have := hh.2.2.1; omega))) (fun q2 => (k67 hfs (hf.exm (m09.trans m10))).mono ?_))⟩
  rintro v g11 m11 rfl
  have m111 := (m09.trans m10).trans m11
  refine ⟨_, rfl, ifPn (fun q3 => bad g11 (fun hh => q3 hh.2.2.2.1)) (fun q3 => ifT (fun e => ?_) (fun e => ok g11 m111 ⟨q, q1, by omega, q3, fun hh => by rw [e] at hh; cases hh⟩))⟩
  refine (k32 hr (h.exm m111)).mono ?_
  rintro v g12 m12 rfl
  refine ⟨_, rfl, ?_⟩
  by_cases q4 : recP r
  · rw [tf_of q4]
    exact ok g12 (m111.trans m12) ⟨q, q1, by omega, q3, fun _ => q4⟩
  · rw [tf_no q4]
    exact bad g12 (fun hh => q4 (hh.2.2.2.2 e))
end
end Go.Proofs.YtmkdbndniffkfaaGreatDoor
