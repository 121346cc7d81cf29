/- Joined texts. -/
import Derived.Test.YtmkdbndniffkfaaGreatDoorC41O
import Derived.Test.YtmkdbndniffkfaaGreatDoorSyb
/- Records: digests, names, valid records. -/
set_option linter.unusedVariables false
namespace Go.Proofs.YtmkdbndniffkfaaGreatDoor
open Go Go.Vc Go.RowKit Go.Syn

/-- digest.Valid. -/
theorem k63 (s : Lab) (hs : s.length ≤ 1048576) (g : G) : CallsP Tryz.prog 63 #[.string (bstr s)] g fun v _ => v = .bool (tf (digestP s)) := by
  refine call63 _ g _ ?_
  unfold F63
  rw [size_i]
  refine ⟨fun m i g' => ∃ j : Nat, i = ((j : Nat) : Int) ∧ j + m = s.length ∧ ∀ b ∈ s.take j, hexB b, ⟨s.length, 0, rfl, by omega, by simp⟩, ?_⟩
  rintro m i g1 le ⟨j, rfl, hj, hall⟩
  refine ifLt (fun q => ?_) (fun q g6 _ => ?_)
  · have gj := getD0 (s := s) (i := j) (by omega)
    have hb := bstr_at (s := s) (i := j) (by omega)
    generalize s.getD j 0 = b at gj hb
    have rd : ∀ {K : UInt8 → Prop}, K b → ∃ b', (0 ≤ ((j : Nat) : Int) ∧ (bstr s)[Int.toNat ((j : Nat) : Int)]? = some b') ∧ K b' := fun hk => ⟨b, ⟨by omega, by simpa using hb⟩, hk⟩
    have nh : digestP s → hexB b := fun h => h.1 b (List.mem_of_getElem? gj)
    have step : hexB b → InI64 (((j : Nat) : Int) + 1) ∧ ∃ m_1 : Nat, m_1 < m ∧ ∃ j1 : Nat, ((j : Nat) : Int) + 1 = ((j1 : Nat) : Int) ∧ j1 + m_1 = s.length ∧ ∀ b ∈ s.take j1, hexB b := fun hh => ⟨i64 (by omega) (by omega), m - 1, by omega, j + 1, by omega, by omega, (all_take gj _).2 ⟨hall, hh⟩⟩
    refine rd (ifLt (fun h1 => rd (ifLt (fun h2 g2 _ => vF (fun hh => ?_)) (fun h2 => rd (ifLt (fun h3 g3 _ => vF (fun hh => ?_)) (fun h3 => step (.inr ⟨?_, ?_⟩)))))) (fun h1 => rd (ifLt (fun h2 => rd (ifLt (fun h3 g4 _ => vF (fun hh => ?_)) (fun h3 => rd (ifLt (fun h4 g5 _ => vF (fun hh => ?_)) (fun h4 => step (.inr ⟨?_, ?_⟩)))))) (fun h2 => step (.inl ⟨?_, ?_⟩)))))
    all_goals first
      | omega
      | (have := nh hh; unfold hexB at this; omega)
  · rw [take_all (by omega)] at hall
    rw [tf_eq]
    exact vP ⟨fun hh => ⟨hall, by omega⟩, fun hh => by have := hh.2; omega⟩
def shortL (L : List Lab) : Prop := L.length ≤ 1048576 ∧ ∀ s ∈ L, s.length ≤ 1048576
theorem k85 (s : Lab) (hs : s.length ≤ 1048576) (g : G) : CallsP Tryz.prog 85 #[.string (bstr s)] g fun v _ => v = .bool (tf (¬ digestP s)) := by
  refine call85 _ g _ ?_
  unfold F85
  refine (k63 s hs g).mono ?_
  rintro v g1 m1 rfl
  refine ⟨_, rfl, fun g2 _ => ?_⟩
  rw [tf_not]
/-- digests. -/
theorem k50 {L : List Lab} (hs : shortL L) {a : Option Addr} {n c : Nat} {g : G} (h : SlE strE g a n c L) : CallsP Tryz.prog 50 #[.slice a n c] g fun v _ => v = .bool (tf (∀ s ∈ L, digestP s)) := by
  refine call50 a n c g _ ?_
  have hl := h.len
  have h1 := hs.1
  unfold F50
  refine (kq61x 85 #[] (fun s => ¬ digestP s) L h (by omega) ⟨_, Tryz.func85, by kernel_rfl, by kernel_rfl⟩ (fun g' _ s hm => k85 s (hs.2 s hm) g')).mono ?_
  rintro v g1 m1 rfl
  refine ⟨_, rfl, fun g2 _ => ?_⟩
  rw [tf_not]
  exact vP ⟨fun hh s hm => Classical.byContradiction fun hc => hh ⟨s, hm, hc⟩, fun hh ⟨s, hm, hc⟩ => hc (hh s hm)⟩
/-- names. -/
theorem k64 {L : List Lab} {a : Option Addr} {n c : Nat} {g : G} (h : SlE strE g a n c L) : CallsP Tryz.prog 64 #[.slice a n c] g fun v _ => v = .bool (tf (namesP L)) := by
  refine call64 a n c g _ ?_
  have hl := h.len
  have hc := h.le
  unfold F64
  refine ifLt (fun q g1 _ => vF (fun hh => by have := hh.1; omega)) (fun q => ?_)
  refine ⟨fun m i g' => ∃ j : Nat, i = ((j : Nat) : Int) ∧ j + m = n ∧ (∀ s ∈ L.take j, upperP s) ∧ (L.take j).Nodup, ⟨n, 0, rfl, by omega, by simp, by simp⟩, ?_⟩
  rintro m i g2 le ⟨j, rfl, hj, hall, hnd⟩
  refine ifLt (fun q1 => ⟨⟨by omega, by omega⟩, ?_⟩) (fun q1 g7 _ => ?_)
  · have gj := List.getElem?_eq_getElem (show j < L.length by omega)
    generalize L[j] = s at gj
    have hm := List.mem_of_getElem? gj
    refine rdS (h.mono le) j rfl gj ((kk111 s g2).mono ?_)
    rintro v g3 m3 rfl
    refine ⟨_, rfl, ifPn (fun q2 g4 _ => vF (fun hh => q2 (hh.2.1 s hm))) (fun q2 => ⟨⟨by omega, by omega⟩, ?_⟩)⟩
    have ht := ((h.mono le).exm m3).take (hi := j) (by omega)
    rw [Int.toNat_natCast]
    refine (kk19 (L.take j) s ht (by omega)).mono ?_
    rintro v g5 m5 rfl
    refine ⟨_, rfl, ifP (fun q3 g6 _ => vF (fun hh => ?_)) (fun q3 => ⟨i64 (by omega) (by omega), m - 1, by omega, j + 1, by omega, by omega, (all_take gj _).2 ⟨hall, q2⟩, (nodup_take gj).2 ⟨hnd, q3⟩⟩)⟩
    exact ((nodup_take gj).1 (hh.2.2.sublist (List.take_sublist _ _))).2 q3
  · rw [take_all (by omega)] at hall hnd
    exact vT ⟨by omega, hall, hnd⟩
def recOK (r : RecD) : Prop := r.source.length ≤ 1048576 ∧ r.face.length ≤ 1048576 ∧ r.imps.length ≤ 1048576 ∧ shortL r.digs
section
variable {r : RecD} {ia : Option Addr} {im ic : Nat} {da : Option Addr} {dn dc : Nat} {g : G}
/-- Valid. -/
theorem k31 (hr : recOK r) (h : RecI g r ia im ic da dn dc) : CallsP Tryz.prog 31 #[recV r ia im ic da dn dc] g fun v _ => v = .bool (tf (recP r)) := by
  refine call31 _ _ _ _ _ _ _ _ _ g _ ?_
  have hl := h.imps.len
  have hl2 := h.digs.len
  have h3 := hr.2.2.1
  unfold F31
  refine fun g1 m1 => (kk111 r.name g1).mono ?_
  rintro v g2 m2 rfl
  refine ⟨_, rfl, ifP (fun q1 => (k63 r.source hr.1 g2).mono ?_) (fun q1 g9 _ => vF (fun hh => q1 hh.1))⟩
  rintro v g3 m3 rfl
  refine ⟨_, rfl, ifP (fun q2 => (k63 r.face hr.2.1 g3).mono ?_) (fun q2 g9 _ => vF (fun hh => q2 hh.2.1))⟩
  rintro v g4 m4 rfl
  have m04 := ((m1.trans m2).trans m3).trans m4
  refine ⟨_, rfl, ifP (fun q3 => (k64 (h.imps.exm m04)).mono ?_) (fun q3 g9 _ => vF (fun hh => q3 hh.2.2.1))⟩
  rintro v g5 m5 rfl
  refine ⟨_, rfl, ifP (fun q4 => (kk19 r.imps r.name (h.imps.exm (m04.trans m5)) (by omega)).mono ?_) (fun q4 g9 _ => vF (fun hh => q4 hh.2.2.2.1))⟩
  rintro v g6 m6 rfl
  refine ⟨_, rfl, ifPn (fun q5 => ifEq (fun q6 => (k50 hr.2.2.2 (h.digs.exm ((m04.trans m5).trans m6))).mono ?_) (fun q6 g9 _ => vF (fun hh => q6 (by have := hh.2.2.2.2.2.1; omega)))) (fun q5 g9 _ => vF (fun hh => hh.2.2.2.2.1 q5))⟩
  rintro v g7 m7 rfl
  exact ⟨_, rfl, fun g8 _ => vP ⟨fun hh => ⟨q1, q2, q3, q4, q5, by omega, hh⟩, fun hh => hh.2.2.2.2.2.2⟩⟩
end
end Go.Proofs.YtmkdbndniffkfaaGreatDoor
/- Records: the reason to compile a unit. -/
set_option linter.unusedVariables false
namespace Go.Proofs.YtmkdbndniffkfaaGreatDoor
open Go Go.Vc Go.RowKit Go.Syn

abbrev reaV (x : ReaD) : Value := .agg ⟨[.int .i64 x.op, .string (bstr x.unit)]⟩
theorem other_step {D F I : List Lab} {j : Nat} {d f i : Lab} (hd : D[j]? = some d) (hf : F[j]? = some f) (hi : I[j]? = some i) : otherF (D.drop j) (F.drop j) (I.drop j) = if d = f then otherF (D.drop (j + 1)) (F.drop (j + 1)) (I.drop (j + 1)) else some i := by
  obtain ⟨h1, rfl⟩ := List.getElem?_eq_some_iff.1 hd
  obtain ⟨h2, rfl⟩ := List.getElem?_eq_some_iff.1 hf
  obtain ⟨h3, rfl⟩ := List.getElem?_eq_some_iff.1 hi
  rw [List.drop_eq_getElem_cons h1, List.drop_eq_getElem_cons h2, List.drop_eq_getElem_cons h3, otherF]
theorem other_end {D F I : List Lab} {j : Nat} (h : D.length ≤ j) : otherF (D.drop j) (F.drop j) (I.drop j) = none := by
  rw [List.drop_eq_nil_of_le h]
  cases F.drop j <;> rfl
theorem reason_src {r : RecD} {s : Lab} {I F : List Lab} (h : r.source ≠ s) : reasonN (some r) s I F = ⟨2, []⟩ := if_pos h
theorem reason_imp {r : RecD} {s : Lab} {I F : List Lab} (h : r.source = s) (k : r.imps ≠ I) : reasonN (some r) s I F = ⟨3, []⟩ := (if_neg (fun hh => hh h)).trans (if_pos k)
theorem reason_face {r : RecD} {s : Lab} {I F : List Lab} (h : r.source = s) (k : r.imps = I) {u : Lab} (e : otherF r.digs F I = some u) : reasonN (some r) s I F = ⟨4, u⟩ := by
  refine (if_neg (fun hh => hh h)).trans ((if_neg (fun hh => hh k)).trans ?_)
  rw [e]
theorem reason_fresh {r : RecD} {s : Lab} {I F : List Lab} (h : r.source = s) (k : r.imps = I) (e : otherF r.digs F I = none) : reasonN (some r) s I F = ⟨0, []⟩ := by
  refine (if_neg (fun hh => hh h)).trans ((if_neg (fun hh => hh k)).trans ?_)
  rw [e]
/-- reason: there is no record. -/
theorem k52n (s I F : List UInt8) {imps faces : List Lab} {a b : Option Addr} {n c m d : Nat} (g : G) : CallsP Tryz.prog 52 #[.pointer none, .string (bstr s), .slice a n c, .slice b m d] g fun v _ => v = reaV (reasonN none s imps faces) := by
  refine call52 _ _ _ _ _ _ _ _ g _ ?_
  unfold F52
  exact ifT (fun _ g1 _ g2 _ => rfl) (fun hh => by cases hh)
/-- .. where there is one. -/
theorem k52 {r : RecD} (s : Lab) {imps faces : List Lab} {ia : Option Addr} {im ic : Nat} {da : Option Addr} {dn dc : Nat} {a b : Option Addr} {n c m d : Nat} {g : G} {ad : Addr} (h : RecI g r ia im ic da dn dc)
    (hc : ∀ g', Ex g g' → g'.w.cell? (Addr.add ad 1) = some (.string (bstr r.source)) ∧ g'.w.cell? (Addr.add ad 2) = some (.slice ia im ic) ∧ g'.w.cell? (Addr.add ad 3) = some (.slice da dn dc))
    (hi : SlE strE g a n c imps) (hf : SlE strE g b m d faces) (hl : faces.length = imps.length) (hr : r.digs.length = r.imps.length) (hn : n ≤ 1048576) :
    CallsP Tryz.prog 52 #[.pointer (some ad), .string (bstr s), .slice a n c, .slice b m d] g fun v _ => v = reaV (reasonN (some r) s imps faces) := by
  refine call52 _ _ _ _ _ _ _ _ g _ ?_
  have l1 := hi.len
  have l2 := hf.len
  have l3 := h.digs.len
  have l4 := h.imps.len
  unfold F52
  refine ifT (fun hh => by cases hh) (fun _ g3 m3 => ?_)
  refine ⟨_, (hc g3 m3).1, ?_⟩
  rw [strEq_bstr]
  refine ifPn (fun q g4 _ => by rw [reason_src q]; rfl) (fun q => ?_)
  refine ⟨_, _, _, (hc g3 m3).2.1, (kk21 r.imps imps (h.imps.exm m3) (hi.exm m3)).mono ?_⟩
  rintro v g5 m5 rfl
  refine ⟨_, rfl, ifPn (fun q1 g6 _ => by rw [reason_imp q q1]; rfl) (fun q1 => ?_)⟩
  refine ⟨_, _, _, (hc g5 (m3.trans m5)).2.2, ?_⟩
  have hll : r.imps.length = imps.length := by rw [q1]
  refine ⟨fun m0 i x0 x1 g' => ∃ j : Nat, i = ((j : Nat) : Int) ∧ j + m0 = dn ∧ otherF r.digs faces imps = otherF (r.digs.drop j) (faces.drop j) (imps.drop j), ⟨dn, 0, rfl, by omega, by simp⟩, ?_⟩
  rintro m0 i x0 x1 g7 le ⟨j, rfl, hj, ho⟩
  have le7 : Le g g7 := (m3.trans m5).le.trans le
  refine ifLt (fun q2 => ⟨⟨by omega, by omega⟩, ?_⟩) (fun q2 g9 _ => ?_)
  · have g1' := List.getElem?_eq_getElem (show j < r.digs.length by omega)
    have g2' := List.getElem?_eq_getElem (show j < faces.length by omega)
    have g3' := List.getElem?_eq_getElem (show j < imps.length by omega)
    generalize r.digs[j] = x at g1'
    generalize faces[j] = y at g2'
    generalize imps[j] = z at g3'
    rw [other_step g1' g2' g3'] at ho
    refine rdS (h.digs.mono le7) j rfl g1' ⟨⟨by omega, by omega⟩, rdS (hf.mono le7) j rfl g2' ?_⟩
    rw [strEq_bstr]
    refine ifPn (fun q3 => ⟨⟨by omega, by omega⟩, rdS (hi.mono le7) j rfl g3' (fun g8 _ => ?_)⟩) (fun q3 => ⟨i64 (by omega) (by omega), m0 - 1, by omega, j + 1, by omega, by omega, ?_⟩)
    · rw [if_neg q3] at ho
      rw [reason_face q q1 ho]
    · rw [ho, if_pos q3]
  · rw [other_end (by omega)] at ho
    rw [reason_fresh q q1 ho]
    rfl
section
variable {r : RecD} {ia : Option Addr} {im ic : Nat} {da : Option Addr} {dn dc : Nat} {a b : Option Addr} {n c m d : Nat} {g : G} {s : Lab} {imps faces : List Lab}
end
end Go.Proofs.YtmkdbndniffkfaaGreatDoor
