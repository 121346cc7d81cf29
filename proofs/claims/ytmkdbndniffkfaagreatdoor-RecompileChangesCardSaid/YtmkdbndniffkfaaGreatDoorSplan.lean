/- The records of units as they stand, and what Plan says of them. -/
import Derived.Test.YtmkdbndniffkfaaGreatDoorSyb
set_option linter.unusedVariables false
namespace Go.Syn
open Go Go.Vc Go.RowKit

open Classical in
theorem otherF_map (F F' : Lab → Lab) : ∀ l : List Lab, otherF (l.map F) (l.map F') l = l.find? (fun s => decide (F s ≠ F' s))
  | [] => rfl
  | s :: r => by
    rw [List.map_cons, List.map_cons, otherF, List.find?_cons]
    by_cases h : F s = F' s
    · rw [if_pos h, otherF_map F F' r]; simp [h]
    · rw [if_neg h]; simp [h]
/-- The records of units. -/
noncomputable def builtR (F : Lab → Lab) : List UnitD → List Lab → List Lab → List RecD
  | u :: us, s :: ss, f :: fs => ⟨u.name, s, u.imps, u.imps.map F, f⟩ :: builtR F us ss fs
  | _, _, _ => []
theorem builtR_names (F : Lab → Lab) : ∀ (us : List UnitD) (ss fs : List Lab), ss.length = us.length → fs.length = us.length → (builtR F us ss fs).map (·.name) = namesU us
  | [], _, _, _, _ => by simp [builtR, namesU]
  | u :: us, [], _, h, _ => by simp at h
  | u :: us, _ :: _, [], _, h => by simp at h
  | u :: us, s :: ss, f :: fs, h, k => by
    have := builtR_names F us ss fs (by simpa using h) (by simpa using k)
    simp [builtR, namesU] at this ⊢
    exact this
theorem builtR_len (F : Lab → Lab) {us : List UnitD} {ss fs : List Lab} (h : ss.length = us.length) (k : fs.length = us.length) : (builtR F us ss fs).length = us.length := by
  have := congrArg List.length (builtR_names F us ss fs h k)
  simpa [namesU] using this
theorem builtR_mem (F : Lab → Lab) : ∀ (us : List UnitD) (ss fs : List Lab) {r : RecD}, r ∈ builtR F us ss fs → ∃ u ∈ us, ∃ s ∈ ss, ∃ f ∈ fs, r = ⟨u.name, s, u.imps, u.imps.map F, f⟩
  | [], _, _, r, h => by simp [builtR] at h
  | u :: us, [], _, r, h => by simp [builtR] at h
  | u :: us, _ :: _, [], r, h => by simp [builtR] at h
  | u :: us, s :: ss, f :: fs, r, h => by
    rcases List.mem_cons.1 h with e | h
    · exact ⟨u, by simp, s, by simp, f, by simp, e⟩
    · obtain ⟨u', h1, s', h2, f', h3, e⟩ := builtR_mem F us ss fs h
      exact ⟨u', by simp [h1], s', by simp [h2], f', by simp [h3], e⟩
/-- Of records with different names, the one of a name is found. -/
theorem recOf_mem : ∀ {R : List RecD}, (R.map (·.name)).Nodup → ∀ {r : RecD}, r ∈ R → recOf R r.name = some r
  | [], _, r, h => by cases h
  | x :: R, hn, r, h => by
    have hn' := List.nodup_cons.1 (show (x.name :: R.map (·.name)).Nodup from hn)
    unfold recOf
    rw [List.find?_cons]
    rcases List.mem_cons.1 h with e | h
    · rw [e]; simp
    · have hne : ¬ x.name = r.name := fun e => hn'.1 (by rw [e]; exact List.mem_map.2 ⟨r, h, rfl⟩)
      have := recOf_mem hn'.2 h
      unfold recOf at this
      simp [hne]
      simpa using this
/-- The face of a name, by its place. -/
theorem faceOf_at : ∀ {us : List UnitD} {fs : List Lab}, (namesU us).Nodup → ∀ {i : Nat} {u : UnitD} {f : Lab}, us[i]? = some u → fs[i]? = some f → faceOf us fs u.name = f
  | [], _, _, i, _, _, h, _ => by simp at h
  | _ :: _, [], _, i, _, _, _, h => by simp at h
  | x :: us, y :: fs, hn, 0, u, f, h, k => by
    simp at h k
    subst h; subst k
    simp [faceOf]
  | x :: us, y :: fs, hn, i + 1, u, f, h, k => by
    have hn' := List.nodup_cons.1 (show (x.name :: namesU us).Nodup from hn)
    have h' : us[i]? = some u := by simpa using h
    have hne : ¬ x.name = u.name := fun e => hn'.1 (by rw [e]; exact mem_names.2 ⟨u, List.mem_of_getElem? h', rfl⟩)
    rw [faceOf, if_neg hne]
    exact faceOf_at hn'.2 h' (by simpa using k)
theorem planRow_get (L : List UnitD) (R : List RecD) (faces : List Lab) : ∀ (us : List UnitD) (ss : List Lab) {i : Nat} {u : UnitD} {s : Lab}, us[i]? = some u → ss[i]? = some s →
    (planRow L R faces us ss)[i]? = some (reasonN (recOf R u.name) s u.imps (u.imps.map (faceOf L faces)))
  | [], _, i, _, _, h, _ => by simp at h
  | _ :: _, [], i, _, _, _, h => by simp at h
  | x :: us, y :: ss, 0, u, s, h, k => by
    simp at h k
    subst h; subst k
    simp [planRow]
  | x :: us, y :: ss, i + 1, u, s, h, k => by
    have := planRow_get L R faces us ss (i := i) (u := u) (s := s) (by simpa using h) (by simpa using k)
    simpa [planRow] using this
theorem planRow_len (L : List UnitD) (R : List RecD) (faces : List Lab) : ∀ (us : List UnitD) (ss : List Lab), ss.length = us.length → (planRow L R faces us ss).length = us.length
  | [], _, _ => by simp [planRow]
  | _ :: _, [], h => by simp at h
  | x :: us, y :: ss, h => by
    have := planRow_len L R faces us ss (by simpa using h)
    simp [planRow, this]
theorem builtR_get (F : Lab → Lab) : ∀ (us : List UnitD) (ss fs : List Lab), ss.length = us.length → fs.length = us.length → ∀ {i : Nat} {u : UnitD} {s : Lab}, us[i]? = some u → ss[i]? = some s →
    ∃ f, fs[i]? = some f ∧ (⟨u.name, s, u.imps, u.imps.map F, f⟩ : RecD) ∈ builtR F us ss fs
  | [], _, _, _, _, i, _, _, h, _ => by simp at h
  | _ :: _, [], _, _, _, i, _, _, _, h => by simp at h
  | _ :: _, _ :: _, [], _, h, i, _, _, _, _ => by simp at h
  | x :: us, y :: ss, z :: fs, _, _, 0, u, s, h, k => by
    simp at h k
    subst h; subst k
    exact ⟨z, by simp, by simp [builtR]⟩
  | x :: us, y :: ss, z :: fs, h1, h2, i + 1, u, s, h, k => by
    obtain ⟨f, h3, h4⟩ := builtR_get F us ss fs (by simpa using h1) (by simpa using h2) (i := i) (u := u) (s := s) (by simpa using h) (by simpa using k)
    exact ⟨f, by simpa using h3, by simp [builtR, h4]⟩
open Classical in
/-- What Plan says of the records of the units as they were. -/
theorem plan_built {L : List UnitD} (hn : (namesU L).Nodup) {sources faces others changed : List Lab} (h1 : sources.length = L.length) (h2 : faces.length = L.length) {i : Nat} {u : UnitD} {s s' : Lab} (hu : L[i]? = some u) (hs : sources[i]? = some s) (hs' : others[i]? = some s') :
    (planRow L (builtR (faceOf L faces) L sources faces) changed L others)[i]? = some (if s ≠ s' then ⟨2, []⟩ else match u.imps.find? (fun n => decide (faceOf L faces n ≠ faceOf L changed n)) with
      | some n => ⟨4, n⟩
      | none => ⟨0, []⟩) := by
  rw [planRow_get _ _ _ _ _ hu hs']
  obtain ⟨f, hf, hm⟩ := builtR_get (faceOf L faces) L sources faces h1 h2 hu hs
  have hr := recOf_mem (by rw [builtR_names _ _ _ _ h1 h2]; exact hn) hm
  rw [show recOf (builtR (faceOf L faces) L sources faces) u.name = _ from hr]
  unfold reasonN
  simp only [ne_eq, not_true_eq_false, if_false, otherF_map]
  by_cases q : s = s'
  · rw [if_neg (fun h => h q), if_neg (fun h => h q)]
    cases List.find? (fun n => decide ¬faceOf L faces n = faceOf L changed n) u.imps <;> rfl
  · rw [if_pos q, if_pos q]
end Go.Syn
