/- The records of units as they stand, and what Plan says of them. -/
import Derived.Test.YtmkdbndniffkfaaGreatDoorSyb
set_option linter.unusedVariables false
namespace Go.Syn
open Go Go.Vc Go.RowKit

/-- Of records with different names, the one of a name is found. -/
theorem recOf_mem : ∀ {R : List RecD}, (R.map (·.name)).Nodup → ∀ {r : RecD}, r ∈ R → recOf R r.name = some r
  | [], _, r, h => by cases h
  | x :: R, hn, r, h => by
    have hn' := List.nodup_cons.1 (show (x.name :: R.map (·.name)).Nodup from hn)
    unfold recOf
    rw [List.find?_cons]
    rcases List.mem_cons.1 h with e | h
    · rw [e]; simp
    · have hne : ¬ x.name = r.name := fun e => hn'.1 (by rw [e]; exact List.mem_map.2 ⟨r, h, rfl⟩)
      have := recOf_mem hn'.2 h
      unfold recOf at this
      simp [hne]
      simpa using this
/-- The face of a name, by its place. -/
theorem faceOf_at : ∀ {us : List UnitD} {fs : List Lab}, (namesU us).Nodup → ∀ {i : Nat} {u : UnitD} {f : Lab}, us[i]? = some u → fs[i]? = some f → faceOf us fs u.name = f
  | [], _, _, i, _, _, h, _ => by simp at h
  | _ :: _, [], _, i, _, _, _, h => by simp at h
  | x :: us, y :: fs, hn, 0, u, f, h, k => by
    simp at h k
    subst h; subst k
    simp [faceOf]
  | x :: us, y :: fs, hn, i + 1, u, f, h, k => by
    have hn' := List.nodup_cons.1 (show (x.name :: namesU us).Nodup from hn)
    have h' : us[i]? = some u := by simpa using h
    have hne : ¬ x.name = u.name := fun e => hn'.1 (by rw [e]; exact mem_names.2 ⟨u, List.mem_of_getElem? h', rfl⟩)
    rw [faceOf, if_neg hne]
    exact faceOf_at hn'.2 h' (by simpa using k)
theorem planRow_get (L : List UnitD) (R : List RecD) (faces : List Lab) : ∀ (us : List UnitD) (ss : List Lab) {i : Nat} {u : UnitD} {s : Lab}, us[i]? = some u → ss[i]? = some s →
    (planRow L R faces us ss)[i]? = some (reasonN (recOf R u.name) s u.imps (u.imps.map (faceOf L faces)))
  | [], _, i, _, _, h, _ => by simp at h
  | _ :: _, [], i, _, _, _, h => by simp at h
  | x :: us, y :: ss, 0, u, s, h, k => by
    simp at h k
    subst h; subst k
    simp [planRow]
  | x :: us, y :: ss, i + 1, u, s, h, k => by
    have := planRow_get L R faces us ss (i := i) (u := u) (s := s) (by simpa using h) (by simpa using k)
    simpa [planRow] using this
theorem planRow_len (L : List UnitD) (R : List RecD) (faces : List Lab) : ∀ (us : List UnitD) (ss : List Lab), ss.length = us.length → (planRow L R faces us ss).length = us.length
  | [], _, _ => by simp [planRow]
  | _ :: _, [], h => by simp at h
  | x :: us, y :: ss, h => by
    have := planRow_len L R faces us ss (by simpa using h)
    simp [planRow, this]
end Go.Syn
