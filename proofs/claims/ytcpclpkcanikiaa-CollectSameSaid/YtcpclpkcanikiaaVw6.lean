/- Strings appended to a row of bytes. -/
import Derived.Test.YtcpclpkcanikiaaVw5
import Derived.Lib.AppendStr
set_option linter.unusedVariables false
namespace Go.Vc
open Go Go.RowKit
variable {P : Program}

theorem strCells_eq (s : ByteArray) : Lib.strCells s = vs .u8 (nums s.data.toList) := by
  rw [vs_nums, Lib.strCells, Lib.byteCells]

namespace Own
variable {w : World} {B : Nat} {e : TypeId} {a : Option Addr} {l c : Nat} {L : List Value}

/-- APPEND of a string's bytes. -/
theorem appStr {t u : TypeId} (E : Elem P t e 1 1) (hz : (P.info? e).bind (·.zero) = some (.int .u8 0)) (hu : P.underlying u = some .string) (ty : TypeId) (h : Own w B e 1 a l c L) (s : ByteArray)
    (hb : l + s.size ≤ 140737488355328) :
    ∃ a' l' c' w', (Builtin.append_ #[t, u] ty #[.slice a l c, .string s]).run P w = .ok (.slice a' l' c') w' ∧ l' = l + s.size ∧ Own w' B e 1 a' l' c' (L ++ vs .u8 (nums s.data.toList)) ∧ Below B w w' := by
  obtain ⟨i, z, hi, hzz, hs, hby, hzs, hm0⟩ := E.info
  rw [hi] at hz
  simp only [Option.bind_some] at hz
  obtain ⟨v', w', hrun, hown, hgrow, _⟩ := Lib.run_append_own_string (P := P) w B t u ty e i E.und hu hi hz hs hby (.slice a l c) l L h.2 s (by unfold maxLen; omega) hb h.1
  rw [strCells_eq] at hown
  obtain ⟨ao, lo, co, rfl, hlo⟩ : ∃ ao lo co, v' = .slice ao lo co ∧ lo = l + s.size := by
    rcases hown.2 with ⟨hv, h0⟩ | ⟨g, cap, cur, hv, _⟩
    · exact ⟨_, _, _, hv, h0.symm⟩
    · exact ⟨_, _, _, hv, rfl⟩
  subst hlo
  refine ⟨ao, l + s.size, co, w', hrun, rfl, ⟨Nat.le_trans h.1 hgrow.size, hown⟩, ?_⟩
  exact (Below.refl B w).grown hgrow h.1 (fun k hk => (h.2.lt k hk).1)
end Own
end Go.Vc
