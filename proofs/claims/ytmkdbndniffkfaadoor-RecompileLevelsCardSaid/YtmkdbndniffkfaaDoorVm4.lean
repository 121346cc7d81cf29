/- Maps keyed by strings: a write where the block that turns is named. -/
import Derived.Test.YtmkdbndniffkfaaDoorVmb
set_option linter.unusedVariables false
namespace Go.Vc
open Go Go.RowKit Go.Maps Go.ChangeMaps Go.MapKept Go.WideShapes

theorem MapG.putM {P : Program} {g : G} {k : TypeId} {b n : Nat} {f : List UInt8 → Option Value} (h : MapG P g k b n f) {t e : TypeId} (hk : P.underlying k = some .string) (ht : P.underlying t = some (.map k e)) (hn : n < maxLen) (s : List UInt8) (hs : s.length ≤ maxLen) (v : Value) :
    ∃ w', (Instr.mapUpdate t (.map (some b)) (.string ⟨s.toArray⟩) v).run P g.w = .ok () w' ∧ ∃ g', g'.w = w' ∧ (∀ B, Stp B (fun x => x = b) g g') ∧ MapG P g' k b (n + 1) (upd f s (some v)) := by
  obtain ⟨D, hown, hsay⟩ := h.own
  have hD : IsMap D := (hown.tidy (string_keyed hk)).isMap
  obtain ⟨es, clock, hb, hF, hsz, hDe⟩ := hown
  obtain ⟨es', clock', hrun, hF', hput, _⟩ := Maps.fit_store (R' := heldV) (string_keyed hk) ht hb hF (Nat.lt_of_le_of_lt hsz hn) (fun _ _ _ _ hz => hz) (keyS hk s hs) (yv := (.held v, [])) rfl
  obtain ⟨g', h1, h2, h4, h5⟩ := turn_stpM (w' := setBlock g.w b (.map es' clock')) ⟨es, clock, es', clock', hb, rfl⟩ h.nx h.d
  refine ⟨_, hrun, g', h1, h2, ⟨⟨D.put (.string s) (.held v), ?_, ?_⟩, h4, h5⟩⟩
  · obtain ⟨w2, r1, r2, _⟩ := World.ownsMap.update (R := heldV) ⟨es, clock, hb, hF, hsz, hDe⟩ (string_keyed hk) ht hn (keyS hk s hs) (val := v) rfl
    rw [h1]
    rw [hrun] at r1
    cases r1
    exact r2
  · intro x
    by_cases hx : x = s
    · subst hx
      rw [upd_same]
      refine ⟨fun u hu => ?_, fun hu => (by cases hu)⟩
      cases hu
      exact ⟨has_put_same hD (show WideAt.IsKeyLit (.string x) from trivial) _, fun z => atKey_put_same hD (show WideAt.IsKeyLit (.string x) from trivial) _ _⟩
    · rw [upd_other f _ hx]
      have hne : (Lit.string x) ≠ .string s := fun e => hx (by cases e; rfl)
      exact ⟨fun u hu => ⟨by rw [has_put_other hne]; exact ((hsay x).1 u hu).1, fun z => by rw [atKey_put_other hne]; exact ((hsay x).1 u hu).2 z⟩, fun hu => by rw [has_put_other hne]; exact (hsay x).2 hu⟩
end Go.Vc
