/- The law DigestLists. -/
import Derived.Test.YtmkcffflebdheaaDoorC39f
import Derived.Test.YtmkcffflebdheaaDoorC39a
set_option linter.unusedVariables false
namespace Go.Proofs.YtmkcffflebdheaaDoor
open Go Go.Vc Go.RowKit

/-- What the closure asks of a string. -/
def odd (s : ByteArray) : Prop := (1000 < s.size ∧ s.size < 1048576) ∨ 1048676 < s.size

theorem c19_any (s : ByteArray) (w : World) :
    Calls Tryd.prog 19 #[(.string s)] w fun e w' => ∃ x : Bool, e = .returned (.bool x) ∧ (x = true ↔ odd s) ∧ w' = w := by
  refine (Fl.call19 s w (fun v w' => ∃ x : Bool, v = .bool x ∧ (x = true ↔ odd s) ∧ w' = w) ?_).mono (by rintro e w' ⟨v, rfl, x, rfl, h, rfl⟩; exact ⟨x, rfl, h, rfl⟩)
  unfold Fl.F19 odd
  rw [ifB_iff, ltI_true, ltI_false]
  refine ⟨fun h => ?_, fun h => ⟨_, rfl, by rw [ltI_true]; omega, rfl⟩⟩
  rw [ifB_iff, ltI_true, ltI_false]
  exact ⟨fun h2 => ⟨true, rfl, ⟨fun _ => by omega, fun _ => rfl⟩, rfl⟩, fun h2 => ⟨_, rfl, by rw [ltI_true]; omega, rfl⟩⟩

theorem enters19 : Vc.Enters Tryd.prog 19 := ⟨_, Tryd.func19, by kernel_rfl, by kernel_rfl⟩

theorem c28_any (ss : List ByteArray) (la : Option Addr) (lc : Nat) (w : World) (hS : SlV w la ss.length (ss.map Value.string)) (hlen : ss.length ≤ 4611686018427387904) :
    Calls Tryd.prog 28 #[(.slice la ss.length lc), (.func (.func 19) #[] #[])] w fun e w' => ∃ x : Int, e = .returned (.int .i64 x) ∧ (x < 0 → ∀ s ∈ ss, ¬ odd s) ∧ w' = w := by
  refine (Fl.call28 la ss.length lc 19 #[] w (fun v w' => ∃ x : Int, v = .int .i64 x ∧ (x < 0 → ∀ s ∈ ss, ¬ odd s) ∧ w' = w) ?_).mono (by rintro e w' ⟨v, rfl, x, rfl, h, rfl⟩; exact ⟨x, rfl, h, rfl⟩)
  unfold Fl.F28
  refine ⟨fun v x => ∃ i : Nat, v = i ∧ i ≤ ss.length ∧ (∀ s ∈ ss.take i, ¬ odd s) ∧ x = w, fun v _ => (ss.length - v).toNat, ⟨0, rfl, by omega, by simp, rfl⟩, ?_⟩
  rintro v w1 ⟨i, rfl, hi, hno, hw⟩
  rw [ifB_iff]
  simp only [ltI_true, ltI_false]
  constructor
  · intro hlt
    obtain ⟨ad, rfl, hc⟩ := hS.on (by omega)
    have h1 := hc i (.string ss[i]) (by simp)
    refine ⟨⟨by omega, by omega⟩, ?_⟩
    show ∃ s : ByteArray, _
    refine ⟨ss[i], by rw [Int.toNat_natCast, Nat.mul_one, hw]; exact h1, enters19, ?_⟩
    refine (c19_any ss[i] w1).mono ?_
    rintro _ w2 ⟨x, rfl, hx, h2⟩
    refine ⟨x, rfl, ?_⟩
    rw [ifB_iff]
    refine ⟨fun h => ⟨_, rfl, fun h => by omega, by rw [h2, hw]⟩, fun h => ⟨by unfold InI64; omega, ⟨i + 1, by simp, by omega, ?_, by rw [h2, hw]⟩, by omega⟩⟩
    intro s hs
    rw [take_succ_one ss i ss[i] (by simp), List.mem_append] at hs
    rcases hs with hs | hs
    · exact hno s hs
    · simp only [List.mem_cons, List.not_mem_nil, or_false] at hs
      subst hs
      intro ho
      rw [hx.2 ho] at h
      cases h
  · intro hge
    have : i = ss.length := by omega
    subst this
    rw [List.take_of_length_le (Nat.le_refl _)] at hno
    exact ⟨_, rfl, fun _ => hno, hw⟩

theorem c18_any (ss : List ByteArray) (la : Option Addr) (lc : Nat) (w : World) (hS : SlV w la ss.length (ss.map Value.string)) (hlen : ss.length ≤ 4611686018427387904) :
    Calls Tryd.prog 18 #[(.slice la ss.length lc), (.func (.func 19) #[] #[])] w fun e w' => ∃ x : Bool, e = .returned (.bool x) ∧ (x = false → ∀ s ∈ ss, ¬ odd s) ∧ w' = w := by
  refine (Fl.call18 la ss.length lc 19 #[] w (fun v w' => ∃ x : Bool, v = .bool x ∧ (x = false → ∀ s ∈ ss, ¬ odd s) ∧ w' = w) ?_).mono (by rintro e w' ⟨v, rfl, x, rfl, h, rfl⟩; exact ⟨x, rfl, h, rfl⟩)
  unfold Fl.F18
  refine (c28_any ss la lc w hS hlen).mono ?_
  rintro _ w1 ⟨x, rfl, hx, rfl⟩
  refine ⟨x, rfl, _, rfl, fun h => hx ?_, rfl⟩
  simpa using h

theorem c7_any (ss : List ByteArray) (la : Option Addr) (ll lc : Nat) (w : World) (hS : SlV w la ll (ss.map Value.string)) (hT : Tab w) (hP : PTab w) :
    Calls Tryd.prog 7 #[(.slice la ll lc)] w fun e w' => e = .returned (.bool true) ∧ Below w.heap.size w w' := by
  have hl : ll = ss.length := by have := hS.1; simpa using this.symm
  subst hl
  refine fin (Fl.call7 la ss.length lc w _ ?_)
  unfold Fl.F7
  refine (c8_any w hT).mono ?_
  rintro _ w1 ⟨rfl, f1⟩
  refine ⟨_, rfl, ?_⟩
  rw [ifB_iff]
  refine ⟨fun h => (by cases h), fun _ => ?_⟩
  intro J hJ
  have main : (∀ s ∈ ss, ¬ odd s) → J w1 := by
    intro hno
    have hsz : ∀ s ∈ ss, s.size ≤ 1048676 := fun s hs => by have := hno s hs; unfold odd at this; omega
    apply hJ
    refine (c16_any ss la lc w1 (hS.below f1 (Nat.le_refl _)) hsz (hT.below f1 hT.lt) (hP.below f1 hP.lt)).mono ?_
    rintro e w3 ⟨h1, h2, f3⟩
    replace f3 := f1.trans (f3.mono f1.size)
    have hsmall := listBytes_le ss hsz
    by_cases hg : tooGreat ss
    · refine ⟨_, _, h1 hg, ?_⟩
      refine (c20_any ss la lc w3 (hS.below f3 (Nat.le_refl _)) hsz).mono ?_
      rintro e w4 ⟨h1, h2, f4⟩
      refine ⟨_, _, h1 hg, ?_⟩
      rw [strEq_self, ifB_iff]
      refine ⟨fun _ => ⟨?_, f3.trans (f4.mono f3.size)⟩, fun h => (by cases h)⟩
      simp [eqI]
    · have hlen : ss.length ≤ 1000 := by unfold tooGreat at hg; omega
      refine ⟨_, _, h2 hg, ?_⟩
      refine (c20_any ss la lc w3 (hS.below f3 (Nat.le_refl _)) hsz).mono ?_
      rintro e w4 ⟨h1, h2, f4⟩
      refine ⟨_, _, h2 hg, ?_⟩
      rw [digest_eq _ (by rw [nums_length]; omega), strEq_self, ifB_iff]
      refine ⟨fun _ => ⟨?_, f3.trans (f4.mono f3.size)⟩, fun h => (by cases h)⟩
      simp [eqI]
  simp only [ifB_iff, ltI_true, ltI_false, leI_true, leI_false]
  have ask : ss.length ≤ 1005 → Calls Tryd.prog 18 #[(.slice la ss.length lc), (.func (.func 19) #[] #[])] w1 fun en w5 => ∃ x : Bool, en = .returned (.bool x) ∧ ((x = true → True ∧ Below w.heap.size w w5) ∧ (x = false → J w5)) := by
    intro h
    refine (c18_any ss la lc w1 (hS.below f1 (Nat.le_refl _)) (by omega)).mono ?_
    rintro _ w5 ⟨x, rfl, hx, rfl⟩
    exact ⟨x, rfl, fun _ => ⟨trivial, f1⟩, fun h => main (hx h)⟩
  refine ⟨fun h1 => ⟨fun _ => ⟨trivial, f1⟩, fun h2 => ⟨fun _ => ⟨trivial, f1⟩, fun h3 => ask (by omega)⟩⟩, fun h1 => ⟨fun _ => ⟨trivial, f1⟩, fun h3 => ask (by omega)⟩⟩
end Go.Proofs.YtmkcffflebdheaaDoor
