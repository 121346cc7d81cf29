/- Maps keyed by strings, that a function owns. -/
import Derived.Test.YtlofbfbcnlgmaaaVf3
import Derived.Maps.OwnSet
import Derived.Maps.Views
set_option linter.unusedVariables false
namespace Go.Vc
open Go Go.RowKit Go.Maps Go.ChangeMaps Go.MapKept Go.WideShapes

/-- An element as it stands. -/
def heldV (v : Value) : Option (DataW Value × List MemPlace) := some (.held v, [])
noncomputable def upd (f : List UInt8 → Option Value) (s : List UInt8) (v : Option Value) : List UInt8 → Option Value := fun x => @ite _ (x = s) (Classical.propDecidable _) v (f x)
theorem upd_same (f : List UInt8 → Option Value) (s : List UInt8) (v : Option Value) : upd f s v s = v := by simp [upd]
theorem upd_other (f : List UInt8 → Option Value) {s x : List UInt8} (v : Option Value) (h : x ≠ s) : upd f s v x = f x := by simp [upd, h]

/-- The datum D says what f says. -/
def Says (D : DataW Value) (f : List UInt8 → Option Value) : Prop := ∀ s, (∀ v, f s = some v → Maps.has D (.string s) = true ∧ ∀ z, D.atKey (.string s) z = .held v) ∧ (f s = none → Maps.has D (.string s) = false)
/-- Block b is a mutable map of at most n entries that holds what f says. -/
structure MapG (P : Program) (g : G) (k : TypeId) (b n : Nat) (f : List UInt8 → Option Value) : Prop where
  own : ∃ D, g.w.ownsMap P k heldV b n D ∧ Says D f
  nx : ¬ g.X b
  d : g.D b 0

theorem keyS {P : Program} {k : TypeId} (hk : P.underlying k = some .string) (s : List UInt8) (hs : s.length ≤ maxLen) : keyOf P k (.string ⟨s.toArray⟩) = some (.string s) := by
  have := WideMaps.keyOf_string_mk (P := P) (k := k) hk (s := ⟨s.toArray⟩) (by simpa [ByteArray.size] using hs)
  simpa using this

theorem turn_stp {g : G} {w' : World} {b : Nat} {B : Nat} (h : g.w.mapTurned w' b) (hx : ¬ g.X b) (hd : g.D b 0) (hB : B ≤ b) : ∃ g' : G, g'.w = w' ∧ Stp B nobody g g' ∧ But (fun x => x = b) g g' ∧ (¬ g'.X b ∧ g'.D b 0) := by
  have hg := h.grown
  obtain ⟨es, clock, es', clock', hb, hw⟩ := h
  have hs : w'.heap.size = g.w.heap.size := by rw [hw]; simp [setBlock]
  have ho : ∀ x, x ≠ b → w'.heap[x]? = g.w.heap[x]? := fun x hx => by rw [hw]; exact heap_setBlock_other hb _ hx
  let g' : G := ⟨w', g.X, g.D, fun x hx => by rw [hs]; exact g.hX x hx, fun x i hx => by rw [hs]; exact g.hD x i hx⟩
  have hbut : But (fun x => x = b) g g' := ⟨by show _ ≤ w'.heap.size; rw [hs]; exact Nat.le_refl _, fun x _ hx => hx, fun x _ _ hne => ho x hne, fun x _ _ _ i => Iff.rfl⟩
  have hle : Le g g' := by
    refine ⟨hbut.size, ?_, ?_⟩
    · rintro a v ⟨h1, h2, h3⟩
      have hne : a.block ≠ b := by
        intro e
        unfold World.cell? at h1
        rw [e, hb] at h1
        cases h1
      exact ⟨by rw [cell_same (w := g.w) (ho _ hne)]; exact h1, h2, h3⟩
    · rintro x m n ⟨h1, h2, h3⟩
      have hne : x ≠ b := fun e => h3 (e ▸ hd)
      exact ⟨(ho _ hne).trans h1, h2, h3⟩
  refine ⟨g', rfl, ⟨hle, fun _ => Iff.rfl, fun x hx' => ho x (fun e => hx (e ▸ hx')), hg.os, hg.tape, hg.output, fun x hx' _ => ho x (by omega), fun _ _ _ _ => Iff.rfl⟩, hbut, hx, hd⟩

namespace MapG
variable {P : Program} {g g' : G} {k : TypeId} {b n : Nat} {f : List UInt8 → Option Value}
theorem lt (h : MapG P g k b n f) : b < g.w.heap.size := by obtain ⟨D, h1, _⟩ := h.own; exact h1.lt
theorem but (h : MapG P g k b n f) {p : Nat → Prop} (m : But p g g') (hp : ¬ p b) : MapG P g' k b n f := by
  have hlt := h.lt
  obtain ⟨D, ⟨es, clock, hb, hF, hs, hD⟩, h2⟩ := h.own
  exact ⟨⟨D, ⟨es, clock, (m.same b hlt h.nx hp).trans hb, hF, hs, hD⟩, h2⟩, m.x b hlt h.nx, (m.d b hlt h.nx hp 0).2 h.d⟩
theorem ex (h : MapG P g k b n f) (m : Ex g g') : MapG P g' k b n f := h.but (m.but nobody) (fun h => h)
theorem new (h : NewM g g') (P : Program) (k : TypeId) : MapG P g' k g.w.heap.size 0 (fun _ => none) := by
  refine ⟨⟨.map [], ⟨#[], 0, h.blk, ⟨by simp, stamped_empty 0, by simp⟩, Nat.le_refl _, rfl⟩, fun s => ⟨fun v hv => (by cases hv), fun _ => rfl⟩⟩, h.nx, h.d⟩
theorem congr (h : MapG P g k b n f) {f' : List UInt8 → Option Value} (e : ∀ s, f s = f' s) : MapG P g k b n f' := by rw [← funext e]; exact h
theorem mono (h : MapG P g k b n f) {n' : Nat} (hn : n ≤ n') : MapG P g k b n' f := by
  obtain ⟨D, h1, h2⟩ := h.own
  exact ⟨⟨D, h1.mono hn, h2⟩, h.nx, h.d⟩
/-- 'v, ok := m[k]'. -/
theorem lookOk (h : MapG P g k b n f) {t e : TypeId} (hk : P.underlying k = some .string) (ht : P.underlying t = some (.map k e)) {z : Value} (hz : (zeroValue e).run P g.w = .ok z g.w) (s : List UInt8) (hs : s.length ≤ maxLen) :
    (Instr.lookup t (.map (some b)) (.string ⟨s.toArray⟩) true).run P g.w = .ok (match f s with | some v => .tuple #[v, .bool true] | none => .tuple #[z, .bool false]) g.w := by
  obtain ⟨D, hown, hsay⟩ := h.own
  obtain ⟨es, clock, hb, hF, _, rfl⟩ := hown
  rcases Maps.fit_look true (string_keyed hk) ht hz hb hF (keyS hk s hs) with ⟨hrun, _, hat⟩ | ⟨e0, y, _, _, hrun, hRv, hat, _⟩
  · have h0 := Maps.has_false_of_atKey hat
    cases hf : f s with
    | none => exact hrun
    | some v => rw [((hsay s).1 v hf).1] at h0; cases h0
  · have h1 := Maps.has_true_of_atKey hat
    cases hf : f s with
    | none => rw [(hsay s).2 hf] at h1; cases h1
    | some v =>
      have h2 := ((hsay s).1 v hf).2 .nil
      rw [hat] at h2
      cases hRv
      cases h2
      exact hrun
/-- 'm[k]'. -/
theorem look (h : MapG P g k b n f) {t e : TypeId} (hk : P.underlying k = some .string) (ht : P.underlying t = some (.map k e)) {z : Value} (hz : (zeroValue e).run P g.w = .ok z g.w) (s : List UInt8) (hs : s.length ≤ maxLen) :
    (Instr.lookup t (.map (some b)) (.string ⟨s.toArray⟩) false).run P g.w = .ok (match f s with | some v => v | none => z) g.w := by
  obtain ⟨D, hown, hsay⟩ := h.own
  obtain ⟨es, clock, hb, hF, _, rfl⟩ := hown
  rcases Maps.fit_look false (string_keyed hk) ht hz hb hF (keyS hk s hs) with ⟨hrun, _, hat⟩ | ⟨e0, y, _, _, hrun, hRv, hat, _⟩
  · have h0 := Maps.has_false_of_atKey hat
    cases hf : f s with
    | none => exact hrun
    | some v => rw [((hsay s).1 v hf).1] at h0; cases h0
  · have h1 := Maps.has_true_of_atKey hat
    cases hf : f s with
    | none => rw [(hsay s).2 hf] at h1; cases h1
    | some v =>
      have h2 := ((hsay s).1 v hf).2 .nil
      rw [hat] at h2
      cases hRv
      cases h2
      exact hrun
/-- 'm[k] = v'. -/
theorem put (h : MapG P g k b n f) {t e : TypeId} (hk : P.underlying k = some .string) (ht : P.underlying t = some (.map k e)) (hn : n < maxLen) (s : List UInt8) (hs : s.length ≤ maxLen) (v : Value) {B : Nat} (hB : B ≤ b) :
    ∃ w', (Instr.mapUpdate t (.map (some b)) (.string ⟨s.toArray⟩) v).run P g.w = .ok () w' ∧ ∃ g', g'.w = w' ∧ Stp B nobody g g' ∧ MapG P g' k b (n + 1) (upd f s (some v)) ∧ But (fun x => x = b) g g' := by
  obtain ⟨D, hown, hsay⟩ := h.own
  have hD : IsMap D := (hown.tidy (string_keyed hk)).isMap
  obtain ⟨es, clock, hb, hF, hsz, hDe⟩ := hown
  obtain ⟨es', clock', hrun, hF', hput, _⟩ := Maps.fit_store (R' := heldV) (string_keyed hk) ht hb hF (Nat.lt_of_le_of_lt hsz hn) (fun _ _ _ _ hz => hz) (keyS hk s hs) (yv := (.held v, [])) rfl
  obtain ⟨g', h1, h2, h3, h4, h5⟩ := turn_stp (w' := setBlock g.w b (.map es' clock')) ⟨es, clock, es', clock', hb, rfl⟩ h.nx h.d hB
  refine ⟨_, hrun, g', h1, h2, ⟨⟨D.put (.string s) (.held v), ?_, ?_⟩, h4, h5⟩, h3⟩
  · obtain ⟨w2, r1, r2, _⟩ := World.ownsMap.update (R := heldV) ⟨es, clock, hb, hF, hsz, hDe⟩ (string_keyed hk) ht hn (keyS hk s hs) (val := v) rfl
    rw [h1]
    rw [hrun] at r1
    cases r1
    exact r2
  · intro x
    by_cases hx : x = s
    · subst hx
      rw [upd_same]
      refine ⟨fun u hu => ?_, fun hu => (by cases hu)⟩
      cases hu
      exact ⟨has_put_same hD (show WideAt.IsKeyLit (.string x) from trivial) _, fun z => atKey_put_same hD (show WideAt.IsKeyLit (.string x) from trivial) _ _⟩
    · rw [upd_other f _ hx]
      have hne : (Lit.string x) ≠ .string s := fun e => hx (by cases e; rfl)
      exact ⟨fun u hu => ⟨by rw [has_put_other hne]; exact ((hsay x).1 u hu).1, fun z => by rw [atKey_put_other hne]; exact ((hsay x).1 u hu).2 z⟩, fun hu => by rw [has_put_other hne]; exact (hsay x).2 hu⟩
/-- 'delete(m, k)'. -/
theorem del (h : MapG P g k b n f) {t e : TypeId} (hk : P.underlying k = some .string) (ht : P.underlying t = some (.map k e)) (s : List UInt8) (hs : s.length ≤ maxLen) (ty : TypeId) {B : Nat} (hB : B ≤ b) :
    ∃ w', (Builtin.delete_ #[t, k] ty #[.map (some b), .string ⟨s.toArray⟩]).run P g.w = .ok (.tuple #[]) w' ∧ ∃ g', g'.w = w' ∧ Stp B nobody g g' ∧ MapG P g' k b n (upd f s none) ∧ But (fun x => x = b) g g' := by
  obtain ⟨D, hown, hsay⟩ := h.own
  obtain ⟨w', hrun, hown', hturn⟩ := hown.drop (string_keyed hk) ht (keyS hk s hs) ty
  obtain ⟨g', h1, h2, h3, h4, h5⟩ := turn_stp hturn h.nx h.d hB
  refine ⟨w', hrun, g', h1, h2, ⟨⟨D.del (.string s), by rw [h1]; exact hown', ?_⟩, h4, h5⟩, h3⟩
  intro x
  by_cases hx : x = s
  · subst hx
    rw [upd_same]
    exact ⟨fun u hu => (by cases hu), fun _ => has_del_same⟩
  · rw [upd_other f _ hx]
    have hne : (Lit.string x) ≠ .string s := fun e => hx (by cases e; rfl)
    exact ⟨fun u hu => ⟨by rw [has_del_other hne]; exact ((hsay x).1 u hu).1, fun z => by rw [atKey_del_other hne]; exact ((hsay x).1 u hu).2 z⟩, fun hu => by rw [has_del_other hne]; exact (hsay x).2 hu⟩
end MapG
end Go.Vc
