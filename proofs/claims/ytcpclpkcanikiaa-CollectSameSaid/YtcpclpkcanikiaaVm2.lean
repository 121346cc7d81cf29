/- Maps keyed by numbers, that a function owns. -/
import Derived.Test.YtcpclpkcanikiaaVfa
set_option linter.unusedVariables false
namespace Go.Vc
open Go Go.RowKit Go.Maps Go.ChangeMaps Go.MapKept Go.WideShapes

noncomputable def updI (f : Int → Option Value) (s : Int) (v : Option Value) : Int → Option Value := fun x => @ite _ (x = s) (Classical.propDecidable _) v (f x)
theorem updI_same (f : Int → Option Value) (s : Int) (v : Option Value) : updI f s v s = v := by simp [updI]
theorem updI_other (f : Int → Option Value) {s x : Int} (v : Option Value) (h : x ≠ s) : updI f s v x = f x := by simp [updI, h]

/-- The datum D says what f says. -/
def SaysI (D : DataW Value) (f : Int → Option Value) : Prop := ∀ s, (∀ v, f s = some v → Maps.has D (.int .i64 s) = true ∧ ∀ z, D.atKey (.int .i64 s) z = .held v) ∧ (f s = none → Maps.has D (.int .i64 s) = false)
/-- Block b is a mutable map of at most n entries that holds what f says. -/
structure MapI (P : Program) (g : G) (k : TypeId) (b n : Nat) (f : Int → Option Value) : Prop where
  own : ∃ D, g.w.ownsMap P k heldV b n D ∧ SaysI D f
  nx : ¬ g.X b
  d : g.D b 0

theorem keyI {P : Program} {k : TypeId} (hk : P.underlying k = some (.int .i64)) (s : Int) (hs : (Lit.int .i64 s).wf = true) : keyOf P k (.int .i64 s) = some (.int .i64 s) := keyOf_int_mk hk hs

theorem turn_stpM {g : G} {w' : World} {b : Nat} (h : g.w.mapTurned w' b) (hx : ¬ g.X b) (hd : g.D b 0) : ∃ g' : G, g'.w = w' ∧ (∀ B, Stp B (fun x => x = b) g g') ∧ (¬ g'.X b ∧ g'.D b 0) := by
  have hg := h.grown
  obtain ⟨es, clock, es', clock', hb, hw⟩ := h
  have hs : w'.heap.size = g.w.heap.size := by rw [hw]; simp [setBlock]
  have ho : ∀ x, x ≠ b → w'.heap[x]? = g.w.heap[x]? := fun x hx => by rw [hw]; exact heap_setBlock_other hb _ hx
  let g' : G := ⟨w', g.X, g.D, fun x hx => by rw [hs]; exact g.hX x hx, fun x i hx => by rw [hs]; exact g.hD x i hx⟩
  have hle : Le g g' := by
    refine ⟨by show _ ≤ w'.heap.size; rw [hs]; exact Nat.le_refl _, ?_, ?_⟩
    · rintro a v ⟨h1, h2, h3⟩
      have hne : a.block ≠ b := by
        intro e
        unfold World.cell? at h1
        rw [e, hb] at h1
        cases h1
      exact ⟨by rw [cell_same (w := g.w) (ho _ hne)]; exact h1, h2, h3⟩
    · rintro x m n ⟨h1, h2, h3⟩
      have hne : x ≠ b := fun e => h3 (e ▸ hd)
      exact ⟨(ho _ hne).trans h1, h2, h3⟩
  exact ⟨g', rfl, fun B => ⟨hle, fun _ => Iff.rfl, fun x hx' => ho x (fun e => hx (e ▸ hx')), hg.os, hg.tape, hg.output, fun x _ hn => ho x hn, fun _ _ _ _ => Iff.rfl⟩, hx, hd⟩

namespace MapI
variable {P : Program} {g g' : G} {k : TypeId} {b n : Nat} {f : Int → Option Value}
theorem lt (h : MapI P g k b n f) : b < g.w.heap.size := by obtain ⟨D, h1, _⟩ := h.own; exact h1.lt
theorem but (h : MapI P g k b n f) {p : Nat → Prop} (m : But p g g') (hp : ¬ p b) : MapI P g' k b n f := by
  have hlt := h.lt
  obtain ⟨D, ⟨es, clock, hb, hF, hs, hD⟩, h2⟩ := h.own
  exact ⟨⟨D, ⟨es, clock, (m.same b hlt h.nx hp).trans hb, hF, hs, hD⟩, h2⟩, m.x b hlt h.nx, (m.d b hlt h.nx hp 0).2 h.d⟩
theorem ex (h : MapI P g k b n f) (m : Ex g g') : MapI P g' k b n f := h.but (m.but nobody) (fun h => h)
theorem new (h : NewM g g') (P : Program) (k : TypeId) : MapI P g' k g.w.heap.size 0 (fun _ => none) := by
  refine ⟨⟨.map [], ⟨#[], 0, h.blk, ⟨by simp, stamped_empty 0, by simp⟩, Nat.le_refl _, rfl⟩, fun s => ⟨fun v hv => (by cases hv), fun _ => rfl⟩⟩, h.nx, h.d⟩
theorem congr (h : MapI P g k b n f) {f' : Int → Option Value} (e : ∀ s, f s = f' s) : MapI P g k b n f' := by rw [← funext e]; exact h
theorem mono (h : MapI P g k b n f) {n' : Nat} (hn : n ≤ n') : MapI P g k b n' f := by
  obtain ⟨D, h1, h2⟩ := h.own
  exact ⟨⟨D, h1.mono hn, h2⟩, h.nx, h.d⟩
/-- 'v, ok := m[k]'. -/
theorem lookOk (h : MapI P g k b n f) {t e : TypeId} (hk : P.underlying k = some (.int .i64)) (ht : P.underlying t = some (.map k e)) {z : Value} (hz : (zeroValue e).run P g.w = .ok z g.w) (s : Int) (hs : (Lit.int .i64 s).wf = true) :
    (Instr.lookup t (.map (some b)) (.int .i64 s) true).run P g.w = .ok (match f s with | some v => .tuple #[v, .bool true] | none => .tuple #[z, .bool false]) g.w := by
  obtain ⟨D, hown, hsay⟩ := h.own
  obtain ⟨es, clock, hb, hF, _, rfl⟩ := hown
  rcases Maps.fit_look true (int_keyed hk) ht hz hb hF (keyI hk s hs) with ⟨hrun, _, hat⟩ | ⟨e0, y, _, _, hrun, hRv, hat, _⟩
  · have h0 := Maps.has_false_of_atKey hat
    cases hf : f s with
    | none => exact hrun
    | some v => rw [((hsay s).1 v hf).1] at h0; cases h0
  · have h1 := Maps.has_true_of_atKey hat
    cases hf : f s with
    | none => rw [(hsay s).2 hf] at h1; cases h1
    | some v =>
      have h2 := ((hsay s).1 v hf).2 .nil
      rw [hat] at h2
      cases hRv
      cases h2
      exact hrun
/-- 'm[k]'. -/
theorem look (h : MapI P g k b n f) {t e : TypeId} (hk : P.underlying k = some (.int .i64)) (ht : P.underlying t = some (.map k e)) {z : Value} (hz : (zeroValue e).run P g.w = .ok z g.w) (s : Int) (hs : (Lit.int .i64 s).wf = true) :
    (Instr.lookup t (.map (some b)) (.int .i64 s) false).run P g.w = .ok (match f s with | some v => v | none => z) g.w := by
  obtain ⟨D, hown, hsay⟩ := h.own
  obtain ⟨es, clock, hb, hF, _, rfl⟩ := hown
  rcases Maps.fit_look false (int_keyed hk) ht hz hb hF (keyI hk s hs) with ⟨hrun, _, hat⟩ | ⟨e0, y, _, _, hrun, hRv, hat, _⟩
  · have h0 := Maps.has_false_of_atKey hat
    cases hf : f s with
    | none => exact hrun
    | some v => rw [((hsay s).1 v hf).1] at h0; cases h0
  · have h1 := Maps.has_true_of_atKey hat
    cases hf : f s with
    | none => rw [(hsay s).2 hf] at h1; cases h1
    | some v =>
      have h2 := ((hsay s).1 v hf).2 .nil
      rw [hat] at h2
      cases hRv
      cases h2
      exact hrun
/-- 'm[k] = v'. -/
theorem put (h : MapI P g k b n f) {t e : TypeId} (hk : P.underlying k = some (.int .i64)) (ht : P.underlying t = some (.map k e)) (hn : n < maxLen) (s : Int) (hs : (Lit.int .i64 s).wf = true) (v : Value) {B : Nat} (hB : B ≤ b) :
    ∃ w', (Instr.mapUpdate t (.map (some b)) (.int .i64 s) v).run P g.w = .ok () w' ∧ ∃ g', g'.w = w' ∧ Stp B nobody g g' ∧ MapI P g' k b (n + 1) (updI f s (some v)) ∧ But (fun x => x = b) g g' := by
  obtain ⟨D, hown, hsay⟩ := h.own
  have hD : IsMap D := (hown.tidy (int_keyed hk)).isMap
  obtain ⟨es, clock, hb, hF, hsz, hDe⟩ := hown
  obtain ⟨es', clock', hrun, hF', hput, _⟩ := Maps.fit_store (R' := heldV) (int_keyed hk) ht hb hF (Nat.lt_of_le_of_lt hsz hn) (fun _ _ _ _ hz => hz) (keyI hk s hs) (yv := (.held v, [])) rfl
  obtain ⟨g', h1, h2, h3, h4, h5⟩ := turn_stp (w' := setBlock g.w b (.map es' clock')) ⟨es, clock, es', clock', hb, rfl⟩ h.nx h.d hB
  refine ⟨_, hrun, g', h1, h2, ⟨⟨D.put (.int .i64 s) (.held v), ?_, ?_⟩, h4, h5⟩, h3⟩
  · obtain ⟨w2, r1, r2, _⟩ := World.ownsMap.update (R := heldV) ⟨es, clock, hb, hF, hsz, hDe⟩ (int_keyed hk) ht hn (keyI hk s hs) (val := v) rfl
    rw [h1]
    rw [hrun] at r1
    cases r1
    exact r2
  · intro x
    by_cases hx : x = s
    · subst hx
      rw [updI_same]
      refine ⟨fun u hu => ?_, fun hu => (by cases hu)⟩
      cases hu
      exact ⟨has_put_same hD (show WideAt.IsKeyLit (.int .i64 x) from trivial) _, fun z => atKey_put_same hD (show WideAt.IsKeyLit (.int .i64 x) from trivial) _ _⟩
    · rw [updI_other f _ hx]
      have hne : (Lit.int .i64 x) ≠ .int .i64 s := fun e => hx (by cases e; rfl)
      exact ⟨fun u hu => ⟨by rw [has_put_other hne]; exact ((hsay x).1 u hu).1, fun z => by rw [atKey_put_other hne]; exact ((hsay x).1 u hu).2 z⟩, fun hu => by rw [has_put_other hne]; exact (hsay x).2 hu⟩
/-- 'm[k] = v', with the block named. -/
theorem putM (h : MapI P g k b n f) {t e : TypeId} (hk : P.underlying k = some (.int .i64)) (ht : P.underlying t = some (.map k e)) (hn : n < maxLen) (s : Int) (hs : (Lit.int .i64 s).wf = true) (v : Value) :
    ∃ w', (Instr.mapUpdate t (.map (some b)) (.int .i64 s) v).run P g.w = .ok () w' ∧ ∃ g', g'.w = w' ∧ (∀ B, Stp B (fun x => x = b) g g') ∧ MapI P g' k b (n + 1) (updI f s (some v)) := by
  obtain ⟨D, hown, hsay⟩ := h.own
  have hD : IsMap D := (hown.tidy (int_keyed hk)).isMap
  obtain ⟨es, clock, hb, hF, hsz, hDe⟩ := hown
  obtain ⟨es', clock', hrun, hF', hput, _⟩ := Maps.fit_store (R' := heldV) (int_keyed hk) ht hb hF (Nat.lt_of_le_of_lt hsz hn) (fun _ _ _ _ hz => hz) (keyI hk s hs) (yv := (.held v, [])) rfl
  obtain ⟨g', h1, h2, h4, h5⟩ := turn_stpM (w' := setBlock g.w b (.map es' clock')) ⟨es, clock, es', clock', hb, rfl⟩ h.nx h.d
  refine ⟨_, hrun, g', h1, h2, ⟨⟨D.put (.int .i64 s) (.held v), ?_, ?_⟩, h4, h5⟩⟩
  · obtain ⟨w2, r1, r2, _⟩ := World.ownsMap.update (R := heldV) ⟨es, clock, hb, hF, hsz, hDe⟩ (int_keyed hk) ht hn (keyI hk s hs) (val := v) rfl
    rw [h1]
    rw [hrun] at r1
    cases r1
    exact r2
  · intro x
    by_cases hx : x = s
    · subst hx
      rw [updI_same]
      refine ⟨fun u hu => ?_, fun hu => (by cases hu)⟩
      cases hu
      exact ⟨has_put_same hD (show WideAt.IsKeyLit (.int .i64 x) from trivial) _, fun z => atKey_put_same hD (show WideAt.IsKeyLit (.int .i64 x) from trivial) _ _⟩
    · rw [updI_other f _ hx]
      have hne : (Lit.int .i64 x) ≠ .int .i64 s := fun e => hx (by cases e; rfl)
      exact ⟨fun u hu => ⟨by rw [has_put_other hne]; exact ((hsay x).1 u hu).1, fun z => by rw [atKey_put_other hne]; exact ((hsay x).1 u hu).2 z⟩, fun hu => by rw [has_put_other hne]; exact (hsay x).2 hu⟩
/-- 'delete(m, k)'. -/
theorem del (h : MapI P g k b n f) {t e : TypeId} (hk : P.underlying k = some (.int .i64)) (ht : P.underlying t = some (.map k e)) (s : Int) (hs : (Lit.int .i64 s).wf = true) (ty : TypeId) {B : Nat} (hB : B ≤ b) :
    ∃ w', (Builtin.delete_ #[t, k] ty #[.map (some b), .int .i64 s]).run P g.w = .ok (.tuple #[]) w' ∧ ∃ g', g'.w = w' ∧ Stp B nobody g g' ∧ MapI P g' k b n (updI f s none) ∧ But (fun x => x = b) g g' := by
  obtain ⟨D, hown, hsay⟩ := h.own
  obtain ⟨w', hrun, hown', hturn⟩ := hown.drop (int_keyed hk) ht (keyI hk s hs) ty
  obtain ⟨g', h1, h2, h3, h4, h5⟩ := turn_stp hturn h.nx h.d hB
  refine ⟨w', hrun, g', h1, h2, ⟨⟨D.del (.int .i64 s), by rw [h1]; exact hown', ?_⟩, h4, h5⟩, h3⟩
  intro x
  by_cases hx : x = s
  · subst hx
    rw [updI_same]
    exact ⟨fun u hu => (by cases hu), fun _ => has_del_same⟩
  · rw [updI_other f _ hx]
    have hne : (Lit.int .i64 x) ≠ .int .i64 s := fun e => hx (by cases e; rfl)
    exact ⟨fun u hu => ⟨by rw [has_del_other hne]; exact ((hsay x).1 u hu).1, fun z => by rw [atKey_del_other hne]; exact ((hsay x).1 u hu).2 z⟩, fun hu => by rw [has_del_other hne]; exact (hsay x).2 hu⟩
end MapI
end Go.Vc
