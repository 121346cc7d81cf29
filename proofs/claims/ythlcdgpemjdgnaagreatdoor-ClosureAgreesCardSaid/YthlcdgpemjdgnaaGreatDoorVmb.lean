/- Joined texts. -/
import Derived.Test.YthlcdgpemjdgnaaGreatDoorVfa
import Derived.Maps.RangeWalk
/- Maps keyed by numbers, that a function owns. -/
set_option linter.unusedVariables false
namespace Go.Vc
open Go Go.RowKit Go.Maps Go.ChangeMaps Go.MapKept Go.WideShapes
noncomputable def updI (f : Int → Option Value) (s : Int) (v : Option Value) : Int → Option Value := fun x => @ite _ (x = s) (Classical.propDecidable _) v (f x)
theorem updI_same (f : Int → Option Value) (s : Int) (v : Option Value) : updI f s v s = v := by simp [updI]
theorem updI_other (f : Int → Option Value) {s x : Int} (v : Option Value) (h : x ≠ s) : updI f s v x = f x := by simp [updI, h]
def SaysI (D : DataW Value) (f : Int → Option Value) : Prop := ∀ s, (∀ v, f s = some v → Maps.has D (.int .i64 s) = true ∧ ∀ z, D.atKey (.int .i64 s) z = .held v) ∧ (f s = none → Maps.has D (.int .i64 s) = false)
structure MapI (P : Program) (g : G) (k : TypeId) (b n : Nat) (f : Int → Option Value) : Prop where
  own : ∃ D, g.w.ownsMap P k heldV b n D ∧ SaysI D f
  nx : ¬ g.X b
  d : g.D b 0
theorem keyI {P : Program} {k : TypeId} (hk : P.underlying k = some (.int .i64)) (s : Int) (hs : (Lit.int .i64 s).wf = true) : keyOf P k (.int .i64 s) = some (.int .i64 s) := keyOf_int_mk hk hs
theorem turn_stpM {g : G} {w' : World} {b : Nat} (h : g.w.mapTurned w' b) (hx : ¬ g.X b) (hd : g.D b 0) : ∃ g' : G, g'.w = w' ∧ (∀ B, Stp B (fun x => x = b) g g') ∧ (¬ g'.X b ∧ g'.D b 0) := by
  have hg := h.grown
  obtain ⟨es, clock, es', clock', hb, hw⟩ := h
  have hs : w'.heap.size = g.w.heap.size := by rw [hw]; simp [setBlock]
  have ho : ∀ x, x ≠ b → w'.heap[x]? = g.w.heap[x]? := fun x hx => by rw [hw]; exact heap_setBlock_other hb _ hx
  let g' : G := ⟨w', g.X, g.D, fun x hx => by rw [hs]; exact g.hX x hx, fun x i hx => by rw [hs]; exact g.hD x i hx⟩
  have hle : Le g g' := by
    refine ⟨by show _ ≤ w'.heap.size; rw [hs]; exact Nat.le_refl _, ?_, ?_, ?_⟩
    · rintro a v ⟨h1, h2, h3⟩
      have hne : a.block ≠ b := by
        intro e
        unfold World.cell? at h1
        rw [e, hb] at h1
        cases h1
      exact ⟨by rw [cell_same (w := g.w) (ho _ hne)]; exact h1, h2, h3⟩
    · rintro x m n ⟨h1, h2, h3⟩
      have hne : x ≠ b := fun e => h3 (e ▸ hd)
      exact ⟨(ho _ hne).trans h1, h2, h3⟩
    · rintro x o ⟨ty, fr, h1, h2, h3⟩
      have hne : x ≠ b := fun e => h3 0 (e ▸ hd)
      exact ⟨ty, fr, (ho _ hne).trans h1, h2, h3⟩
  exact ⟨g', rfl, fun B => ⟨hle, fun _ => Iff.rfl, fun x hx' => ho x (fun e => hx (e ▸ hx')), hg.os, hg.tape, hg.output, fun x _ hn => ho x hn, fun _ _ _ _ => Iff.rfl⟩, hx, hd⟩
namespace MapI
variable {P : Program} {g g' : G} {k : TypeId} {b n : Nat} {f : Int → Option Value}
theorem lt (h : MapI P g k b n f) : b < g.w.heap.size := by obtain ⟨D, h1, _⟩ := h.own; exact h1.lt
theorem but (h : MapI P g k b n f) {p : Nat → Prop} (m : But p g g') (hp : ¬ p b) : MapI P g' k b n f := by
  have hlt := h.lt
  obtain ⟨D, ⟨es, clock, hb, hF, hs, hD⟩, h2⟩ := h.own
  exact ⟨⟨D, ⟨es, clock, (m.same b hlt h.nx hp).trans hb, hF, hs, hD⟩, h2⟩, m.x b hlt h.nx, (m.d b hlt h.nx hp 0).2 h.d⟩
theorem ex (h : MapI P g k b n f) (m : Ex g g') : MapI P g' k b n f := h.but (m.but nobody) (fun h => h)
theorem new (h : NewM g g') (P : Program) (k : TypeId) : MapI P g' k g.w.heap.size 0 (fun _ => none) := by
  refine ⟨⟨.map [], ⟨#[], 0, h.blk, ⟨by simp, stamped_empty 0, by simp⟩, Nat.le_refl _, rfl⟩, fun s => ⟨fun v hv => (by cases hv), fun _ => rfl⟩⟩, h.nx, h.d⟩
theorem congr (h : MapI P g k b n f) {f' : Int → Option Value} (e : ∀ s, f s = f' s) : MapI P g k b n f' := by rw [← funext e]; exact h
theorem mono (h : MapI P g k b n f) {n' : Nat} (hn : n ≤ n') : MapI P g k b n' f := by
  obtain ⟨D, h1, h2⟩ := h.own
  exact ⟨⟨D, h1.mono hn, h2⟩, h.nx, h.d⟩
theorem lookOk (h : MapI P g k b n f) {t e : TypeId} (hk : P.underlying k = some (.int .i64)) (ht : P.underlying t = some (.map k e)) {z : Value} (hz : (zeroValue e).run P g.w = .ok z g.w) (s : Int) (hs : (Lit.int .i64 s).wf = true) :
    (Instr.lookup t (.map (some b)) (.int .i64 s) true).run P g.w = .ok (match f s with | some v => .tuple #[v, .bool true] | none => .tuple #[z, .bool false]) g.w := by
  obtain ⟨D, hown, hsay⟩ := h.own
  obtain ⟨es, clock, hb, hF, _, rfl⟩ := hown
  rcases Maps.fit_look true (int_keyed hk) ht hz hb hF (keyI hk s hs) with ⟨hrun, _, hat⟩ | ⟨e0, y, _, _, hrun, hRv, hat, _⟩
  · have h0 := Maps.has_false_of_atKey hat
    cases hf : f s with
    | none => exact hrun
    | some v => rw [((hsay s).1 v hf).1] at h0; cases h0
  · have h1 := Maps.has_true_of_atKey hat
    cases hf : f s with
    | none => rw [(hsay s).2 hf] at h1; cases h1
    | some v =>
      have h2 := ((hsay s).1 v hf).2 .nil
      rw [hat] at h2
      cases hRv
      cases h2
      exact hrun
theorem look (h : MapI P g k b n f) {t e : TypeId} (hk : P.underlying k = some (.int .i64)) (ht : P.underlying t = some (.map k e)) {z : Value} (hz : (zeroValue e).run P g.w = .ok z g.w) (s : Int) (hs : (Lit.int .i64 s).wf = true) :
    (Instr.lookup t (.map (some b)) (.int .i64 s) false).run P g.w = .ok (match f s with | some v => v | none => z) g.w := by
  obtain ⟨D, hown, hsay⟩ := h.own
  obtain ⟨es, clock, hb, hF, _, rfl⟩ := hown
  rcases Maps.fit_look false (int_keyed hk) ht hz hb hF (keyI hk s hs) with ⟨hrun, _, hat⟩ | ⟨e0, y, _, _, hrun, hRv, hat, _⟩
  · have h0 := Maps.has_false_of_atKey hat
    cases hf : f s with
    | none => exact hrun
    | some v => rw [((hsay s).1 v hf).1] at h0; cases h0
  · have h1 := Maps.has_true_of_atKey hat
    cases hf : f s with
    | none => rw [(hsay s).2 hf] at h1; cases h1
    | some v =>
      have h2 := ((hsay s).1 v hf).2 .nil
      rw [hat] at h2
      cases hRv
      cases h2
      exact hrun
theorem put (h : MapI P g k b n f) {t e : TypeId} (hk : P.underlying k = some (.int .i64)) (ht : P.underlying t = some (.map k e)) (hn : n < maxLen) (s : Int) (hs : (Lit.int .i64 s).wf = true) (v : Value) {B : Nat} (hB : B ≤ b) :
    ∃ w', (Instr.mapUpdate t (.map (some b)) (.int .i64 s) v).run P g.w = .ok () w' ∧ ∃ g', g'.w = w' ∧ Stp B nobody g g' ∧ MapI P g' k b (n + 1) (updI f s (some v)) ∧ But (fun x => x = b) g g' := by
  obtain ⟨D, hown, hsay⟩ := h.own
  have hD : IsMap D := (hown.tidy (int_keyed hk)).isMap
  obtain ⟨es, clock, hb, hF, hsz, hDe⟩ := hown
  obtain ⟨es', clock', hrun, hF', hput, _⟩ := Maps.fit_store (R' := heldV) (int_keyed hk) ht hb hF (Nat.lt_of_le_of_lt hsz hn) (fun _ _ _ _ hz => hz) (keyI hk s hs) (yv := (.held v, [])) rfl
  obtain ⟨g', h1, h2, h3, h4, h5⟩ := turn_stp (w' := setBlock g.w b (.map es' clock')) ⟨es, clock, es', clock', hb, rfl⟩ h.nx h.d hB
  refine ⟨_, hrun, g', h1, h2, ⟨⟨D.put (.int .i64 s) (.held v), ?_, ?_⟩, h4, h5⟩, h3⟩
  · obtain ⟨w2, r1, r2, _⟩ := World.ownsMap.update (R := heldV) ⟨es, clock, hb, hF, hsz, hDe⟩ (int_keyed hk) ht hn (keyI hk s hs) (val := v) rfl
    rw [h1]
    rw [hrun] at r1
    cases r1
    exact r2
  · intro x
    by_cases hx : x = s
    · subst hx
      rw [updI_same]
      refine ⟨fun u hu => ?_, fun hu => (by cases hu)⟩
      cases hu
      exact ⟨has_put_same hD (show WideAt.IsKeyLit (.int .i64 x) from trivial) _, fun z => atKey_put_same hD (show WideAt.IsKeyLit (.int .i64 x) from trivial) _ _⟩
    · rw [updI_other f _ hx]
      have hne : (Lit.int .i64 x) ≠ .int .i64 s := fun e => hx (by cases e; rfl)
      exact ⟨fun u hu => ⟨by rw [has_put_other hne]; exact ((hsay x).1 u hu).1, fun z => by rw [atKey_put_other hne]; exact ((hsay x).1 u hu).2 z⟩, fun hu => by rw [has_put_other hne]; exact (hsay x).2 hu⟩
theorem putM (h : MapI P g k b n f) {t e : TypeId} (hk : P.underlying k = some (.int .i64)) (ht : P.underlying t = some (.map k e)) (hn : n < maxLen) (s : Int) (hs : (Lit.int .i64 s).wf = true) (v : Value) :
    ∃ w', (Instr.mapUpdate t (.map (some b)) (.int .i64 s) v).run P g.w = .ok () w' ∧ ∃ g', g'.w = w' ∧ (∀ B, Stp B (fun x => x = b) g g') ∧ MapI P g' k b (n + 1) (updI f s (some v)) := by
  obtain ⟨D, hown, hsay⟩ := h.own
  have hD : IsMap D := (hown.tidy (int_keyed hk)).isMap
  obtain ⟨es, clock, hb, hF, hsz, hDe⟩ := hown
  obtain ⟨es', clock', hrun, hF', hput, _⟩ := Maps.fit_store (R' := heldV) (int_keyed hk) ht hb hF (Nat.lt_of_le_of_lt hsz hn) (fun _ _ _ _ hz => hz) (keyI hk s hs) (yv := (.held v, [])) rfl
  obtain ⟨g', h1, h2, h4, h5⟩ := turn_stpM (w' := setBlock g.w b (.map es' clock')) ⟨es, clock, es', clock', hb, rfl⟩ h.nx h.d
  refine ⟨_, hrun, g', h1, h2, ⟨⟨D.put (.int .i64 s) (.held v), ?_, ?_⟩, h4, h5⟩⟩
  · obtain ⟨w2, r1, r2, _⟩ := World.ownsMap.update (R := heldV) ⟨es, clock, hb, hF, hsz, hDe⟩ (int_keyed hk) ht hn (keyI hk s hs) (val := v) rfl
    rw [h1]
    rw [hrun] at r1
    cases r1
    exact r2
  · intro x
    by_cases hx : x = s
    · subst hx
      rw [updI_same]
      refine ⟨fun u hu => ?_, fun hu => (by cases hu)⟩
      cases hu
      exact ⟨has_put_same hD (show WideAt.IsKeyLit (.int .i64 x) from trivial) _, fun z => atKey_put_same hD (show WideAt.IsKeyLit (.int .i64 x) from trivial) _ _⟩
    · rw [updI_other f _ hx]
      have hne : (Lit.int .i64 x) ≠ .int .i64 s := fun e => hx (by cases e; rfl)
      exact ⟨fun u hu => ⟨by rw [has_put_other hne]; exact ((hsay x).1 u hu).1, fun z => by rw [atKey_put_other hne]; exact ((hsay x).1 u hu).2 z⟩, fun hu => by rw [has_put_other hne]; exact (hsay x).2 hu⟩
end MapI
end Go.Vc
/- A range over a map that is keyed by numbers. -/
set_option linter.unusedVariables false
namespace Go.Vc
open Go Go.RowKit Go.Maps Go.ChangeMaps Go.MapKept Go.WideShapes
structure RngI (P : Program) (g : G) (k : TypeId) (b r n : Nat) (f : Int → Option Value) (left : Int → Bool) (m : Nat) : Prop where
  ex : ∃ D l, g.w.ranges P k heldV b r n D l m ∧ SaysI D f ∧ ∀ s, l (.int .i64 s) = left s
  nxb : ¬ g.X b
  nxr : ¬ g.X r
  dr : ∀ i, g.D r i
def G.turn (g : G) (w' : World) (hs : g.w.heap.size ≤ w'.heap.size) : G := ⟨w', g.X, g.D, fun b hb => Nat.lt_of_lt_of_le (g.hX b hb) hs, fun b i hb => Nat.lt_of_lt_of_le (g.hD b i hb) hs⟩
def G.add (g : G) (w' : World) (r : Nat) (hr : r < w'.heap.size) (hs : g.w.heap.size ≤ w'.heap.size) : G := ⟨w', g.X, fun b i => g.D b i ∨ b = r, fun b hb => Nat.lt_of_lt_of_le (g.hX b hb) hs, fun b i hb => by
  rcases hb with hb | rfl
  · exact Nat.lt_of_lt_of_le (g.hD b i hb) hs
  · exact hr⟩
theorem ranges_at {P : Program} {w : World} {k : TypeId} {b r n : Nat} {D : DataW Value} {l : Lit → Bool} {m : Nat} (h : w.ranges P k heldV b r n D l m) : ∃ a s q c, w.heap[r]? = some (.mapIter a s q c) := by
  obtain ⟨es, clock, since, seen, c0, _, _, _, _, h, _⟩ := h
  exact ⟨_, _, _, _, h⟩
namespace RngI
variable {P : Program} {g g' : G} {k : TypeId} {b r n m : Nat} {f : Int → Option Value} {left : Int → Bool}
theorem lt (h : RngI P g k b r n f left m) : r < g.w.heap.size := by obtain ⟨D, l, h1, _⟩ := h.ex; exact h1.lt
theorem ltb (h : RngI P g k b r n f left m) : b < g.w.heap.size := by obtain ⟨D, l, h1, _⟩ := h.ex; exact h1.owns.lt
theorem ne (h : RngI P g k b r n f left m) : r ≠ b := by obtain ⟨D, l, h1, _⟩ := h.ex; exact h1.ne
theorem but (h : RngI P g k b r n f left m) {p : Nat → Prop} (q : But p g g') (hb : ¬ p b) (hr : ¬ p r) : RngI P g' k b r n f left m := by
  have hlb := h.ltb
  have hlr := h.lt
  obtain ⟨D, l, ⟨es, clock, since, seen, c0, k1, k2, k3, k4, k5, k6⟩, h2, h3⟩ := h.ex
  exact ⟨⟨D, l, ⟨es, clock, since, seen, c0, (q.same b hlb h.nxb hb).trans k1, k2, k3, k4, (q.same r hlr h.nxr hr).trans k5, k6⟩, h2, h3⟩, q.x b hlb h.nxb, q.x r hlr h.nxr, fun i => (q.d r hlr h.nxr hr i).2 (h.dr i)⟩
theorem exm (h : RngI P g k b r n f left m) (q : Ex g g') : RngI P g' k b r n f left m := h.but (q.but nobody) (fun h => h) (fun h => h)
theorem cells (h : RngI P g k b r n f left m) {x : Nat} {c : Array Value} {e : TypeId} {fr : Nat × Nat} (hx : g.w.heap[x]? = some (.cells c e fr)) : x ≠ b ∧ x ≠ r := by
  obtain ⟨D, l, ⟨es, clock, since, seen, c0, k1, k2, k3, k4, k5, k6⟩, h2, h3⟩ := h.ex
  constructor
  · rintro rfl; rw [k1] at hx; cases hx
  · rintro rfl; rw [k5] at hx; cases hx
theorem start (h : MapI P g k b n f) {t e : TypeId} (hk : P.underlying k = some (.int .i64)) (ht : P.underlying t = some (.map k e)) :
    ∃ w', (Instr.range t (.map (some b))).run P g.w = .ok (.pointer (some ⟨g.w.heap.size, 0, none⟩)) w' ∧ ∃ g' m, g'.w = w' ∧ (∀ B, B ≤ g.w.heap.size → Stp B nobody g g') ∧ RngI P g' k b g.w.heap.size n f (fun s => (f s).isSome) m ∧ Ex g g' := by
  obtain ⟨D, hown, hsay⟩ := h.own
  obtain ⟨w', hrun, hrg, hgr, hsz⟩ := hown.range (int_keyed hk) ht
  have hlt := h.lt
  have hle : g.w.heap.size ≤ w'.heap.size := by omega
  have hr : g.w.heap.size < w'.heap.size := by omega
  have hsame : ∀ x, x < g.w.heap.size → w'.heap[x]? = g.w.heap[x]? := fun x hx => hgr.block x hx (by simp)
  have hex : Ex g (g.add w' g.w.heap.size hr hle) := by
    refine ⟨hle, fun x _ hx => hx, fun x hx _ => hsame x hx, fun x hx _ i => ?_⟩
    show (g.D x i ∨ x = g.w.heap.size) ↔ _
    constructor
    · rintro (hh | hh)
      · exact hh
      · omega
    · exact .inl
  refine ⟨w', hrun, g.add w' g.w.heap.size hr hle, Maps.size D, rfl, fun B hB => ⟨hex.le, fun _ => Iff.rfl, fun x hx => hsame x (g.hX x hx), hgr.os, hgr.tape, hgr.output, fun x hx _ => hsame x (by omega), fun x hx _ i => ?_⟩, ⟨⟨D, _, hrg, hsay, fun s => ?_⟩, h.nx, fun hx => absurd (g.hX _ hx) (by simp), fun i => .inr rfl⟩, hex⟩
  · show (g.D x i ∨ x = g.w.heap.size) ↔ _
    constructor
    · rintro (hh | hh)
      · exact hh
      · omega
    · exact .inl
  · cases hf : f s with
    | none => rw [(hsay s).2 hf]; rfl
    | some v => rw [((hsay s).1 v hf).1]; rfl
theorem next (h : RngI P g k b r n f left m) (hk : P.underlying k = some (.int .i64)) (ty : TypeId) :
    ((∀ s, left s = false) ∧ (Instr.next (.pointer (some ⟨r, 0, none⟩)) false ty).run P g.w = .ok (.tuple #[.bool false]) g.w) ∨
    ∃ s v w', (Lit.int .i64 s).wf = true ∧ left s = true ∧ f s = some v ∧ (Instr.next (.pointer (some ⟨r, 0, none⟩)) false ty).run P g.w = .ok (.tuple #[.bool true, .int .i64 s, v]) w' ∧ ∃ g' m', m' < m ∧ g'.w = w' ∧ (∀ B, B ≤ r → Stp B nobody g g') ∧
      RngI P g' k b r n f (fun x => left x && decide (x ≠ s)) m' ∧ But (fun x => x = r) g g' ∧ (Instr.entry (.pointer (some ⟨r, 0, none⟩))).run P w' = .ok (.tuple #[.int .i64 s, v]) w' := by
  have hlt := h.lt
  obtain ⟨D, l, hrg, hsay, hl⟩ := h.ex
  have hne := hrg.ne
  obtain ⟨ia, is, iq, ic, hit⟩ := ranges_at hrg
  rcases hrg.next (int_keyed hk) ty with ⟨_, h0, hrun⟩ | ⟨key, v, kl, y, w', cnt', hkey, hlk, hv, hat, hrun, hrg', hcnt, hgr, hsz, hen⟩
  · exact .inl ⟨fun s => by rw [← hl]; exact h0 _, hrun⟩
  · obtain ⟨s, rfl, rfl, hw⟩ := Maps.keyOf_int_inv hk hkey
    cases hv
    have hh := Maps.has_true_of_atKey hat
    have hfs : f s = some v := by
      cases hf : f s with
      | none => rw [(hsay s).2 hf] at hh; cases hh
      | some u =>
        have h2 := ((hsay s).1 u hf).2 .nil
        rw [hat] at h2
        cases h2
        rfl
    have hle : g.w.heap.size ≤ w'.heap.size := by omega
    have hsame : ∀ x, x < g.w.heap.size → x ≠ r → w'.heap[x]? = g.w.heap[x]? := fun x hx hn => hgr.block x hx (fun e => hn (by cases e; rfl))
    have hbut : But (fun x => x = r) g (g.turn w' hle) := ⟨hle, fun x _ hx => hx, fun x hx _ hn => hsame x hx hn, fun _ _ _ _ _ => Iff.rfl⟩
    have hLe : Le g (g.turn w' hle) := by
      refine ⟨hle, ?_, ?_, ?_⟩
      rotate_right
      · rintro x o ⟨ty, fr, k1, k2, k3⟩
        have hne' : x ≠ r := fun e => k3 0 (by rw [e]; exact h.dr 0)
        exact ⟨ty, fr, (hsame _ (heap_lt k1) hne').trans k1, k2, k3⟩
      · rintro a u ⟨k1, k2, k3⟩
        have hne' : a.block ≠ r := fun e => k3 (by rw [e]; exact h.dr _)
        exact ⟨(cell_same (w := g.w) (w' := w') (hsame _ (cell_lt k1) hne')).trans k1, k2, k3⟩
      · rintro x mm q ⟨k1, k2, k3⟩
        have hne' : x ≠ r := fun e => k3 (by rw [e]; exact h.dr _)
        exact ⟨(hsame _ (heap_lt k1) hne').trans k1, k2, k3⟩
    refine .inr ⟨s, v, w', hw, by rw [← hl]; exact hlk, hfs, hrun, g.turn w' hle, cnt', hcnt, rfl, fun B hB => ⟨hLe, fun _ => Iff.rfl, fun x hx => hsame x (g.hX x hx) (fun e => h.nxr (e ▸ hx)), hgr.os, hgr.tape, hgr.output, fun x hx _ => ?_, fun _ _ _ _ => Iff.rfl⟩, ⟨⟨D, _, hrg', hsay, fun x => ?_⟩, h.nxb, h.nxr, h.dr⟩, hbut, hen⟩
    · exact hsame x (by omega) (by omega)
    · show (l (.int .i64 x) && !(Lit.int .i64 x).sameKey (.int .i64 s)) = (left x && decide (x ≠ s))
      rw [hl]
      congr 1
      by_cases e : x = s
      · subst e
        rw [WideAt.sameKey_self (show WideAt.IsKeyLit (.int .i64 x) from trivial)]
        simp
      · rw [Maps.sameKey_ne (fun hh => e (by cases hh; rfl))]
        simp [e]
end RngI
end Go.Vc
