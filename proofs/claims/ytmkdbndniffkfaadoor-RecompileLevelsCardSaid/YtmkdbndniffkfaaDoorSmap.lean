/- A range over a map that is keyed by strings; how many entries a map has at most. -/
import Derived.Test.YtmkdbndniffkfaaDoorVm4
import Derived.Test.YtmkdbndniffkfaaDoorVmb
import Derived.Test.YtmkdbndniffkfaaDoorSsort
import Derived.Maps.RangeWalk
import Derived.Sort.KeysCollected
set_option linter.unusedVariables false
namespace Go.Vc
open Go Go.RowKit Go.Maps Go.ChangeMaps Go.MapKept Go.WideShapes Go.Syn Go.Proofs Go.Sort

/-- Block r is an iterator over the map in block b, which holds what f says; left: what is still to come; m: how many. -/
structure RngS (P : Program) (g : G) (k : TypeId) (b r n : Nat) (f : List UInt8 → Option Value) (left : List UInt8 → Bool) (m : Nat) : Prop where
  ex : ∃ D l, g.w.ranges P k heldV b r n D l m ∧ Says D f ∧ ∀ s, l (.string s) = left s
  nxb : ¬ g.X b
  nxr : ¬ g.X r
  dr : ∀ i, g.D r i
namespace RngS
variable {P : Program} {g g' : G} {k : TypeId} {b r n m : Nat} {f : List UInt8 → Option Value} {left : List UInt8 → Bool}
theorem lt (h : RngS P g k b r n f left m) : r < g.w.heap.size := by obtain ⟨D, l, h1, _⟩ := h.ex; exact h1.lt
theorem ltb (h : RngS P g k b r n f left m) : b < g.w.heap.size := by obtain ⟨D, l, h1, _⟩ := h.ex; exact h1.owns.lt
theorem ne (h : RngS P g k b r n f left m) : r ≠ b := by obtain ⟨D, l, h1, _⟩ := h.ex; exact h1.ne
theorem but (h : RngS P g k b r n f left m) {p : Nat → Prop} (q : But p g g') (hb : ¬ p b) (hr : ¬ p r) : RngS P g' k b r n f left m := by
  have hlb := h.ltb
  have hlr := h.lt
  obtain ⟨D, l, ⟨es, clock, since, seen, c0, k1, k2, k3, k4, k5, k6⟩, h2, h3⟩ := h.ex
  exact ⟨⟨D, l, ⟨es, clock, since, seen, c0, (q.same b hlb h.nxb hb).trans k1, k2, k3, k4, (q.same r hlr h.nxr hr).trans k5, k6⟩, h2, h3⟩, q.x b hlb h.nxb, q.x r hlr h.nxr, fun i => (q.d r hlr h.nxr hr i).2 (h.dr i)⟩
theorem exm (h : RngS P g k b r n f left m) (q : Ex g g') : RngS P g' k b r n f left m := h.but (q.but nobody) (fun h => h) (fun h => h)
/-- A block of cells is neither of the two. -/
theorem cells (h : RngS P g k b r n f left m) {x : Nat} {c : Array Value} {e : TypeId} {fr : Nat × Nat} (hx : g.w.heap[x]? = some (.cells c e fr)) : x ≠ b ∧ x ≠ r := by
  obtain ⟨D, l, ⟨es, clock, since, seen, c0, k1, k2, k3, k4, k5, k6⟩, h2, h3⟩ := h.ex
  constructor
  · rintro rfl; rw [k1] at hx; cases hx
  · rintro rfl; rw [k5] at hx; cases hx
/-- 'range m'. -/
theorem start (h : MapG P g k b n f) {t e : TypeId} (hk : P.underlying k = some .string) (ht : P.underlying t = some (.map k e)) :
    ∃ w', (Instr.range t (.map (some b))).run P g.w = .ok (.pointer (some ⟨g.w.heap.size, 0, none⟩)) w' ∧ ∃ g' m, g'.w = w' ∧ (∀ B, B ≤ g.w.heap.size → Stp B nobody g g') ∧ RngS P g' k b g.w.heap.size n f (fun s => (f s).isSome) m ∧ Ex g g' := by
  obtain ⟨D, hown, hsay⟩ := h.own
  obtain ⟨w', hrun, hrg, hgr, hsz⟩ := hown.range (string_keyed hk) ht
  have hlt := h.lt
  have hle : g.w.heap.size ≤ w'.heap.size := by omega
  have hr : g.w.heap.size < w'.heap.size := by omega
  have hsame : ∀ x, x < g.w.heap.size → w'.heap[x]? = g.w.heap[x]? := fun x hx => hgr.block x hx (by simp)
  have hex : Ex g (g.add w' g.w.heap.size hr hle) := by
    refine ⟨hle, fun x _ hx => hx, fun x hx _ => hsame x hx, fun x hx _ i => ?_⟩
    show (g.D x i ∨ x = g.w.heap.size) ↔ _
    constructor
    · rintro (hh | hh)
      · exact hh
      · omega
    · exact .inl
  refine ⟨w', hrun, g.add w' g.w.heap.size hr hle, Maps.size D, rfl, fun B hB => ⟨hex.le, fun _ => Iff.rfl, fun x hx => hsame x (g.hX x hx), hgr.os, hgr.tape, hgr.output, fun x hx _ => hsame x (by omega), fun x hx _ i => ?_⟩, ⟨⟨D, _, hrg, hsay, fun s => ?_⟩, h.nx, fun hx => absurd (g.hX _ hx) (by simp), fun i => .inr rfl⟩, hex⟩
  · show (g.D x i ∨ x = g.w.heap.size) ↔ _
    constructor
    · rintro (hh | hh)
      · exact hh
      · omega
    · exact .inl
  · cases hf : f s with
    | none => rw [(hsay s).2 hf]; rfl
    | some v => rw [((hsay s).1 v hf).1]; rfl
/-- The step. -/
theorem next (h : RngS P g k b r n f left m) (hk : P.underlying k = some .string) (ty : TypeId) :
    ((∀ s, left s = false) ∧ (Instr.next (.pointer (some ⟨r, 0, none⟩)) false ty).run P g.w = .ok (.tuple #[.bool false]) g.w) ∨
    ∃ s v w', s.length ≤ maxLen ∧ left s = true ∧ f s = some v ∧ (Instr.next (.pointer (some ⟨r, 0, none⟩)) false ty).run P g.w = .ok (.tuple #[.bool true, .string (bstr s), v]) w' ∧ ∃ g' m', m' < m ∧ g'.w = w' ∧ (∀ B, B ≤ r → Stp B nobody g g') ∧
      RngS P g' k b r n f (fun x => left x && decide (x ≠ s)) m' ∧ But (fun x => x = r) g g' ∧ (Instr.entry (.pointer (some ⟨r, 0, none⟩))).run P w' = .ok (.tuple #[.string (bstr s), v]) w' := by
  have hlt := h.lt
  obtain ⟨D, l, hrg, hsay, hl⟩ := h.ex
  have hne := hrg.ne
  obtain ⟨ia, is, iq, ic, hit⟩ := ranges_at hrg
  rcases hrg.next (string_keyed hk) ty with ⟨_, h0, hrun⟩ | ⟨key, v, kl, y, w', cnt', hkey, hlk, hv, hat, hrun, hrg', hcnt, hgr, hsz, hen⟩
  · exact .inl ⟨fun s => by rw [← hl]; exact h0 _, hrun⟩
  · obtain ⟨s, rfl, rfl, hw⟩ := Maps.keyOf_str hk hkey
    cases hv
    have hh := Maps.has_true_of_atKey hat
    have hfs : f s = some v := by
      cases hf : f s with
      | none => rw [(hsay s).2 hf] at hh; cases hh
      | some u =>
        have h2 := ((hsay s).1 u hf).2 .nil
        rw [hat] at h2
        cases h2
        rfl
    have hle : g.w.heap.size ≤ w'.heap.size := by omega
    have hsame : ∀ x, x < g.w.heap.size → x ≠ r → w'.heap[x]? = g.w.heap[x]? := fun x hx hn => hgr.block x hx (fun e => hn (by cases e; rfl))
    have hbut : But (fun x => x = r) g (g.turn w' hle) := ⟨hle, fun x _ hx => hx, fun x hx _ hn => hsame x hx hn, fun _ _ _ _ _ => Iff.rfl⟩
    have hLe : Le g (g.turn w' hle) := by
      refine ⟨hle, ?_, ?_, ?_⟩
      rotate_right
      · rintro x o ⟨ty, fr, k1, k2, k3⟩
        have hne' : x ≠ r := fun e => k3 0 (by rw [e]; exact h.dr 0)
        exact ⟨ty, fr, (hsame _ (heap_lt k1) hne').trans k1, k2, k3⟩
      · rintro a u ⟨k1, k2, k3⟩
        have hne' : a.block ≠ r := fun e => k3 (by rw [e]; exact h.dr _)
        exact ⟨(cell_same (w := g.w) (w' := w') (hsame _ (cell_lt k1) hne')).trans k1, k2, k3⟩
      · rintro x mm q ⟨k1, k2, k3⟩
        have hne' : x ≠ r := fun e => k3 (by rw [e]; exact h.dr _)
        exact ⟨(hsame _ (heap_lt k1) hne').trans k1, k2, k3⟩
    refine .inr ⟨s, v, w', hw, by rw [← hl]; exact hlk, hfs, hrun, g.turn w' hle, cnt', hcnt, rfl, fun B hB => ⟨hLe, fun _ => Iff.rfl, fun x hx => hsame x (g.hX x hx) (fun e => h.nxr (e ▸ hx)), hgr.os, hgr.tape, hgr.output, fun x hx _ => ?_, fun _ _ _ _ => Iff.rfl⟩, ⟨⟨D, _, hrg', hsay, fun x => ?_⟩, h.nxb, h.nxr, h.dr⟩, hbut, hen⟩
    · exact hsame x (by omega) (by omega)
    · show (l (.string x) && !(Lit.string x).sameKey (.string s)) = (left x && decide (x ≠ s))
      rw [hl]
      congr 1
      by_cases e : x = s
      · subst e
        rw [WideAt.sameKey_self (show WideAt.IsKeyLit (.string x) from trivial)]
        simp
      · rw [Maps.sameKey_ne (fun hh => e (by cases hh; rfl))]
        simp [e]
end RngS
/-- A map has at most as many entries as there are names that it may hold. -/
theorem MapG.tight {P : Program} {g : G} {k : TypeId} {b n : Nat} {f : List UInt8 → Option Value} (h : MapG P g k b n f) (hk : P.underlying k = some .string) {K : List (List UInt8)} (hK : ∀ s, f s ≠ none → s ∈ K) : MapG P g k b K.length f := by
  classical
  obtain ⟨D, hown, hsay⟩ := h.own
  obtain ⟨F, hF1, hF2⟩ : ∃ F : List (List UInt8), F.length ≤ K.length ∧ ∀ s, s ∈ F ↔ f s ≠ none := ⟨K.filter fun s => decide (f s ≠ none), List.length_filter_le _ _, fun s => by
    rw [List.mem_filter]
    constructor
    · rintro ⟨_, h2⟩; simpa using h2
    · intro h2; exact ⟨hK s h2, by simpa using h2⟩⟩
  have hnd : (sortS F).Nodup := (srt_sortS F).imp fun h => klt_ne h
  have hmem : ∀ s, s ∈ sortS F ↔ f s ≠ none := fun s => by rw [mem_sortS, hF2]
  have hperm : (sortS F).Perm (strKeys D) := by
    refine Collected.perm (left := fun _ => false) ⟨hnd, fun x => ?_⟩ hown (string_keyed hk) hk (fun _ => rfl)
    rw [hmem x]
    cases hf : f x with
    | none => simp [(hsay x).2 hf]
    | some u => simp [((hsay x).1 u hf).1]
  have hlen : ∀ l : List (List UInt8), (sortS l).length ≤ l.length := by
    intro l
    have ins : ∀ (s : List UInt8) (l : List (List UInt8)), (insS s l).length ≤ l.length + 1 := by
      intro s l
      induction l with
      | nil => simp [insS]
      | cons x r ih => unfold insS; split <;> (try split) <;> simp_all <;> omega
    induction l with
    | nil => simp [sortS]
    | cons x r ih =>
      have := ins x (sortS r)
      show (insS x (sortS r)).length ≤ _
      simp; omega
  have h1 := hperm.length_eq
  have h2 := hlen F
  obtain ⟨es, clock, hb, hF, hs, hD⟩ := hown
  refine ⟨⟨D, ⟨es, clock, hb, hF, ?_, hD⟩, hsay⟩, h.nx, h.d⟩
  have h4 : (strKeys D).length = es.size := by rw [hD]; simp [strKeys, Go.length_sorted]
  omega
end Go.Vc
