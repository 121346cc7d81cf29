/- A mutable row that the library sorts in place. -/
import Derived.Test.YthlcdgpemjdgnaaGreatDoorVfb
import Derived.Sort.OwnSortedInts
set_option linter.unusedVariables false
namespace Go.Vc
open Go Go.RowKit Go.Sort
section
variable {α : Type} [Inhabited α] {enc : α → Value} {w : World} {b m : Nat} {os : Array Obj} {cur : List Value} {e : TypeId}
theorem heap_put (d : Array α) (hb : w.heap[b]? = some (.cells ⟨cur⟩ e (0, 0))) :
    (grow (putRow enc (Sort.ahead w m) b 0 d) os).heap[b]? = some (.cells (putCells enc 0 d ⟨cur⟩) e (0, 0)) := by
  have hlt := heap_lt hb
  rw [heap_grow_old _ _ (by simpa using hlt)]
  show ((w.heap.modify b (onCells (putCells enc 0 d))))[b]? = _
  rw [Array.getElem?_modify, if_pos rfl, hb]
  rfl
theorem put_other (d : Array α) {x : Nat} (hx : x < w.heap.size) (hne : x ≠ b) : (grow (putRow enc (Sort.ahead w m) b 0 d) os).heap[x]? = w.heap[x]? := by
  rw [heap_grow_old _ _ (by simpa using hx)]
  show ((w.heap.modify b (onCells (putCells enc 0 d))))[x]? = _
  rw [Array.getElem?_modify, if_neg (fun h => hne h.symm)]
theorem put_size (d : Array α) : w.heap.size ≤ (grow (putRow enc (Sort.ahead w m) b 0 d) os).heap.size := by
  rw [size_grow, size_putRow]
  exact Nat.le_add_right _ _
theorem put_take (cur : List Value) (ts : List α) (h : ts.length ≤ cur.length) : (putCells enc 0 ts.toArray ⟨cur⟩).toList.take ts.length = ts.map enc := by
  apply List.ext_getElem?
  intro j
  by_cases hj : j < ts.length
  · rw [List.getElem?_take_of_lt hj, Array.getElem?_toList]
    have hc : j < cur.length := by omega
    simp [putCells, hj, List.getElem?_eq_getElem hc]
  · rw [List.getElem?_take_eq_none (by omega), List.getElem?_eq_none (by simp; omega)]
theorem put_len (d : Array α) (cur : List Value) : (putCells enc 0 d ⟨cur⟩).toList.length = cur.length := by simp [putCells]
theorem hold_of {ss : List α} (hb : w.heap[b]? = some (.cells ⟨cur⟩ e (0, 0))) (ht : cur.take ss.length = ss.map enc) : Holds enc w b 0 ss.toArray := by
  intro j hj
  have hj' : j < ss.length := by simpa using hj
  refine ⟨?_, by simp [World.frozen?, hb]⟩
  have h1 : (cur.take ss.length)[j]? = (ss.map enc)[j]? := by rw [ht]
  rw [List.getElem?_take_of_lt hj'] at h1
  simp only [World.cell?, hb, Nat.zero_add]
  simp only [Option.isSome_none, Bool.false_eq_true, if_false]
  rw [List.getElem?_toArray, h1]
  simp [hj']
end
theorem sort_mut {α : Type} [Inhabited α] (enc : α → Value) {P : Program} {k : FuncId} {le : α → α → Bool}
    (H : ∀ (blk off cap : Nat) (zs : List α) (w : World), Holds enc w blk off zs.toArray → blk < w.heap.size → zs.length < 4611686018427387904 →
      Calls P k #[.slice (some ⟨blk, off, none⟩) zs.length cap] w fun e w' => e = .returned (.tuple #[]) ∧ ∃ n os, w' = grow (putRow enc (Sort.ahead w n) blk off (zs.mergeSort le).toArray) os)
    (H0 : ∀ (p : Option Addr) (cap : Nat) (w : World), Calls P k #[.slice p 0 cap] w fun e w' => e = .returned (.tuple #[]) ∧ w' = w)
    {g : G} {B : Nat} {e : TypeId} {a : Option Addr} {n c : Nat} {zs : List α} (h : MutR g B e 1 a n c (zs.map enc)) (hn : n < 4611686018427387904) :
    CallsG P k #[.slice a n c] g (blkOf a) fun v g' => v = .tuple #[] ∧ MutR g' B e 1 a n c ((zs.mergeSort le).map enc) := by
  have hlen : zs.length = n := by have := h.len; simpa using this
  rcases h.row with ⟨rfl, rfl, rfl⟩ | ⟨b, cur, rfl, r1, r2, r3, r4, r5, r6⟩
  · have hz : zs = [] := List.eq_nil_of_length_eq_zero hlen
    subst hz
    refine Calls.mono (H0 none 0 g.w) ?_
    rintro ex w' ⟨rfl, rfl⟩
    exact ⟨_, g, rfl, rfl, Stp.refl _ _ _, rfl, by simpa using h⟩
  · have hb : g.w.heap[b]? = some (.cells ⟨cur⟩ e (0, 0)) := r2.blk
    have hlt := heap_lt hb
    have ht : cur.take zs.length = zs.map enc := by rw [hlen]; simpa using r6
    have hsm : zs.length < 4611686018427387904 := by omega
    have hc := H b 0 c zs g.w (hold_of hb ht) hlt hsm
    rw [hlen] at hc
    refine Calls.mono hc ?_
    rintro ex w' ⟨rfl, m, os, rfl⟩
    have hms : (zs.mergeSort le).length = zs.length := List.length_mergeSort zs
    have hsz := put_size (enc := enc) (w := g.w) (b := b) (m := m) (os := os) (zs.mergeSort le).toArray
    have hother : ∀ x, x < g.w.heap.size → x ≠ b → (grow (putRow enc (Sort.ahead g.w m) b 0 (zs.mergeSort le).toArray) os).heap[x]? = g.w.heap[x]? := fun x hx hne => put_other _ hx hne
    let g' : G := ⟨grow (putRow enc (Sort.ahead g.w m) b 0 (zs.mergeSort le).toArray) os, g.X, g.D, fun x hx => Nat.lt_of_lt_of_le (g.hX x hx) hsz, fun x i hx => Nat.lt_of_lt_of_le (g.hD x i hx) hsz⟩
    have hle : Le g g' := by
      refine ⟨hsz, ?_, ?_, ?_⟩
      rotate_right
      · rintro x o ⟨ty, fr, k1, k2, k3⟩
        have hne : x ≠ b := fun hh => k3 0 (by rw [hh]; exact r2.d 0)
        exact ⟨ty, fr, (hother _ (heap_lt k1) hne).trans k1, k2, k3⟩
      · rintro ad v ⟨k1, k2, k3⟩
        have hx := cell_lt k1
        have hne : ad.block ≠ b := fun hh => k3 (by rw [hh]; exact r2.d _)
        exact ⟨by rw [cell_same (w := g.w) (w' := g'.w) (hother _ hx hne)]; exact k1, k2, k3⟩
      · rintro x mm k ⟨k1, k2, k3⟩
        have hne : x ≠ b := fun hh => k3 (by rw [hh]; exact r2.d _)
        exact ⟨(hother _ (heap_lt k1) hne).trans k1, k2, k3⟩
    refine ⟨_, g', rfl, rfl, ⟨hle, fun _ => Iff.rfl, fun x hx => hother x (g.hX x hx) (fun hh => r2.nx (hh ▸ hx)), rfl, rfl, rfl, fun x hx hn => hother x hx (fun hh => hn ⟨_, rfl, hh.symm⟩), fun _ _ _ _ => Iff.rfl⟩, rfl, ⟨by simp [hms, hlen], .inr ⟨b, (putCells enc 0 (zs.mergeSort le).toArray ⟨cur⟩).toList, rfl, r1, ⟨?_, r2.nx, r2.d⟩, r3, r4, by rw [put_len]; exact r5, ?_⟩⟩⟩
    · exact heap_put _ hb
    · have hcl : (zs.mergeSort le).length ≤ cur.length := by rw [hms, hlen, r5]; omega
      have := put_take (enc := enc) cur (zs.mergeSort le) hcl
      rw [hms, hlen] at this
      simpa using this
theorem CallsG.ghost {P : Program} {k : FuncId} {args : Array Value} {g : G} {M : Nat → Prop} {Q Q' : Value → G → Prop} (h : CallsG P k args g M Q) (hQ : ∀ v g1, Stp g.size M g g1 → Q v g1 → ∃ g', g'.w = g1.w ∧ Stp g.size M g g' ∧ Q' v g') : CallsG P k args g M Q' := by
  refine Calls.mono h ?_
  rintro e w' ⟨v, g1, rfl, rfl, hs, hq⟩
  obtain ⟨g', e1, hs', hq'⟩ := hQ v g1 hs hq
  exact ⟨v, g', rfl, e1, hs', hq'⟩
theorem Stp.froz {B : Nat} {M : Nat → Prop} {g g1 : G} (h : Stp B M g g1) {b : Nat} (hb : B ≤ b ∨ M b) : Stp B M g (g1.froz b) := by
  refine ⟨h.le.trans (froz_le g1 b), h.x, h.keepX, h.os, h.tape, h.output, h.same, fun x hx hm i => ?_⟩
  rw [← h.d x hx hm i]
  constructor
  · exact fun k => k.1
  · intro k
    refine ⟨k, fun e => ?_⟩
    rcases hb with hb | hb
    · omega
    · exact hm (e ▸ hb)
theorem MutR.frozen {g : G} {B : Nat} {e : TypeId} {b : Nat} {n c : Nat} {L : List Value} (h : MutR g B e 1 (some ⟨b, 0, none⟩) n c L) : Sl (g.froz b) 1 (some ⟨b, 0, none⟩) n c L := by
  rcases h.row with ⟨hh, _⟩ | ⟨b', cur, hh, h1, h2, h3, h4, h5, h6⟩
  · cases hh
  · cases hh
    exact h2.froz_sl (by simpa using h6) (by have := h.len; omega) h3 h4
theorem sort_fin {α : Type} [Inhabited α] (enc : α → Value) {P : Program} {k : FuncId} {le : α → α → Bool}
    (H : ∀ (blk off cap : Nat) (zs : List α) (w : World), Holds enc w blk off zs.toArray → blk < w.heap.size → zs.length < 4611686018427387904 →
      Calls P k #[.slice (some ⟨blk, off, none⟩) zs.length cap] w fun e w' => e = .returned (.tuple #[]) ∧ ∃ n os, w' = grow (putRow enc (Sort.ahead w n) blk off (zs.mergeSort le).toArray) os)
    (H0 : ∀ (p : Option Addr) (cap : Nat) (w : World), Calls P k #[.slice p 0 cap] w fun e w' => e = .returned (.tuple #[]) ∧ w' = w)
    {g : G} {B : Nat} {e : TypeId} {a : Option Addr} {n c : Nat} {zs : List α} (h : MutR g B e 1 a n c (zs.map enc)) (hn : n < 4611686018427387904) :
    CallsG P k #[.slice a n c] g (blkOf a) fun v g' => v = .tuple #[] ∧ Sl g' 1 a n c ((zs.mergeSort le).map enc) := by
  refine CallsG.ghost (sort_mut enc H H0 h hn) ?_
  rintro v g1 hs ⟨rfl, hm⟩
  cases a with
  | none =>
    rcases hm.row with ⟨_, rfl, rfl⟩ | ⟨b, cur, hh, _⟩
    · have hl := hm.len
      refine ⟨g1, rfl, hs, rfl, ?_⟩
      rw [List.eq_nil_of_length_eq_zero (show ((zs.mergeSort le).map enc).length = 0 by omega)]
      exact Sl.zero _ _
    · cases hh
  | some ad =>
    rcases hm.row with ⟨hh, _⟩ | ⟨b, cur, hh, _⟩
    · cases hh
    · cases hh
      exact ⟨g1.froz b, rfl, hs.froz (.inr ⟨_, rfl, rfl⟩), rfl, hm.frozen⟩
theorem sle_of_map {α : Type} {E : El α} (enc : α → Value) (hm : E.m = 1) (hE : ∀ g x, E.rep g [enc x] x) {g : G} {a : Option Addr} {n c : Nat} {xs : List α} (h : Sl g 1 a n c (xs.map enc)) : SlE E g a n c xs := by
  refine ⟨⟨_, by rw [hm]; exact h, xs.map fun x => [enc x], ?_, ?_⟩, by have := h.len; simpa using this⟩
  · clear h
    induction xs with
    | nil => rfl
    | cons x r ih => simp [ih]
  · clear h
    induction xs with
    | nil => exact .nil
    | cons x r ih => exact .cons (hE g x) ih
end Go.Vc
