/- Rows of one's own that the library writes in place: what a call leaves. -/
import Derived.Test.YtkocjbgdmocmlaaGreatDoorVkeys
import Derived.Shelf.Slices.CompactS
import Derived.Shelf.Slices.Cells
set_option linter.unusedVariables false
namespace Go.Vc
open Go Go.RowKit Go.Sort Go.Shelf Go.Proofs

/-- A mutable block has turned. -/
theorem MutB.turn {g : G} {b : Nat} {e : TypeId} {cur cur' : List Value} (h : MutB g b e cur) {w' : World} (hs : g.w.heap.size ≤ w'.heap.size) (hother : ∀ x, x < g.w.heap.size → x ≠ b → w'.heap[x]? = g.w.heap[x]?)
    (hb : w'.heap[b]? = some (.cells ⟨cur'⟩ e (0, 0))) (h1 : w'.os = g.w.os) (h2 : w'.tape = g.w.tape) (h3 : w'.output = g.w.output) : ∃ g', g'.w = w' ∧ Stp g.w.heap.size (fun x => x = b) g g' ∧ MutB g' b e cur' := by
  let g' : G := ⟨w', g.X, g.D, fun x hx => Nat.lt_of_lt_of_le (g.hX x hx) hs, fun x i hx => Nat.lt_of_lt_of_le (g.hD x i hx) hs⟩
  have hle : Le g g' := by
    refine ⟨hs, ?_, ?_, ?_⟩
    rotate_right
    · rintro x o ⟨ty, fr, k1, k2, k3⟩
      have hne : x ≠ b := fun hh => k3 0 (by rw [hh]; exact h.d 0)
      exact ⟨ty, fr, (hother _ (heap_lt k1) hne).trans k1, k2, k3⟩
    · rintro ad v ⟨k1, k2, k3⟩
      have hx := cell_lt k1
      have hne : ad.block ≠ b := fun hh => k3 (by rw [hh]; exact h.d _)
      exact ⟨by rw [cell_same (w := g.w) (w' := g'.w) (hother _ hx hne)]; exact k1, k2, k3⟩
    · rintro x mm k ⟨k1, k2, k3⟩
      have hne : x ≠ b := fun hh => k3 (by rw [hh]; exact h.d _)
      exact ⟨(hother _ (heap_lt k1) hne).trans k1, k2, k3⟩
  exact ⟨g', rfl, ⟨hle, fun _ => Iff.rfl, fun x hx => hother x (g.hX x hx) (fun hh => h.nx (hh ▸ hx)), h1, h2, h3, fun x hx hn => hother x hx hn, fun _ _ _ _ => Iff.rfl⟩, hb, h.nx, h.d⟩
/-- A new row that a call returned, all of it mutable. -/
theorem calls_mut {P : Program} {k : FuncId} {args : Array Value} {g : G} {e : TypeId} {n : Nat} {L : List Value} (h : Calls P k args g.w fun x w' => ∃ v, x = .returned v ∧ Below g.w.heap.size g.w w' ∧ w'.ownsRow g.w.heap.size e 1 v n L) :
    CallsP P k args g fun v g' => ∃ a c, v = .slice a n c ∧ MutR g' g.w.heap.size e 1 a n c L := by
  refine Calls.mono h ?_
  rintro x w' ⟨v, rfl, hb, hl, ⟨rfl, rfl⟩ | ⟨b, cap, cur, rfl, hbb, hheap, hnc, hcm, hcs, hcur⟩⟩
  · have : L = [] := List.eq_nil_of_length_eq_zero (by omega)
    subst this
    have hex : Ex g (g.to w' hb.size) := ⟨hb.size, fun b _ hx => hx, fun b hlt _ => hb.block b hlt, fun b _ _ i => Iff.rfl⟩
    exact ⟨_, g.to w' hb.size, rfl, rfl, ⟨hex.le, fun b => Iff.rfl, fun b hx => hb.block b (g.hX b hx), hb.os, hb.tape, hb.output, fun b hlt _ => hb.block b hlt, fun b hlt _ i => Iff.rfl⟩, none, 0, rfl, MutR.nil _ _ _ _⟩
  · have hbl := heap_lt hheap
    let g' : G := ⟨w', g.X, fun x i => g.D x i ∨ x = b, fun x hx => Nat.lt_of_lt_of_le (g.hX x hx) hb.size, fun x i hx => by
      rcases hx with hx | rfl
      · exact Nat.lt_of_lt_of_le (g.hD x i hx) hb.size
      · exact hbl⟩
    have hex : Ex g g' := ⟨hb.size, fun b _ hx => hx, fun b hlt _ => hb.block b hlt, fun x hlt _ i => ⟨fun hh => hh.elim id (fun e => by omega), .inl⟩⟩
    refine ⟨_, g', rfl, rfl, ⟨hex.le, fun b => Iff.rfl, fun b hx => hb.block b (g.hX b hx), hb.os, hb.tape, hb.output, fun b hlt _ => hb.block b hlt, fun x hlt _ i => ⟨fun hh => hh.elim id (fun e => by have : x < g.w.heap.size := hlt; omega), .inl⟩⟩, _, cap, rfl, ?_⟩
    exact ⟨hl, .inr ⟨b, cur.toList, rfl, hbb, ⟨hheap, fun hx => by have := g.hX b hx; omega, fun i => .inr rfl⟩, hnc, hcm, by simpa using hcs, by simpa using hcur⟩⟩
/-- A mutable row's block is frozen. -/
theorem CallsP.fin_mut {P : Program} {k : FuncId} {args : Array Value} {g : G} {e : TypeId} {Q : Option Addr → Nat → Nat → List Value → Prop} {F : Value → Option Addr → Nat → Nat → Prop} (h : CallsP P k args g fun v g' => ∃ a n c L, F v a n c ∧ Q a n c L ∧ MutR g' g.w.heap.size e 1 a n c L) :
    CallsP P k args g fun v g' => ∃ a n c L, F v a n c ∧ Q a n c L ∧ Sl g' 1 a n c L := by
  refine CallsP.ghost h ?_
  rintro v g1 hs ⟨a, n, c, L, hF, hQ, hm⟩
  rcases hm.row with ⟨rfl, rfl, rfl⟩ | ⟨b, cur, rfl, hge, _⟩
  · have hl := hm.len
    have : L = [] := List.eq_nil_of_length_eq_zero (by omega)
    subst this
    exact ⟨g1, rfl, hs, _, _, _, _, hF, hQ, Sl.zero _ _⟩
  · exact ⟨g1.froz b, rfl, hs.froz (.inl hge), _, _, _, _, hF, hQ, hm.frozen⟩
theorem compact_nil : Lib.compact ([] : List (List UInt8)) = [] := rfl
/-- slices.Compact of the library, at a mutable row of strings. -/
theorem compact_mut {P : Program} {k : FuncId}
    (H : ∀ (blk off cap : Nat) (zs : List (List UInt8)) (w : World), Holds encStr w blk off zs.toArray → zs.length ≤ 9223372036854775807 → zs.length ≤ cap →
      Calls P k #[.slice (some ⟨blk, off, none⟩) zs.length cap] w fun e w' => e = .returned (.slice (some ⟨blk, off, none⟩) (Lib.compact zs).length cap) ∧ ∃ q, w' = putRow encStr (Sort.ahead w q) blk off (Lib.compact zs ++ List.replicate (zs.length - (Lib.compact zs).length) []).toArray)
    (H0 : ∀ (p : Option Addr) (cap : Nat) (w : World), Calls P k #[.slice p 0 cap] w fun e w' => e = .returned (.slice p 0 cap) ∧ w' = w)
    {g : G} {B : Nat} {e : TypeId} {a : Option Addr} {n c : Nat} {zs : List (List UInt8)} (h : MutR g B e 1 a n c (zs.map encStr)) (hn : n ≤ 9223372036854775807) :
    CallsG P k #[.slice a n c] g (blkOf a) fun v g' => v = .slice a (Lib.compact zs).length c ∧ MutR g' B e 1 a (Lib.compact zs).length c ((Lib.compact zs).map encStr) := by
  have hlen : zs.length = n := by have := h.len; simpa using this
  have hcl := Lib.compact_length_le zs
  rcases h.row with ⟨rfl, rfl, rfl⟩ | ⟨b, cur, rfl, r1, r2, r3, r4, r5, r6⟩
  · have hz : zs = [] := List.eq_nil_of_length_eq_zero hlen
    subst hz
    refine Calls.mono (H0 none 0 g.w) ?_
    rintro ex w' ⟨rfl, rfl⟩
    exact ⟨_, g, rfl, rfl, Stp.refl _ _ _, by rw [compact_nil]; rfl, by rw [compact_nil]; exact h⟩
  · have hb : g.w.heap[b]? = some (.cells ⟨cur⟩ e (0, 0)) := r2.blk
    have ht : cur.take zs.length = zs.map encStr := by rw [hlen]; simpa using r6
    have hc := H b 0 c zs g.w (hold_of hb ht) (by omega) (by omega)
    rw [hlen] at hc
    refine Calls.mono hc ?_
    rintro ex w' ⟨rfl, q, rfl⟩
    generalize hd : Lib.compact zs ++ List.replicate (n - (Lib.compact zs).length) [] = d
    have hdl : d.length = n := by rw [← hd]; simp; omega
    have e1 := put_size (enc := encStr) (w := g.w) (b := b) (m := q) (os := #[]) d.toArray
    have e2 := heap_put (enc := encStr) (m := q) (os := #[]) d.toArray hb
    have e3 : ∀ x, x < g.w.heap.size → x ≠ b → _ := fun x hx hne => put_other (enc := encStr) (w := g.w) (m := q) (os := #[]) (b := b) d.toArray hx hne
    rw [grow_empty] at e1 e2
    simp only [grow_empty] at e3
    have e4 : (putCells encStr 0 d.toArray ⟨cur⟩).toList.take (Lib.compact zs).length = (Lib.compact zs).map encStr := by
      have h1 := put_take (enc := encStr) cur d (by rw [r5, hdl]; omega)
      have h2 : (putCells encStr 0 d.toArray ⟨cur⟩).toList.take (Lib.compact zs).length = ((putCells encStr 0 d.toArray ⟨cur⟩).toList.take d.length).take (Lib.compact zs).length := by rw [List.take_take, Nat.min_eq_left (by omega)]
      rw [h2, h1, ← List.map_take, ← hd, List.take_left]
    obtain ⟨g', hw', hs, hm⟩ := r2.turn e1 e3 (cur' := (putCells encStr 0 d.toArray ⟨cur⟩).toList) e2 rfl rfl rfl
    refine ⟨_, g', rfl, hw', hs.mono (Nat.le_refl _) (fun x _ e => ⟨_, rfl, e.symm⟩), rfl, ⟨by simp, .inr ⟨b, _, rfl, r1, hm, by omega, r4, by rw [put_len]; exact r5, by simpa using e4⟩⟩⟩
end Go.Vc
