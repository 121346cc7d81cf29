/- Joined texts. -/
import Derived.Test.YthlcdgpemjdgnaaGreatDoorVfa
import Derived.Test.YthlcdgpemjdgnaaGreatDoorVbits
/- Rows that are written in place: the ghost turns. -/
set_option linter.unusedVariables false
namespace Go.Vc
open Go Go.RowKit
def G.froz (g : G) (b : Nat) : G := ⟨g.w, g.X, fun x i => g.D x i ∧ x ≠ b, g.hX, fun x i h => g.hD x i h.1⟩
theorem Ex.froz {g g' : G} (h : Ex g g') (b : Nat) : Ex (g.froz b) (g'.froz b) :=
  ⟨h.size, h.x, h.same, fun x hx hn i => ⟨fun k => ⟨(h.d x hx hn i).1 k.1, k.2⟩, fun k => ⟨(h.d x hx hn i).2 k.1, k.2⟩⟩⟩
theorem froz_le (g : G) (b : Nat) : Le g (g.froz b) := ⟨Nat.le_refl _, fun a v h => ⟨h.1, h.2.1, fun k => h.2.2 k.1⟩, fun x m n h => ⟨h.1, h.2.1, fun k => h.2.2 k.1⟩, fun x o ⟨ty, fr, h1, h2, h3⟩ => ⟨ty, fr, h1, h2, fun i k => h3 i k.1⟩⟩
theorem CallsP.ghost {P : Program} {k : FuncId} {args : Array Value} {g : G} {Q Q' : Value → G → Prop} (h : CallsP P k args g Q) (hQ : ∀ v g1, Stp g.size nobody g g1 → Q v g1 → ∃ g', g'.w = g1.w ∧ Stp g.size nobody g g' ∧ Q' v g') : CallsP P k args g Q' := by
  refine Calls.mono h ?_
  rintro e w' ⟨v, g1, rfl, rfl, hs, hq⟩
  obtain ⟨g', e1, hs', hq'⟩ := hQ v g1 hs hq
  exact ⟨v, g', rfl, e1, hs', hq'⟩
theorem MutB.froz_sl {g : G} {b : Nat} {e : TypeId} {cur : List Value} (h : MutB g b e cur) {l c : Nat} {L : List Value} (hL : cur.take l = L) (hlen : L.length = l) (hlc : l ≤ c) (hc : c ≤ maxLen) : Sl (g.froz b) 1 (some ⟨b, 0, none⟩) l c L := by
  refine ⟨by omega, hlc, hc, fun h => (by cases h), ?_⟩
  rintro ad rfl2 i v hi
  cases rfl2
  rw [add_row, Nat.zero_add]
  refine ⟨?_, h.nx, fun k => k.2 rfl⟩
  have hb : Blk (g.froz b).w b e cur := h.blk
  rw [hb.cell]
  rw [← hL, List.getElem?_take] at hi
  split at hi
  · exact hi
  · cases hi
end Go.Vc
/- Own rows that are written in place and appended to. -/
set_option linter.unusedVariables false
namespace Go.Vc
open Go Go.RowKit
structure MutR (g : G) (B : Nat) (e : TypeId) (m : Nat) (a : Option Addr) (n c : Nat) (L : List Value) : Prop where
  len : L.length = n * m
  row : a = none ∧ n = 0 ∧ c = 0 ∨ ∃ b cur, a = some ⟨b, 0, none⟩ ∧ B ≤ b ∧ MutB g b e cur ∧ n ≤ c ∧ c ≤ maxLen ∧ cur.length = c * m ∧ cur.take (n * m) = L
namespace MutR
variable {P : Program} {g g' : G} {B : Nat} {e : TypeId} {m : Nat} {a : Option Addr} {n c : Nat} {L : List Value}
theorem nil (g : G) (B : Nat) (e : TypeId) (m : Nat) : MutR g B e m none 0 0 [] := ⟨by simp, .inl ⟨rfl, rfl, rfl⟩⟩
theorem but (h : MutR g B e m a n c L) {p : Nat → Prop} (k : But p g g') (hp : ∀ b, blkOf a b → ¬ p b) : MutR g' B e m a n c L := by
  rcases h.row with hr | ⟨b, cur, rfl, h1, h2, h3, h4, h5, h6⟩
  · exact ⟨h.len, .inl hr⟩
  · exact ⟨h.len, .inr ⟨b, cur, rfl, h1, h2.but k (hp b ⟨_, rfl, rfl⟩), h3, h4, h5, h6⟩⟩
theorem ex (h : MutR g B e m a n c L) (k : Ex g g') : MutR g' B e m a n c L := h.but (k.but nobody) (fun _ _ h => h)
theorem lt (h : MutR g B e m a n c L) {z : Nat} (hz : blkOf a z) : z < g.w.heap.size := by
  obtain ⟨ad, rfl, rfl⟩ := hz
  rcases h.row with ⟨hh, _⟩ | ⟨b, cur, hh, _, h2, _⟩
  · cases hh
  · cases hh; exact h2.lt
theorem ge (h : MutR g B e m a n c L) {z : Nat} (hz : blkOf a z) : B ≤ z := by
  obtain ⟨ad, rfl, rfl⟩ := hz
  rcases h.row with ⟨hh, _⟩ | ⟨b, cur, hh, h1, _⟩
  · cases hh
  · cases hh; exact h1
theorem nx (h : MutR g B e m a n c L) {z : Nat} (hz : blkOf a z) : ¬ g.X z := by
  obtain ⟨ad, rfl, rfl⟩ := hz
  rcases h.row with ⟨hh, _⟩ | ⟨b, cur, hh, _, h2, _⟩
  · cases hh
  · cases hh; exact h2.nx
theorem melt {g0 g1 : G} (hw : g0.w = g.w) (hX : ∀ z, g0.X z ↔ g.X z) (hD : ∀ z i, ¬ blkOf a z → (g0.D z i ↔ g.D z i)) (hd : ∀ z, blkOf a z → ∀ i, g.D z i) (hle : ∀ z i, g0.D z i → g.D z i) {a' : Option Addr} {n' c' : Nat} {L' : List Value}
    (hs : Stp B nobody g0 g1) (ho : OwnG g1 B e m a' n' c' L') (hst : Stp g0.w.heap.size (blkOf a) g0 g1) (hl : ∀ b, blkOf a' b → blkOf a b ∨ g0.w.heap.size ≤ b) (hB : ∀ b, blkOf a b → B ≤ b) (hB0 : B ≤ g.w.heap.size) :
    ∃ g', g'.w = g1.w ∧ Stp B nobody g g' ∧ MutR g' B e m a' n' c' L' ∧ Stp g.w.heap.size (blkOf a) g g' := by
  have hsz : g0.w.heap.size = g.w.heap.size := by rw [hw]
  rw [hsz] at hst hl
  have hge1 : g.w.heap.size ≤ g1.w.heap.size := by rw [← hsz]; exact hs.le.size
  have hlt' : ∀ z, blkOf a' z → z < g1.w.heap.size := fun z hz => by
    rcases ho.row with ⟨rfl, _⟩ | ⟨b, cur, rfl, _, hb, _⟩
    · obtain ⟨_, hh, _⟩ := hz; cases hh
    · obtain ⟨_, hh, rfl⟩ := hz; cases hh; exact heap_lt hb
  let g' : G := ⟨g1.w, g1.X, fun x i => g1.D x i ∨ blkOf a' x ∨ (blkOf a x ∧ x < g.w.heap.size), g1.hX, fun x i hh => by
    rcases hh with hh | hh | hh
    · exact g1.hD x i hh
    · exact hlt' x hh
    · exact Nat.lt_of_lt_of_le hh.2 hge1⟩
  have hd' : ∀ x, x < g.w.heap.size → ¬ blkOf a x → ∀ i, (g'.D x i ↔ g.D x i) := by
    intro x hx hn i
    have h1 := hst.d x hx hn i
    rw [hD x i hn] at h1
    show (g1.D x i ∨ blkOf a' x ∨ (blkOf a x ∧ x < g.w.heap.size)) ↔ _
    rw [h1]
    constructor
    · rintro (k | k | k)
      · exact k
      · rcases hl x k with k | k
        · exact absurd k hn
        · omega
      · exact absurd k.1 hn
    · exact .inl
  have hsame : ∀ x, x < g.w.heap.size → ¬ blkOf a x → g1.w.heap[x]? = g.w.heap[x]? := fun x hx hn => by rw [hst.same x hx hn, hw]
  have hx' : ∀ z, g1.X z ↔ g.X z := fun z => (hs.x z).trans (hX z)
  have le' : Le g g' := by
    refine ⟨hge1, ?_, ?_, ?_⟩
    rotate_right
    · rintro x o ⟨ty, fr, k1, k2, k3⟩
      have hlt := heap_lt k1
      have hn : ¬ blkOf a x := fun hh => k3 0 (hd _ hh 0)
      exact ⟨ty, fr, (hsame _ hlt hn).trans k1, fun hh => k2 ((hx' _).1 hh), fun i hh => k3 i ((hd' _ hlt hn _).1 hh)⟩
    · rintro ad v ⟨k1, k2, k3⟩
      have hlt := cell_lt k1
      have hn : ¬ blkOf a ad.block := fun hh => k3 (hd _ hh _)
      exact ⟨by rw [cell_same (w := g.w) (w' := g1.w) (hsame _ hlt hn)]; exact k1, fun hh => k2 ((hx' _).1 hh), fun hh => k3 ((hd' _ hlt hn _).1 hh)⟩
    · rintro x mm k ⟨k1, k2, k3⟩
      have hlt := heap_lt k1
      have hn : ¬ blkOf a x := fun hh => k3 (hd _ hh _)
      exact ⟨(hsame _ hlt hn).trans k1, fun hh => k2 ((hx' _).1 hh), fun hh => k3 ((hd' _ hlt hn _).1 hh)⟩
  refine ⟨g', rfl, ⟨le', hx', fun b hb => by rw [hs.keepX b ((hX b).2 hb), hw], by rw [hs.os, hw], by rw [hs.tape, hw], by rw [hs.output, hw], fun b hb _ => by rw [hs.same b hb (fun h => h), hw], ?_⟩, ⟨ho.len, ?_⟩, ⟨le', hx', fun b hb => by rw [hs.keepX b ((hX b).2 hb), hw], by rw [hs.os, hw], by rw [hs.tape, hw], by rw [hs.output, hw], fun b hb hn => hsame b hb hn, fun b hb hn i => hd' b hb hn i⟩⟩
  · intro b hb _ i
    by_cases hn : blkOf a b
    · have := hB b hn; omega
    · exact hd' b (by omega) hn i
  · rcases ho.row with hr | ⟨b, cur, rfl, h1, h2, h3, h4, h5, h6, h7, _, _⟩
    · exact .inl hr
    · exact .inr ⟨b, cur.toList, rfl, h1, ⟨h2, h7, fun i => .inr (.inl ⟨_, rfl, rfl⟩)⟩, h3, h4, by simpa using h5, h6⟩
theorem app {t : TypeId} {bytes : Nat} (E : Elem P t e m bytes) (ty : TypeId) (hB : B ≤ g.w.heap.size) (h : MutR g B e m a n c L) {na : Option Addr} {k cn : Nat} {N : List Value} (hN : Sl g m na k cn N) (h1 : ∀ u ∈ N, u.oneCell' = true)
    (hb : (n + k) * bytes ≤ 140737488355328) (hm : n + k ≤ maxLen) :
    ∃ a' c' w', (Builtin.append_ #[t, t] ty #[.slice a n c, .slice na k cn]).run P g.w = .ok (.slice a' (n + k) c') w' ∧ ∃ g', g'.w = w' ∧ Stp B nobody g g' ∧ MutR g' B e m a' (n + k) c' (L ++ N) ∧ Stp g.w.heap.size (blkOf a) g g' ∧ (∀ b, blkOf a' b → blkOf a b ∨ g.w.heap.size ≤ b) := by
  rcases h.row with ⟨rfl, rfl, rfl⟩ | ⟨b, cur, rfl, r1, r2, r3, r4, r5, r6⟩
  · have hL : L = [] := List.eq_nil_of_length_eq_zero (by rw [h.len]; omega)
    subst hL
    obtain ⟨a', c', w', hr, g1, hw, hs, ho, hst, hl⟩ := OwnG.app E ty hB (OwnG.nil g B e m) hN h1 hb hm
    have no : ∀ z, ¬ blkOf none z := by rintro z ⟨_, hh, _⟩; cases hh
    obtain ⟨g', e1, s1, o1, b1⟩ := melt (g := g) (g0 := g) rfl (fun _ => Iff.rfl) (fun _ _ _ => Iff.rfl) (fun z hz => absurd hz (no z)) (fun _ _ hh => hh) hs ho hst hl (fun z hz => absurd hz (no z)) hB
    exact ⟨a', c', w', hr, g', e1.trans hw, s1, o1, b1, hl⟩
  · have isb : ∀ z, blkOf (some ⟨b, 0, none⟩) z ↔ z = b := fun z => ⟨by rintro ⟨_, hh, rfl⟩; cases hh; rfl, by rintro rfl; exact ⟨_, rfl, rfl⟩⟩
    let g0 : G := ⟨g.w, g.X, fun x i => g.D x i ∧ ¬ (x = b ∧ i < n * m), g.hX, fun x i hh => g.hD x i hh.1⟩
    have ho0 : OwnG g0 B e m (some ⟨b, 0, none⟩) n c L := ⟨h.len, .inr ⟨b, ⟨cur⟩, rfl, r1, r2.blk, r3, r4, by simpa using r5, r6, r2.nx, fun i hi hh => hh.2 ⟨rfl, hi⟩, fun i hi hi2 => ⟨r2.d i, fun hh => by omega⟩⟩⟩
    have hN0 : Sl g0 m na k cn N := ⟨hN.len, hN.le, hN.cap, hN.nil, fun ad ha i v hi => by
      obtain ⟨q1, q2, q3⟩ := hN.at_ ad ha i v hi
      exact ⟨q1, q2, fun hh => q3 hh.1⟩⟩
    obtain ⟨a', c', w', hr, g1, hw, hs, ho, hst, hl⟩ := OwnG.app (g := g0) E ty hB ho0 hN0 h1 hb hm
    obtain ⟨g', e1, s1, o1, b1⟩ := melt (g := g) (g0 := g0) (a := some ⟨b, 0, none⟩) rfl (fun _ => Iff.rfl) (fun z i hz => ⟨fun hh => hh.1, fun hh => ⟨hh, fun hh2 => hz ((isb z).2 hh2.1)⟩⟩) (fun z hz i => by rw [(isb z).1 hz]; exact r2.d i) (fun _ _ hh => hh.1) hs ho hst hl (fun z hz => by rw [(isb z).1 hz]; exact r1) hB
    exact ⟨a', c', w', hr, g', e1.trans hw, s1, o1, b1, hl⟩
end MutR
end Go.Vc
