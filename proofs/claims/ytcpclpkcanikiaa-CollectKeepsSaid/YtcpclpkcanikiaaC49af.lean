/- The heap: three appends in any order; what stands in a round of HeapRoom. -/
import Derived.Test.YtcpclpkcanikiaaC49ae
set_option linter.unusedVariables false
namespace Go.Proofs.Ytcpclpkcanikiaa
open Go Go.Vc Go.RowKit

theorem froz_stp {g : G} {b B : Nat} (hB : B ≤ b) : Stp B nobody g (g.froz b) :=
  ⟨froz_le g b, fun _ => Iff.rfl, fun _ _ => rfl, rfl, rfl, rfl, fun _ _ _ => rfl, fun z hz _ i => ⟨fun k => k.1, fun k => ⟨k, by omega⟩⟩⟩
theorem froz_but (g : G) (b : Nat) : But (fun z => z = b) g (g.froz b) :=
  ⟨Nat.le_refl _, fun _ _ h => h, fun _ _ _ _ => rfl, fun z _ _ hz i => ⟨fun k => k.1, fun k => ⟨k, hz⟩⟩⟩
theorem but_stp {p M : Nat → Prop} {B : Nat} {g gx g' : G} (h : But p g gx) (hs : Stp B M gx g') (hB : g.w.heap.size ≤ B) (hM : ∀ z, z < g.w.heap.size → M z → p z) : But p g g' :=
  ⟨Nat.le_trans h.size hs.le.size, fun z hz hx hx' => h.x z hz hx ((hs.x z).1 hx'),
   fun z hz hx hp => (hs.same z (by omega) (fun hm => hp (hM z hz hm))).trans (h.same z hz hx hp),
   fun z hz hx hp i => (hs.d z (by omega) (fun hm => hp (hM z hz hm)) i).trans (h.d z hz hx hp i)⟩
/-- Rows of other elements lie apart. -/
theorem ownE_apart {α β : Type} {E : El α} {E' : El β} {g : G} {B B' : Nat} {e e' : TypeId} {a a' : Option Addr} {n c n' c' : Nat} {xs : List α} {ys : List β} (h : OwnE E g B e a n c xs) (k : OwnE E' g B' e' a' n' c' ys) (hne : e ≠ e') : ∀ z, blkOf a z → ¬ blkOf a' z := by
  rintro z ⟨ad, rfl, rfl⟩ ⟨ad', rfl, hz⟩
  obtain ⟨L, h1, _⟩ := h.ex
  obtain ⟨L', k1, _⟩ := k.ex
  rcases h1.row with ⟨hh, _⟩ | ⟨b, cur, hh, _, hb, _⟩
  · cases hh
  rcases k1.row with ⟨kk, _⟩ | ⟨b', cur', kk, _, kb, _⟩
  · cases kk
  cases hh
  cases kk
  simp only at hz
  subst hz
  rw [hb] at kb
  cases kb
  exact hne rfl
theorem stage1 {g0 g19 gx : G} {b p : Nat} {cur : List Wd} {i : Int} (hB : g0.w.heap.size ≤ b) (hb : b < g19.w.heap.size) (hm : MutB g19 b 41 (wc cur)) (hcl : cur.length ≤ 1000) (m : Ex g19 gx) (hp : g19.w.heap.size ≤ p) (hl : OwnE wordE gx g19.w.heap.size 41 (some ⟨p, 0, none⟩) 1 1 [(false, i)]) :
    ∃ xa xc w', Sem.run Try.prog (Builtin.append_ #[22, 22] 22 #[.slice (some ⟨p, 0, none⟩) 1 1, .slice (some ⟨b, 0, none⟩) cur.length cur.length]) gx.w = .ok (.slice xa (1 + cur.length) xc) w' ∧
      ∃ g', g'.w = w' ∧ Stp g0.w.heap.size nobody gx g' ∧ But (fun z => z = b) g19 g' ∧ Le g19 g' ∧ SlE wordE g' xa (1 + cur.length) xc ((false, i) :: cur) := by
  have hfb := (m.but (fun z => z = b)).trans (froz_but gx b)
  have hl2 : OwnE wordE (gx.froz b) g19.w.heap.size 41 (some ⟨p, 0, none⟩) 1 1 [(false, i)] := hl.but (froz_but gx b) (by
    rintro z ⟨ad, e, rfl⟩ hz
    cases e
    simp only at hz
    omega) (froz_le gx b)
  obtain ⟨a', c', w', hr, g', hw, hs, ho, hst, _⟩ := OwnE.app E22 22 (g := gx.froz b) (B := g19.w.heap.size) m.size hl2 (froz_sle (hm.ex m) (by unfold maxLen; omega)) (by omega) (by unfold maxLen; omega)
  refine ⟨a', c', w', hr, g', hw, (froz_stp hB).trans (hs.mono (by omega) (fun _ _ h => h.elim)), but_stp hfb hs (Nat.le_refl _) (fun _ _ h => h.elim), (m.le.trans (froz_le gx b)).trans hs.le, ho.sl⟩
theorem stage2 {g0 g19 gx : G} {b q : Nat} {ma : Option Addr} {mn mc : Nat} {ms : List (List Wd)} {xs : List Wd} (h0 : g0.w.heap.size ≤ g19.w.heap.size) (hT : But (fun z => z = b) g19 gx) (hle : Le g19 gx) (hma : OwnE wordsE g19 g0.w.heap.size 22 ma mn mc ms) (hbm : ¬ blkOf ma b) (hx : SlE wordsE gx (some ⟨q, 0, none⟩) 1 1 [xs]) (hn : mn ≤ 1000) :
    ∃ a' c' w', Sem.run Try.prog (Builtin.append_ #[67, 67] 67 #[.slice ma mn mc, .slice (some ⟨q, 0, none⟩) 1 1]) gx.w = .ok (.slice a' (mn + 1) c') w' ∧
      ∃ g', g'.w = w' ∧ Stp g0.w.heap.size nobody gx g' ∧ But (fun z => z = b ∨ blkOf ma z) g19 g' ∧ Le g19 g' ∧ OwnE wordsE g' g0.w.heap.size 22 a' (mn + 1) c' (ms ++ [xs]) := by
  have h2 := hma.but hT (fun z hz e => hbm (e ▸ hz)) hle
  obtain ⟨a', c', w', hr, g', hw, hs, ho, hst, _⟩ := OwnE.app E67 67 (B := g0.w.heap.size) (Nat.le_trans h0 hle.size) h2 hx (by omega) (by unfold maxLen; omega)
  exact ⟨a', c', w', hr, g', hw, hs, but_stp (hT.mono (fun _ _ h => Or.inl h)) hst hle.size (fun _ _ h => .inr h), hle.trans hs.le, ho⟩
theorem stage3 {g0 g19 gx : G} {b r : Nat} {ma aa : Option Addr} {mn mc an ac : Nat} {ms : List (List Wd)} {at0 : List Wd} {w : Wd} {ma' : Option Addr} {mn' mc' : Nat} {ms' : List (List Wd)} (h0 : g0.w.heap.size ≤ g19.w.heap.size) (hT : But (fun z => z = b ∨ blkOf ma z) g19 gx) (hle : Le g19 gx)
    (hma : OwnE wordsE g19 g0.w.heap.size 22 ma mn mc ms) (haa : OwnE wordE g19 g0.w.heap.size 41 aa an ac at0) (hba : ¬ blkOf aa b) (hw : SlE wordE gx (some ⟨r, 0, none⟩) 1 1 [w]) (hmd : OwnE wordsE gx g0.w.heap.size 22 ma' mn' mc' ms') (hn : an ≤ 1000) :
    ∃ a' c' w', Sem.run Try.prog (Builtin.append_ #[22, 22] 22 #[.slice aa an ac, .slice (some ⟨r, 0, none⟩) 1 1]) gx.w = .ok (.slice a' (an + 1) c') w' ∧
      ∃ g', g'.w = w' ∧ Stp g0.w.heap.size nobody gx g' ∧ Le g19 g' ∧ OwnE wordE g' g0.w.heap.size 41 a' (an + 1) c' (at0 ++ [w]) ∧ OwnE wordsE g' g0.w.heap.size 22 ma' mn' mc' ms' := by
  have h2 := haa.but hT (fun z hz e => by
    rcases e with e | e
    · exact hba (e ▸ hz)
    · exact ownE_apart hma haa (by decide) z e hz) hle
  have hap := ownE_apart hmd h2 (by decide)
  obtain ⟨a', c', w', hr, g', hw2, hs, ho, hst, _⟩ := OwnE.app E22 22 (B := g0.w.heap.size) (Nat.le_trans h0 hle.size) h2 hw (by omega) (by unfold maxLen; omega)
  exact ⟨a', c', w', hr, g', hw2, hs, hle.trans hs.le, ho, hmd.but (hst.but (Nat.le_refl _)) (fun z hz e => hap z hz e) hs.le⟩

/-- What stands in a round. -/
structure RoomI (B : Nat) (lim : Int) (j : Nat) (used : Int) (ma : Option Addr) (mn mc : Nat) (aa : Option Addr) (an ac : Nat) (ha : Option Addr) (hn hc : Nat) (fr lm : Int) (g : G) (l : List Wd) (L : List Int) (ms : List (List Wd)) : Prop where
  hu : used = ((l.length : Nat) : Int)
  hfr : fr = used
  hlm : lm = lim
  hle : used ≤ lim
  h : SlE wordE g ha hn hc l
  good : GoodW l L
  made : OwnE wordsE g B 22 ma mn mc ms
  at_ : OwnE wordE g B 41 aa an ac (L.map fun x => (true, x))
  len : ms.length = L.length
  blk : ∀ (p : Nat) (x : Int), L[p]? = some x → ∃ q : Nat, x = ((q : Nat) : Int) ∧ hdrP l q ∧ (l.getD q zW).2 = 3 ∧ ms[p]? = some ((false, (l.getD (q + 1) zW).2) :: contW l q)
  lj : L.length ≤ j
  sz : B ≤ g.w.heap.size
theorem RoomI.ex {B : Nat} {lim : Int} {j : Nat} {used : Int} {ma : Option Addr} {mn mc : Nat} {aa : Option Addr} {an ac : Nat} {ha : Option Addr} {hn hc : Nat} {fr lm : Int} {g g' : G} {l : List Wd} {L : List Int} {ms : List (List Wd)}
    (h : RoomI B lim j used ma mn mc aa an ac ha hn hc fr lm g l L ms) (m : Ex g g') : RoomI B lim j used ma mn mc aa an ac ha hn hc fr lm g' l L ms :=
  ⟨h.hu, h.hfr, h.hlm, h.hle, h.h.exm m, h.good, h.made.exm m, h.at_.exm m, h.len, h.blk, h.lj, Nat.le_trans h.sz m.size⟩
theorem RoomI.next {B : Nat} {lim : Int} {j : Nat} {used : Int} {ma : Option Addr} {mn mc : Nat} {aa : Option Addr} {an ac : Nat} {ha : Option Addr} {hn hc : Nat} {fr lm : Int} {g : G} {l : List Wd} {L : List Int} {ms : List (List Wd)}
    (h : RoomI B lim j used ma mn mc aa an ac ha hn hc fr lm g l L ms) : RoomI B lim (j + 1) used ma mn mc aa an ac ha hn hc fr lm g l L ms :=
  ⟨h.hu, h.hfr, h.hlm, h.hle, h.h, h.good, h.made, h.at_, h.len, h.blk, Nat.le_succ_of_le h.lj, h.sz⟩
theorem RoomI.valid {B : Nat} {lim : Int} {j : Nat} {used : Int} {ma : Option Addr} {mn mc : Nat} {aa : Option Addr} {an ac : Nat} {ha : Option Addr} {hn hc : Nat} {fr lm : Int} {g : G} {l : List Wd} {L : List Int} {ms : List (List Wd)}
    (h : RoomI B lim j used ma mn mc aa an ac ha hn hc fr lm g l L ms) (h1 : lim ≤ 65536) : validP l fr lm := by
  have := h.hu
  have := h.hle
  rw [h.hfr, h.hlm]
  exact valid_iff.2 ⟨by omega, h1, by omega, h.hle, L, h.good⟩
/-- One more block. -/
theorem RoomI.add {B : Nat} {lim : Int} {j : Nat} {used : Int} {ma : Option Addr} {mn mc : Nat} {aa : Option Addr} {an ac : Nat} {ha : Option Addr} {hn hc : Nat} {fr lm : Int} {g : G} {l : List Wd} {L : List Int} {ms : List (List Wd)}
    (h : RoomI B lim j used ma mn mc aa an ac ha hn hc fr lm g l L ms) {cur : List Wd} {i : Int} (hr : rightP 3 i cur) (hw : ∀ w ∈ cur, wordP L w) {g' : G} {ma' : Option Addr} {mn' mc' : Nat} {aa' : Option Addr} {an' ac' : Nat} {ha' : Option Addr} {hn' hc' : Nat}
    (h1 : SlE wordE g' ha' hn' hc' (l ++ blkW 3 i cur)) (h2 : (((l ++ blkW 3 i cur).length : Nat) : Int) ≤ lim) (h3 : OwnE wordsE g' B 22 ma' mn' mc' (ms ++ [(false, i) :: cur])) (h4 : OwnE wordE g' B 41 aa' an' ac' ((L.map fun x => (true, x)) ++ [(true, ((l.length : Nat) : Int))])) (h5 : B ≤ g'.w.heap.size) :
    RoomI B lim (j + 1) (((l ++ blkW 3 i cur).length : Nat) : Int) ma' mn' mc' aa' an' ac' ha' hn' hc' (((l ++ blkW 3 i cur).length : Nat) : Int) lim g' (l ++ blkW 3 i cur) (L ++ [((l.length : Nat) : Int)]) (ms ++ [(false, i) :: cur]) := by
  obtain ⟨q1, q2, q3, q4, q5⟩ := new_hdr l hr
  refine ⟨rfl, rfl, rfl, h2, h1, h.good.add hr hw, h3, by rw [List.map_append]; exact h4, by simp [h.len], ?_, by have := h.lj; simp; omega, h5⟩
  intro p x hx
  rcases Nat.lt_or_ge p L.length with hp | hp
  · rw [List.getElem?_append_left hp] at hx
    obtain ⟨q, e1, e2, e3, e4⟩ := h.blk p x hx
    obtain ⟨r1, _, r3, r4, r5, _⟩ := hdrP_append (blkW 3 i cur) e2
    refine ⟨q, e1, r1, by rw [r4]; exact e3, ?_⟩
    rw [r3, r5, List.getElem?_append_left (by rw [h.len]; exact hp)]
    exact e4
  · rw [List.getElem?_append_right hp] at hx
    have hp0 : p - L.length = 0 := by
      have := (List.getElem?_eq_some_iff.1 hx).1
      simp at this
      omega
    rw [hp0] at hx
    cases hx
    refine ⟨l.length, rfl, q1, q4, ?_⟩
    rw [q3, q5, List.getElem?_append_right (by rw [h.len]; exact hp), h.len, hp0]
    rfl
end Go.Proofs.Ytcpclpkcanikiaa
