/- The collected heap, in plain Lean: it is right; copies differ as the blocks do; more blocks behind change nothing. -/
import Derived.Test.YtcpclpkcanikiaaC50G
set_option linter.unusedVariables false
namespace Go.Proofs.Ytcpclpkcanikiaa
open Go Go.Vc Go.RowKit

theorem L_hdr {l : List Wd} {L : List Int} (hg : GoodW l L) {x : Int} (hx : x ∈ L) : hdrP l x.toNat ∧ x = ((x.toNat : Nat) : Int) := by
  obtain ⟨q, rfl, _, hh⟩ := hg.1.mem x hx
  rw [Int.toNat_natCast]
  exact ⟨hh, rfl⟩
theorem L_right {l : List Wd} {L : List Int} (hg : GoodW l L) {x : Int} (hx : x ∈ L) : rightP (l.getD x.toNat zW).2 (l.getD (x.toNat + 1) zW).2 (cn l x) := (L_hdr hg hx).1.2.2.2.2.2.2
/-- A block's copy is right. -/
theorem mv_right {l : List Wd} {O : List Int} {kind n : Int} {ws : List Wd} (h : rightP kind n ws) : rightP kind n (ws.map (mv l O)) := by
  rcases h with ⟨a, b, c⟩ | ⟨a, b, c, d⟩ | ⟨a, b, c, d⟩ | ⟨a, b, c, d⟩
  · exact .inl ⟨a, b, by rw [List.length_map]; exact c⟩
  · exact .inr (.inl ⟨a, b, c, by rw [List.length_map]; exact d⟩)
  · exact .inr (.inr (.inl ⟨a, b, c, by rw [List.length_map]; exact d⟩))
  · refine .inr (.inr (.inr ⟨a, by rw [List.length_map]; exact b, by rw [List.length_map]; exact c, ?_⟩))
    intro w hw
    obtain ⟨v, hv, rfl⟩ := List.mem_map.1 hw
    have h1 := d v hv
    have : mv l O v = v := by unfold mv; rw [if_neg (by rw [h1.1]; decide)]
    rw [this]
    exact h1
theorem blk_at {l0 : List Wd} {kind n : Int} {x : List Wd} (hr : rightP kind n x) (rest : List Wd) :
    hdrP (l0 ++ (blkW kind n x ++ rest)) l0.length ∧ contW (l0 ++ (blkW kind n x ++ rest)) l0.length = x ∧ ((l0 ++ (blkW kind n x ++ rest)).getD l0.length zW).2 = kind ∧ ((l0 ++ (blkW kind n x ++ rest)).getD (l0.length + 1) zW).2 = n := by
  obtain ⟨q1, q2, q3, q4, q5⟩ := new_hdr l0 hr
  obtain ⟨r1, r2, r3, r4, r5, r6⟩ := hdrP_append rest q1
  rw [← List.append_assoc]
  exact ⟨r1, by rw [r3, q3], by rw [r4, q4], by rw [r5, q5]⟩
theorem take_len {O : List Int} {i : Nat} {x : Int} (h : O[i]? = some x) : i < O.length := (List.getElem?_eq_some_iff.1 h).1
/-- The collected words: blocks, and what is in them. -/
theorem col_at {l : List Wd} {L : List Int} (hg : GoodW l L) {O : List Int} (hI : OrdI l L O.length O) {j : Nat} {x : Int} (h : O[j]? = some x) :
    hdrP (colW l O) (offN l (O.take j)) ∧ contW (colW l O) (offN l (O.take j)) = (cn l x).map (mv l O) ∧ ((colW l O).getD (offN l (O.take j)) zW).2 = (l.getD x.toNat zW).2 ∧ ((colW l O).getD (offN l (O.take j) + 1) zW).2 = (l.getD (x.toNat + 1) zW).2 := by
  have hx := hI.sub x (List.mem_of_getElem? h)
  have hF : ∀ y ∈ O.take j, ((fun x => (cn l x).map (mv l O)) y).length = (cn l y).length := fun y _ => by simp
  have e : colW l O = allW l (fun x => (cn l x).map (mv l O)) (O.take j) ++ (blkM l (fun x => (cn l x).map (mv l O)) x ++ allW l (fun x => (cn l x).map (mv l O)) (O.drop (j + 1))) := allW_split h
  have hb := blk_at (l0 := allW l (fun x => (cn l x).map (mv l O)) (O.take j)) (mv_right (l := l) (O := O) (L_right hg hx)) (allW l (fun x => (cn l x).map (mv l O)) (O.drop (j + 1)))
  rw [allW_len hF] at hb
  rw [e]
  exact hb
theorem col_blks {l : List Wd} {L : List Int} (hg : GoodW l L) {O : List Int} (hs : ∀ x ∈ O, x ∈ L) (f : Wd → Wd) (hf : ∀ kind n ws, rightP kind n ws → rightP kind n (ws.map f)) : ∀ i, i ≤ O.length → Blks (allW l (fun x => (cn l x).map f) (O.take i)) 0 (offs l O i)
  | 0, _ => .nil
  | i + 1, hi => by
    have ih := col_blks hg hs f hf i (by omega)
    have gi := List.getElem?_eq_getElem (show i < O.length by omega)
    generalize O[i] = x at gi
    have hx := hs x (List.mem_of_getElem? gi)
    have hlen : (allW l (fun x => (cn l x).map f) (O.take i)).length = offN l (O.take i) := allW_len (fun y _ => by simp)
    obtain ⟨q1, q2, _⟩ := new_hdr (allW l (fun x => (cn l x).map f) (O.take i)) (hf _ _ _ (L_right hg hx))
    rw [take_snoc gi, allW_append, offs_snoc, ← hlen]
    have e : allW l (fun x => (cn l x).map f) [x] = blkW (l.getD x.toNat zW).2 (l.getD (x.toNat + 1) zW).2 ((cn l x).map f) := by
      unfold allW
      simp only [List.flatMap_cons, List.flatMap_nil, List.append_nil]
      rfl
    rw [e]
    refine ih.append (.cons q1 ?_)
    rw [q2]
    exact .nil
theorem idx_get {O : List Int} {x : Int} (h : x ∈ O) : O[O.idxOf x]? = some x := by
  have := List.idxOf_lt_length_of_mem h
  rw [List.getElem?_eq_getElem this]
  exact congrArg some (List.getElem_idxOf this)
theorem mv_ref {l : List Wd} {O : List Int} {w : Wd} (h : w.1 = true) : mv l O w = (true, ((offN l (O.take (O.idxOf w.2)) : Nat) : Int)) := by unfold mv; rw [if_pos h]
theorem mv_no {l : List Wd} {O : List Int} {w : Wd} (h : ¬ w.1 = true) : mv l O w = w := by unfold mv; rw [if_neg h]
theorem mv_word {l : List Wd} {L O : List Int} {w : Wd} (hw : wordP L w) (hin : w.1 = true → w.2 ∈ O) : wordP (offs l O O.length) (mv l O w) := by
  by_cases h : w.1 = true
  · rw [mv_ref h]
    have hi := List.idxOf_lt_length_of_mem (hin h)
    unfold wordP
    rw [if_pos rfl]
    exact List.mem_of_getElem? (offs_get hi)
  · rw [mv_no h]
    unfold wordP at hw ⊢
    rw [if_neg h] at hw ⊢
    exact hw
/-- The collected heap is right. -/
theorem col_good {l : List Wd} {L : List Int} (hg : GoodW l L) {O : List Int} (hI : OrdI l L O.length O) : GoodW (colW l O) (offs l O O.length) := by
  have hb := col_blks hg hI.sub (mv l O) (fun _ _ _ h => mv_right h) O.length (Nat.le_refl _)
  rw [List.take_length] at hb
  refine ⟨hb, ?_⟩
  intro y hy w hw
  obtain ⟨j, hj⟩ := List.getElem?_of_mem hy
  have hjl : j < O.length := by have := (List.getElem?_eq_some_iff.1 hj).1; simpa [offs] using this
  rw [offs_get hjl] at hj
  cases hj
  have gj := List.getElem?_eq_getElem hjl
  rw [Int.toNat_natCast, (col_at hg hI gj).2.1] at hw
  obtain ⟨v, hv, rfl⟩ := List.mem_map.1 hw
  have hxO := List.mem_of_getElem? gj
  exact mv_word (hg.2 _ (hI.sub _ hxO) v hv) (closed hI hxO v hv)
/-- Offsets ascend. -/
theorem off_lt {l : List Wd} {O : List Int} {i j : Nat} (h : i < j) (hj : j ≤ O.length) : offN l (O.take i) < offN l (O.take j) := by
  have gi := List.getElem?_eq_getElem (show i < O.length by omega)
  have h1 := offN_take_snoc (l := l) gi
  have h2 : offN l (O.take (i + 1)) ≤ offN l (O.take j) := by
    have e : O.take j = O.take (i + 1) ++ (O.drop (i + 1)).take (j - (i + 1)) := by
      rw [← List.take_add]
      congr 1
      omega
    rw [e, offN_append]
    omega
  have h3 : 3 ≤ lenB l O[i] := by unfold lenB; omega
  omega
theorem off_inj {l : List Wd} {O : List Int} {i j : Nat} (hi : i ≤ O.length) (hj : j ≤ O.length) (h : offN l (O.take i) = offN l (O.take j)) : i = j := by
  rcases Nat.lt_trichotomy i j with hh | hh | hh
  · have := off_lt (l := l) hh hj; omega
  · exact hh
  · have := off_lt (l := l) hh hi; omega
/-- Copies differ as the words do. -/
theorem mv_inj {l : List Wd} {O : List Int} {v w : Wd} (hv : v.1 = true → v.2 ∈ O) (hw : w.1 = true → w.2 ∈ O) : mv l O v = mv l O w ↔ v = w := by
  constructor
  · intro h
    obtain ⟨v1, v2⟩ := v
    obtain ⟨w1, w2⟩ := w
    cases v1 <;> cases w1
    · rw [mv_no (by simp), mv_no (by simp)] at h; exact h
    · rw [mv_no (by simp), mv_ref rfl] at h
      exact absurd (congrArg Prod.fst h) (by simp)
    · rw [mv_ref rfl, mv_no (by simp)] at h
      exact absurd (congrArg Prod.fst h) (by simp)
    · rw [mv_ref rfl, mv_ref rfl] at h
      have h2 := congrArg Prod.snd h
      simp only at h2
      have i1 := List.idxOf_lt_length_of_mem (hv rfl)
      have i2 := List.idxOf_lt_length_of_mem (hw rfl)
      have := off_inj (l := l) (Nat.le_of_lt i1) (Nat.le_of_lt i2) (Int.ofNat_inj.mp h2)
      have g1 := idx_get (hv rfl)
      have g2 := idx_get (hw rfl)
      simp only at this g1 g2
      rw [this, g2] at g1
      cases g1
      rfl
  · rintro rfl; rfl
/-- With fuel enough the order is the same. -/
theorem ordF_fuel {l : List Wd} {L : List Int} (hg : GoodW l L) : ∀ (f f' i : Nat) (O : List Int), OrdI l L i O → L.length < f + i → L.length < f' + i → ordF l f i O = ordF l f' i O
  | 0, f', i, O, h, hf, hf' => by
    have := nodup_le h.nodup h.sub
    rw [ordF_end (by omega), ordF_end (by omega)]
  | f + 1, f', i, O, h, hf, hf' => by
    cases hx : O[i]? with
    | none =>
      have hl : O.length ≤ i := List.getElem?_eq_none_iff.1 hx
      rw [ordF_end hl, ordF_end hl]
    | some x =>
      obtain ⟨g, rfl, e⟩ := ordF_step h hf' hx
      rw [e]
      have e2 : ordF l (f + 1) i O = ordF l f (i + 1) (found O (cn l x)) := by simp only [ordF, hx]
      rw [e2]
      exact ordF_fuel hg f g (i + 1) _ (h.next hg hx) (by omega) (by omega)
theorem cn_append {l : List Wd} {L : List Int} (hg : GoodW l L) (e : List Wd) {x : Int} (hx : x ∈ L) : cn (l ++ e) x = cn l x ∧ (l ++ e).getD x.toNat zW = l.getD x.toNat zW ∧ (l ++ e).getD (x.toNat + 1) zW = l.getD (x.toNat + 1) zW := by
  obtain ⟨_, _, r3, r4, r5, _⟩ := hdrP_append e (L_hdr hg hx).1
  exact ⟨r3, r4, r5⟩
theorem ordF_append {l : List Wd} {L : List Int} (hg : GoodW l L) (e : List Wd) : ∀ (f i : Nat) (O : List Int), OrdI l L i O → ordF (l ++ e) f i O = ordF l f i O
  | 0, i, O, h => rfl
  | f + 1, i, O, h => by
    cases hx : O[i]? with
    | none =>
      have hl : O.length ≤ i := List.getElem?_eq_none_iff.1 hx
      rw [ordF_end hl, ordF_end hl]
    | some x =>
      have hxL := h.sub x (List.mem_of_getElem? hx)
      have e1 : ordF (l ++ e) (f + 1) i O = ordF (l ++ e) f (i + 1) (found O (cn (l ++ e) x)) := by simp only [ordF, hx]
      have e2 : ordF l (f + 1) i O = ordF l f (i + 1) (found O (cn l x)) := by simp only [ordF, hx]
      rw [e1, e2, (cn_append hg e hxL).1]
      exact ordF_append hg e f (i + 1) _ (h.next hg hx)
/-- More blocks behind change nothing. -/
theorem ord_append {l : List Wd} {L : List Int} (hg : GoodW l L) (e : List Wd) (L' : List Int) {roots : List Wd} (hr : ∀ w ∈ roots, wordP L w) : ord (l ++ e) (L ++ L') roots = ord l L roots := by
  unfold ord
  rw [ordF_append hg e _ _ _ (OrdI.start hr)]
  exact ordF_fuel hg _ _ _ _ (OrdI.start hr) (by simp; omega) (by omega)
theorem off_append {l : List Wd} {L : List Int} (hg : GoodW l L) (e : List Wd) {O : List Int} (hs : ∀ x ∈ O, x ∈ L) : offN (l ++ e) O = offN l O := by
  unfold offN
  congr 1
  exact List.map_congr_left fun x hx => by unfold lenB; rw [(cn_append hg e (hs x hx)).1]
theorem mv_append {l : List Wd} {L : List Int} (hg : GoodW l L) (e : List Wd) {O : List Int} (hs : ∀ x ∈ O, x ∈ L) (w : Wd) : mv (l ++ e) O w = mv l O w := by
  unfold mv
  rw [off_append hg e (fun x hx => hs x (List.mem_of_mem_take hx))]
theorem col_append {l : List Wd} {L : List Int} (hg : GoodW l L) (e : List Wd) {O : List Int} (hs : ∀ x ∈ O, x ∈ L) : colW (l ++ e) O = colW l O := by
  unfold colW allW
  have key : ∀ X : List Int, (∀ x ∈ X, x ∈ L) → X.flatMap (blkM (l ++ e) (fun x => (cn (l ++ e) x).map (mv (l ++ e) O))) = X.flatMap (blkM l (fun x => (cn l x).map (mv l O))) := by
    intro X
    induction X with
    | nil => intro _; rfl
    | cons x r ih =>
      intro hX
      simp only [List.flatMap_cons]
      rw [ih (fun y hy => hX y (by simp [hy]))]
      obtain ⟨c1, c2, c3⟩ := cn_append hg e (hX x (by simp))
      congr 1
      unfold blkM
      rw [c2, c3]
      show blkW _ _ ((cn (l ++ e) x).map (mv (l ++ e) O)) = blkW _ _ ((cn l x).map (mv l O))
      rw [c1]
      congr 1
      exact List.map_congr_left fun w _ => mv_append hg e hs w
  exact key O hs
end Go.Proofs.Ytcpclpkcanikiaa
