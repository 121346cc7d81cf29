/- Joined texts. -/
import Derived.Test.YtcpclpkcanikiaaC49aa
import Derived.Test.YtcpclpkcanikiaaC49ae
import Derived.Test.YtcpclpkcanikiaaFn50
import Derived.Test.YtcpclpkcanikiaaVfb
import Derived.Test.YtcpclpkcanikiaaVmb
/- The collector, in plain Lean: the order of blocks, where they move to, what the words become. -/
set_option linter.unusedVariables false
namespace Go.Proofs.Ytcpclpkcanikiaa
open Go Go.Vc Go.RowKit

/-- The words of the block at x. -/
def cn (l : List Wd) (x : Int) : List Wd := contW l x.toNat
/-- One more block is found. -/
def adv (O : List Int) (w : Wd) : List Int := if w.1 = true ∧ ¬ w.2 ∈ O then O ++ [w.2] else O
def found (O : List Int) (ws : List Wd) : List Int := ws.foldl adv O
/-- The order of blocks from place i on. -/
def ordF (l : List Wd) : Nat → Nat → List Int → List Int
  | 0, _, O => O
  | f + 1, i, O => match O[i]? with
    | some x => ordF l f (i + 1) (found O (cn l x))
    | none => O
def ord (l : List Wd) (L : List Int) (roots : List Wd) : List Int := ordF l (L.length + 1) 0 (found [] roots)
/-- How many words the block at x takes. -/
def lenB (l : List Wd) (x : Int) : Nat := 3 + (cn l x).length
def offN (l : List Wd) (O : List Int) : Nat := (O.map (lenB l)).sum
/-- A word's copy. -/
def mv (l : List Wd) (O : List Int) (w : Wd) : Wd := if w.1 = true then (true, ((offN l (O.take (O.idxOf w.2)) : Nat) : Int)) else w
/-- A block with other words. -/
def blkM (l : List Wd) (F : Int → List Wd) (x : Int) : List Wd := blkW (l.getD x.toNat zW).2 (l.getD (x.toNat + 1) zW).2 (F x)
def allW (l : List Wd) (F : Int → List Wd) (O : List Int) : List Wd := O.flatMap (blkM l F)
/-- The collected words. -/
def colW (l : List Wd) (O : List Int) : List Wd := allW l (fun x => (cn l x).map (mv l O)) O

theorem adv_yes {O : List Int} {w : Wd} (h1 : w.1 = true) (h2 : ¬ w.2 ∈ O) : adv O w = O ++ [w.2] := if_pos ⟨h1, h2⟩
theorem adv_no {O : List Int} {w : Wd} (h : ¬ (w.1 = true ∧ ¬ w.2 ∈ O)) : adv O w = O := if_neg h
theorem adv_pre (O : List Int) (w : Wd) : O <+: adv O w := by
  unfold adv
  split
  · exact List.prefix_append _ _
  · exact List.prefix_refl _
theorem adv_mem {O : List Int} {w : Wd} (h : w.1 = true) : w.2 ∈ adv O w := by
  unfold adv
  split
  · simp
  · rename_i hh
    exact Classical.byContradiction fun hn => hh ⟨h, hn⟩
theorem adv_nodup {O : List Int} (h : O.Nodup) (w : Wd) : (adv O w).Nodup := by
  unfold adv
  split
  · rename_i hh
    rw [List.nodup_append]
    refine ⟨h, by simp, ?_⟩
    intro a ha b hb
    simp only [List.mem_singleton] at hb
    subst hb
    rintro rfl
    exact hh.2 ha
  · exact h
theorem adv_sub {O L : List Int} (h : ∀ x ∈ O, x ∈ L) {w : Wd} (hw : wordP L w) : ∀ x ∈ adv O w, x ∈ L := by
  unfold adv
  split
  · rename_i hh
    intro x hx
    rcases List.mem_append.1 hx with hx | hx
    · exact h x hx
    · simp only [List.mem_singleton] at hx
      subst hx
      unfold wordP at hw
      rwa [if_pos hh.1] at hw
  · exact h
theorem found_cons (O : List Int) (w : Wd) (ws : List Wd) : found O (w :: ws) = found (adv O w) ws := rfl
theorem found_pre : ∀ (ws : List Wd) (O : List Int), O <+: found O ws
  | [], O => List.prefix_refl _
  | w :: ws, O => (adv_pre O w).trans (found_pre ws (adv O w))
theorem found_nodup : ∀ (ws : List Wd) {O : List Int}, O.Nodup → (found O ws).Nodup
  | [], O, h => h
  | w :: ws, O, h => found_nodup ws (adv_nodup h w)
theorem found_sub {L : List Int} : ∀ (ws : List Wd) {O : List Int}, (∀ x ∈ O, x ∈ L) → (∀ w ∈ ws, wordP L w) → ∀ x ∈ found O ws, x ∈ L
  | [], O, h, _ => h
  | w :: ws, O, h, hw => found_sub ws (adv_sub h (hw w (by simp))) (fun x hx => hw x (by simp [hx]))
theorem found_mem : ∀ (ws : List Wd) {O : List Int} {w : Wd}, w ∈ ws → w.1 = true → w.2 ∈ found O ws
  | v :: ws, O, w, h, h1 => by
    rcases List.mem_cons.1 h with rfl | h
    · exact (found_pre ws (adv O w)).subset (adv_mem h1)
    · exact found_mem ws h h1
theorem nodup_le : ∀ {O L : List Int}, O.Nodup → (∀ x ∈ O, x ∈ L) → O.length ≤ L.length
  | [], L, _, _ => Nat.zero_le _
  | x :: r, L, h, hs => by
    rw [List.nodup_cons] at h
    have h2 : ∀ y ∈ r, y ∈ L.erase x := fun y hy => (List.mem_erase_of_ne (fun e => h.1 (by rw [← e]; exact hy))).2 (hs y (by simp [hy]))
    have h3 := nodup_le h.2 h2
    have h4 := List.length_erase_of_mem (hs x (by simp))
    have h5 : 0 < L.length := List.length_pos_of_mem (hs x (by simp))
    simp only [List.length_cons]
    omega
/-- What holds while blocks are found. -/
structure OrdI (l : List Wd) (L : List Int) (i : Nat) (O : List Int) : Prop where
  nodup : O.Nodup
  sub : ∀ x ∈ O, x ∈ L
  cl : ∀ j x, j < i → O[j]? = some x → ∀ w ∈ cn l x, w.1 = true → w.2 ∈ O
theorem pre_get {O O' : List Int} (h : O <+: O') {j : Nat} {x : Int} (hx : O[j]? = some x) : O'[j]? = some x := by
  obtain ⟨t, rfl⟩ := h
  rw [List.getElem?_append_left (List.getElem?_eq_some_iff.1 hx).1]
  exact hx
theorem pre_got {O O' : List Int} (h : O <+: O') {j : Nat} {x : Int} (hj : j < O.length) (hx : O'[j]? = some x) : O[j]? = some x := by
  obtain ⟨t, rfl⟩ := h
  rwa [List.getElem?_append_left hj] at hx
theorem OrdI.start {l : List Wd} {L : List Int} {ws : List Wd} (hw : ∀ w ∈ ws, wordP L w) : OrdI l L 0 (found [] ws) :=
  ⟨found_nodup ws (by simp), found_sub ws (by simp) hw, fun j x hj => by omega⟩
theorem OrdI.next {l : List Wd} {L : List Int} (hg : GoodW l L) {i : Nat} {O : List Int} (h : OrdI l L i O) {x : Int} (hx : O[i]? = some x) : OrdI l L (i + 1) (found O (cn l x)) := by
  have hp := found_pre (cn l x) O
  refine ⟨found_nodup _ h.nodup, found_sub _ h.sub (hg.2 x (h.sub x (List.mem_of_getElem? hx))), ?_⟩
  intro j y hj hy w hw h1
  have hi := (List.getElem?_eq_some_iff.1 hx).1
  have hy2 := pre_got hp (by omega) hy
  rcases Nat.lt_or_ge j i with hlt | hge
  · exact hp.subset (h.cl j y hlt hy2 w hw h1)
  · have : j = i := by omega
    subst this
    rw [hx] at hy2
    cases hy2
    exact found_mem _ hw h1
theorem ordF_spec {l : List Wd} {L : List Int} (hg : GoodW l L) : ∀ (f i : Nat) (O : List Int), OrdI l L i O → L.length < f + i → OrdI l L (ordF l f i O).length (ordF l f i O) ∧ O <+: ordF l f i O
  | 0, i, O, h, hf => by
    have := nodup_le h.nodup h.sub
    exact ⟨⟨h.nodup, h.sub, fun j x hj => h.cl j x (by simp only [ordF] at hj; omega)⟩, List.prefix_refl _⟩
  | f + 1, i, O, h, hf => by
    cases hx : O[i]? with
    | none =>
      have hl : O.length ≤ i := List.getElem?_eq_none_iff.1 hx
      have e : ordF l (f + 1) i O = O := by simp only [ordF, hx]
      rw [e]
      exact ⟨⟨h.nodup, h.sub, fun j x hj => h.cl j x (by omega)⟩, List.prefix_refl _⟩
    | some x =>
      have e : ordF l (f + 1) i O = ordF l f (i + 1) (found O (cn l x)) := by simp only [ordF, hx]
      rw [e]
      obtain ⟨h1, h2⟩ := ordF_spec hg f (i + 1) _ (h.next hg hx) (by omega)
      exact ⟨h1, (found_pre _ _).trans h2⟩
theorem ordF_end {l : List Wd} {f i : Nat} {O : List Int} (h : O.length ≤ i) : ordF l f i O = O := by
  cases f with
  | zero => rfl
  | succ f =>
    have : O[i]? = none := List.getElem?_eq_none h
    simp only [ordF, this]
theorem ordF_step {l : List Wd} {L : List Int} {f i : Nat} {O : List Int} (h : OrdI l L i O) (hf : L.length < f + i) {x : Int} (hx : O[i]? = some x) : ∃ f', f = f' + 1 ∧ ordF l f i O = ordF l f' (i + 1) (found O (cn l x)) := by
  have := nodup_le h.nodup h.sub
  have hi := (List.getElem?_eq_some_iff.1 hx).1
  cases f with
  | zero => omega
  | succ f => exact ⟨f, rfl, by simp only [ordF, hx]⟩
theorem mv_ext {l : List Wd} {O O' : List Int} (h : O <+: O') {w : Wd} (hw : w.1 = true → w.2 ∈ O) : mv l O' w = mv l O w := by
  unfold mv
  split
  · rename_i h1
    obtain ⟨t, rfl⟩ := h
    rw [List.idxOf_append, if_pos (hw h1), List.take_append_of_le_length (Nat.le_of_lt (List.idxOf_lt_length_of_mem (hw h1)))]
  · rfl
theorem mv_map {l : List Wd} {O O' : List Int} (h : O <+: O') {ws : List Wd} (hw : ∀ w ∈ ws, w.1 = true → w.2 ∈ O) : ws.map (mv l O') = ws.map (mv l O) :=
  List.map_congr_left fun w h1 => mv_ext h (hw w h1)
theorem offN_append (l : List Wd) (a b : List Int) : offN l (a ++ b) = offN l a + offN l b := by unfold offN; simp
theorem blkM_len {l : List Wd} {F : Int → List Wd} {x : Int} (h : (F x).length = (cn l x).length) : (blkM l F x).length = lenB l x := by unfold blkM lenB; rw [blkW_len, h]; omega
theorem allW_len {l : List Wd} {F : Int → List Wd} : ∀ {O : List Int}, (∀ x ∈ O, (F x).length = (cn l x).length) → (allW l F O).length = offN l O
  | [], _ => rfl
  | x :: r, h => by
    have := allW_len (l := l) (F := F) (O := r) (fun y hy => h y (by simp [hy]))
    unfold allW offN at *
    simp only [List.flatMap_cons, List.length_append, List.map_cons, List.sum_cons]
    rw [this, blkM_len (h x (by simp))]
theorem allW_append (l : List Wd) (F : Int → List Wd) (a b : List Int) : allW l F (a ++ b) = allW l F a ++ allW l F b := by unfold allW; simp
theorem allW_congr {l : List Wd} {F F' : Int → List Wd} {O : List Int} (h : ∀ x ∈ O, F x = F' x) : allW l F O = allW l F' O := by
  unfold allW
  induction O with
  | nil => rfl
  | cons x r ih =>
    simp only [List.flatMap_cons]
    rw [ih (fun y hy => h y (by simp [hy]))]
    unfold blkM
    rw [h x (by simp)]
theorem split_at {O : List Int} {i : Nat} {x : Int} (h : O[i]? = some x) : O = O.take i ++ x :: O.drop (i + 1) := by
  have hi := (List.getElem?_eq_some_iff.1 h).1
  have h2 : O.drop i = x :: O.drop (i + 1) := by
    rw [List.drop_eq_getElem_cons hi]
    have := (List.getElem?_eq_some_iff.1 h).2
    rw [this]
  rw [← h2, List.take_append_drop]
/-- The words of the block at place i. -/
theorem allW_split {l : List Wd} {F : Int → List Wd} {O : List Int} {i : Nat} {x : Int} (h : O[i]? = some x) : allW l F O = allW l F (O.take i) ++ (blkM l F x ++ allW l F (O.drop (i + 1))) := by
  have e : allW l F O = allW l F (O.take i ++ x :: O.drop (i + 1)) := by rw [← split_at h]
  rw [e, allW_append]
  rfl
theorem blkM_get {l : List Wd} {F : Int → List Wd} {x : Int} : blkM l F x = (false, (l.getD x.toNat zW).2) :: (false, (l.getD (x.toNat + 1) zW).2) :: (false, (((F x).length : Nat) : Int)) :: F x := rfl
theorem allW_head {l : List Wd} {F : Int → List Wd} {O : List Int} (hF : ∀ x ∈ O, (F x).length = (cn l x).length) {i : Nat} {x : Int} (h : O[i]? = some x) : (allW l F O)[offN l (O.take i) + 2]? = some (false, (((cn l x).length : Nat) : Int)) := by
  have hm := List.mem_of_getElem? h
  rw [allW_split h, List.getElem?_append_right (by rw [allW_len (fun y hy => hF y (List.mem_of_mem_take hy))]; omega), allW_len (fun y hy => hF y (List.mem_of_mem_take hy)), show offN l (O.take i) + 2 - offN l (O.take i) = 2 by omega, blkM_get, ← hF x hm]
  rfl
theorem allW_get {l : List Wd} {F : Int → List Wd} {O : List Int} (hF : ∀ x ∈ O, (F x).length = (cn l x).length) {i k : Nat} {x : Int} (h : O[i]? = some x) (hk : k < (F x).length) : (allW l F O)[offN l (O.take i) + 3 + k]? = (F x)[k]? := by
  rw [allW_split h, List.getElem?_append_right (by rw [allW_len (fun y hy => hF y (List.mem_of_mem_take hy))]; omega), allW_len (fun y hy => hF y (List.mem_of_mem_take hy)), show offN l (O.take i) + 3 + k - offN l (O.take i) = k + 1 + 1 + 1 by omega, blkM_get]
  simp only [List.cons_append, List.getElem?_cons_succ]
  rw [List.getElem?_append_left hk]
/-- F with another list at x. -/
def updF (F : Int → List Wd) (x : Int) (ws : List Wd) : Int → List Wd := fun y => if y = x then ws else F y
theorem updF_same (F : Int → List Wd) (x : Int) (ws : List Wd) : updF F x ws x = ws := if_pos rfl
theorem updF_other (F : Int → List Wd) {x y : Int} (ws : List Wd) (h : y ≠ x) : updF F x ws y = F y := if_neg h
theorem allW_set {l : List Wd} {F : Int → List Wd} {O : List Int} (hn : O.Nodup) (hF : ∀ x ∈ O, (F x).length = (cn l x).length) {i k : Nat} {x : Int} (h : O[i]? = some x) (hk : k < (F x).length) (w : Wd) :
    (allW l F O).set (offN l (O.take i) + 3 + k) w = allW l (updF F x ((F x).set k w)) O := by
  have hsp := split_at h
  have hn2 := hn
  rw [hsp, List.nodup_append] at hn2
  obtain ⟨_, hb, hd⟩ := hn2
  rw [List.nodup_cons] at hb
  have e1 : allW l (updF F x ((F x).set k w)) (O.take i) = allW l F (O.take i) := allW_congr fun y hy => updF_other _ _ (fun e => hd y hy x (by simp) e)
  have e2 : allW l (updF F x ((F x).set k w)) (O.drop (i + 1)) = allW l F (O.drop (i + 1)) := allW_congr fun y hy => updF_other _ _ (fun e => hb.1 (e ▸ hy))
  rw [allW_split h, allW_split (F := updF F x ((F x).set k w)) h, e1, e2, List.set_append_right _ _ (by rw [allW_len (fun y hy => hF y (List.mem_of_mem_take hy))]; omega), allW_len (fun y hy => hF y (List.mem_of_mem_take hy)), show offN l (O.take i) + 3 + k - offN l (O.take i) = k + 1 + 1 + 1 by omega, blkM_get, blkM_get, updF_same]
  simp only [List.cons_append, List.set_cons_succ, List.length_set]
  rw [List.set_append_left _ _ hk]
end Go.Proofs.Ytcpclpkcanikiaa
/- The collector's state; a word is forwarded. -/
set_option linter.unusedVariables false
namespace Go.Proofs.Ytcpclpkcanikiaa
open Go Go.Vc Go.RowKit

theorem wfI {n : Int} (h1 : -9223372036854775808 ≤ n) (h2 : n ≤ 9223372036854775807) : (Lit.int .i64 n).wf = true := by
  simp only [Lit.wf, Bool.and_eq_true, IntKind.min, IntKind.max, IntKind.signed, IntKind.bits]
  simp
  omega
/-- Where the copies stand. -/
noncomputable def cm (l : List Wd) (O : List Int) (x : Int) : Option Value := if x ∈ O then some (.int .i64 ((offN l (O.take (O.idxOf x)) : Nat) : Int)) else none
/-- The collector's cells. -/
def colC (ha : Option Addr) (hl hc : Nat) (fr lim : Int) (ta : Option Addr) (tl tc : Nat) (mb : Nat) : List Value := [.slice ha hl hc, .int .i64 fr, .int .i64 lim, .slice ta tl tc, .int .i64 0, .int .i64 lim, .map (some mb)]
structure ColI (g : G) (B D mb : Nat) (l : List Wd) (L : List Int) (ha : Option Addr) (hl hc : Nat) (fr lim : Int) (ta : Option Addr) (tl tc : Nat) (O : List Int) (F : Int → List Wd) : Prop where
  hm : MutB g D 117 (colC ha hl hc fr lim ta tl tc mb)
  row : MutR g B 41 2 ta tl tc (wc (allW l F O))
  map : MapI Try.prog g 3 mb O.length (cm l O)
  h : SlE wordE g ha hl hc l
  hD : B ≤ D
  hmb : B ≤ mb
  sub : ∀ x ∈ O, x ∈ L
  nodup : O.Nodup
  len : ∀ x ∈ O, (F x).length = (cn l x).length
theorem mapI_other {g : G} {k : TypeId} {b n : Nat} {f : Int → Option Value} (h : MapI Try.prog g k b n f) {D : Nat} {t : TypeId} {cs : List Value} (hm : MutB g D t cs) : D ≠ b := by
  rintro rfl
  obtain ⟨_, ⟨es, clock, hb, _⟩, _⟩ := h.own
  have : g.w.heap[D]? = _ := hm.blk
  rw [hb] at this
  cases this
theorem row_other {g : G} {B : Nat} {e : TypeId} {m : Nat} {a : Option Addr} {n c : Nat} {L : List Value} (h : MutR g B e m a n c L) {D : Nat} {t : TypeId} {cs : List Value} (hm : MutB g D t cs) (hne : t ≠ e) : ¬ blkOf a D := by
  rintro ⟨ad, rfl, rfl⟩
  rcases h.row with ⟨hh, _⟩ | ⟨b, cur, hh, _, h2, _⟩
  · cases hh
  · cases hh
    have h3 : g.w.heap[b]? = _ := h2.blk
    have h4 : g.w.heap[b]? = _ := hm.blk
    rw [h3] at h4
    cases h4
    exact hne rfl
theorem row_map {g : G} {B : Nat} {e : TypeId} {m : Nat} {a : Option Addr} {n c : Nat} {L : List Value} (h : MutR g B e m a n c L) {k : TypeId} {b q : Nat} {f : Int → Option Value} (hm : MapI Try.prog g k b q f) : ¬ blkOf a b := by
  rintro ⟨ad, rfl, rfl⟩
  rcases h.row with ⟨hh, _⟩ | ⟨b2, cur, hh, _, h2, _⟩
  · cases hh
  · cases hh
    exact mapI_other hm h2 rfl
theorem ColI.ex {g g' : G} {B D mb : Nat} {l : List Wd} {L : List Int} {ha : Option Addr} {hl hc : Nat} {fr lim : Int} {ta : Option Addr} {tl tc : Nat} {O : List Int} {F : Int → List Wd} (h : ColI g B D mb l L ha hl hc fr lim ta tl tc O F) (m : Ex g g') : ColI g' B D mb l L ha hl hc fr lim ta tl tc O F :=
  ⟨h.hm.ex m, h.row.ex m, h.map.ex m, h.h.exm m, h.hD, h.hmb, h.sub, h.nodup, h.len⟩
theorem wc_append : ∀ (a b : List Wd), wc (a ++ b) = wc a ++ wc b
  | [], b => rfl
  | x :: r, b => by simp only [List.cons_append, wc, wc_append r b]
/-- collect.length, of a block that stands. -/
theorem k90 (l : List Wd) {a : Option Addr} {n c : Nat} {g : G} (h : SlE wordE g a n c l) (fr lim : Int) (p : Nat) (hp : p + 2 < n) (hn : n ≤ 1000000000000) {z : Int} (hz : (l.getD (p + 2) zW).2 = z) (h1 : -1000000 ≤ z) (h2 : z ≤ 1000000) : CallsP Try.prog 90 #[hpV a n c fr lim, .int .i64 ((p : Nat) : Int)] g fun v _ => v = .int .i64 (3 + z) := by
  refine P50.call90 a n c fr lim _ g _ ?_
  have hlen := h.len
  unfold P50.F90
  refine ⟨i64 (by omega) (by omega), ⟨by omega, by omega⟩, h.rd (i := p + 2) (getW (by omega)) ?_⟩
  rintro r ad rfl hr
  intro g1 m1
  have h3 := (hr 1 _ rfl).mono m1.le
  subst hz
  refine ⟨(l.getD (p + 2) zW).2, ?_, i64 (by omega) (by omega), fun g2 m2 => rfl⟩
  have e : Int.toNat (((p : Nat) : Int) + 2) = p + 2 := by omega
  rw [e]
  exact h3.1
theorem offN_erase (l : List Wd) {x : Int} : ∀ {L : List Int}, x ∈ L → offN l L = lenB l x + offN l (L.erase x)
  | y :: r, h => by
    by_cases e : y = x
    · subst e
      simp [offN]
    · have h2 : x ∈ r := by
        rcases List.mem_cons.1 h with h | h
        · exact absurd h.symm e
        · exact h
      have ih := offN_erase l h2
      rw [List.erase_cons_tail (by simpa using e)]
      unfold offN at *
      simp only [List.map_cons, List.sum_cons]
      omega
theorem offN_sub (l : List Wd) : ∀ {O L : List Int}, O.Nodup → (∀ x ∈ O, x ∈ L) → offN l O ≤ offN l L
  | [], L, _, _ => Nat.zero_le _
  | x :: r, L, h, hs => by
    rw [List.nodup_cons] at h
    have h2 : ∀ y ∈ r, y ∈ L.erase x := fun y hy => (List.mem_erase_of_ne (fun e => h.1 (by rw [← e]; exact hy))).2 (hs y (by simp [hy]))
    have h3 := offN_sub l h.2 h2
    have h4 := offN_erase l (hs x (by simp))
    have h5 : offN l (x :: r) = lenB l x + offN l r := by unfold offN; simp
    omega
theorem blks_off {l : List Wd} {p : Nat} {L : List Int} (h : Blks l p L) : offN l L + p = l.length := by
  induction h with
  | nil => simp [offN]
  | @cons p L h1 h2 ih =>
    have e : offN l (((p : Nat) : Int) :: L) = lenB l ((p : Nat) : Int) + offN l L := by unfold offN; simp
    have e2 : lenB l ((p : Nat) : Int) = stepN l p - p := by
      have := contW_len h1
      unfold lenB cn stepN
      rw [Int.toNat_natCast, this]
      omega
    have := (hdr_lt h1).2.1
    omega
theorem off_le {l : List Wd} {L O : List Int} (hg : GoodW l L) (hn : O.Nodup) (hs : ∀ x ∈ O, x ∈ L) : offN l O ≤ l.length := by
  have h1 := offN_sub l hn hs
  have h2 := blks_off hg.1
  omega
theorem rws_wc {g : G} {N : List Value} {xs : List Wd} (h : Rws wordE g N xs) : N = wc xs := by
  obtain ⟨rs, rfl, hh⟩ := h.ex
  induction hh with
  | nil => rfl
  | @cons a b _ _ h1 _ ih =>
    have h1 : a = [.bool b.1, .int .i64 b.2] := h1
    rw [List.flatten_cons, ih (by exact ⟨⟨_, rfl, by assumption⟩⟩), h1]
    rfl
theorem getD_some {l : List Wd} {i : Nat} {w : Wd} (h : l.getD i zW = w) (hi : i < l.length) : l[i]? = some w := by rw [← h]; exact getW hi
/-- The words of a block. -/
theorem hdr_words {l : List Wd} {q : Nat} (h : hdrP l q) : (l.drop q).take (3 + (contW l q).length) = blkW (l.getD q zW).2 (l.getD (q + 1) zW).2 (contW l q) := by
  have hc := contW_len h
  have hl := hdr_lt h
  obtain ⟨h1, h2, h3, h4, h5, h6, h7⟩ := h
  have e0 : l.drop q = l.getD q zW :: l.getD (q + 1) zW :: l.getD (q + 2) zW :: l.drop (q + 3) := by
    rw [List.drop_eq_getElem_cons (by omega), List.drop_eq_getElem_cons (by omega), List.drop_eq_getElem_cons (by omega)]
    simp [List.getD_eq_getElem?_getD, List.getElem?_eq_getElem (show q < l.length by omega), List.getElem?_eq_getElem (show q + 1 < l.length by omega), List.getElem?_eq_getElem (show q + 2 < l.length by omega)]
  have p0 : l.getD q zW = (false, (l.getD q zW).2) := by rw [← h2]
  have p1 : l.getD (q + 1) zW = (false, (l.getD (q + 1) zW).2) := by rw [← h3]
  have p2 : l.getD (q + 2) zW = (false, (((contW l q).length : Nat) : Int)) := by
    rw [hc]
    have : ((l.getD (q + 2) zW).2.toNat : Int) = (l.getD (q + 2) zW).2 := by omega
    rw [this, ← h4]
  rw [e0, show 3 + (contW l q).length = (contW l q).length + 1 + 1 + 1 by omega]
  simp only [List.take_succ_cons]
  unfold blkW
  rw [← p0, ← p1, ← p2]
  simp only [List.cons_append, List.nil_append]
  have : (l.drop (q + 3)).take (contW l q).length = contW l q := by
    rw [hc]; rfl
  rw [this]
end Go.Proofs.Ytcpclpkcanikiaa
/- The collector: a word is forwarded. -/
set_option linter.unusedVariables false
namespace Go.Proofs.Ytcpclpkcanikiaa
open Go Go.Vc Go.RowKit

theorem zero3 (w : World) : (zeroValue 3).run Try.prog w = .ok (.int .i64 0) w := by kernel_rfl
theorem cm_yes {l : List Wd} {O : List Int} {x : Int} (h : x ∈ O) : cm l O x = some (.int .i64 ((offN l (O.take (O.idxOf x)) : Nat) : Int)) := if_pos h
theorem cm_no {l : List Wd} {O : List Int} {x : Int} (h : ¬ x ∈ O) : cm l O x = none := if_neg h
theorem take_idx {O : List Int} {x y : Int} (h : y ∈ O) : (O ++ [x]).take ((O ++ [x]).idxOf y) = O.take (O.idxOf y) := by
  rw [List.idxOf_append, if_pos h, List.take_append_of_le_length (Nat.le_of_lt (List.idxOf_lt_length_of_mem h))]
theorem take_new {O : List Int} {x : Int} (h : ¬ x ∈ O) : (O ++ [x]).take ((O ++ [x]).idxOf x) = O := by
  rw [List.idxOf_append, if_neg h]
  simp
theorem cm_add {l : List Wd} {O : List Int} {x : Int} (h : ¬ x ∈ O) (y : Int) : updI (cm l O) x (some (.int .i64 ((offN l O : Nat) : Int))) y = cm l (O ++ [x]) y := by
  by_cases e : y = x
  · subst e
    rw [updI_same, cm_yes (by simp), take_new h]
  · rw [updI_other _ _ e]
    by_cases hy : y ∈ O
    · rw [cm_yes hy, cm_yes (by simp [hy]), take_idx hy]
    · rw [cm_no hy, cm_no (by simp [hy, e])]
theorem ColI.tl {g : G} {B D mb : Nat} {l : List Wd} {L : List Int} {ha : Option Addr} {hl hc : Nat} {fr lim : Int} {ta : Option Addr} {tl tc : Nat} {O : List Int} {F : Int → List Wd} (h : ColI g B D mb l L ha hl hc fr lim ta tl tc O F) : tl = offN l O := by
  have h1 := h.row.len
  rw [wc_len, allW_len h.len] at h1
  omega
/-- What a call of forward brings about. -/
structure FwdSay (g : G) (B D mb : Nat) (l : List Wd) (L : List Int) (ha : Option Addr) (hl hc : Nat) (fr lim : Int) (ta : Option Addr) (O : List Int) (F : Int → List Wd) (w : Wd) (v : Value) (g' : G) : Prop where
  ok : v = wdV (mv l (adv O w) w) ∧ ∃ ta' tl' tc' F', ColI g' B D mb l L ha hl hc fr lim ta' tl' tc' (adv O w) F' ∧ (∀ x ∈ O, F' x = F x) ∧ (∀ x, x ∈ adv O w → ¬ x ∈ O → F' x = cn l x) ∧ (∀ z, blkOf ta' z → blkOf ta z ∨ g.w.heap.size ≤ z)
theorem k106 {g : G} {B D mb : Nat} {l : List Wd} {L : List Int} {ha : Option Addr} {hl hc : Nat} {fr lim : Int} {ta : Option Addr} {tl tc : Nat} {O : List Int} {F : Int → List Wd} (h : ColI g B D mb l L ha hl hc fr lim ta tl tc O F) (hg : GoodW l L) (hlen : l.length ≤ 65536) (w : Wd) (hw : wordP L w) :
    CallsG Try.prog 106 #[.pointer (some ⟨D, 0, none⟩), wdV w] g (fun z => z = D ∨ z = mb ∨ blkOf ta z) fun v g' => FwdSay g B D mb l L ha hl hc fr lim ta O F w v g' := by
  refine P50.call106 (some ⟨D, 0, none⟩) w.1 w.2 g _ _ ?_
  unfold P50.F106
  obtain ⟨w0, x⟩ := w
  cases w0 with
  | false =>
    refine ifT (fun _ g1 m1 => ?_) (fun hh => by cases hh)
    have e : adv O (false, x) = O := adv_no (by simp)
    refine ⟨?_, ta, tl, tc, F, by rw [e]; exact h.ex m1, fun _ _ => rfl, fun y hy hn => absurd (e ▸ hy) hn, fun _ hz => .inl hz⟩
    rw [e]
    rfl
  | true =>
  have hxL : x ∈ L := by unfold wordP at hw; simpa using hw
  obtain ⟨q, hq, _, hhd⟩ := hg.1.mem x hxL
  have hld := hdr_lt hhd
  refine ifT (fun hh => by cases hh) (fun _ g2 m2 => ?_)
  have h2 := h.ex m2
  have htl := h.tl
  have hoff := off_le hg h.nodup h.sub
  have hlk := h2.map.lookOk Try.underlying3 Try.underlying115 (zero3 g2.w) x (wfI (by omega) (by omega))
  have blk6 : ∀ k, Addr.block (Addr.add ⟨D, 0, none⟩ k) = D := fun k => add_block _ _
  by_cases hxO : x ∈ O
  · rw [cm_yes hxO] at hlk
    have e : adv O (true, x) = O := adv_no (by simp [hxO])
    refine ⟨nobody, fun _ hh => hh.elim, fun hh => hh, some mb, h2.hm.rd (j := 6) rfl, _, _, _, hlk, g2, rfl, Stp.refl _ _ _, fun _ _ _ _ => rfl, ifT (fun hh => by cases hh) (fun _ g11 m11 => ?_)⟩
    refine ⟨?_, ta, tl, tc, F, by rw [e]; exact h2.ex m11, fun _ _ => rfl, fun y hy hn => absurd (e ▸ hy) hn, fun _ hz => .inl hz⟩
    rw [e]
    rfl
  rw [cm_no hxO] at hlk
  have e : adv O (true, x) = O ++ [x] := adv_yes rfl hxO
  refine ⟨nobody, fun _ hh => hh.elim, fun hh => hh, some mb, h2.hm.rd (j := 6) rfl, _, _, _, hlk, g2, rfl, Stp.refl _ _ _, fun _ _ _ _ => rfl, ifT (fun _ => ?_) (fun hh => by cases hh)⟩
  refine ⟨ta, tl, tc, h2.hm.rd (j := 3) rfl, fun g4 m4 => ?_⟩
  have h4 := h2.ex m4
  have hOl := nodup_le h.nodup h.sub
  have hLl : L.length ≤ l.length := by
    have h1 := blks_off hg.1
    have h2 : ∀ (X : List Int), X.length ≤ offN l X := by
      intro X
      induction X with
      | nil => exact Nat.zero_le _
      | cons y r ih =>
        have e2 : offN l (y :: r) = lenB l y + offN l r := by unfold offN; simp
        have : 3 ≤ lenB l y := by unfold lenB; omega
        simp only [List.length_cons]
        omega
    have := h2 L
    omega
  obtain ⟨w5, hr5, g5, e5, s5, m5⟩ := h4.map.putM Try.underlying3 Try.underlying115 (by unfold maxLen; omega) x (wfI (by omega) (by omega)) (.int .i64 ((tl : Nat) : Int))
  have hDm : D ≠ mb := mapI_other h4.map h4.hm
  have hrm : ¬ blkOf ta mb := row_map h4.row h4.map
  have hrD : ¬ blkOf ta D := row_other h4.row h4.hm (by decide)
  have b5 := (s5 _).but (Nat.le_refl _)
  have hm5 := h4.hm.but b5 (fun e => hDm e)
  have row5 := h4.row.but b5 (fun z hz e => hrm (e ▸ hz))
  have hh5 := h4.h.mono (s5 0).le
  refine ⟨nobody, fun _ hh => hh.elim, fun hh => hh, some mb, h4.hm.rd (j := 6) rfl, _, hr5, g5, e5, (s5 _).mono (Nat.le_refl _) (fun z _ hz => .inr (.inl hz)), fun g6 m6 => ?_⟩
  have hm6 := hm5.ex m6
  have row6 := row5.ex m6
  have hh6 := hh5.exm m6
  have map6 := m5.ex m6
  have hcl := contW_len hhd
  have hlh := h.h.len
  have hlec := h.h.le
  have hcn : cn l x = contW l q := by unfold cn; rw [hq, Int.toNat_natCast]
  have hsz6 : g.w.heap.size ≤ g6.w.heap.size := (Nat.le_trans m2.size (Nat.le_trans m4.size (Nat.le_trans (s5 0).le.size m6.size)))
  have hst : hdrP l q := hhd
  obtain ⟨c1, c2, c3, c4, c5, c6, c7⟩ := hst
  have hr6 := hm6.rd (j := 0) (v := .slice ha hl hc) rfl
  have hr6b := hm6.rd (j := 1) (v := .int .i64 fr) rfl
  have hr6c := hm6.rd (j := 2) (v := .int .i64 lim) rfl
  rw [Addr.add_zero'] at hr6
  have hnb : ∀ k, ¬ blkOf ta (Addr.block (Addr.add ⟨D, 0, none⟩ k)) := fun k => by rw [blk6]; exact hrD
  refine ⟨blkOf ta, fun z hz => row6.nx hz, hnb 3, ta, tl, tc, hm6.rd (j := 3) rfl, hrD, ha, hl, hc, hr6, hrD, ha, hl, hc, fr, lim, hr6, hr6b, hr6c, ?_⟩
  subst hq
  refine (k90 l hh6 fr lim q (by omega) (by omega) rfl (by omega) (by omega)).mono ?_
  rintro u g7 m7 rfl
  have hz3 : (3 : Int) + (l.getD (q + 2) zW).2 = ((3 + (contW l q).length : Nat) : Int) := by omega
  rw [hz3]
  generalize hn3 : (contW l q).length = cl at hcl
  have hq3 : Int.toNat (((q : Nat) : Int) + ((3 + cl : Nat) : Int)) = q + (3 + cl) := by omega
  refine ⟨_, rfl, i64 (by omega) (by omega), ⟨by omega, by omega⟩, ⟨by omega, by omega⟩, ?_⟩
  rw [hq3, Int.toNat_natCast]
  have hsub := (hh6.exm m7).sub (lo := q) (hi := q + (3 + cl)) (by omega) (by omega)
  have hwords := hdr_words hhd
  rw [hn3] at hwords
  rw [show q + (3 + cl) - q = 3 + cl by omega, hwords] at hsub
  rw [show q + (3 + cl) - q = 3 + cl by omega]
  obtain ⟨N, hN, hrws⟩ := hsub.ex
  have hNw := rws_wc hrws
  obtain ⟨a8, c8, w8, hr8, g8, e8, s8, row8, t8, l8⟩ := (row6.ex m7).app E22 22 (B := B) (Nat.le_trans h.hD (Nat.le_of_lt ((hm6.ex m7).lt))) hN hrws.one (by omega) (by unfold maxLen; omega)
  refine ⟨a8, _, c8, w8, hr8, g8, e8, t8.mono (Nat.le_trans hsz6 m7.size) (fun z _ hz => .inr (.inr hz)), fun z hz hx hn => (t8.same z (Nat.lt_of_lt_of_le hz m7.size) hn).trans (m7.same z hz hx), ?_⟩
  have b8 := t8.but (Nat.le_refl _)
  have hm8 := (hm6.ex m7).but b8 hrD
  have map8 := (map6.ex m7).but b8 hrm
  have hh8 := (hh6.exm m7).mono t8.le
  refine ⟨hm8.ok (j := 3) (n := 1) (show 3 + 1 ≤ 7 by omega), hm8.nxA _, hm8.mutA _ _, fun _ => .inl (blk6 3), fun g9 hst => ?_⟩
  obtain ⟨hm9, b9⟩ := hm8.st hst
  have hm9 : MutB g9 D 117 (colC ha hl hc fr lim a8 (tl + (3 + cl)) c8 mb) := hm9
  have hD8 : ¬ blkOf a8 D := row_other row8 hm8 (by decide)
  have row9 := row8.but b9 (fun z hz e => hD8 (e ▸ hz))
  have map9 := map8.but b9 (fun e => hDm e.symm)
  have hh9 := hh8.mono (b9.le (fun z hz i => by subst hz; exact hm8.d i))
  refine fun g10 m10 => ⟨?_, a8, tl + (3 + cl), c8, updF F ((q : Nat) : Int) (contW l q), ?_, ?_, ?_, fun z hz => (l8 z hz).imp id (fun hh => Nat.le_trans (Nat.le_trans hsz6 m7.size) hh)⟩
  · rw [e]
    unfold mv
    rw [if_pos rfl, take_new hxO, ← htl]
    rfl
  · rw [e]
    refine ColI.ex ⟨hm9, ?_, ?_, hh9, h.hD, h.hmb, ?_, ?_, ?_⟩ m10
    · have eA : allW l (updF F ((q : Nat) : Int) (contW l q)) (O ++ [((q : Nat) : Int)]) = allW l F O ++ blkW (l.getD q zW).2 (l.getD (q + 1) zW).2 (contW l q) := by
        rw [allW_append, allW_congr (F' := F) (fun y hy => updF_other F _ (fun hh => hxO (by rw [← hh]; exact hy)))]
        unfold allW
        simp only [List.flatMap_cons, List.flatMap_nil, List.append_nil]
        unfold blkM
        rw [updF_same, Int.toNat_natCast]
      rw [eA, wc_append, ← hNw]
      exact row9
    · rw [List.length_append]
      refine map9.congr (fun y => ?_)
      rw [← cm_add hxO y, htl]
    · intro y hy
      rcases List.mem_append.1 hy with hy | hy
      · exact h.sub y hy
      · cases List.mem_singleton.1 hy; exact hxL
    · have := adv_nodup h.nodup (true, ((q : Nat) : Int))
      rwa [e] at this
    · intro y hy
      rcases List.mem_append.1 hy with hy | hy
      · rw [updF_other F _ (fun hh => hxO (by rw [← hh]; exact hy))]
        exact h.len y hy
      · cases List.mem_singleton.1 hy
        rw [updF_same, hcn]
  · exact fun y hy => updF_other F _ (fun hh => hxO (by rw [← hh]; exact hy))
  · intro y hy hn
    rw [e] at hy
    rcases List.mem_append.1 hy with hy | hy
    · exact absurd hy hn
    · cases List.mem_singleton.1 hy
      rw [updF_same, hcn]
end Go.Proofs.Ytcpclpkcanikiaa
/- The collector: rows that are read and written while they grow. -/
set_option linter.unusedVariables false
namespace Go.Proofs.Ytcpclpkcanikiaa
open Go Go.Vc Go.RowKit

theorem wc_get : ∀ {T : List Wd} {i : Nat} {w : Wd}, T[i]? = some w → (wc T)[i * 2]? = some (.bool w.1) ∧ (wc T)[i * 2 + 1]? = some (.int .i64 w.2)
  | x :: r, 0, w, h => by cases h; exact ⟨rfl, rfl⟩
  | x :: r, i + 1, w, h => by
    obtain ⟨h1, h2⟩ := wc_get (T := r) (i := i) (w := w) h
    have e : (i + 1) * 2 = i * 2 + 1 + 1 := by omega
    rw [e, wc]
    exact ⟨h1, h2⟩
/-- A growing row, taken apart. -/
theorem row_parts {g : G} {B : Nat} {ta : Option Addr} {tl tc : Nat} {T : List Wd} (h : MutR g B 41 2 ta tl tc (wc T)) : T.length = tl ∧ ((ta = none ∧ tl = 0 ∧ tc = 0 ∧ T = []) ∨ ∃ b cur, ta = some ⟨b, 0, none⟩ ∧ B ≤ b ∧ MutB g b 41 cur ∧ cur.take (tl * 2) = wc T ∧ tl ≤ tc ∧ tc ≤ maxLen ∧ cur.length = tc * 2) := by
  have hl := h.len
  rw [wc_len] at hl
  refine ⟨by omega, ?_⟩
  rcases h.row with ⟨h1, h2, h3⟩ | ⟨b, cur, h1, h2, h3, h4, h5, h6, h7⟩
  · exact .inl ⟨h1, h2, h3, List.eq_nil_of_length_eq_zero (by omega)⟩
  · exact .inr ⟨b, cur, h1, h2, h3, h7, h4, h5, h6⟩
/-- A word of a growing row is read. -/
theorem row_rd {g : G} {B : Nat} {ta : Option Addr} {tl tc : Nat} {T : List Wd} (h : MutR g B 41 2 ta tl tc (wc T)) {i : Int} (p : Nat) (hi : i = (p : Int)) {w : Wd} (hw : T[p]? = some w) {K : Addr → Prop}
    (hk : ∀ b, ta = some ⟨b, 0, none⟩ → g.w.cell? (Addr.add ⟨b, 0, none⟩ (Int.toNat i * 2)) = some (.bool w.1) → g.w.cell? (Addr.add (Addr.add ⟨b, 0, none⟩ (Int.toNat i * 2)) 1) = some (.int .i64 w.2) → K ⟨b, 0, none⟩) : derefP ta K := by
  subst hi
  obtain ⟨hl, hr⟩ := row_parts h
  have hp := (List.getElem?_eq_some_iff.1 hw).1
  rcases hr with ⟨_, _, _, rfl⟩ | ⟨b, cur, rfl, h2, h3, h4, _⟩
  · simp at hw
  · obtain ⟨w1, w2⟩ := wc_get hw
    rw [← h4, List.getElem?_take] at w1 w2
    rw [if_pos (by omega)] at w1 w2
    rw [Int.toNat_natCast] at hk
    refine hk b rfl (h3.rd w1) ?_
    rw [addr_add_add]
    exact h3.rd w2
/-- A word of a growing row is written. -/
theorem row_st {g : G} {B : Nat} {b tl tc : Nat} {T : List Wd} (h : MutR g B 41 2 (some ⟨b, 0, none⟩) tl tc (wc T)) {p : Nat} (hp : p < tl) {q : Bool} {z : Int} :
    stOk g.w (Addr.add ⟨b, 0, none⟩ (p * 2)) 2 ∧ ¬ g.X (Addr.block (Addr.add ⟨b, 0, none⟩ (p * 2))) ∧ mutAt g (Addr.add ⟨b, 0, none⟩ (p * 2)) 2 ∧ B ≤ b ∧ b < g.w.heap.size ∧
    ∀ g', StG false g (Addr.add ⟨b, 0, none⟩ (p * 2)) [.bool q, .int .i64 z] g' → MutR g' B 41 2 (some ⟨b, 0, none⟩) tl tc (wc (T.set p (q, z))) ∧ But (fun x => x = b) g g' ∧ Le g g' := by
  obtain ⟨hl, hr⟩ := row_parts h
  rcases hr with ⟨hh, _⟩ | ⟨b2, cur, hh, h2, h3, h4, h5, h6, h7⟩
  · cases hh
  cases hh
  refine ⟨h3.ok (by omega), h3.nxA _, h3.mutA _ _, h2, h3.lt, fun g' hst => ?_⟩
  obtain ⟨s1, s2⟩ := h3.st hst
  refine ⟨⟨by rw [wc_len, List.length_set, hl], .inr ⟨b, _, rfl, h2, s1, h5, h6, ?_, ?_⟩⟩, s2, s2.le (fun x hx i => by subst hx; exact h3.d i)⟩
  · simp only [setsAt, List.length_set]
    exact h7
  · rw [← wc_set, ← h4]
    simp only [setsAt, List.take_set]
/-- A growing row, frozen. -/
theorem row_froz {g : G} {B : Nat} {b tl tc : Nat} {T : List Wd} (h : MutR g B 41 2 (some ⟨b, 0, none⟩) tl tc (wc T)) : SlE wordE (g.froz b) (some ⟨b, 0, none⟩) tl tc T := by
  obtain ⟨hl, hr⟩ := row_parts h
  rcases hr with ⟨hh, _⟩ | ⟨b2, cur, hh, h2, h3, h4, h5, h6, h7⟩
  · cases hh
  cases hh
  refine ⟨⟨wc T, ⟨by rw [wc_len, hl]; rfl, h5, h6, fun hh => (by cases hh), ?_⟩, wc_rws _ T⟩, hl⟩
  rintro ad rfl2 i v hi
  cases rfl2
  have hb : (Addr.add ⟨b, 0, none⟩ i).block = b := add_block _ _
  rw [← h4, List.getElem?_take] at hi
  split at hi
  · refine ⟨h3.rd hi, ?_, ?_⟩
    · rw [hb]; exact h3.nx
    · rintro ⟨_, hh⟩
      exact hh hb
  · cases hi
/-- The length of a block that stands in a growing row. -/
theorem k90m {g : G} {B : Nat} {ta : Option Addr} {tl tc : Nat} {T : List Wd} (h : MutR g B 41 2 ta tl tc (wc T)) (fr lim : Int) (p : Nat) (hp : p + 2 < tl) (hn : tl ≤ 1000000000000) {z : Int} (hz : T[p + 2]? = some (false, z)) (h1 : -1000000 ≤ z) (h2 : z ≤ 1000000) :
    CallsP Try.prog 90 #[hpV ta tl tc fr lim, .int .i64 ((p : Nat) : Int)] g fun v _ => v = .int .i64 (3 + z) := by
  obtain ⟨hl, hr⟩ := row_parts h
  rcases hr with ⟨_, h0, _⟩ | ⟨b, cur, rfl, _, h3, _⟩
  · omega
  refine CallsP.thaw h3.lt (k90 T (row_froz h) fr lim p hp hn (z := z) ?_ h1 h2) (fun v g1 g' hq _ _ => hq)
  rw [List.getD_eq_getElem?_getD, hz]
  rfl
end Go.Proofs.Ytcpclpkcanikiaa
/- The collector: the walk. -/
set_option linter.unusedVariables false
namespace Go.Proofs.Ytcpclpkcanikiaa
open Go Go.Vc Go.RowKit

theorem found_snoc (O : List Int) (ws : List Wd) (w : Wd) : found O (ws ++ [w]) = adv (found O ws) w := by unfold found; rw [List.foldl_append]; rfl
/-- How far the words of the blocks are moved. -/
def FSpec (l : List Wd) (O : List Int) (i k : Nat) (F : Int → List Wd) : Prop :=
  ∀ j x, O[j]? = some x → F x = if j < i then (cn l x).map (mv l O) else if j = i then ((cn l x).take k).map (mv l O) ++ (cn l x).drop k else cn l x
/-- What collect returns. -/
structure ColSay (l : List Wd) (roots : List Wd) (ha : Option Addr) (hl hc : Nat) (fr lim : Int) (fin : List Int) (v : Value) (g : G) : Prop where
  ok : ∃ D ta tc mb oa oc, v = .tuple ⟨[.pointer (some ⟨D, 0, none⟩), .slice oa roots.length oc]⟩ ∧
    MutB g D 117 [.slice ha hl hc, .int .i64 fr, .int .i64 lim, .slice ta (offN l fin) tc, .int .i64 ((offN l fin : Nat) : Int), .int .i64 lim, .map (some mb)] ∧
    SlE wordE g ta (offN l fin) tc (colW l fin) ∧ MapI Try.prog g 3 mb fin.length (cm l fin) ∧ SlE wordE g oa roots.length oc (roots.map (mv l fin))
theorem nodup_inj {O : List Int} (h : O.Nodup) {i j : Nat} {x : Int} (h1 : O[i]? = some x) (h2 : O[j]? = some x) : i = j :=
  (List.getElem?_inj (List.getElem?_eq_some_iff.1 h1).1 h).1 (h1.trans h2.symm)
theorem fspec_step {l : List Wd} {L : List Int} {O : List Int} {i k : Nat} {F F2 : Int → List Wd} {x : Int} {w : Wd} (hI : OrdI l L i O) {O1 : List Int} (hO1 : O1 = found O ((cn l x).take k)) (hx : O[i]? = some x) (hF : FSpec l O1 i k F) (hw : (cn l x)[k]? = some w) (hn : (adv O1 w).Nodup)
    (h1 : ∀ y ∈ O1, F2 y = F y) (h2 : ∀ y, y ∈ adv O1 w → ¬ y ∈ O1 → F2 y = cn l y) : FSpec l (adv O1 w) i (k + 1) (updF F2 x ((F2 x).set k (mv l (adv O1 w) w))) := by
  subst hO1
  have hp1 := found_pre ((cn l x).take k) O
  have hp2 := adv_pre (found O ((cn l x).take k)) w
  have hi := (List.getElem?_eq_some_iff.1 hx).1
  have hx1 := pre_get hp1 hx
  have hx2 := pre_get hp2 hx1
  have hk := (List.getElem?_eq_some_iff.1 hw).1
  intro j y hy
  have uniq : y = x → j = i := by
    rintro rfl
    exact nodup_inj hn hy hx2
  by_cases hyx : y = x
  · have hji := uniq hyx
    subst hyx
    subst hji
    rw [updF_same, if_neg (Nat.lt_irrefl _), if_pos rfl, h1 _ (List.mem_of_getElem? hx1), hF j y hx1, if_neg (Nat.lt_irrefl _), if_pos rfl]
    have hm : ((cn l y).take k).map (mv l (adv (found O ((cn l y).take k)) w)) = ((cn l y).take k).map (mv l (found O ((cn l y).take k))) := mv_map hp2 (fun v hv h => found_mem _ hv h)
    have hd : (cn l y).drop k = w :: (cn l y).drop (k + 1) := by rw [List.drop_eq_getElem_cons hk, (List.getElem?_eq_some_iff.1 hw).2]
    have hlen : (((cn l y).take k).map (mv l (found O ((cn l y).take k)))).length = k := by rw [List.length_map, List.length_take]; omega
    rw [take_snoc hw, List.map_append, hm, hd, List.set_append_right _ _ (by omega), hlen, Nat.sub_self]
    simp
  · rw [updF_other _ _ hyx]
    have hji : j ≠ i := by
      rintro rfl
      rw [hx2] at hy
      exact hyx (Option.some.inj hy).symm
    rw [if_neg hji]
    by_cases hjl : j < (found O ((cn l x).take k)).length
    · have hy1 := pre_got hp2 hjl hy
      rw [h1 _ (List.mem_of_getElem? hy1), hF j y hy1, if_neg hji]
      split
      · rename_i hlt
        have hy0 := pre_got hp1 (by omega) hy1
        exact (mv_map hp2 (fun v hv h => hp1.subset (hI.cl j y hlt hy0 v hv h))).symm
      · rfl
    · have hlen := hp1.length_le
      rw [if_neg (by omega)]
      refine h2 y (List.mem_of_getElem? hy) (fun hm => ?_)
      obtain ⟨j2, hj2⟩ := List.getElem?_of_mem hm
      have hj2l := (List.getElem?_eq_some_iff.1 hj2).1
      have hj3 := pre_get hp2 hj2
      have := nodup_inj hn hy hj3
      omega
end Go.Proofs.Ytcpclpkcanikiaa
/- The collector: collect. -/
set_option linter.unusedVariables false
namespace Go.Proofs.Ytcpclpkcanikiaa
open Go Go.Vc Go.RowKit

theorem ColI.but {g g' : G} {B D mb : Nat} {l : List Wd} {L : List Int} {ha : Option Addr} {hl hc : Nat} {fr lim : Int} {ta : Option Addr} {tl tc : Nat} {O : List Int} {F : Int → List Wd} (h : ColI g B D mb l L ha hl hc fr lim ta tl tc O F) {p : Nat → Prop} (k : But p g g') (hle : Le g g')
    (h1 : ¬ p D) (h2 : ¬ p mb) (h3 : ∀ z, blkOf ta z → ¬ p z) : ColI g' B D mb l L ha hl hc fr lim ta tl tc O F :=
  ⟨h.hm.but k h1, h.row.but k h3, h.map.but k h2, h.h.mono hle, h.hD, h.hmb, h.sub, h.nodup, h.len⟩
theorem own_mut {α : Type} {E : El α} {g : G} {B : Nat} {e : TypeId} {a : Option Addr} {n c : Nat} {xs : List α} (h : OwnE E g B e a n c xs) {D : Nat} {t : TypeId} {cs : List Value} (hm : MutB g D t cs) (hne : t ≠ e) : ¬ blkOf a D := by
  rintro ⟨ad, rfl, rfl⟩
  obtain ⟨L, h1, _⟩ := h.ex
  rcases h1.row with ⟨hh, _⟩ | ⟨b, cur, hh, _, h2, _⟩
  · cases hh
  · cases hh
    have h4 : g.w.heap[b]? = _ := hm.blk
    rw [h2] at h4
    cases h4
    exact hne rfl
theorem own_map {α : Type} {E : El α} {g : G} {B : Nat} {e : TypeId} {a : Option Addr} {n c : Nat} {xs : List α} (h : OwnE E g B e a n c xs) {k : TypeId} {b q : Nat} {f : Int → Option Value} (hm : MapI Try.prog g k b q f) : ¬ blkOf a b := by
  rintro ⟨ad, rfl, rfl⟩
  obtain ⟨L, h1, _⟩ := h.ex
  rcases h1.row with ⟨hh, _⟩ | ⟨b2, cur, hh, _, h2, _⟩
  · cases hh
  · cases hh
    obtain ⟨_, ⟨es, clock, hb, _⟩, _⟩ := hm.own
    simp only at hb
    rw [h2] at hb
    cases hb
theorem offN_split {l : List Wd} {O : List Int} {i : Nat} {x : Int} (h : O[i]? = some x) : offN l O = offN l (O.take i) + lenB l x + offN l (O.drop (i + 1)) := by
  have e : offN l O = offN l (O.take i ++ x :: O.drop (i + 1)) := by rw [← split_at h]
  rw [e, offN_append]
  unfold offN
  simp
  omega
theorem pre_take {O O' : List Int} (h : O <+: O') {i : Nat} (hi : i ≤ O.length) : O'.take i = O.take i := by
  obtain ⟨t, rfl⟩ := h
  exact List.take_append_of_le_length hi
/-- What collect returns, of which the words may still be turned. -/
def ColRaw (B : Nat) (l : List Wd) (roots : List Wd) (ha : Option Addr) (hl hc : Nat) (fr lim : Int) (fin : List Int) (v : Value) (g : G) : Prop :=
  ∃ D ta tc mb oa oc, v = .tuple ⟨[.pointer (some ⟨D, 0, none⟩), .slice oa roots.length oc]⟩ ∧
    MutB g D 117 [.slice ha hl hc, .int .i64 fr, .int .i64 lim, .slice ta (offN l fin) tc, .int .i64 ((offN l fin : Nat) : Int), .int .i64 lim, .map (some mb)] ∧
    MutR g B 41 2 ta (offN l fin) tc (wc (colW l fin)) ∧ MapI Try.prog g 3 mb fin.length (cm l fin) ∧ SlE wordE g oa roots.length oc (roots.map (mv l fin))
theorem k84raw {l : List Wd} {L : List Int} (hg : GoodW l L) (hlen : l.length ≤ 65536) {ha : Option Addr} {hl hc : Nat} {g : G} (h : SlE wordE g ha hl hc l) (fr lim : Int) (roots : List Wd) {ra : Option Addr} {rl rc : Nat} (hr : SlE wordE g ra rl rc roots) (hrl : rl ≤ 65536) (hrw : ∀ w ∈ roots, wordP L w) :
    CallsP Try.prog 84 #[hpV ha hl hc fr lim, .slice ra rl rc] g fun v g' => ColRaw g.w.heap.size l roots ha hl hc fr lim (ord l L roots) v g' := by
  refine P50.call84 ha hl hc fr lim ra rl rc g _ ?_
  have hrlen := hr.len
  have hllen := h.len
  have hLl : L.length ≤ l.length := by
    have h1 := blks_off hg.1
    have h2 : ∀ (X : List Int), X.length ≤ offN l X := by
      intro X
      induction X with
      | nil => exact Nat.zero_le _
      | cons y r ih =>
        have e2 : offN l (y :: r) = lenB l y + offN l r := by unfold offN; simp
        have : 3 ≤ lenB l y := by unfold lenB; omega
        simp only [List.length_cons]
        omega
    have := h2 L
    omega
  unfold P50.F84
  intro g1 m1 g2 n2 g3 n3
  have hmap2 := MapI.new n2 Try.prog 3
  have hm3 := n3.mut
  have m13 : Ex g1 g3 := n2.ex.trans n3.ex
  have m03 := m1.trans m13
  have hmb0 : g.w.heap.size ≤ g1.w.heap.size := m1.size
  have hD0 : g.w.heap.size ≤ g2.w.heap.size := Nat.le_trans m1.size n2.ex.size
  have hmap3 := hmap2.ex n3.ex
  generalize g1.w.heap.size = mb at hmap3 hm3 hmb0 ⊢
  generalize g2.w.heap.size = D at hm3 hD0 ⊢
  have hMlow : ∀ {gx : G} {ta : Option Addr} {tl tc : Nat} {O : List Int} {F : Int → List Wd}, ColI gx g.w.heap.size D mb l L ha hl hc fr lim ta tl tc O F → ∀ b, b < g.w.heap.size → (b = D ∨ b = mb ∨ blkOf ta b) → nobody b := by
    intro gx ta tl tc O F hC b hb hM
    rcases hM with rfl | rfl | hz
    · omega
    · omega
    · have := hC.row.ge hz; omega
  refine ⟨fun m oa on oc v g' => ∃ (j : Nat) (ta : Option Addr) (tl tc : Nat) (F : Int → List Wd), v = ((j : Nat) : Int) ∧ j + m = rl ∧ on = j ∧ OwnE wordE g' g.w.heap.size 41 oa on oc ((roots.take j).map (mv l (found [] (roots.take j)))) ∧ ColI g' g.w.heap.size D mb l L ha hl hc fr lim ta tl tc (found [] (roots.take j)) F ∧
      (∀ x ∈ found [] (roots.take j), F x = cn l x) ∧ (∀ z, blkOf oa z → ¬ blkOf ta z) ∧ g.w.heap.size ≤ g'.w.heap.size, ⟨rl, 0, none, 0, 0, fun x => cn l x, rfl, by omega, rfl, OwnE.nil _ _ _, ?_, fun _ _ => rfl, fun z hz _ => (by obtain ⟨_, hh, _⟩ := hz; cases hh), m03.size⟩, ?_⟩
  · exact ⟨hm3, MutR.nil _ _ _ _, hmap3.congr (fun s => (cm_no (by simp [found])).symm), h.exm m03, hD0, hmb0, fun x hx => by simp [found] at hx, by simp [found], fun _ _ => rfl⟩
  rintro m oa on oc v g4 le4 ⟨j, ta, tl, tc, F, rfl, hjm, rfl, ho, hC, hFr, hdis, hsz⟩
  refine ifLt (fun hlt => ⟨⟨by omega, by omega⟩, ?_⟩) (fun hge => ?_)
  · have hjl : on < roots.length := by omega
    have gj := List.getElem?_eq_getElem hjl
    refine (hr.mono (m03.le.trans le4)).rd (i := on) gj ?_
    rintro r ad rfl hrr
    have c0 := (hrr 0 _ rfl).1
    rw [Addr.add_zero'] at c0
    refine ⟨roots[on].1, roots[on].2, by rw [Int.toNat_natCast]; exact c0, by rw [Int.toNat_natCast]; exact (hrr 1 _ rfl).1, fun g5 m5 => ⟨fun z => z = D ∨ z = mb ∨ blkOf ta z, hMlow hC, ?_⟩⟩
    have hC5 := hC.ex m5
    refine (k106 hC5 hg hlen roots[on] (hrw _ (List.mem_of_getElem? gj))).mono ?_
    rintro v g6 s6 ⟨rfl, ta', tl', tc', F', hC6, hF1, hF2, hbl⟩
    refine ⟨_, _, rfl, fun g7 n7 => ?_⟩
    have ho5 := ho.exm m5
    have ho6 := ho5.but (s6.but (Nat.le_refl _)) (by
      rintro z hz (rfl | rfl | hz2)
      · exact own_mut ho5 hC5.hm (by decide) hz
      · exact own_map ho5 hC5.map hz
      · exact hdis z hz hz2) s6.le
    have hB6 : g.w.heap.size ≤ g6.w.heap.size := Nat.le_trans hsz (Nat.le_trans m5.size s6.le.size)
    obtain ⟨a', c', w', hrun, g8, hw8, hs8, ho8, hst8, hl8⟩ := OwnE.app1 E22 22 (B := g.w.heap.size) hB6 ho6 n7 (x := mv l (adv (found [] (roots.take on)) roots[on]) roots[on]) rfl (by omega) (by unfold maxLen; omega)
    have hC7 := hC6.ex n7.ex
    have hdis6 : ∀ z, blkOf oa z → ¬ blkOf ta' z := fun z hz hz2 => by
      rcases hbl z hz2 with hz3 | hz3
      · exact hdis z hz hz3
      · have := ho5.lt hz; omega
    have ho7 := ho6.exm n7.ex
    have hC8 := hC7.but (hst8.but (Nat.le_refl _)) hst8.le (own_mut ho7 hC7.hm (by decide)) (own_map ho7 hC7.map) (fun z hz hz2 => hdis6 z hz2 hz)
    have etk : roots.take (on + 1) = roots.take on ++ [roots[on]] := take_snoc gj
    refine ⟨a', _, c', w', hrun, g8, hw8, hs8, i64 (by omega) (by omega), m - 1, by omega, on + 1, ta', tl', tc', F', by omega, by omega, rfl, ?_, ?_, ?_, ?_, Nat.le_trans hB6 (Nat.le_trans n7.ex.size hs8.le.size)⟩
    · rw [etk, found_snoc, List.map_append, mv_map (adv_pre _ _) (fun w hw h1 => found_mem _ hw h1)]
      exact ho8
    · rw [etk, found_snoc]
      exact hC8
    · rw [etk, found_snoc]
      intro x hx
      by_cases hxo : x ∈ found [] (roots.take on)
      · rw [hF1 x hxo]; exact hFr x hxo
      · exact hF2 x hx hxo
    · intro z hz hz2
      rcases hl8 z hz with hz3 | hz3
      · exact hdis6 z hz3 hz2
      · have := hC7.row.lt hz2; omega
  -- the blocks
  have hon : on = rl := by omega
  have etk : roots.take on = roots := List.take_of_length_le (by omega)
  rw [etk] at ho hC hFr
  have hI0 : OrdI l L 0 (found [] roots) := OrdI.start hrw
  obtain ⟨hIf, hpf⟩ := ordF_spec hg (L.length + 1) 0 _ hI0 (by omega)
  have hout : SlE wordE g4 oa rl oc (roots.map (mv l (ord l L roots))) := by
    unfold ord
    rw [mv_map hpf (fun w hw h1 => found_mem _ hw h1), ← hon]
    exact ho.sl
  refine ⟨fun m2 at0 g' => ∃ (i : Nat) (ta : Option Addr) (tl tc : Nat) (O : List Int) (F : Int → List Wd), at0 = ((offN l (O.take i) : Nat) : Int) ∧ ColI g' g.w.heap.size D mb l L ha hl hc fr lim ta tl tc O F ∧ OrdI l L i O ∧ ordF l m2 i O = ord l L roots ∧ L.length < m2 + i ∧ FSpec l O i 0 F ∧ i ≤ O.length,
    ⟨L.length + 1, 0, ta, tl, tc, _, F, rfl, hC, hI0, rfl, by omega, ?_, Nat.zero_le _⟩, ?_⟩
  · intro j2 x hx
    rw [hFr x (List.mem_of_getElem? hx)]
    split
    · omega
    · split <;> simp
  rintro m2 at0 g9 le9 ⟨i, ta, tl, tc, O, F, rfl, hC, hI, hfin, hfuel, hFS, hiO⟩
  have htl := hC.tl
  have hoff := off_le hg hI.nodup hI.sub
  refine ⟨ta, tl, tc, hC.hm.rd (j := 3) rfl, ifLt (fun hlt => ?_) (fun hge => ?_)⟩
  · have hil : i < O.length := by
      rcases Nat.lt_or_ge i O.length with hh | hh
      · exact hh
      · rw [List.take_of_length_le hh] at hlt
        omega
    have hx := List.getElem?_eq_getElem hil
    generalize O[i] = x at hx
    have hsp := offN_split (l := l) hx
    generalize hoffi : offN l (O.take i) = off at hsp hlt
    have hlb : lenB l x = 3 + (cn l x).length := rfl
    generalize hcl : (cn l x).length = cl at hlb
    have hhead := allW_head hC.len hx
    rw [hoffi, hcl] at hhead
    have r4 := hC.hm.rd (j := 4) (v := .int .i64 0) rfl
    have r5 := hC.hm.rd (j := 5) (v := .int .i64 lim) rfl
    refine ⟨ta, tl, tc, 0, lim, hC.hm.rd (j := 3) rfl, by rw [addr_add_add]; exact r4, by rw [addr_add_add]; exact r5, (k90m hC.row 0 lim off (by omega) (by omega) hhead (by omega) (by omega)).mono ?_⟩
    rintro v g10 m10 rfl
    have e3 : (3 : Int) + ((cl : Nat) : Int) = ((3 + cl : Nat) : Int) := by omega
    rw [e3]
    refine ⟨_, rfl, i64 (by omega) (by omega), fun m4 idx g' => ∃ (k : Nat) (ta : Option Addr) (tl tc : Nat) (F : Int → List Wd), idx = ((off + 3 + k : Nat) : Int) ∧ k + m4 = cl ∧ ColI g' g.w.heap.size D mb l L ha hl hc fr lim ta tl tc (found O ((cn l x).take k)) F ∧ FSpec l (found O ((cn l x).take k)) i k F,
      ⟨cl, 0, ta, tl, tc, F, by omega, by omega, hC.ex m10, hFS⟩, ?_⟩
    rintro m4 idx g11 le11 ⟨k, ta1, tl1, tc1, F1, rfl, hkm, hC1, hFS1⟩
    have hp1 := found_pre ((cn l x).take k) O
    have hx1 := pre_get hp1 hx
    have htl1 := hC1.tl
    have hoff1 := off_le hg hC1.nodup hC1.sub
    refine ⟨i64 (by omega) (by omega), ifLt (fun hlt1 => ?_) (fun hge1 => ?_)⟩
    · have hkc : k < (cn l x).length := by omega
      have hwk := List.getElem?_eq_getElem hkc
      generalize (cn l x)[k] = w at hwk
      have hFx : F1 x = ((cn l x).take k).map (mv l (found O ((cn l x).take k))) ++ (cn l x).drop k := by
        rw [hFS1 i x hx1, if_neg (Nat.lt_irrefl _), if_pos rfl]
      have hFxl : (F1 x).length = cl := by rw [hC1.len x (List.mem_of_getElem? hx1), hcl]
      have hget := allW_get hC1.len hx1 (k := k) (by omega)
      rw [pre_take hp1 (Nat.le_of_lt hil), hoffi, hFx, List.getElem?_append_right (by rw [List.length_map, List.length_take]; omega), List.length_map, List.length_take, List.getElem?_drop, show k + (k - min k (cn l x).length) = k by omega, hwk] at hget
      have hidx := (List.getElem?_eq_some_iff.1 hget).1
      have hrl1 := (row_parts hC1.row).1
      refine ⟨ta1, tl1, tc1, hC1.hm.rd (j := 3) rfl, ⟨by omega, by omega⟩, row_rd hC1.row (off + 3 + k) rfl hget (fun b _ c0 c1 => ⟨_, _, c0, c1, fun z => z = D ∨ z = mb ∨ blkOf ta1 z, hMlow hC1, ?_⟩)⟩
      have hxL := hI.sub x (List.mem_of_getElem? hx)
      refine (k106 hC1 hg hlen w (hg.2 x hxL w (List.mem_of_getElem? hwk))).mono ?_
      rintro v g12 s12 ⟨rfl, ta2, tl2, tc2, F2, hC2, hF1, hF2, hbl⟩
      refine ⟨_, _, rfl, fun g13 m13' => ?_⟩
      have hC3 := hC2.ex m13'
      have hp2 := adv_pre (found O ((cn l x).take k)) w
      have hx2 := pre_get hp2 hx1
      have hF2x : (F2 x).length = cl := by rw [hC2.len x (List.mem_of_getElem? hx2), hcl]
      have hrl2 := (row_parts hC3.row).1
      have htl2 := hC3.tl
      have hoff2 := hsp
      have hin2 : off + 3 + k < tl2 := by
        have hget2 := allW_get hC3.len hx2 (k := k) (by omega)
        rw [pre_take (hp1.trans hp2) (Nat.le_of_lt hil), hoffi, List.getElem?_eq_getElem (show k < (F2 x).length by omega)] at hget2
        have := (List.getElem?_eq_some_iff.1 hget2).1
        omega
      obtain ⟨b, hb⟩ : ∃ b, ta2 = some ⟨b, 0, none⟩ := by
        rcases (row_parts hC3.row).2 with ⟨_, h0, _⟩ | ⟨b, cur, hb, _⟩
        · omega
        · exact ⟨b, hb⟩
      subst hb
      obtain ⟨t1, t2, t3, t4, t5, t6⟩ := row_st hC3.row hin2 (q := (mv l (adv (found O ((cn l x).take k)) w) w).1) (z := (mv l (adv (found O ((cn l x).take k)) w) w).2)
      refine ⟨_, tl2, tc2, hC3.hm.rd (j := 3) rfl, ⟨by omega, by omega⟩, ?_⟩
      rw [Int.toNat_natCast]
      refine ⟨t1, t2, t3, fun hh => ?_, fun g14 hst => ?_⟩
      · rw [add_block] at hh
        have hh : b < g.w.heap.size := hh
        omega
      obtain ⟨u1, u2, u3⟩ := t6 g14 hst
      have hDb : ¬ D = b := fun e => row_other hC3.row hC3.hm (by decide) ⟨_, rfl, e.symm⟩
      have hmbb : ¬ mb = b := fun e => row_map hC3.row hC3.map ⟨_, rfl, e.symm⟩
      have hset := allW_set hC3.nodup hC3.len hx2 (k := k) (by omega) (mv l (adv (found O ((cn l x).take k)) w) w)
      rw [pre_take (hp1.trans hp2) (Nat.le_of_lt hil), hoffi] at hset
      rw [show (((mv l (adv (found O ((cn l x).take k)) w) w).1, (mv l (adv (found O ((cn l x).take k)) w) w).2) : Wd) = mv l (adv (found O ((cn l x).take k)) w) w from rfl, hset] at u1
      have etk : found O ((cn l x).take (k + 1)) = adv (found O ((cn l x).take k)) w := by rw [take_snoc hwk, found_snoc]
      refine ⟨i64 (by omega) (by omega), m4 - 1, by omega, k + 1, some ⟨b, 0, none⟩, tl2, tc2, updF F2 x ((F2 x).set k (mv l (adv (found O ((cn l x).take k)) w) w)), by omega, by omega, ?_, ?_⟩
      · rw [etk]
        refine ⟨hC3.hm.but u2 hDb, u1, hC3.map.but u2 hmbb, hC3.h.mono u3, hC3.hD, hC3.hmb, hC3.sub, hC3.nodup, ?_⟩
        intro y hy
        by_cases e : y = x
        · subst e
          rw [updF_same, List.length_set]
          exact hC3.len y hy
        · rw [updF_other _ _ e]
          exact hC3.len y hy
      · rw [etk]
        exact fspec_step hI rfl hx hFS1 hwk hC3.nodup hF1 hF2
    · have hkc : k = cl := by omega
      subst hkc
      have etk : (cn l x).take k = cn l x := List.take_of_length_le (by omega)
      rw [etk] at hC1 hFS1 hp1 hx1
      obtain ⟨f', rfl, hstep⟩ := ordF_step hI hfuel hx
      have hnx := pre_take hp1 (i := i + 1) (by omega)
      have htk : O.take (i + 1) = O.take i ++ [x] := take_snoc hx
      refine ⟨i64 (by omega) (by omega), f', by omega, i + 1, ta1, tl1, tc1, _, F1, ?_, hC1, hI.next hg hx, by rw [← hstep]; exact hfin, by omega, ?_, ?_⟩
      · rw [hnx, htk, offN_append, hoffi, show offN l [x] = lenB l x by simp [offN], hlb]
        omega
      · intro j y hy
        rw [hFS1 j y hy]
        rcases Nat.lt_trichotomy j i with hh | hh | hh
        · rw [if_pos hh, if_pos (by omega)]
        · subst hh
          rw [hx1] at hy
          cases hy
          rw [if_neg (Nat.lt_irrefl _), if_pos rfl, if_pos (by omega), etk, List.drop_of_length_le (by omega)]
          simp
        · rw [if_neg (by omega), if_neg (by omega), if_neg (by omega)]
          split <;> simp
      · have := hp1.length_le
        omega
  · have hil : O.length ≤ i := by
      rcases Nat.lt_or_ge i O.length with hh | hh
      · have hsp := offN_split (l := l) (List.getElem?_eq_getElem hh)
        have : 3 ≤ lenB l O[i] := by unfold lenB; omega
        omega
      · exact hh
    rw [ordF_end hil] at hfin
    subst hfin
    have hall : allW l F (ord l L roots) = colW l (ord l L roots) := by
      refine allW_congr (fun x hx => ?_)
      obtain ⟨j, hj⟩ := List.getElem?_of_mem hx
      have := (List.getElem?_eq_some_iff.1 hj).1
      rw [hFS j x hj, if_pos (by omega)]
    have hrow := hC.row
    rw [hall] at hrow
    subst htl
    refine ⟨ta, _, tc, hC.hm.rd (j := 3) rfl, ?_⟩
    rw [addr_add_add]
    refine ⟨hC.hm.ok (j := 4) (n := 1) (show 4 + 1 ≤ 7 by omega), hC.hm.nxA _, hC.hm.mutA _ _, fun hh => ?_, fun g15 hst g16 m16 => ?_⟩
    · rw [add_block] at hh
      have hh : D < g.w.heap.size := hh
      omega
    obtain ⟨s1, s2⟩ := hC.hm.st hst
    have s1 : MutB g15 D 117 [.slice ha hl hc, .int .i64 fr, .int .i64 lim, .slice ta (offN l (ord l L roots)) tc, .int .i64 ((offN l (ord l L roots) : Nat) : Int), .int .i64 lim, .map (some mb)] := s1
    have hle15 : Le g9 g15 := s2.le (fun z hz i => by subst hz; exact hC.hm.d i)
    refine ⟨D, ta, tc, mb, oa, oc, ?_, s1.ex m16, (hrow.but s2 (fun z hz e => row_other hC.row hC.hm (by decide) (e ▸ hz))).ex m16, (hC.map.but s2 (fun e => mapI_other hC.map hC.hm e.symm)).ex m16, ?_⟩
    · rw [← hrlen] at hon
      rw [hon]
    · rw [hrlen]
      exact ((hout.mono le9).mono hle15).exm m16
end Go.Proofs.Ytcpclpkcanikiaa
