/- Joined texts. -/
import Derived.Test.YtcpclpkcanikiaaC50m
import Derived.Test.YtcpclpkcanikiaaC50o
import Derived.Test.YtcpclpkcanikiaaC49A
/- The collector: when two heaps are the same, in plain Lean. -/
set_option linter.unusedVariables false
namespace Go.Proofs.Ytcpclpkcanikiaa
open Go Go.Vc Go.RowKit

/-- Words that match under a relation of blocks. -/
def Mt (S : Int → Int → Prop) (v w : Wd) : Prop := v.1 = w.1 ∧ (v.1 = false → v.2 = w.2) ∧ (v.1 = true → S v.2 w.2)
/-- One to one. -/
structure Bij (S : Int → Int → Prop) : Prop where
  fst : ∀ x y y', S x y → S x y' → y = y'
  snd : ∀ x x' y, S x y → S x' y → x = x'
/-- Blocks that match. -/
def Blk2 (a b : List Wd) (S : Int → Int → Prop) (x y : Int) : Prop := (a.getD x.toNat zW).2 = (b.getD y.toNat zW).2 ∧ (a.getD (x.toNat + 1) zW).2 = (b.getD (y.toNat + 1) zW).2 ∧ All2 (Mt S) (cn a x) (cn b y)
theorem all2_mem {α β : Type} {R : α → β → Prop} : ∀ {l : List α} {m : List β}, All2 R l m → ∀ x ∈ l, ∃ y ∈ m, R x y
  | _, _, .nil, x, h => by cases h
  | _, _, .cons h1 h2, x, h => by
    rcases List.mem_cons.1 h with rfl | h
    · exact ⟨_, by simp, h1⟩
    · obtain ⟨y, hy, hr⟩ := all2_mem h2 x h
      exact ⟨y, by simp [hy], hr⟩
theorem all2_mem' {α β : Type} {R : α → β → Prop} : ∀ {l : List α} {m : List β}, All2 R l m → ∀ y ∈ m, ∃ x ∈ l, R x y
  | _, _, .nil, x, h => by cases h
  | _, _, .cons h1 h2, y, h => by
    rcases List.mem_cons.1 h with rfl | h
    · exact ⟨_, by simp, h1⟩
    · obtain ⟨x, hx, hr⟩ := all2_mem' h2 y h
      exact ⟨x, by simp [hx], hr⟩
theorem found_rel {S : Int → Int → Prop} (hS : Bij S) : ∀ {ws ws' : List Wd} {O O' : List Int}, All2 (Mt S) ws ws' → All2 S O O' → All2 S (found O ws) (found O' ws')
  | _, _, O, O', .nil, h => h
  | v :: ws, w :: ws', O, O', .cons h1 h2, h => by
    rw [found_cons, found_cons]
    refine found_rel hS h2 ?_
    by_cases hv : v.1 = true
    · have hw : w.1 = true := by rw [← h1.1]; exact hv
      have hs := h1.2.2 hv
      by_cases hin : v.2 ∈ O
      · have hin' : w.2 ∈ O' := by
          obtain ⟨y, hy, hr⟩ := all2_mem h _ hin
          rw [hS.fst _ _ _ hs hr]
          exact hy
        rw [adv_no (fun hh => hh.2 hin), adv_no (fun hh => hh.2 hin')]
        exact h
      · have hin' : ¬ w.2 ∈ O' := by
          intro hh
          obtain ⟨x, hx, hr⟩ := all2_mem' h _ hh
          exact hin (by rw [hS.snd _ _ _ hs hr]; exact hx)
        rw [adv_yes hv hin, adv_yes hw hin']
        exact h.append (.cons hs .nil)
    · rw [adv_no (fun hh => hv hh.1), adv_no (fun hh => hv (by rw [h1.1]; exact hh.1))]
      exact h
theorem ordF_rel {S : Int → Int → Prop} (hS : Bij S) {a b : List Wd} (hc : ∀ x y, S x y → Blk2 a b S x y) : ∀ (f i : Nat) {O O' : List Int}, All2 S O O' → All2 S (ordF a f i O) (ordF b f i O')
  | 0, i, O, O', h => h
  | f + 1, i, O, O', h => by
    have hl := h.length
    cases hx : O'[i]? with
    | none =>
      have h1 : O'.length ≤ i := List.getElem?_eq_none_iff.1 hx
      rw [ordF_end h1, ordF_end (by omega)]
      exact h
    | some y =>
      obtain ⟨x, hx2, hr⟩ := h.get hx
      have e1 : ordF a (f + 1) i O = ordF a f (i + 1) (found O (cn a x)) := by simp only [ordF, hx2]
      have e2 : ordF b (f + 1) i O' = ordF b f (i + 1) (found O' (cn b y)) := by simp only [ordF, hx]
      rw [e1, e2]
      exact ordF_rel hS hc f (i + 1) (found_rel hS (hc x y hr).2.2 h)
theorem off_rel {S : Int → Int → Prop} {a b : List Wd} (hc : ∀ x y, S x y → Blk2 a b S x y) : ∀ {A B : List Int}, All2 S A B → offN a A = offN b B
  | _, _, .nil => rfl
  | x :: A, y :: B, .cons h1 h2 => by
    have ih := off_rel hc h2
    have hl := (hc x y h1).2.2.length
    have e1 : offN a (x :: A) = lenB a x + offN a A := by unfold offN; simp
    have e2 : offN b (y :: B) = lenB b y + offN b B := by unfold offN; simp
    rw [e1, e2, ih]
    unfold lenB
    rw [hl]
theorem idx_rel {S : Int → Int → Prop} (hS : Bij S) {A B : List Int} (h : All2 S A B) (hn : A.Nodup) {x y : Int} (hs : S x y) (hx : x ∈ A) (hy : y ∈ B) : A.idxOf x = B.idxOf y := by
  obtain ⟨x', h1, h2⟩ := h.get (idx_get hy)
  have : x' = x := hS.snd _ _ _ h2 hs
  subst this
  exact nodup_inj hn (idx_get hx) h1
/-- What matches has the same copy. -/
theorem mv_rel {S : Int → Int → Prop} (hS : Bij S) {a b : List Wd} (hc : ∀ x y, S x y → Blk2 a b S x y) {A B : List Int} (h : All2 S A B) (hn : A.Nodup) {v w : Wd} (hm : Mt S v w) (hv : v.1 = true → v.2 ∈ A) (hw : w.1 = true → w.2 ∈ B) : mv a A v = mv b B w := by
  by_cases h1 : v.1 = true
  · have h2 : w.1 = true := by rw [← hm.1]; exact h1
    rw [mv_ref h1, mv_ref h2, idx_rel hS h hn (hm.2.2 h1) (hv h1) (hw h2), off_rel hc (h.take _)]
  · have h2 : ¬ w.1 = true := by rw [← hm.1]; exact h1
    rw [mv_no h1, mv_no h2]
    have e : v.1 = false := by
      cases hh : v.1 with
      | false => rfl
      | true => exact absurd hh h1
    have := hm.2.1 e
    obtain ⟨v1, v2⟩ := v
    obtain ⟨w1, w2⟩ := w
    have q1 := hm.1
    simp only at q1 this
    rw [q1, this]
theorem map_rel {S : Int → Int → Prop} (hS : Bij S) {a b : List Wd} (hc : ∀ x y, S x y → Blk2 a b S x y) {A B : List Int} (h : All2 S A B) (hn : A.Nodup) : ∀ {ws ws' : List Wd}, All2 (Mt S) ws ws' → (∀ w ∈ ws, w.1 = true → w.2 ∈ A) → (∀ w ∈ ws', w.1 = true → w.2 ∈ B) → ws.map (mv a A) = ws'.map (mv b B)
  | _, _, .nil, _, _ => rfl
  | v :: ws, w :: ws', .cons h1 h2, hv, hw => by
    rw [List.map_cons, List.map_cons, mv_rel hS hc h hn h1 (hv v (by simp)) (hw w (by simp)), map_rel hS hc h hn h2 (fun z hz => hv z (by simp [hz])) (fun z hz => hw z (by simp [hz]))]
theorem allW_rel {S : Int → Int → Prop} {a b : List Wd} {F F' : Int → List Wd} : ∀ {A B : List Int}, All2 S A B → (∀ x y, x ∈ A → y ∈ B → S x y → blkM a F x = blkM b F' y) → allW a F A = allW b F' B
  | _, _, .nil, _ => rfl
  | x :: A, y :: B, .cons h1 h2, hb => by
    have ih := allW_rel (F := F) (F' := F') h2 (fun u v hu hv hs => hb u v (by simp [hu]) (by simp [hv]) hs)
    unfold allW at ih ⊢
    rw [List.flatMap_cons, List.flatMap_cons, ih, hb x y (by simp) (by simp) h1]
/-- Heaps that match have the same collected heap. -/
theorem same_sound {S : Int → Int → Prop} (hS : Bij S) {a b : List Wd} {La Lb : List Int} (ha : GoodW a La) (hb : GoodW b Lb) (hc : ∀ x y, S x y → Blk2 a b S x y) {xs ys : List Wd} (hx : ∀ w ∈ xs, wordP La w) (hy : ∀ w ∈ ys, wordP Lb w) (hr : All2 (Mt S) xs ys) :
    colW a (ord a La xs) = colW b (ord b Lb ys) ∧ xs.map (mv a (ord a La xs)) = ys.map (mv b (ord b Lb ys)) := by
  obtain ⟨hIa, hpa⟩ := ord_spec ha hx
  obtain ⟨hIb, hpb⟩ := ord_spec hb hy
  have ea : ord a La xs = ordF a (La.length + Lb.length + 1) 0 (found [] xs) := ordF_fuel ha _ _ _ _ (OrdI.start hx) (by omega) (by omega)
  have eb : ord b Lb ys = ordF b (La.length + Lb.length + 1) 0 (found [] ys) := ordF_fuel hb _ _ _ _ (OrdI.start hy) (by omega) (by omega)
  have hAB : All2 S (ord a La xs) (ord b Lb ys) := by
    rw [ea, eb]
    exact ordF_rel hS hc _ _ (found_rel hS hr .nil)
  refine ⟨allW_rel hAB (fun x y hxA hyB hs => ?_), map_rel hS hc hAB hIa.nodup hr (fun w hw h1 => hpa.subset (found_mem _ hw h1)) (fun w hw h1 => hpb.subset (found_mem _ hw h1))⟩
  obtain ⟨k1, k2, k3⟩ := hc x y hs
  unfold blkM
  rw [k1, k2]
  show blkW _ _ ((cn a x).map (mv a (ord a La xs))) = blkW _ _ ((cn b y).map (mv b (ord b Lb ys)))
  rw [map_rel hS hc hAB hIa.nodup k3 (closed hIa hxA) (closed hIb hyB)]
/-- Words with the same copy. -/
structure Corr (a b : List Wd) (A B : List Int) (v w : Wd) : Prop where
  eq : mv a A v = mv b B w
  hv : v.1 = true → v.2 ∈ A
  hw : w.1 = true → w.2 ∈ B
theorem corr_of {a b : List Wd} {A B : List Int} : ∀ {ws ws' : List Wd}, ws.map (mv a A) = ws'.map (mv b B) → (∀ w ∈ ws, w.1 = true → w.2 ∈ A) → (∀ w ∈ ws', w.1 = true → w.2 ∈ B) → All2 (Corr a b A B) ws ws'
  | [], [], _, _, _ => .nil
  | v :: ws, w :: ws', h, h1, h2 => by
    rw [List.map_cons, List.map_cons] at h
    injection h with e1 e2
    exact .cons ⟨e1, h1 v (by simp), h2 w (by simp)⟩ (corr_of e2 (fun z hz => h1 z (by simp [hz])) (fun z hz => h2 z (by simp [hz])))
/-- What the same collected heap says of the blocks. -/
theorem same_blocks {a b : List Wd} {La Lb A B : List Int} (ha : GoodW a La) (hb : GoodW b Lb) (hA : OrdI a La A.length A) (hB : OrdI b Lb B.length B) (he : colW a A = colW b B) :
    A.length = B.length ∧ (∀ i, i ≤ A.length → offN a (A.take i) = offN b (B.take i)) ∧ (∀ (i : Nat) (x y : Int), A[i]? = some x → B[i]? = some y → (a.getD x.toNat zW).2 = (b.getD y.toNat zW).2 ∧ (a.getD (x.toNat + 1) zW).2 = (b.getD (y.toNat + 1) zW).2 ∧ All2 (Corr a b A B) (cn a x) (cn b y)) := by
  have h1 := sts_iff.2 (col_good ha hA).1
  have h2 := sts_iff.2 (col_good hb hB).1
  rw [he, h2] at h1
  have h3 := Option.some.inj h1
  have hlen : A.length = B.length := by
    have := congrArg List.length h3
    simp [offs] at this
    omega
  have hlt : ∀ i, i < A.length → offN a (A.take i) = offN b (B.take i) := by
    intro i hi
    have e1 := offs_get (l := a) (O := A) hi
    have e2 := offs_get (l := b) (O := B) (i := B.length) (show i < B.length by omega)
    rw [h3, e1] at e2
    have := Option.some.inj e2
    omega
  have hall : ∀ i, i ≤ A.length → offN a (A.take i) = offN b (B.take i) := by
    intro i hi
    rcases Nat.lt_or_ge i A.length with hh | hh
    · exact hlt i hh
    · have e1 : (colW a A).length = offN a A := allW_len (fun x _ => by simp)
      have e2 : (colW b B).length = offN b B := allW_len (fun x _ => by simp)
      rw [List.take_of_length_le hh, List.take_of_length_le (by omega), ← e1, ← e2, he]
  refine ⟨hlen, hall, ?_⟩
  intro i x y hx hy
  obtain ⟨_, c2, c3, c4⟩ := col_at ha hA hx
  obtain ⟨_, d2, d3, d4⟩ := col_at hb hB hy
  have eo := hlt i (take_len hx)
  rw [eo, he] at c2 c3 c4
  refine ⟨by rw [← c3, d3], by rw [← c4, d4], corr_of (by rw [← c2, d2]) (closed hA (List.mem_of_getElem? hx)) (closed hB (List.mem_of_getElem? hy))⟩
/-- References with the same copy stand at one place. -/
theorem corr_ref {a b : List Wd} {A B : List Int} (hlen : A.length = B.length) (hoff : ∀ i, i ≤ A.length → offN a (A.take i) = offN b (B.take i)) {v w : Wd} (h : Corr a b A B v w) : v.1 = w.1 ∧ (v.1 = false → v.2 = w.2) ∧ (v.1 = true → A.idxOf v.2 = B.idxOf w.2) := by
  obtain ⟨he, hv, hw⟩ := h
  obtain ⟨v1, v2⟩ := v
  obtain ⟨w1, w2⟩ := w
  cases v1 <;> cases w1
  · rw [mv_no (by simp), mv_no (by simp)] at he
    cases he
    exact ⟨rfl, fun _ => rfl, fun hh => (by cases hh)⟩
  · rw [mv_no (by simp), mv_ref rfl] at he
    exact absurd (congrArg Prod.fst he) (by simp)
  · rw [mv_ref rfl, mv_no (by simp)] at he
    exact absurd (congrArg Prod.fst he) (by simp)
  · refine ⟨rfl, fun hh => (by cases hh), fun _ => ?_⟩
    rw [mv_ref rfl, mv_ref rfl] at he
    have h2 := Int.ofNat_inj.mp (congrArg Prod.snd he)
    have i1 := List.idxOf_lt_length_of_mem (hv rfl)
    have i2 := List.idxOf_lt_length_of_mem (hw rfl)
    rw [← hoff _ (by rw [hlen]; exact Nat.le_of_lt i2)] at h2
    exact off_inj (l := a) (Nat.le_of_lt i1) (by rw [hlen]; exact Nat.le_of_lt i2) h2
end Go.Proofs.Ytcpclpkcanikiaa
/- The collector: Same's work list. -/
set_option linter.unusedVariables false
namespace Go.Proofs.Ytcpclpkcanikiaa
open Go Go.Vc Go.RowKit

/-- The cells of pairs. -/
def pc : List (Wd × Wd) → List Value
  | [] => []
  | p :: r => .bool p.1.1 :: .int .i64 p.1.2 :: .bool p.2.1 :: .int .i64 p.2.2 :: pc r
theorem pc_len : ∀ (l : List (Wd × Wd)), (pc l).length = l.length * 4
  | [] => rfl
  | w :: r => by simp only [pc, List.length_cons, pc_len r]; omega
theorem pc_append : ∀ (a b : List (Wd × Wd)), pc (a ++ b) = pc a ++ pc b
  | [], b => rfl
  | x :: r, b => by simp only [List.cons_append, pc, pc_append r b]
theorem pc_take : ∀ (l : List (Wd × Wd)) (n : Nat), (pc l).take (n * 4) = pc (l.take n)
  | [], n => by simp [pc]
  | x :: r, 0 => by simp [pc]
  | x :: r, n + 1 => by
    have ih := pc_take r n
    rw [show (n + 1) * 4 = n * 4 + 1 + 1 + 1 + 1 by omega, pc, List.take_succ_cons, List.take_succ_cons, List.take_succ_cons, List.take_succ_cons, ih]
    rfl
theorem pc_get : ∀ {T : List (Wd × Wd)} {i : Nat} {w : Wd × Wd}, T[i]? = some w → (pc T)[i * 4]? = some (.bool w.1.1) ∧ (pc T)[i * 4 + 1]? = some (.int .i64 w.1.2) ∧ (pc T)[i * 4 + 2]? = some (.bool w.2.1) ∧ (pc T)[i * 4 + 3]? = some (.int .i64 w.2.2)
  | x :: r, 0, w, h => by cases h; exact ⟨rfl, rfl, rfl, rfl⟩
  | x :: r, i + 1, w, h => by
    obtain ⟨h1, h2, h3, h4⟩ := pc_get (T := r) (i := i) (w := w) h
    have e : (i + 1) * 4 = i * 4 + 1 + 1 + 1 + 1 := by omega
    rw [e, pc]
    exact ⟨h1, h2, h3, h4⟩
/-- The work list, taken apart. -/
theorem prow_parts {g : G} {B : Nat} {ta : Option Addr} {tl tc : Nat} {T : List (Wd × Wd)} (h : MutR g B 124 4 ta tl tc (pc T)) : T.length = tl ∧ tl ≤ tc ∧ ((ta = none ∧ tl = 0 ∧ tc = 0) ∨ ∃ b cur, ta = some ⟨b, 0, none⟩ ∧ B ≤ b ∧ MutB g b 124 cur ∧ tl ≤ tc ∧ tc ≤ maxLen ∧ cur.length = tc * 4 ∧ cur.take (tl * 4) = pc T) := by
  have hl := h.len
  rw [pc_len] at hl
  refine ⟨by omega, ?_, h.row⟩
  rcases h.row with ⟨_, h2, h3⟩ | ⟨b, cur, _, _, _, h4, _⟩
  · omega
  · exact h4
theorem prow_pop {g : G} {B : Nat} {ta : Option Addr} {tl tc : Nat} {T : List (Wd × Wd)} {p : Wd × Wd} (h : MutR g B 124 4 ta (tl + 1) tc (pc (T ++ [p]))) : MutR g B 124 4 ta tl tc (pc T) := by
  obtain ⟨hl, _, hr⟩ := prow_parts h
  rw [List.length_append, List.length_singleton] at hl
  rcases hr with ⟨_, h2, _⟩ | ⟨b, cur, h1, h2, h3, h4, h5, h6, h7⟩
  · omega
  · refine ⟨by rw [pc_len]; omega, .inr ⟨b, cur, h1, h2, h3, by omega, h5, h6, ?_⟩⟩
    have e : cur.take (tl * 4) = (cur.take ((tl + 1) * 4)).take (tl * 4) := by rw [List.take_take]; congr 1; omega
    rw [e, h7, pc_take]
    congr 1
    rw [List.take_append_of_le_length (by omega), List.take_of_length_le (by omega)]
theorem prow_rd {g : G} {B : Nat} {ta : Option Addr} {tl tc : Nat} {T : List (Wd × Wd)} (h : MutR g B 124 4 ta tl tc (pc T)) {i : Int} (p : Nat) (hi : i = (p : Int)) {w : Wd × Wd} (hw : T[p]? = some w) {K : Addr → Prop}
    (hk : ∀ ad, g.w.cell? (Addr.add ad (Int.toNat i * 4)) = some (.bool w.1.1) → g.w.cell? (Addr.add (Addr.add ad (Int.toNat i * 4)) 1) = some (.int .i64 w.1.2) → g.w.cell? (Addr.add (Addr.add ad (Int.toNat i * 4)) 2) = some (.bool w.2.1) → g.w.cell? (Addr.add (Addr.add ad (Int.toNat i * 4)) 3) = some (.int .i64 w.2.2) → K ad) : derefP ta K := by
  subst hi
  obtain ⟨hl, _, hr⟩ := prow_parts h
  have hp := (List.getElem?_eq_some_iff.1 hw).1
  rcases hr with ⟨_, h2, _⟩ | ⟨b, cur, rfl, h2, h3, h4, h5, h6, h7⟩
  · omega
  · obtain ⟨w1, w2, w3, w4⟩ := pc_get hw
    rw [← h7, List.getElem?_take] at w1 w2 w3 w4
    rw [if_pos (by omega)] at w1 w2 w3 w4
    rw [Int.toNat_natCast] at hk
    refine hk ⟨b, 0, none⟩ (h3.rd w1) ?_ ?_ ?_
    all_goals rw [addr_add_add]
    · exact h3.rd w2
    · exact h3.rd w3
    · exact h3.rd w4
theorem E122 : Elem Try.prog 122 124 4 32 := ⟨Try.underlying122, by kernel_rfl⟩
/-- push. -/
theorem k89 {g : G} {vb B : Nat} {wa : Option Addr} {wl wc0 : Nat} {W : List (Wd × Wd)} (hm : MutB g vb 122 [.slice wa wl wc0]) (hrow : MutR g B 124 4 wa wl wc0 (pc W)) (hB : B ≤ g.w.heap.size) {xs ys : List Wd} {la : Option Addr} {ll lc : Nat} {ma : Option Addr} {ml mc : Nat} (hx : SlE wordE g la ll lc xs) (hy : SlE wordE g ma ml mc ys) (hlen : xs.length = ys.length) (hW : W.length + xs.length ≤ 1000000000) :
    CallsG Try.prog 89 #[.slice la ll lc, .slice ma ml mc, .pointer (some ⟨vb, 0, none⟩)] g (fun z => z = vb ∨ blkOf wa z) fun v g' => v = .tuple ⟨[]⟩ ∧ ∃ wa' wl' wc', MutB g' vb 122 [.slice wa' wl' wc'] ∧ MutR g' B 124 4 wa' wl' wc' (pc (W ++ xs.zip ys)) ∧ (∀ z, blkOf wa' z → blkOf wa z ∨ g.w.heap.size ≤ z) := by
  refine P50.call89 la ll lc ma ml mc (some ⟨vb, 0, none⟩) g _ _ ?_
  have hxl := hx.len
  have hyl := hy.len
  unfold P50.F89
  refine ⟨fun m v g' => ∃ (j : Nat) (wa' : Option Addr) (wl' wc' : Nat), v = ((j : Nat) : Int) ∧ j + m = ll ∧ MutB g' vb 122 [.slice wa' wl' wc'] ∧ MutR g' B 124 4 wa' wl' wc' (pc (W ++ (xs.take j).zip (ys.take j))) ∧ (∀ z, blkOf wa' z → blkOf wa z ∨ g.w.heap.size ≤ z) ∧ g.w.heap.size ≤ g'.w.heap.size,
    ⟨ll, 0, wa, wl, wc0, rfl, by omega, hm, by simpa using hrow, fun z hz => .inl hz, Nat.le_refl _⟩, ?_⟩
  rintro m v g1 le ⟨j, wa', wl', wc', rfl, hjm, hm1, hr1, hb1, hsz⟩
  refine ifLt (fun hlt g2 m2 => ?_) (fun hge g6 m6 => ?_)
  · have gx := List.getElem?_eq_getElem (show j < xs.length by omega)
    have gy := List.getElem?_eq_getElem (show j < ys.length by omega)
    generalize xs[j] = x at gx
    generalize ys[j] = y at gy
    have le2 := le.trans m2.le
    have hm2 := hm1.ex m2
    have hr2 := hr1.ex m2
    have hc0 := hm2.rd0 (v := .slice wa' wl' wc') rfl
    obtain ⟨hWl, _, _⟩ := prow_parts hr1
    rw [List.length_append, List.length_zip, List.length_take, List.length_take] at hWl
    refine ⟨wa', wl', wc', hc0, ⟨by omega, by omega⟩, rdW (hx.mono le2) j rfl gx (fun ad a0 a1 => ⟨x.1, x.2, a0, a1, ⟨by omega, by omega⟩, rdW (hy.mono le2) j rfl gy (fun ad2 b0 b1 => ⟨y.1, y.2, b0, b1, fun g3 n3 => ?_⟩)⟩)⟩
    have hlit : Sl g3 4 (some ⟨g2.w.heap.size, 0, none⟩) 1 1 (pc [(x, y)]) := n3.sl rfl (by unfold maxLen; simp)
    have hone : ∀ u ∈ pc [(x, y)], u.oneCell' = true := by
      intro u hu
      simp only [pc, List.mem_cons, List.not_mem_nil, or_false] at hu
      rcases hu with rfl | rfl | rfl | rfl <;> rfl
    obtain ⟨a4, c4, w4, hrun, g4, hw4, s4, row4, t4, l4⟩ := (hr2.ex n3.ex).app E122 122 (B := B) (Nat.le_trans hB (Nat.le_trans hsz (m2.trans n3.ex).size)) hlit hone (by omega) (by unfold maxLen; omega)
    have hg3 : g.w.heap.size ≤ g3.w.heap.size := Nat.le_trans hsz (m2.trans n3.ex).size
    have hvb : ¬ blkOf wa' vb := row_other hr2 hm2 (by decide)
    have hm4 := (hm2.ex n3.ex).but (t4.but (Nat.le_refl _)) hvb
    refine ⟨a4, _, c4, w4, hrun, g4, hw4, t4.mono hg3 (fun z hz hz2 => ?_), hm4.ok0 (by simp), hm4.nx, hm4.mut0 _, fun _ => .inl rfl, fun g5 hst => ?_⟩
    · rcases hb1 z hz2 with h | h
      · exact .inr h
      · omega
    obtain ⟨hm5, b5⟩ := hm4.st0 hst
    have hv4 : ¬ blkOf a4 vb := row_other row4 hm4 (by decide)
    have ez : (xs.take (j + 1)).zip (ys.take (j + 1)) = (xs.take j).zip (ys.take j) ++ [(x, y)] := by
      rw [take_snoc gx, take_snoc gy, List.zip_append (by simp; omega)]
      rfl
    refine ⟨i64 (by omega) (by omega), m - 1, by omega, j + 1, a4, wl' + 1, c4, by omega, by omega, hm5, ?_, ?_, Nat.le_trans hg3 (Nat.le_trans s4.le.size b5.size)⟩
    · rw [ez, ← List.append_assoc, pc_append]
      exact row4.but b5 (fun z hz e => hv4 (e ▸ hz))
    · intro z hz
      rcases l4 z hz with h | h
      · exact hb1 z h
      · exact .inr (by omega)
  · have e1 : xs.take j = xs := List.take_of_length_le (by omega)
    have e2 : ys.take j = ys := List.take_of_length_le (by omega)
    rw [e1, e2] at hr1
    exact ⟨rfl, wa', wl', wc', hm1.ex m6, hr1.ex m6, hb1⟩
end Go.Proofs.Ytcpclpkcanikiaa
/- The collector: what holds while two heaps are compared, in plain Lean. -/
set_option linter.unusedVariables false
namespace Go.Proofs.Ytcpclpkcanikiaa
open Go Go.Vc Go.RowKit

def Rl (S : List (Int × Int)) (x y : Int) : Prop := (x, y) ∈ S
/-- The two collected heaps are the same. -/
def Eqq (a b : List Wd) (A B : List Int) (xs ys : List Wd) : Prop := colW a A = colW b B ∧ xs.map (mv a A) = ys.map (mv b B)
structure SamP (a b : List Wd) (La Lb A B : List Int) (xs ys : List Wd) (W : List (Wd × Wd)) (S : List (Int × Int)) : Prop where
  bij : Bij (Rl S)
  sub : ∀ p ∈ S, p.1 ∈ La ∧ p.2 ∈ Lb
  nd : (S.map Prod.fst).Nodup
  wd : ∀ p ∈ W, wordP La p.1 ∧ wordP Lb p.2
  blk : ∀ p ∈ S, (a.getD p.1.toNat zW).2 = (b.getD p.2.toNat zW).2 ∧ (a.getD (p.1.toNat + 1) zW).2 = (b.getD (p.2.toNat + 1) zW).2 ∧ (cn a p.1).length = (cn b p.2).length
  cl : ∀ p ∈ S, ∀ q ∈ (cn a p.1).zip (cn b p.2), q ∈ W ∨ Mt (Rl S) q.1 q.2
  rt : ∀ q ∈ xs.zip ys, q ∈ W ∨ Mt (Rl S) q.1 q.2
  eq : Eqq a b A B xs ys → (∀ p ∈ W, Corr a b A B p.1 p.2) ∧ ∀ p ∈ S, A.idxOf p.1 = B.idxOf p.2 ∧ p.1 ∈ A ∧ p.2 ∈ B
theorem Mt.mono {S T : Int → Int → Prop} (h : ∀ x y, S x y → T x y) {v w : Wd} (k : Mt S v w) : Mt T v w := ⟨k.1, k.2.1, fun h1 => h _ _ (k.2.2 h1)⟩
/-- The last pair matches. -/
theorem SamP.drop {a b : List Wd} {La Lb A B : List Int} {xs ys : List Wd} {W : List (Wd × Wd)} {S : List (Int × Int)} {p : Wd × Wd} (h : SamP a b La Lb A B xs ys (W ++ [p]) S) (hm : Mt (Rl S) p.1 p.2) : SamP a b La Lb A B xs ys W S := by
  have sp : ∀ {q : Wd × Wd}, q ∈ W ++ [p] ∨ Mt (Rl S) q.1 q.2 → q ∈ W ∨ Mt (Rl S) q.1 q.2 := by
    rintro q (hq | hq)
    · rcases List.mem_append.1 hq with hq | hq
      · exact .inl hq
      · cases List.mem_singleton.1 hq; exact .inr hm
    · exact .inr hq
  exact ⟨h.bij, h.sub, h.nd, fun q hq => h.wd q (List.mem_append_left _ hq), h.blk, fun r hr q hq => sp (h.cl r hr q hq), fun q hq => sp (h.rt q hq), fun he => ⟨fun q hq => (h.eq he).1 q (List.mem_append_left _ hq), (h.eq he).2⟩⟩
/-- A new pair of blocks. -/
theorem SamP.grow {a b : List Wd} {La Lb A B : List Int} (ha : GoodW a La) (hb : GoodW b Lb) (hA : OrdI a La A.length A) (hB : OrdI b Lb B.length B) {xs ys : List Wd} {W : List (Wd × Wd)} {S : List (Int × Int)} {x y : Int} (h : SamP a b La Lb A B xs ys (W ++ [((true, x), (true, y))]) S)
    (hx : ∀ z, (x, z) ∉ S) (hy : ∀ z, (z, y) ∉ S) (h1 : (a.getD x.toNat zW).2 = (b.getD y.toNat zW).2) (h2 : (a.getD (x.toNat + 1) zW).2 = (b.getD (y.toNat + 1) zW).2) (h3 : (cn a x).length = (cn b y).length) :
    SamP a b La Lb A B xs ys (W ++ (cn a x).zip (cn b y)) ((x, y) :: S) := by
  have hwd := h.wd ((true, x), (true, y)) (by simp)
  have hxL : x ∈ La := by have := hwd.1; unfold wordP at this; simpa using this
  have hyL : y ∈ Lb := by have := hwd.2; unfold wordP at this; simpa using this
  have mono : ∀ u v, Rl S u v → Rl ((x, y) :: S) u v := fun u v k => List.mem_cons_of_mem _ k
  have sp : ∀ {q : Wd × Wd}, q ∈ W ++ [((true, x), (true, y))] ∨ Mt (Rl S) q.1 q.2 → q ∈ W ++ (cn a x).zip (cn b y) ∨ Mt (Rl ((x, y) :: S)) q.1 q.2 := by
    rintro q (hq | hq)
    · rcases List.mem_append.1 hq with hq | hq
      · exact .inl (List.mem_append_left _ hq)
      · cases List.mem_singleton.1 hq
        exact .inr ⟨rfl, fun hh => (by cases hh), fun _ => List.mem_cons_self ..⟩
    · exact .inr (hq.mono mono)
  refine ⟨⟨?_, ?_⟩, ?_, ?_, ?_, ?_, ?_, fun q hq => sp (h.rt q hq), ?_⟩
  · intro u v v' k k'
    rcases List.mem_cons.1 k with e | k <;> rcases List.mem_cons.1 k' with e' | k'
    · cases e; cases e'; rfl
    · cases e; exact absurd k' (hx _)
    · cases e'; exact absurd k (hx _)
    · exact h.bij.fst u v v' k k'
  · intro u u' v k k'
    rcases List.mem_cons.1 k with e | k <;> rcases List.mem_cons.1 k' with e' | k'
    · cases e; cases e'; rfl
    · cases e; exact absurd k' (hy _)
    · cases e'; exact absurd k (hy _)
    · exact h.bij.snd u u' v k k'
  · intro p hp
    rcases List.mem_cons.1 hp with rfl | hp
    · exact ⟨hxL, hyL⟩
    · exact h.sub p hp
  · rw [List.map_cons, List.nodup_cons]
    refine ⟨fun hm => ?_, h.nd⟩
    obtain ⟨p, hp, e⟩ := List.mem_map.1 hm
    obtain ⟨p1, p2⟩ := p
    simp only at e
    subst e
    exact hx _ hp
  · intro p hp
    rcases List.mem_append.1 hp with hp | hp
    · exact h.wd p (List.mem_append_left _ hp)
    · exact ⟨ha.2 x hxL _ (List.of_mem_zip hp).1, hb.2 y hyL _ (List.of_mem_zip hp).2⟩
  · intro p hp
    rcases List.mem_cons.1 hp with rfl | hp
    · exact ⟨h1, h2, h3⟩
    · exact h.blk p hp
  · intro p hp q hq
    rcases List.mem_cons.1 hp with rfl | hp
    · exact .inl (List.mem_append_right _ hq)
    · exact sp (h.cl p hp q hq)
  · intro he
    obtain ⟨e1, e2⟩ := h.eq he
    obtain ⟨hlen, hoff, hblk⟩ := same_blocks ha hb hA hB he.1
    have hc := e1 _ (List.mem_append_right _ (List.mem_singleton.2 rfl))
    have hix := (corr_ref hlen hoff hc).2.2 rfl
    have hxA := hc.hv rfl
    have hyB := hc.hw rfl
    refine ⟨fun p hp => ?_, fun p hp => ?_⟩
    · rcases List.mem_append.1 hp with hp | hp
      · exact e1 p (List.mem_append_left _ hp)
      · have g1 := idx_get hxA
        have g2 := idx_get hyB
        simp only at g1 g2 hix
        rw [hix] at g1
        have h2 := (hblk _ _ _ g1 g2).2.2
        obtain ⟨i, hi⟩ := List.getElem?_of_mem hp
        rw [List.getElem?_zip_eq_some] at hi
        obtain ⟨v, hv1, hv2⟩ := h2.get hi.2
        rw [hi.1] at hv1
        cases hv1
        exact hv2
    · rcases List.mem_cons.1 hp with rfl | hp
      · exact ⟨hix, hxA, hyB⟩
      · exact e2 p hp
theorem all2_zip {R : Wd → Wd → Prop} : ∀ {l m : List Wd}, l.length = m.length → (∀ q ∈ l.zip m, R q.1 q.2) → All2 R l m
  | [], [], _, _ => .nil
  | x :: l, y :: m, h, hq => .cons (hq (x, y) (by simp)) (all2_zip (by simpa using h) (fun q hm => hq q (by simp [hm])))
/-- At the end. -/
theorem SamP.done {a b : List Wd} {La Lb : List Int} (ha : GoodW a La) (hb : GoodW b Lb) {xs ys : List Wd} (hx : ∀ w ∈ xs, wordP La w) (hy : ∀ w ∈ ys, wordP Lb w) (hlen : xs.length = ys.length) {S : List (Int × Int)}
    (h : SamP a b La Lb (ord a La xs) (ord b Lb ys) xs ys [] S) : Eqq a b (ord a La xs) (ord b Lb ys) xs ys := by
  refine same_sound h.bij ha hb (fun x y hs => ?_) hx hy (all2_zip hlen (fun q hq => (h.rt q hq).resolve_left (by simp)))
  obtain ⟨k1, k2, k3⟩ := h.blk (x, y) hs
  exact ⟨k1, k2, all2_zip k3 (fun q hq => (h.cl (x, y) hs q hq).resolve_left (by simp))⟩
/-- The last pair, if the heaps are the same. -/
theorem SamP.last {a b : List Wd} {La Lb A B : List Int} (ha : GoodW a La) (hb : GoodW b Lb) (hA : OrdI a La A.length A) (hB : OrdI b Lb B.length B) {xs ys : List Wd} {W : List (Wd × Wd)} {S : List (Int × Int)} {v w : Wd} (h : SamP a b La Lb A B xs ys (W ++ [(v, w)]) S) (he : Eqq a b A B xs ys) :
    v.1 = w.1 ∧ (v.1 = false → v.2 = w.2) ∧ (v.1 = true → (∀ z, (v.2, z) ∈ S → z = w.2) ∧ (∀ z, (z, w.2) ∈ S → z = v.2) ∧ (a.getD v.2.toNat zW).2 = (b.getD w.2.toNat zW).2 ∧ (a.getD (v.2.toNat + 1) zW).2 = (b.getD (w.2.toNat + 1) zW).2 ∧ (cn a v.2).length = (cn b w.2).length) := by
  obtain ⟨e1, e2⟩ := h.eq he
  obtain ⟨hlen, hoff, hblk⟩ := same_blocks ha hb hA hB he.1
  have hc : Corr a b A B v w := e1 (v, w) (List.mem_append_right _ (List.mem_singleton.2 rfl))
  obtain ⟨k1, k2, k3⟩ := corr_ref hlen hoff hc
  refine ⟨k1, k2, fun hv => ?_⟩
  have hix := k3 hv
  have hvA := hc.hv hv
  have hwB := hc.hw (by rw [← k1]; exact hv)
  have g1 := idx_get hvA
  have g2 := idx_get hwB
  refine ⟨fun z hz => ?_, fun z hz => ?_, ?_⟩
  · obtain ⟨q1, q2, q3⟩ := e2 _ hz
    simp only at q1 q2 q3
    have g3 := idx_get q3
    rw [← q1, hix, g2] at g3
    exact (Option.some.inj g3).symm
  · obtain ⟨q1, q2, q3⟩ := e2 _ hz
    simp only at q1 q2 q3
    have g3 := idx_get q2
    rw [q1, ← hix, g1] at g3
    exact (Option.some.inj g3).symm
  · rw [hix] at g1
    obtain ⟨b1, b2, b3⟩ := hblk _ _ _ g1 g2
    exact ⟨b1, b2, b3.length⟩
end Go.Proofs.Ytcpclpkcanikiaa
/- The collector: Same. -/
set_option linter.unusedVariables false
namespace Go.Proofs.Ytcpclpkcanikiaa
open Go Go.Vc Go.RowKit

/-- Where blocks lead, and back. -/
def mapT (S : List (Int × Int)) (x : Int) : Option Value := (S.find? fun p => p.1 == x).map fun p => .int .i64 p.2
def mapB (S : List (Int × Int)) (y : Int) : Option Value := (S.find? fun p => p.2 == y).map fun p => .int .i64 p.1
theorem mapT_cases (S : List (Int × Int)) (x : Int) : (mapT S x = none ∧ ∀ z, (x, z) ∉ S) ∨ ∃ z, mapT S x = some (.int .i64 z) ∧ (x, z) ∈ S := by
  unfold mapT
  cases h : S.find? (fun p => p.1 == x) with
  | none =>
    refine .inl ⟨rfl, fun z hz => ?_⟩
    have := List.find?_eq_none.1 h (x, z) hz
    simp at this
  | some p =>
    have h1 := List.find?_some h
    have h2 := List.mem_of_find?_eq_some h
    simp at h1
    subst h1
    exact .inr ⟨p.2, rfl, h2⟩
theorem mapB_cases (S : List (Int × Int)) (y : Int) : (mapB S y = none ∧ ∀ z, (z, y) ∉ S) ∨ ∃ z, mapB S y = some (.int .i64 z) ∧ (z, y) ∈ S := by
  unfold mapB
  cases h : S.find? (fun p => p.2 == y) with
  | none =>
    refine .inl ⟨rfl, fun z hz => ?_⟩
    have := List.find?_eq_none.1 h (z, y) hz
    simp at this
  | some p =>
    have h1 := List.find?_some h
    have h2 := List.mem_of_find?_eq_some h
    simp at h1
    subst h1
    exact .inr ⟨p.1, rfl, h2⟩
theorem mapT_add (S : List (Int × Int)) (x y z : Int) : updI (mapT S) x (some (.int .i64 y)) z = mapT ((x, y) :: S) z := by
  by_cases e : z = x
  · subst e
    rw [updI_same]
    simp [mapT]
  · rw [updI_other _ _ e]
    have : ¬ x = z := fun h => e h.symm
    simp [mapT, this]
theorem mapB_add (S : List (Int × Int)) (x y z : Int) : updI (mapB S) y (some (.int .i64 x)) z = mapB ((x, y) :: S) z := by
  by_cases e : z = y
  · subst e
    rw [updI_same]
    simp [mapB]
  · rw [updI_other _ _ e]
    have : ¬ y = z := fun h => e h.symm
    simp [mapB, this]
/-- What holds while two heaps are compared. -/
structure SamI (g : G) (B0 vb tb bb : Nat) (a b : List Wd) (La Lb A B : List Int) (xs ys : List Wd) (wa : Option Addr) (wl wc0 : Nat) (W : List (Wd × Wd)) (S : List (Int × Int)) : Prop where
  hm : MutB g vb 122 [.slice wa wl wc0]
  row : MutR g B0 124 4 wa wl wc0 (pc W)
  t : MapI Try.prog g 3 tb S.length (mapT S)
  k : MapI Try.prog g 3 bb S.length (mapB S)
  p : SamP a b La Lb A B xs ys W S
theorem SamI.ex {g g' : G} {B0 vb tb bb : Nat} {a b : List Wd} {La Lb A B : List Int} {xs ys : List Wd} {wa : Option Addr} {wl wc0 : Nat} {W : List (Wd × Wd)} {S : List (Int × Int)} (h : SamI g B0 vb tb bb a b La Lb A B xs ys wa wl wc0 W S) (m : Ex g g') : SamI g' B0 vb tb bb a b La Lb A B xs ys wa wl wc0 W S :=
  ⟨h.hm.ex m, h.row.ex m, h.t.ex m, h.k.ex m, h.p⟩
theorem slAddr_zero4 (a : Option Addr) (m : Nat) : slAddr a m 0 4 = a := by
  unfold slAddr
  split
  · rfl
  · cases a with
    | none => rfl
    | some x => simp [Addr.add_zero']
end Go.Proofs.Ytcpclpkcanikiaa
/- The collector: Same, walked. -/
set_option linter.unusedVariables false
namespace Go.Proofs.Ytcpclpkcanikiaa
open Go Go.Vc Go.RowKit

/-- What Same returns, of two right heaps. -/
def SameVal (a b : List Wd) (La Lb : List Int) (xs ys : List Wd) : Prop := xs.length = ys.length ∧ Eqq a b (ord a La xs) (ord b Lb ys) xs ys
def SameSay (a : List Wd) (fa la : Int) (xs : List Wd) (b : List Wd) (fb lb : Int) (ys : List Wd) (u : Value) : Prop :=
  (faultN a fa la xs ≠ 0 ∧ u = .tuple ⟨[.bool false, .int .i64 (faultN a fa la xs)]⟩) ∨ (faultN a fa la xs = 0 ∧ faultN b fb lb ys ≠ 0 ∧ u = .tuple ⟨[.bool false, .int .i64 (faultN b fb lb ys)]⟩) ∨
  (∃ La Lb, ColOk a fa la xs La ∧ ColOk b fb lb ys Lb ∧ u = .tuple ⟨[.bool (tf (SameVal a b La Lb xs ys)), .int .i64 0]⟩)
/-- The words of a block, as two slices of the heap's row. -/
theorem blk_sl {l : List Wd} {q : Nat} (hh : hdrP l q) {a : Option Addr} {n c : Nat} {g : G} (h : SlE wordE g a n c l) : ∃ z : Nat, z = 3 + (contW l q).length ∧ q + z ≤ n ∧ n ≤ c ∧
    SlE wordE g (slAddr (slAddr (slAddr a c q 2) (c - q) 0 2) ((c - q) - 0) 0 2) (3 - 0) (((c - q) - 0) - 0) [(false, (l.getD q zW).2), (false, (l.getD (q + 1) zW).2), (false, (((contW l q).length : Nat) : Int))] ∧
    SlE wordE g (slAddr (slAddr (slAddr a c q 2) (c - q) 0 2) ((c - q) - 0) 3 2) ((z - 0) - 3) (((c - q) - 0) - 3) (contW l q) := by
  have hl := h.len
  have hc := h.le
  have hd := hdr_lt hh
  have hw := hdr_words hh
  have hcl := contW_len hh
  have hst : stepN l q = q + (3 + (contW l q).length) := by unfold stepN; omega
  have h1 := (h.drop (lo := q) (by omega)).take (hi := 3 + (contW l q).length) (by omega)
  rw [hw] at h1
  refine ⟨_, rfl, by omega, hc, ?_, ?_⟩
  · exact h1.take (hi := 3) (by omega)
  · have := h1.drop (lo := 3) (by omega)
    exact this
theorem head_eq (k n k' n' : Int) (z z' : Nat) : ([(false, k), (false, n), (false, ((z : Nat) : Int))] : List Wd) = [(false, k'), (false, n'), (false, ((z' : Nat) : Int))] ↔ k = k' ∧ n = n' ∧ z = z' := by
  simp
  intro _ _
  omega
theorem meas_lt {W n k A m : Nat} (h1 : m = W + 1 + (A - k)) (h2 : 3 + n + k ≤ A) : W + n + (A - (3 + n + k)) < m := by omega
theorem meas_le {W n k A : Nat} (h1 : W + 1 + (A - k) ≤ 200000) (h2 : 3 + n + k ≤ A) : W + n + (A - (3 + n + k)) ≤ 200000 := by omega
theorem k53 (a xs b ys : List Wd) (hwx : ∀ w ∈ xs, (Lit.int .i64 w.2).wf = true) (hwy : ∀ w ∈ ys, (Lit.int .i64 w.2).wf = true) {aa : Option Addr} {al ac : Nat} {xa : Option Addr} {xl xc : Nat} {ba : Option Addr} {bl bc : Nat} {ya : Option Addr} {yl yc : Nat} {g : G}
    (hha : SlE wordE g aa al ac a) (hxx : SlE wordE g xa xl xc xs) (hhb : SlE wordE g ba bl bc b) (hyy : SlE wordE g ya yl yc ys) (fa la fb lb : Int) :
    CallsP Try.prog 53 #[hpV aa al ac fa la, .slice xa xl xc, hpV ba bl bc fb lb, .slice ya yl yc] g fun u _ => SameSay a fa la xs b fb lb ys u := by
  refine P50.call53 aa al ac fa la xa xl xc ba bl bc fb lb ya yl yc g _ ?_
  have hxl := hxx.len
  have hyl := hyy.len
  have hal := hha.len
  have hbl := hhb.len
  unfold P50.F53
  refine fun g1 m1 => (k83 a xs hwx (hha.exm m1) (hxx.exm m1) fa la).mono ?_
  rintro u g2 m2 ⟨x0, rfl⟩
  refine ⟨_, _, rfl, ifNe (fun hf g3 _ => .inl ⟨hf, rfl⟩) (fun hf => ?_)⟩
  have m02 := m1.trans m2
  refine (k83 b ys hwy (hhb.exm m02) (hyy.exm m02) fb lb).mono ?_
  rintro u g4 m4 ⟨x1, rfl⟩
  refine ⟨_, _, rfl, ifNe (fun hf2 g5 _ => .inr (.inl ⟨hf, hf2, rfl⟩)) (fun hf2 => ?_)⟩
  obtain ⟨La, hoa⟩ := ok_of hf
  obtain ⟨Lb, hob⟩ := ok_of hf2
  have no : ¬ SameVal a b La Lb xs ys → SameSay a fa la xs b fb lb ys (.tuple ⟨[.bool false, .int .i64 0]⟩) := fun hn => .inr (.inr ⟨La, Lb, hoa, hob, by rw [tf_no hn]⟩)
  refine ifNe (fun hh g6 _ => no (fun hs => hh (by have := hs.1; omega))) (fun hee => ?_)
  have hlen : xs.length = ys.length := by omega
  obtain ⟨sa1, sa2, sa3, sa4, sa5⟩ := hoa.small
  obtain ⟨sb1, sb2, sb3, sb4, sb5⟩ := hob.small
  obtain ⟨hIa, hpa⟩ := ord_spec hoa.good hoa.wd
  obtain ⟨hIb, hpb⟩ := ord_spec hob.good hob.wd
  have hxlen := hoa.len
  intro g7 n7 g8 n8 g9 n9
  have m04 := m02.trans m4
  have hvb : g.w.heap.size ≤ g4.w.heap.size := m04.size
  have m49 : Ex g4 g9 := (n7.ex.trans n8.ex).trans n9.ex
  have htb : g.w.heap.size ≤ g7.w.heap.size := Nat.le_trans hvb n7.ex.size
  have hbb : g.w.heap.size ≤ g8.w.heap.size := Nat.le_trans htb n8.ex.size
  have hm9 := (n7.mut.ex n8.ex).ex n9.ex
  have ht9 := (MapI.new n8 Try.prog 3).ex n9.ex
  have hk9 := MapI.new n9 Try.prog 3
  have htbb : g7.w.heap.size ≠ g8.w.heap.size := by have := (MapI.new n8 Try.prog 3).lt; omega
  generalize g4.w.heap.size = vb at hm9 hvb ⊢
  generalize g7.w.heap.size = tb at ht9 htb htbb ⊢
  generalize g8.w.heap.size = bb at hk9 hbb htbb ⊢
  have m09 := m04.trans m49
  have no2 : ∀ z, ¬ blkOf none z := by rintro z ⟨_, hh, _⟩; cases hh
  refine ⟨⟨_, Try.func89, by kernel_rfl, by kernel_rfl⟩, fun z => z = vb ∨ blkOf none z, fun z hz hh => ?_, ?_⟩
  · rcases hh with rfl | hh
    · omega
    · exact absurd hh (no2 z)
  refine CallsG.mono (k89 (W := []) (B := g.w.heap.size) hm9 (MutR.nil _ _ _ _) m09.size (hxx.exm m09) (hyy.exm m09) hlen (by simp; omega)) ?_
  rintro v g10 s10 ⟨rfl, wa, wl, wc0, hm10, hr10, _⟩
  have ht10 := ht9.but (s10.but (Nat.le_refl _)) (fun hh => hh.elim (fun e => mapI_other ht9 hm9 e.symm) (no2 _))
  have hk10 := hk9.but (s10.but (Nat.le_refl _)) (fun hh => hh.elim (fun e => mapI_other hk9 hm9 e.symm) (no2 _))
  have le10 : Le g g10 := m09.le.trans s10.le
  have hP0 : SamP a b La Lb (ord a La xs) (ord b Lb ys) xs ys ([] ++ xs.zip ys) [] := by
    rw [List.nil_append]
    refine ⟨⟨fun x y y' h => (by cases h), fun x x' y h => (by cases h)⟩, fun p hp => (by cases hp), by simp, fun p hp => ⟨hoa.wd _ (List.of_mem_zip hp).1, hob.wd _ (List.of_mem_zip hp).2⟩, fun p hp => (by cases hp), fun p hp => (by cases hp), fun q hq => .inl hq, fun he => ⟨fun p hp => ?_, fun p hp => (by cases hp)⟩⟩
    have hc := corr_of he.2 (fun w hw h1 => hpa.subset (found_mem _ hw h1)) (fun w hw h1 => hpb.subset (found_mem _ hw h1))
    obtain ⟨i, hi⟩ := List.getElem?_of_mem hp
    rw [List.getElem?_zip_eq_some] at hi
    obtain ⟨v, hv1, hv2⟩ := hc.get hi.2
    rw [hi.1] at hv1
    cases hv1
    exact hv2
  refine ⟨rfl, fun m g' => ∃ wa wl wc0 W S, SamI g' g.w.heap.size vb tb bb a b La Lb (ord a La xs) (ord b Lb ys) xs ys wa wl wc0 W S ∧ m = W.length + (a.length - offN a (S.map Prod.fst)) ∧ W.length + (a.length - offN a (S.map Prod.fst)) ≤ 200000, ⟨_, wa, wl, wc0, _, [], ⟨hm10, hr10, ht10, hk10, hP0⟩, rfl, ?_⟩, ?_⟩
  · simp [offN]
    omega
  rintro m g11 le11 ⟨wa, wl, wc0, W, S, hI, hmeas, hsmall⟩
  obtain ⟨hWl, hwc, _⟩ := prow_parts hI.row
  refine ⟨wa, wl, wc0, hI.hm.rd0 rfl, ifLt (fun hpos => ?_) (fun hge g34 _ => ?_)⟩
  rotate_left
  · have hW0 : W = [] := List.eq_nil_of_length_eq_zero (by omega)
    subst hW0
    exact .inr (.inr ⟨La, Lb, hoa, hob, by rw [tf_of ⟨hlen, hI.p.done hoa.good hob.good hoa.wd hob.wd hlen⟩]⟩)
  obtain ⟨W0, ⟨⟨v1, v2⟩, ⟨w1, w2⟩⟩, rfl⟩ : ∃ W0 p, W = W0 ++ [p] := by
    rcases List.eq_nil_or_concat W with hn | ⟨W0, p, hp⟩
    · rw [hn] at hWl; simp at hWl; omega
    · exact ⟨W0, p, by simpa using hp⟩
  rw [List.length_append, List.length_singleton] at hWl hmeas hsmall
  have hwl : wl = W0.length + 1 := hWl.symm
  subst hwl
  have hW0l := hI.p
  have ei : (((W0.length + 1 : Nat) : Int) - 1) = ((W0.length : Nat) : Int) := by omega
  have le11' : Le g g11 := le10.trans le11
  refine ⟨wa, _, wc0, hI.hm.rd0 rfl, wa, _, wc0, hI.hm.rd0 rfl, i64 (by omega) (by omega), ⟨by omega, by omega⟩, ?_⟩
  rw [ei]
  refine prow_rd hI.row W0.length rfl (w := ((v1, v2), (w1, w2))) (by simp) (fun ad c0 c1 c2 c3 => ⟨v1, v2, w1, w2, c0, c1, c2, c3, fun g12 m12 => ?_⟩)
  have hI12 := hI.ex m12
  refine ⟨wa, _, wc0, hI12.hm.rd0 rfl, wa, _, wc0, hI12.hm.rd0 rfl, i64 (by omega) (by omega), ⟨by omega, by omega⟩, hI12.hm.ok0 (by simp), hI12.hm.nx, hI12.hm.mut0 _, fun hh => ?_, fun g13 hst => ?_⟩
  · have hh : vb < g.w.heap.size := hh
    omega
  obtain ⟨hm13, b13⟩ := hI12.hm.st0 hst
  rw [ei, Int.toNat_natCast, slAddr_zero4, Nat.sub_zero, Nat.sub_zero] at hm13
  have hm13 : MutB g13 vb 122 [.slice wa W0.length wc0] := hm13
  have hrow13 := (prow_pop hI12.row).but b13 (fun z hz e => row_other hI12.row hI12.hm (by decide) (e ▸ hz))
  have ht13 := hI12.t.but b13 (fun e => mapI_other hI12.t hI12.hm e.symm)
  have hk13 := hI12.k.but b13 (fun e => mapI_other hI12.k hI12.hm e.symm)
  have le13 : Le g g13 := (le11'.trans m12.le).trans (b13.le (fun z hz i => by subst hz; exact hI12.hm.d i))
  have hlast := fun he => hI.p.last hoa.good hob.good hIa hIb he
  have hwd := hI.p.wd ((v1, v2), (w1, w2)) (by simp)
  -- a pair that matches
  have next : ∀ g', Ex g13 g' → Mt (Rl S) (v1, v2) (w1, w2) → ∃ m_1, m_1 < m ∧ ∃ wa wl wc0 W S, SamI g' g.w.heap.size vb tb bb a b La Lb (ord a La xs) (ord b Lb ys) xs ys wa wl wc0 W S ∧ m_1 = W.length + (a.length - offN a (S.map Prod.fst)) ∧ W.length + (a.length - offN a (S.map Prod.fst)) ≤ 200000 := by
    intro g' m' hmt
    exact ⟨_, by omega, wa, _, wc0, W0, S, ⟨hm13.ex m', hrow13.ex m', ht13.ex m', hk13.ex m', hI.p.drop hmt⟩, rfl, by omega⟩
  have e12 : (v1 == w1) = tf (v1 = w1) := by rw [← tf_bool (v1 == w1)]; exact tf_iff (by simp)
  rw [e12]
  refine ifPn (fun hne g14 _ => no (fun hs => hne (hlast hs.2).1)) (fun hv => ?_)
  subst hv
  cases v1 with
  | false => exact ifT (fun _ => ifNe (fun hne g15 _ => no (fun hs => hne ((hlast hs.2).2.1 rfl))) (fun he => next g13 (Ex.refl _) ⟨rfl, fun _ => he, fun hh => (by cases hh)⟩)) (fun hh => by cases hh)
  | true =>
  refine ifT (fun hh => by cases hh) (fun _ => ?_)
  have hvL : v2 ∈ La := by have := hwd.1; unfold wordP at this; simpa using this
  have hwL : w2 ∈ Lb := by have := hwd.2; unfold wordP at this; simpa using this
  obtain ⟨hva, hvn⟩ := L_hdr hoa.good hvL
  obtain ⟨hwa, hwn⟩ := L_hdr hob.good hwL
  have hvd := hdr_lt hva
  have hwd2 := hdr_lt hwa
  have hlk := ht13.lookOk Try.underlying3 Try.underlying115 (zero3 g13.w) v2 (wfI (by omega) (by omega))
  have hlk2 := hk13.lookOk Try.underlying3 Try.underlying115 (zero3 g13.w) w2 (wfI (by omega) (by omega))
  have no3 : ∀ (P : Prop), ¬ SameVal a b La Lb xs ys → ∀ g' : G, ∀ g'' : G, Ex g' g'' → SameSay a fa la xs b fb lb ys (.tuple ⟨[.bool false, .int .i64 0]⟩) := fun _ h _ _ _ => no h
  rcases mapT_cases S v2 with ⟨t1, t2⟩ | ⟨z, t1, t2⟩ <;> rcases mapB_cases S w2 with ⟨u1, u2⟩ | ⟨y, u1, u2⟩
  · rw [t1] at hlk
    rw [u1] at hlk2
    refine ⟨_, _, _, hlk, g13, rfl, Stp.refl _ _ _, _, _, _, hlk2, g13, rfl, Stp.refl _ _ _, ?_⟩
    intro J hJ
    refine ifT (fun hh => by cases hh) (fun _ => hJ _ g13 (ifT (fun hh => by cases hh) (fun _ g23 m23 => ?_)))
    obtain ⟨q, rfl⟩ : ∃ q : Nat, v2 = ((q : Nat) : Int) := ⟨v2.toNat, hvn⟩
    obtain ⟨r, rfl⟩ : ∃ r : Nat, w2 = ((r : Nat) : Int) := ⟨w2.toNat, hwn⟩
    rw [Int.toNat_natCast] at hva hwa hvd hwd2
    have hSl := nodup_le hI.p.nd (L := La) (fun z hz => by obtain ⟨p, hp, rfl⟩ := List.mem_map.1 hz; exact (hI.p.sub p hp).1)
    rw [List.length_map] at hSl
    have hLal := L_le hoa.good
    have hvt : vb ≠ tb := mapI_other ht13 hm13
    have hvbb : vb ≠ bb := mapI_other hk13 hm13
    have hrt : ¬ blkOf wa tb := row_map hrow13 ht13
    have hrb : ¬ blkOf wa bb := row_map hrow13 hk13
    have hrv : ¬ blkOf wa vb := row_other hrow13 hm13 (by decide)
    obtain ⟨w3, run3, g24, e24, s24, t24⟩ := (ht13.ex m23).putM Try.underlying3 Try.underlying115 (by unfold maxLen; omega) ((q : Nat) : Int) (wfI (by omega) (by omega)) (.int .i64 ((r : Nat) : Int))
    have b24 := (s24 g23.w.heap.size).but (Nat.le_refl _)
    have k24 := (hk13.ex m23).but b24 (fun e => htbb e.symm)
    have hm24 := (hm13.ex m23).but b24 hvt
    have row24 := (hrow13.ex m23).but b24 (fun z hz e => hrt (e ▸ hz))
    obtain ⟨w4, run4, g25, e25, s25, k25⟩ := k24.putM Try.underlying3 Try.underlying115 (by unfold maxLen; omega) ((r : Nat) : Int) (wfI (by omega) (by omega)) (.int .i64 ((q : Nat) : Int))
    have b25 := (s25 g24.w.heap.size).but (Nat.le_refl _)
    have t25 := t24.but b25 htbb
    have hm25 := hm24.but b25 hvbb
    have row25 := row24.but b25 (fun z hz e => hrb (e ▸ hz))
    have le25 : Le g g25 := ((le13.trans m23.le).trans (s24 0).le).trans (s25 0).le
    refine ⟨fun z => z = tb, fun z e => by subst e; exact (ht13.ex m23).nx, w3, run3, g24, e24, (s24 _).mono (Nat.le_refl _) (fun z hz e => by omega), b24.same, w4, run4, g25, e25, (s25 _).mono (Nat.le_refl _) (fun z hz e => by omega), fun g26 m26 => ?_⟩
    have ca := contW_len hva
    have cb := contW_len hwa
    obtain ⟨za, hza, hza2, hac, _⟩ := blk_sl hva hha
    obtain ⟨zb, hzb, hzb2, hbc, _⟩ := blk_sl hwa hhb
    have a5 := hva.2.2.2.2.1
    have b5 := hwa.2.2.2.2.1
    rw [Int.toNat_natCast, Int.toNat_natCast]
    refine ⟨nobody, fun _ hh => hh.elim, ⟨by omega, by omega⟩, ⟨by omega, by omega⟩, (k90 a (hha.mono (le25.trans m26.le)) fa la q (by omega) (by omega) rfl (by omega) (by omega)).mono ?_⟩
    rintro u g27 m27 rfl
    have ea : (3 : Int) + (a.getD (q + 2) zW).2 = ((za : Nat) : Int) := by omega
    rw [ea]
    refine ⟨_, rfl, ⟨by omega, by omega⟩, (k90 b (hhb.mono ((le25.trans m26.le).trans m27.le)) fb lb r (by omega) (by omega) rfl (by omega) (by omega)).mono ?_⟩
    rintro u g28 m28 rfl
    have eb : (3 : Int) + (b.getD (r + 2) zW).2 = ((zb : Nat) : Int) := by omega
    rw [eb]
    refine ⟨_, rfl, ⟨by omega, by omega⟩, fun g29 m29 => ⟨nobody, fun _ hh => hh.elim, ⟨by omega, by omega⟩, ⟨by omega, by omega⟩, ?_⟩⟩
    have le29 : Le g g29 := (((le25.trans m26.le).trans m27.le).trans m28.le).trans m29.le
    obtain ⟨za', hza', _, _, ha1, ha2⟩ := blk_sl hva (hha.mono le29)
    obtain ⟨zb', hzb', _, _, hb1, hb2⟩ := blk_sl hwa (hhb.mono le29)
    have : za' = za := by omega
    subst this
    have : zb' = zb := by omega
    subst this
    refine (k91 _ _ ha1 hb1).mono ?_
    rintro u g30 m30 rfl
    rw [tf_iff (head_eq _ _ _ _ _ _)]
    refine ⟨_, rfl, ifPn (fun hne g31 _ => no (fun hs => hne ?_)) (fun hhd g32 m32 => ?_)⟩
    · obtain ⟨_, _, h1, h2, h3⟩ := (hlast hs.2).2.2 rfl
      simp only [Int.toNat_natCast] at h1 h2
      unfold cn at h3
      rw [Int.toNat_natCast, Int.toNat_natCast] at h3
      exact ⟨h1, h2, h3⟩
    obtain ⟨hh1, hh2, hh3⟩ := hhd
    rw [Int.toNat_natCast, Int.toNat_natCast]
    have m2532 := (((m26.trans m27).trans (m28.trans m29)).trans m30).trans m32
    have eca : cn a ((q : Nat) : Int) = contW a q := by unfold cn; rw [Int.toNat_natCast]
    have ecb : cn b ((r : Nat) : Int) = contW b r := by unfold cn; rw [Int.toNat_natCast]
    refine ⟨nobody, fun _ hh => hh.elim, ⟨by omega, by omega⟩, ⟨by omega, by omega⟩, ⟨_, Try.func89, by kernel_rfl, by kernel_rfl⟩, fun z => z = vb ∨ blkOf wa z, fun z hz hh => ?_, ?_⟩
    · rcases hh with rfl | hh
      · omega
      · have := hrow13.ge hh; omega
    refine CallsG.mono (k89 (W := W0) (B := g.w.heap.size) (hm25.ex m2532) (row25.ex m2532) (Nat.le_trans le25.size m2532.size) (ha2.exm (m30.trans m32)) (hb2.exm (m30.trans m32)) hh3 (by omega)) ?_
    rintro v g33 s33 ⟨rfl, wa2, wl2, wc2, hm33, hr33, _⟩
    have b33 := s33.but (Nat.le_refl _)
    have t32 := t25.ex m2532
    have k32' := k25.ex m2532
    have t33 := t32.but b33 (fun hh => hh.elim (fun e => hvt e.symm) (fun hz => row_map (row25.ex m2532) t32 hz))
    have k33 := k32'.but b33 (fun hh => hh.elim (fun e => hvbb e.symm) (fun hz => row_map (row25.ex m2532) k32' hz))
    have hgrow := hI.p.grow hoa.good hob.good hIa hIb t2 u2 (by simpa using hh1) (by simpa using hh2) (by rw [eca, ecb]; exact hh3)
    rw [eca, ecb] at hgrow
    have hoff := off_le hoa.good hgrow.nd (fun z hz => by obtain ⟨p, hp, rfl⟩ := List.mem_map.1 hz; exact (hgrow.sub p hp).1)
    have ho3 : offN a (((((q : Nat) : Int), ((r : Nat) : Int)) :: S).map Prod.fst) = (3 + (contW a q).length) + offN a (S.map Prod.fst) := by
      rw [List.map_cons]
      have : lenB a ((q : Nat) : Int) = 3 + (contW a q).length := by unfold lenB; rw [eca]
      rw [← this]
      unfold offN
      simp
    have hz : ((contW a q).zip (contW b r)).length = (contW a q).length := by rw [List.length_zip]; omega
    refine ⟨rfl, _, ?_, wa2, wl2, wc2, W0 ++ (contW a q).zip (contW b r), (((q : Nat) : Int), ((r : Nat) : Int)) :: S, ⟨hm33, hr33, t33.congr (fun z => mapT_add S _ _ z), k33.congr (fun z => mapB_add S _ _ z), hgrow⟩, rfl, ?_⟩
    · rw [List.length_append, hz, ho3]
      rw [ho3] at hoff
      exact meas_lt hmeas hoff
    · rw [List.length_append, hz, ho3]
      rw [ho3] at hoff
      exact meas_le hsmall hoff
  · rw [t1] at hlk
    rw [u1] at hlk2
    refine ⟨_, _, _, hlk, g13, rfl, Stp.refl _ _ _, _, _, _, hlk2, g13, rfl, Stp.refl _ _ _, ?_⟩
    intro J hJ
    refine ifT (fun hh => by cases hh) (fun _ => hJ _ g13 (ifT (fun _ => ifT (fun _ g19 _ => no (fun hs => ?_)) (fun hh => by cases hh)) (fun hh => by cases hh)))
    have := (((hlast hs.2).2.2 rfl).2.1 y u2)
    subst this
    exact t2 _ u2
  · rw [t1] at hlk
    rw [u1] at hlk2
    refine ⟨_, _, _, hlk, g13, rfl, Stp.refl _ _ _, _, _, _, hlk2, g13, rfl, Stp.refl _ _ _, ?_⟩
    intro J hJ
    refine ifT (fun _ => hJ _ g13 (ifT (fun _ => ifT (fun hh => by cases hh) (fun _ => ifT (fun _ g20 _ => no (fun hs => ?_)) (fun hh => by cases hh))) (fun hh => by cases hh))) (fun hh => by cases hh)
    have := (((hlast hs.2).2.2 rfl).1 z t2)
    subst this
    exact u2 _ t2
  · rw [t1] at hlk
    rw [u1] at hlk2
    refine ⟨_, _, _, hlk, g13, rfl, Stp.refl _ _ _, _, _, _, hlk2, g13, rfl, Stp.refl _ _ _, ?_⟩
    intro J hJ
    refine ifT (fun _ => hJ _ g13 (ifT (fun _ => ifT (fun hh => by cases hh) (fun _ => ifT (fun hh => by cases hh) (fun _ => ifNe (fun hne g21 _ => no (fun hs => hne (((hlast hs.2).2.2 rfl).1 z t2))) (fun he => ifNe (fun hne g22 _ => no (fun hs => hne (((hlast hs.2).2.2 rfl).2.1 y u2))) (fun he2 => next g13 (Ex.refl _) ⟨rfl, fun hh => (by cases hh), fun _ => he ▸ t2⟩))))) (fun hh => by cases hh))) (fun hh => by cases hh)
end Go.Proofs.Ytcpclpkcanikiaa
/- The collector: CollectSame answers true. -/
set_option linter.unusedVariables false
namespace Go.Proofs.Ytcpclpkcanikiaa
open Go Go.Vc Go.RowKit

theorem SameVal.symm {a b : List Wd} {La Lb : List Int} {xs ys : List Wd} : SameVal a b La Lb xs ys ↔ SameVal b a Lb La ys xs :=
  ⟨fun h => ⟨h.1.symm, h.2.1.symm, h.2.2.symm⟩, fun h => ⟨h.1.symm, h.2.1.symm, h.2.2.symm⟩⟩
/-- Same of the reference. -/
theorem k54 {a xs b ys : List Wd} {fa la fb lb : Int} {La Lb : List Int} (hoa : ColOk a fa la xs La) (hob : ColOk b fb lb ys Lb) {aa : Option Addr} {al ac : Nat} {xa : Option Addr} {xl xc : Nat} {ba : Option Addr} {bl bc : Nat} {ya : Option Addr} {yl yc : Nat} {g : G}
    (hha : SlE wordE g aa al ac a) (hxx : SlE wordE g xa xl xc xs) (hhb : SlE wordE g ba bl bc b) (hyy : SlE wordE g ya yl yc ys) :
    CallsP Try.prog 54 #[hpV aa al ac fa la, .slice xa xl xc, hpV ba bl bc fb lb, .slice ya yl yc] g fun u _ => u = .bool (tf (SameVal a b La Lb xs ys)) := by
  refine P50.call54 aa al ac fa la xa xl xc ba bl bc fb lb ya yl yc g _ ?_
  have hxl := hxx.len
  have hyl := hyy.len
  have h1 := hoa.len
  have h2 := hob.len
  unfold P50.F54
  refine ifNe (fun hh g1 _ => vF (fun hs => hh (by have := hs.1; omega))) (fun hee g2 m2 => ?_)
  refine (k49 hoa.good hoa.small.1 (hha.exm m2) fa la xs (hxx.exm m2) (by omega) hoa.wd).mono ?_
  rintro u g3 m3 ⟨pa, pcc, oa, oc, rfl, hp, ho⟩
  refine ⟨_, _, _, _, _, _, _, _, rfl, fun g4 m4 => ?_⟩
  have m04 := (m2.trans m3).trans m4
  refine (k49 hob.good hob.small.1 (hhb.exm m04) fb lb ys (hyy.exm m04) (by omega) hob.wd).mono ?_
  rintro u g5 m5 ⟨qa, qc, ra, rc, rfl, hq, hr⟩
  refine ⟨_, _, _, _, _, _, _, _, rfl, fun g6 m6 => ?_⟩
  have m36 := (m4.trans m5).trans m6
  have hla : (colW a (ord a La xs)).length = offN a (ord a La xs) := allW_len (fun x _ => by simp)
  have hlb : (colW b (ord b Lb ys)).length = offN b (ord b Lb ys) := allW_len (fun x _ => by simp)
  refine (k20 _ _ (hp.exm m36) (hq.exm m6) _ _ _ _).mono ?_
  rintro u g7 m7 rfl
  refine ⟨_, rfl, ifP (fun hs => (k39 _ _ (ho.exm (m36.trans m7)) (hr.exm (m6.trans m7))).mono ?_) (fun hs g10 _ => vF (fun hh => hs ⟨hh.2.1, ?_, rfl⟩))⟩
  · rintro u g8 m8 rfl
    refine ⟨_, rfl, fun g9 _ => vP ?_⟩
    exact ⟨fun hh => ⟨by omega, hs.1, hh⟩, fun hh => hh.2.2⟩
  · have := congrArg List.length hh.2.1
    omega
theorem law11 (a xs b ys : List Wd) (hwx : ∀ w ∈ xs, (Lit.int .i64 w.2).wf = true) (hwy : ∀ w ∈ ys, (Lit.int .i64 w.2).wf = true) {aa : Option Addr} {al ac : Nat} {xa : Option Addr} {xl xc : Nat} {ba : Option Addr} {bl bc : Nat} {ya : Option Addr} {yl yc : Nat} {g : G}
    (hha : SlE wordE g aa al ac a) (hxx : SlE wordE g xa xl xc xs) (hhb : SlE wordE g ba bl bc b) (hyy : SlE wordE g ya yl yc ys) (fa la fb lb : Int) :
    CallsP Try.prog 11 #[hpV aa al ac fa la, .slice xa xl xc, hpV ba bl bc fb lb, .slice ya yl yc] g fun u _ => u = .bool true := by
  refine P50.call11 aa al ac fa la xa xl xc ba bl bc fb lb ya yl yc g _ ?_
  unfold P50.F11
  refine fun g1 m1 => (k41 g1).mono ?_
  rintro u g2 m2 rfl
  refine ⟨_, rfl, ifT (fun hh => by cases hh) (fun _ => ?_)⟩
  intro J hJ
  refine (k42 fa la g2).mono ?_
  rintro u g19 m19 ⟨b1, rfl, _⟩
  refine ⟨_, rfl, ?_⟩
  cases b1 with
  | true => exact ifT (fun _ g5 _ => rfl) (fun hh => by cases hh)
  | false =>
  refine ifT (fun hh => by cases hh) (fun _ => (k42 fb lb g19).mono ?_)
  rintro u g4 m4 ⟨b2, rfl, _⟩
  refine ⟨_, rfl, ?_⟩
  cases b2 with
  | true => exact ifT (fun _ g5 _ => rfl) (fun hh => by cases hh)
  | false =>
  refine ifT (fun hh => by cases hh) (fun _ => hJ g4 ?_)
  have m04 := ((m1.trans m2).trans m19).trans m4
  refine (k53 a xs b ys hwx hwy (hha.exm m04) (hxx.exm m04) (hhb.exm m04) (hyy.exm m04) fa la fb lb).mono ?_
  intro u g5 m5 h1
  have hu : ∃ (x0 : Bool) (x1 : Int), u = .tuple ⟨[.bool x0, .int .i64 x1]⟩ := by
    rcases h1 with ⟨_, rfl⟩ | ⟨_, _, rfl⟩ | ⟨_, _, _, _, rfl⟩ <;> exact ⟨_, _, rfl⟩
  obtain ⟨x0, x1, rfl⟩ := hu
  have m05 := m04.trans m5
  refine ⟨_, _, rfl, (k53 b ys a xs hwy hwx (hhb.exm m05) (hyy.exm m05) (hha.exm m05) (hxx.exm m05) fb lb fa la).mono ?_⟩
  intro u g6 m6 h2
  have hu : ∃ (y0 : Bool) (y1 : Int), u = .tuple ⟨[.bool y0, .int .i64 y1]⟩ := by
    rcases h2 with ⟨_, rfl⟩ | ⟨_, _, rfl⟩ | ⟨_, _, _, _, rfl⟩ <;> exact ⟨_, _, rfl⟩
  obtain ⟨y0, y1, rfl⟩ := hu
  have m06 := m05.trans m6
  have pair : ∀ {p q : Bool} {i j : Int}, Value.tuple ⟨[.bool p, .int .i64 i]⟩ = .tuple ⟨[.bool q, .int .i64 j]⟩ → p = q ∧ i = j := by
    intro p q i j h
    simp at h
    exact h
  refine ⟨_, _, rfl, (k47 a xs (hha.exm m06) (hxx.exm m06) fa la).mono ?_⟩
  rintro u g7 m7 rfl
  refine ⟨_, rfl, ?_⟩
  intro J1 hJ1
  -- a fault
  have bad : ∀ e : Int, e ≠ 0 → x1 = e → x0 = false → y1 ≠ 0 → y0 = false → ∀ g', J1 e g' := by
    rintro e he rfl rfl hy rfl g'
    exact hJ1 _ g' (ifNe (fun _ => ifEq (fun _ => ifT (fun _ => ifNe (fun _ g9 _ => rfl) (fun hh => absurd hh hy)) (fun hh => by cases hh)) (fun hh => absurd rfl hh)) (fun hh => absurd hh he))
  by_cases ha : faultN a fa la xs = 0
  rotate_left
  · have e1 : x0 = false ∧ x1 = faultN a fa la xs := by
      rcases h1 with ⟨_, h⟩ | ⟨h, _⟩ | ⟨La, Lb, ho, _⟩
      · exact pair h
      · exact absurd h ha
      · exact absurd (ok_zero ho) ha
    have e2 : y0 = false ∧ y1 ≠ 0 := by
      rcases h2 with ⟨hn, h⟩ | ⟨_, hn, h⟩ | ⟨La, Lb, _, ho, _⟩
      · obtain ⟨q1, q2⟩ := pair h
        exact ⟨q1, by rw [q2]; exact hn⟩
      · obtain ⟨q1, q2⟩ := pair h
        exact ⟨q1, by rw [q2]; exact hn⟩
      · exact absurd (ok_zero ho) ha
    exact ifEq (fun hh => absurd hh ha) (fun _ => bad _ ha e1.2 e1.1 e2.2 e2.1 g7)
  refine ifEq (fun _ => (k47 b ys (hhb.exm (m06.trans m7)) (hyy.exm (m06.trans m7)) fb lb).mono ?_) (fun hh => absurd ha hh)
  rintro u g18 m18 rfl
  refine ⟨_, rfl, ?_⟩
  by_cases hb : faultN b fb lb ys = 0
  rotate_left
  · have e1 : x0 = false ∧ x1 = faultN b fb lb ys := by
      rcases h1 with ⟨h, _⟩ | ⟨_, _, h⟩ | ⟨La, Lb, _, ho, _⟩
      · exact absurd ha h
      · exact pair h
      · exact absurd (ok_zero ho) hb
    have e2 : y0 = false ∧ y1 ≠ 0 := by
      rcases h2 with ⟨hn, h⟩ | ⟨hn, _⟩ | ⟨La, Lb, ho, _⟩
      · obtain ⟨q1, q2⟩ := pair h
        exact ⟨q1, by rw [q2]; exact hn⟩
      · exact absurd hn hb
      · exact absurd (ok_zero ho) hb
    exact bad _ hb e1.2 e1.1 e2.2 e2.1 g18
  rcases h1 with ⟨h, _⟩ | ⟨_, h, _⟩ | ⟨La, Lb, hoa, hob, h1⟩
  · exact absurd ha h
  · exact absurd hb h
  rcases h2 with ⟨h, _⟩ | ⟨_, h, _⟩ | ⟨Lb', La', hob', hoa', h2⟩
  · exact absurd hb h
  · exact absurd ha h
  cases hoa.same hoa'
  cases hob.same hob'
  obtain ⟨rfl, rfl⟩ := pair h1
  obtain ⟨rfl, rfl⟩ := pair h2
  have m018 := (m06.trans m7).trans m18
  rw [hb]
  refine hJ1 0 g18 (ifNe (fun hh => absurd rfl hh) (fun _ => (k54 hoa hob (hha.exm m018) (hxx.exm m018) (hhb.exm m018) (hyy.exm m018)).mono ?_))
  rintro u g13 m13 rfl
  refine ⟨_, rfl, ifEq (fun _ => ?_) (fun hh => absurd rfl hh)⟩
  rw [show tf (SameVal b a Lb La ys xs) = tf (SameVal a b La Lb xs ys) from tf_iff SameVal.symm.symm, show (tf (SameVal a b La Lb xs ys) == tf (SameVal a b La Lb xs ys)) = true by simp]
  exact ifT (fun _ => ifEq (fun _ g14 _ => rfl) (fun hh => absurd rfl hh)) (fun hh => by cases hh)
end Go.Proofs.Ytcpclpkcanikiaa
