/- The store: what records leave; the records of a compacted store. -/
import Derived.Test.YtlofbfbcnlgmaaaC53j
import Derived.Sort.Walk0
set_option linter.unusedVariables false
namespace Go.Proofs.Ytlofbfbcnlgmaaa
open Go Go.Vc Go.RowKit

theorem klt_iff (x y : List UInt8) : klt x y ↔ x < y := by unfold klt; rw [Go.Proofs.bytesLess_eq]; simp
theorem klt_trans {x y z : List UInt8} (h : klt x y) (k : klt y z) : klt x z := by
  rw [klt_iff] at *; exact List.lt_trans h k
theorem klt_ne {x y : List UInt8} (h : klt x y) : x ≠ y := by
  rintro rfl
  rw [klt, klt_irrefl] at h
  cases h
theorem klt_tri {x y : List UInt8} (h : ¬ klt x y) (hne : x ≠ y) : klt y x := by
  rw [klt_iff] at *
  rcases List.le_total y x with h1 | h1
  · rcases Classical.em (y < x) with h2 | h2
    · exact h2
    · exact absurd (List.le_antisymm (List.not_lt.1 h2) h1) hne
  · exact absurd (List.le_antisymm h1 (List.not_lt.1 h)) hne

/-- A good record. -/
structure OkRec (r : Rec) : Prop where
  kind : r.kind = 1 ∨ r.kind = 2 ∧ r.data = []
  key : 1 ≤ r.key.length ∧ r.key.length ≤ 100
  len : r.len = 11 + r.key.length + r.data.length
theorem first_ok {l : List UInt8} {r : Rec} (h : firstR l = some r) : OkRec r := by
  obtain ⟨n, c, hr, rfl⟩ := right_of h
  have hok := hr.ok
  have hcl : c.length = n := by rw [hr.c_eq, List.length_take, List.length_drop]; have := hr.len; omega
  unfold badR at hok
  unfold keyLen
  refine ⟨?_, ?_, ?_⟩ <;> simp only [List.length_take, List.length_drop]
  · by_cases h1 : (c.getD 0 0).toNat = 1
    · exact .inl h1
    · refine .inr ⟨by omega, List.drop_eq_nil_of_le (by omega)⟩
  · omega
  · omega
theorem recs_ok (l : List UInt8) : ∀ r ∈ recsL l, OkRec r := by
  have key : ∀ (f : Nat) (l : List UInt8), ∀ r ∈ recs f l, OkRec r := by
    intro f
    induction f with
    | zero => intro l r h; cases h
    | succ f ih =>
      intro l r h
      unfold recs at h
      cases hf : firstR l with
      | none => rw [hf] at h; cases h
      | some q =>
        rw [hf] at h
        rcases List.mem_cons.1 h with rfl | h
        · exact first_ok hf
        · exact ih _ _ h
  exact key _ l

def Srt (l : List Ent) : Prop := l.Pairwise fun x y => klt x.1 y.1
def cost (l : List Ent) : Nat := (l.map fun e => 11 + e.1.length + e.2.length).sum
theorem Srt.filter {l : List Ent} (h : Srt l) (p : Ent → Bool) : Srt (l.filter p) := List.Pairwise.filter p h
theorem insE_srt (k d : List UInt8) : ∀ {l : List Ent}, Srt l → Srt (insE k d l)
  | [], _ => List.pairwise_singleton _ _
  | x :: r, h => by
    unfold insE
    have h' := List.pairwise_cons.1 h
    cases hb : Op.bytesLess x.1 k with
    | true =>
      refine List.pairwise_cons.2 ⟨fun y hy => ?_, insE_srt k d h'.2⟩
      rcases (mem_insE k d r y).1 hy with rfl | ⟨hy, _⟩
      · exact hb
      · exact h'.1 y hy
    | false =>
      refine List.pairwise_cons.2 ⟨fun y hy => ?_, h.filter _⟩
      simp only [List.mem_filter, decide_eq_true_eq, List.mem_cons] at hy
      have hxk : ¬ klt x.1 k := by unfold klt; rw [hb]; simp
      rcases hy with ⟨rfl | hy, hne⟩
      · exact klt_tri hxk hne
      · by_cases hx : x.1 = k
        · rw [← hx]; exact h'.1 y hy
        · exact klt_trans (klt_tri hxk hx) (h'.1 y hy)
theorem cost_filter (p : Ent → Bool) : ∀ l : List Ent, cost (l.filter p) ≤ cost l
  | [] => Nat.le_refl _
  | x :: r => by
    have := cost_filter p r
    rw [List.filter_cons]
    split <;> simp only [cost, List.map_cons, List.sum_cons] at * <;> omega
theorem insE_cost (k d : List UInt8) : ∀ l : List Ent, cost (insE k d l) ≤ 11 + k.length + d.length + cost l
  | [] => by simp [insE, cost]
  | x :: r => by
    unfold insE
    cases hb : Op.bytesLess x.1 k with
    | true =>
      have := insE_cost k d r
      simp only [cost, List.map_cons, List.sum_cons] at *
      omega
    | false =>
      have := cost_filter (fun y => decide (y.1 ≠ k)) (x :: r)
      show cost ((k, d) :: List.filter (fun y => decide (y.1 ≠ k)) (x :: r)) ≤ _
      simp only [cost, List.map_cons, List.sum_cons] at *
      omega
/-- What holds of the entries of good records. -/
structure OkE (l : List Ent) : Prop where
  srt : Srt l
  key : ∀ e ∈ l, 1 ≤ e.1.length ∧ e.1.length ≤ 100
theorem stepE_ok {l : List Ent} (h : OkE l) {r : Rec} (hr : OkRec r) : OkE (stepE l r) ∧ cost (stepE l r) ≤ r.len + cost l := by
  unfold stepE
  split
  · refine ⟨⟨insE_srt _ _ h.srt, fun e he => ?_⟩, ?_⟩
    · rcases (mem_insE _ _ _ _).1 he with rfl | ⟨he, _⟩
      · exact hr.key
      · exact h.key e he
    · have := insE_cost r.key r.data l
      rw [hr.len]
      omega
  · refine ⟨⟨h.srt.filter _, fun e he => h.key e (List.mem_filter.1 he).1⟩, ?_⟩
    exact Nat.le_trans (cost_filter _ _) (by omega)
theorem enL_ok (rs : List Rec) (h : ∀ r ∈ rs, OkRec r) : OkE (enL rs) ∧ cost (enL rs) ≤ (rs.map Rec.len).sum := by
  have key : ∀ (rs : List Rec) (l : List Ent), (∀ r ∈ rs, OkRec r) → OkE l → OkE (rs.foldl stepE l) ∧ cost (rs.foldl stepE l) ≤ (rs.map Rec.len).sum + cost l := by
    intro rs
    induction rs with
    | nil => intro l _ hl; exact ⟨hl, by simp⟩
    | cons r rs ih =>
      intro l h hl
      have h1 := stepE_ok hl (h r (by simp))
      have h2 := ih (stepE l r) (fun x hx => h x (by simp [hx])) h1.1
      refine ⟨h2.1, Nat.le_trans h2.2 ?_⟩
      simp only [List.map_cons, List.sum_cons]
      omega
  have := key rs [] h ⟨List.Pairwise.nil, by simp⟩
  exact ⟨this.1, by have h2 := this.2; rw [show cost ([] : List Ent) = 0 from rfl] at h2; exact h2⟩
theorem cost_end (l : List UInt8) : cost (enL (recsL l)) ≤ endR l := (enL_ok _ (recs_ok l)).2
theorem cost_mem {l : List Ent} {e : Ent} (h : e ∈ l) : 11 + e.1.length + e.2.length ≤ cost l := by
  induction l with
  | nil => cases h
  | cons x r ih =>
    simp only [cost, List.map_cons, List.sum_cons] at *
    rcases List.mem_cons.1 h with rfl | h
    · omega
    · have := ih h; omega

/-- The records of entries. -/
def compB (l : List Ent) : List UInt8 := (l.map fun e => recB 1 e.1 e.2).flatten
theorem compB_len (l : List Ent) : (compB l).length = cost l := by
  induction l with
  | nil => rfl
  | cons x r ih => simp only [compB, cost, List.map_cons, List.flatten_cons, List.length_append, List.sum_cons, recB_len] at *; omega
theorem compB_take (l : List Ent) (i : Nat) {e : Ent} (h : l[i]? = some e) : compB (l.take (i + 1)) = compB (l.take i) ++ recB 1 e.1 e.2 := by
  rw [List.take_add_one, h]
  simp [compB]
theorem cost_take (l : List Ent) (i : Nat) : cost (l.take i) ≤ cost l := by
  have h : cost l = cost (l.take i) + cost (l.drop i) := by
    unfold cost
    rw [← List.sum_append_nat, ← List.map_append, List.take_append_drop]
  omega
def toRec (e : Ent) : Rec := ⟨1, e.1, e.2, 11 + e.1.length + e.2.length⟩
theorem recs_app (kind : Nat) (key data rest : List UInt8) (hk : kind = 1 ∨ kind = 2 ∧ data = []) (h1 : 1 ≤ key.length ∧ key.length ≤ 100) (h2 : data.length ≤ 1048576) :
    recsL (recB kind key data ++ rest) = ⟨kind, key, data, 11 + key.length + data.length⟩ :: recsL rest := by
  rw [recsL_some (first_rec kind key data rest hk h1 h2)]
  congr 2
  exact List.drop_left' (recB_len _ _ _)
theorem recs_comp : ∀ (l : List Ent), OkE l → cost l ≤ 1048576 → recsL (compB l) = l.map toRec
  | [], _, _ => rfl
  | x :: r, h, hc => by
    have h1 := cost_mem (l := x :: r) (e := x) (by simp)
    have h2 : cost r ≤ cost (x :: r) := by simp [cost]
    have := recs_comp r ⟨(List.pairwise_cons.1 h.srt).2, fun e he => h.key e (by simp [he])⟩ (by omega)
    have hkey := h.key x (by simp)
    show recsL (recB 1 x.1 x.2 ++ compB r) = _
    rw [recs_app 1 x.1 x.2 _ (.inl rfl) hkey (by omega), this]
    rfl
theorem insE_last (k d : List UInt8) : ∀ l : List Ent, (∀ y ∈ l, klt y.1 k) → insE k d l = l ++ [(k, d)]
  | [], _ => rfl
  | x :: r, h => by
    have hx : Op.bytesLess x.1 k = true := h x (by simp)
    unfold insE
    rw [hx]
    show x :: insE k d r = _
    rw [insE_last k d r (fun y hy => h y (by simp [hy]))]
    rfl
theorem en_comp (l : List Ent) (h : Srt l) : enL (l.map toRec) = l := by
  have key : ∀ (l acc : List Ent), Srt (acc ++ l) → (l.map toRec).foldl stepE acc = acc ++ l := by
    intro l
    induction l with
    | nil => intro acc _; simp
    | cons x r ih =>
      intro acc hs
      have hx : ∀ y ∈ acc, klt y.1 x.1 := fun y hy => (List.pairwise_append.1 hs).2.2 y hy x (by simp)
      show (r.map toRec).foldl stepE (stepE acc (toRec x)) = _
      have e1 : stepE acc (toRec x) = acc ++ [x] := by
        show (if (1 : Nat) = 1 then insE x.1 x.2 acc else _) = _
        rw [if_pos rfl, insE_last _ _ _ hx]
      rw [e1, ih (acc ++ [x]) (by simpa using hs)]
      simp
  have := key l [] h
  exact this
theorem end_comp (l : List Ent) (h : OkE l) (hc : cost l ≤ 1048576) : endR (compB l) = (compB l).length := by
  unfold endR
  rw [recs_comp l h hc, compB_len]
  unfold cost
  rw [List.map_map]
  rfl
/-- Sorted lists with the same members are equal. -/
theorem srt_eq {l m : List (List UInt8)} (hl : l.Pairwise klt) (hm : m.Pairwise klt) (h : ∀ x, x ∈ l ↔ x ∈ m) : l = m := by
  induction l generalizing m with
  | nil =>
    cases m with
    | nil => rfl
    | cons y m => exact absurd ((h y).2 (by simp)) (by simp)
  | cons x l ih =>
    cases m with
    | nil => exact absurd ((h x).1 (by simp)) (by simp)
    | cons y m =>
      obtain ⟨h1, h2⟩ := List.pairwise_cons.1 hl
      obtain ⟨h3, h4⟩ := List.pairwise_cons.1 hm
      have exy : x = y := by
        rcases List.mem_cons.1 ((h x).1 (by simp)) with e | hx
        · exact e
        · rcases List.mem_cons.1 ((h y).2 (by simp)) with e | hy
          · exact e.symm
          · exact absurd rfl (klt_ne (klt_trans (h1 y hy) (h3 x hx)))
      subst exy
      congr 1
      refine ih h2 h4 (fun z => ?_)
      constructor
      · intro hz
        rcases List.mem_cons.1 ((h z).1 (by simp [hz])) with rfl | hz'
        · exact absurd rfl (klt_ne (h1 z hz))
        · exact hz'
      · intro hz
        rcases List.mem_cons.1 ((h z).2 (by simp [hz])) with rfl | hz'
        · exact absurd rfl (klt_ne (h3 z hz))
        · exact hz'
theorem keys_srt {l : List Ent} (h : Srt l) : (l.map Prod.fst).Pairwise klt := List.pairwise_map.2 h
end Go.Proofs.Ytlofbfbcnlgmaaa
