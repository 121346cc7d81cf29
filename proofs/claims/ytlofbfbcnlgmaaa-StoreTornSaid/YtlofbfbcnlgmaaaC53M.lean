/- Joined texts. -/
import Derived.Test.YtlofbfbcnlgmaaaC53A
import Derived.Sort.Walk0
import Derived.Shelf.SlIter.Nil
import Derived.Shelf.SortM.Plain
import Derived.Shelf.SortM.SortNone
import Derived.Test.YtlofbfbcnlgmaaaProg
/- The store: what records leave; the records of a compacted store. -/
set_option linter.unusedVariables false
namespace Go.Proofs.Ytlofbfbcnlgmaaa
open Go Go.Vc Go.RowKit

theorem klt_iff (x y : List UInt8) : klt x y ↔ x < y := by unfold klt; rw [Go.Proofs.bytesLess_eq]; simp
theorem klt_trans {x y z : List UInt8} (h : klt x y) (k : klt y z) : klt x z := by
  rw [klt_iff] at *; exact List.lt_trans h k
theorem klt_ne {x y : List UInt8} (h : klt x y) : x ≠ y := by
  rintro rfl
  rw [klt, klt_irrefl] at h
  cases h
theorem klt_tri {x y : List UInt8} (h : ¬ klt x y) (hne : x ≠ y) : klt y x := by
  rw [klt_iff] at *
  rcases List.le_total y x with h1 | h1
  · rcases Classical.em (y < x) with h2 | h2
    · exact h2
    · exact absurd (List.le_antisymm (List.not_lt.1 h2) h1) hne
  · exact absurd (List.le_antisymm h1 (List.not_lt.1 h)) hne

/-- A good record. -/
structure OkRec (r : Rec) : Prop where
  kind : r.kind = 1 ∨ r.kind = 2 ∧ r.data = []
  key : 1 ≤ r.key.length ∧ r.key.length ≤ 100
  len : r.len = 11 + r.key.length + r.data.length
theorem first_ok {l : List UInt8} {r : Rec} (h : firstR l = some r) : OkRec r := by
  obtain ⟨n, c, hr, rfl⟩ := right_of h
  have hok := hr.ok
  have hcl : c.length = n := by rw [hr.c_eq, List.length_take, List.length_drop]; have := hr.len; omega
  unfold badR at hok
  unfold keyLen
  refine ⟨?_, ?_, ?_⟩ <;> simp only [List.length_take, List.length_drop]
  · by_cases h1 : (c.getD 0 0).toNat = 1
    · exact .inl h1
    · refine .inr ⟨by omega, List.drop_eq_nil_of_le (by omega)⟩
  · omega
  · omega
theorem recs_ok (l : List UInt8) : ∀ r ∈ recsL l, OkRec r := by
  have key : ∀ (f : Nat) (l : List UInt8), ∀ r ∈ recs f l, OkRec r := by
    intro f
    induction f with
    | zero => intro l r h; cases h
    | succ f ih =>
      intro l r h
      unfold recs at h
      cases hf : firstR l with
      | none => rw [hf] at h; cases h
      | some q =>
        rw [hf] at h
        rcases List.mem_cons.1 h with rfl | h
        · exact first_ok hf
        · exact ih _ _ h
  exact key _ l

def Srt (l : List Ent) : Prop := l.Pairwise fun x y => klt x.1 y.1
def cost (l : List Ent) : Nat := (l.map fun e => 11 + e.1.length + e.2.length).sum
theorem Srt.filter {l : List Ent} (h : Srt l) (p : Ent → Bool) : Srt (l.filter p) := List.Pairwise.filter p h
theorem insE_srt (k d : List UInt8) : ∀ {l : List Ent}, Srt l → Srt (insE k d l)
  | [], _ => List.pairwise_singleton _ _
  | x :: r, h => by
    unfold insE
    have h' := List.pairwise_cons.1 h
    cases hb : Op.bytesLess x.1 k with
    | true =>
      refine List.pairwise_cons.2 ⟨fun y hy => ?_, insE_srt k d h'.2⟩
      rcases (mem_insE k d r y).1 hy with rfl | ⟨hy, _⟩
      · exact hb
      · exact h'.1 y hy
    | false =>
      refine List.pairwise_cons.2 ⟨fun y hy => ?_, h.filter _⟩
      simp only [List.mem_filter, decide_eq_true_eq, List.mem_cons] at hy
      have hxk : ¬ klt x.1 k := by unfold klt; rw [hb]; simp
      rcases hy with ⟨rfl | hy, hne⟩
      · exact klt_tri hxk hne
      · by_cases hx : x.1 = k
        · rw [← hx]; exact h'.1 y hy
        · exact klt_trans (klt_tri hxk hx) (h'.1 y hy)
theorem cost_filter (p : Ent → Bool) : ∀ l : List Ent, cost (l.filter p) ≤ cost l
  | [] => Nat.le_refl _
  | x :: r => by
    have := cost_filter p r
    rw [List.filter_cons]
    split <;> simp only [cost, List.map_cons, List.sum_cons] at * <;> omega
theorem insE_cost (k d : List UInt8) : ∀ l : List Ent, cost (insE k d l) ≤ 11 + k.length + d.length + cost l
  | [] => by simp [insE, cost]
  | x :: r => by
    unfold insE
    cases hb : Op.bytesLess x.1 k with
    | true =>
      have := insE_cost k d r
      simp only [cost, List.map_cons, List.sum_cons] at *
      omega
    | false =>
      have := cost_filter (fun y => decide (y.1 ≠ k)) (x :: r)
      show cost ((k, d) :: List.filter (fun y => decide (y.1 ≠ k)) (x :: r)) ≤ _
      simp only [cost, List.map_cons, List.sum_cons] at *
      omega
/-- What holds of the entries of good records. -/
structure OkE (l : List Ent) : Prop where
  srt : Srt l
  key : ∀ e ∈ l, 1 ≤ e.1.length ∧ e.1.length ≤ 100
theorem stepE_ok {l : List Ent} (h : OkE l) {r : Rec} (hr : OkRec r) : OkE (stepE l r) ∧ cost (stepE l r) ≤ r.len + cost l := by
  unfold stepE
  split
  · refine ⟨⟨insE_srt _ _ h.srt, fun e he => ?_⟩, ?_⟩
    · rcases (mem_insE _ _ _ _).1 he with rfl | ⟨he, _⟩
      · exact hr.key
      · exact h.key e he
    · have := insE_cost r.key r.data l
      rw [hr.len]
      omega
  · refine ⟨⟨h.srt.filter _, fun e he => h.key e (List.mem_filter.1 he).1⟩, ?_⟩
    exact Nat.le_trans (cost_filter _ _) (by omega)
theorem enL_ok (rs : List Rec) (h : ∀ r ∈ rs, OkRec r) : OkE (enL rs) ∧ cost (enL rs) ≤ (rs.map Rec.len).sum := by
  have key : ∀ (rs : List Rec) (l : List Ent), (∀ r ∈ rs, OkRec r) → OkE l → OkE (rs.foldl stepE l) ∧ cost (rs.foldl stepE l) ≤ (rs.map Rec.len).sum + cost l := by
    intro rs
    induction rs with
    | nil => intro l _ hl; exact ⟨hl, by simp⟩
    | cons r rs ih =>
      intro l h hl
      have h1 := stepE_ok hl (h r (by simp))
      have h2 := ih (stepE l r) (fun x hx => h x (by simp [hx])) h1.1
      refine ⟨h2.1, Nat.le_trans h2.2 ?_⟩
      simp only [List.map_cons, List.sum_cons]
      omega
  have := key rs [] h ⟨List.Pairwise.nil, by simp⟩
  exact ⟨this.1, by have h2 := this.2; rw [show cost ([] : List Ent) = 0 from rfl] at h2; exact h2⟩
theorem cost_end (l : List UInt8) : cost (enL (recsL l)) ≤ endR l := (enL_ok _ (recs_ok l)).2
theorem cost_mem {l : List Ent} {e : Ent} (h : e ∈ l) : 11 + e.1.length + e.2.length ≤ cost l := by
  induction l with
  | nil => cases h
  | cons x r ih =>
    simp only [cost, List.map_cons, List.sum_cons] at *
    rcases List.mem_cons.1 h with rfl | h
    · omega
    · have := ih h; omega

/-- The records of entries. -/
def compB (l : List Ent) : List UInt8 := (l.map fun e => recB 1 e.1 e.2).flatten
theorem compB_len (l : List Ent) : (compB l).length = cost l := by
  induction l with
  | nil => rfl
  | cons x r ih => simp only [compB, cost, List.map_cons, List.flatten_cons, List.length_append, List.sum_cons, recB_len] at *; omega
theorem compB_take (l : List Ent) (i : Nat) {e : Ent} (h : l[i]? = some e) : compB (l.take (i + 1)) = compB (l.take i) ++ recB 1 e.1 e.2 := by
  rw [List.take_add_one, h]
  simp [compB]
theorem cost_take (l : List Ent) (i : Nat) : cost (l.take i) ≤ cost l := by
  have h : cost l = cost (l.take i) + cost (l.drop i) := by
    unfold cost
    rw [← List.sum_append_nat, ← List.map_append, List.take_append_drop]
  omega
def toRec (e : Ent) : Rec := ⟨1, e.1, e.2, 11 + e.1.length + e.2.length⟩
theorem recs_app (kind : Nat) (key data rest : List UInt8) (hk : kind = 1 ∨ kind = 2 ∧ data = []) (h1 : 1 ≤ key.length ∧ key.length ≤ 100) (h2 : data.length ≤ 1048576) :
    recsL (recB kind key data ++ rest) = ⟨kind, key, data, 11 + key.length + data.length⟩ :: recsL rest := by
  rw [recsL_some (first_rec kind key data rest hk h1 h2)]
  congr 2
  exact List.drop_left' (recB_len _ _ _)
theorem recs_comp : ∀ (l : List Ent), OkE l → cost l ≤ 1048576 → recsL (compB l) = l.map toRec
  | [], _, _ => rfl
  | x :: r, h, hc => by
    have h1 := cost_mem (l := x :: r) (e := x) (by simp)
    have h2 : cost r ≤ cost (x :: r) := by simp [cost]
    have := recs_comp r ⟨(List.pairwise_cons.1 h.srt).2, fun e he => h.key e (by simp [he])⟩ (by omega)
    have hkey := h.key x (by simp)
    show recsL (recB 1 x.1 x.2 ++ compB r) = _
    rw [recs_app 1 x.1 x.2 _ (.inl rfl) hkey (by omega), this]
    rfl
theorem insE_last (k d : List UInt8) : ∀ l : List Ent, (∀ y ∈ l, klt y.1 k) → insE k d l = l ++ [(k, d)]
  | [], _ => rfl
  | x :: r, h => by
    have hx : Op.bytesLess x.1 k = true := h x (by simp)
    unfold insE
    rw [hx]
    show x :: insE k d r = _
    rw [insE_last k d r (fun y hy => h y (by simp [hy]))]
    rfl
theorem en_comp (l : List Ent) (h : Srt l) : enL (l.map toRec) = l := by
  have key : ∀ (l acc : List Ent), Srt (acc ++ l) → (l.map toRec).foldl stepE acc = acc ++ l := by
    intro l
    induction l with
    | nil => intro acc _; simp
    | cons x r ih =>
      intro acc hs
      have hx : ∀ y ∈ acc, klt y.1 x.1 := fun y hy => (List.pairwise_append.1 hs).2.2 y hy x (by simp)
      show (r.map toRec).foldl stepE (stepE acc (toRec x)) = _
      have e1 : stepE acc (toRec x) = acc ++ [x] := by
        show (if (1 : Nat) = 1 then insE x.1 x.2 acc else _) = _
        rw [if_pos rfl, insE_last _ _ _ hx]
      rw [e1, ih (acc ++ [x]) (by simpa using hs)]
      simp
  have := key l [] h
  exact this
theorem end_comp (l : List Ent) (h : OkE l) (hc : cost l ≤ 1048576) : endR (compB l) = (compB l).length := by
  unfold endR
  rw [recs_comp l h hc, compB_len]
  unfold cost
  rw [List.map_map]
  rfl
/-- Sorted lists with the same members are equal. -/
theorem srt_eq {l m : List (List UInt8)} (hl : l.Pairwise klt) (hm : m.Pairwise klt) (h : ∀ x, x ∈ l ↔ x ∈ m) : l = m := by
  induction l generalizing m with
  | nil =>
    cases m with
    | nil => rfl
    | cons y m => exact absurd ((h y).2 (by simp)) (by simp)
  | cons x l ih =>
    cases m with
    | nil => exact absurd ((h x).1 (by simp)) (by simp)
    | cons y m =>
      obtain ⟨h1, h2⟩ := List.pairwise_cons.1 hl
      obtain ⟨h3, h4⟩ := List.pairwise_cons.1 hm
      have exy : x = y := by
        rcases List.mem_cons.1 ((h x).1 (by simp)) with e | hx
        · exact e
        · rcases List.mem_cons.1 ((h y).2 (by simp)) with e | hy
          · exact e.symm
          · exact absurd rfl (klt_ne (klt_trans (h1 y hy) (h3 x hx)))
      subst exy
      congr 1
      refine ih h2 h4 (fun z => ?_)
      constructor
      · intro hz
        rcases List.mem_cons.1 ((h z).1 (by simp [hz])) with rfl | hz'
        · exact absurd rfl (klt_ne (h1 z hz))
        · exact hz'
      · intro hz
        rcases List.mem_cons.1 ((h z).2 (by simp [hz])) with rfl | hz'
        · exact absurd rfl (klt_ne (h3 z hz))
        · exact hz'
theorem keys_srt {l : List Ent} (h : Srt l) : (l.map Prod.fst).Pairwise klt := List.pairwise_map.2 h
end Go.Proofs.Ytlofbfbcnlgmaaa
/- The store: Get, Entries, Compact, and what the reference says of them, but for the keys. -/
set_option linter.unusedVariables false
namespace Go.Proofs.Ytlofbfbcnlgmaaa
open Go Go.Vc Go.RowKit

/-- A string. -/
def strE : El (List UInt8) where
  m := 1
  rep g r x := r = [.string (bstr x)]
  len := by rintro g r x rfl; rfl
  mono := by rintro g g' r x k rfl; rfl
  one := by
    rintro g r x rfl u hu
    simp only [List.mem_cons, List.not_mem_nil, or_false] at hu
    subst hu
    rfl

/-- bytes.Clone. -/
theorem k49 (x : List UInt8) {a : Option Addr} {l c : Nat} {g : G} (hx : SlB g a l c x) (hl : l ≤ 70368744177664) :
    CallsP Try.prog 49 #[.slice a l c] g fun v g' => ∃ a' c', v = .slice a' l c' ∧ OwnB g' g.size 5 a' l c' x := by
  refine call49 a l c g _ ?_
  unfold F49
  refine ifT (fun hn g1 m1 => ?_) (fun hn g2 n2 => ?_)
  · have ha : a = none := by cases a <;> first | rfl | cases hn
    have hc := hx.nil ha
    have hle := hx.le
    have h0 : l = 0 := by omega
    subst h0
    have : x = [] := List.eq_nil_of_length_eq_zero (SlB.length hx)
    subst this
    exact ⟨none, 0, rfl, OwnG.nil _ _ _ _⟩
  · have o := OwnG.lit (B := g.size) (m := 1) n2 (n := 0) (Nat.le_refl _) rfl (by unfold maxLen; omega)
    obtain ⟨a', c', w', hr, g3, hw, hs, ho, _, _⟩ := OwnB.app (s := []) E22 22 (B := g.size) n2.ex.size o (hx.ex n2.ex) (by omega) (by unfold maxLen; omega)
    rw [Nat.zero_add] at hr ho
    exact ⟨a', l, c', w', hr, g3, hw, hs, fun g4 m4 => ⟨a', c', rfl, ho.ex m4⟩⟩

/-- SameEntries. -/
theorem k28 (xs ys : List Ent) {a b : Option Addr} {n c m d : Nat} {g : G} (hx : SlE entE g a n c xs) (hy : SlE entE g b m d ys) :
    CallsP Try.prog 28 #[.slice a n c, .slice b m d] g fun v _ => v = .bool (tf (xs = ys)) := by
  refine call28 a n c b m d g _ ?_
  have hlx := hx.len
  have hly := hy.len
  have hcap := hx.cap
  have hle := hx.le
  unfold maxLen at hcap
  unfold F28
  refine ifNe (fun hne g1 m1 => vF ?_) (fun he => ?_)
  · rintro rfl; omega
  refine ⟨fun k i g' => ∃ j : Nat, i = j ∧ j + k = n ∧ xs.take j = ys.take j, ⟨n, 0, rfl, by omega, by simp⟩, ?_⟩
  rintro k i g2 le ⟨j, rfl, hjk, hj⟩
  refine ifLt (fun hlt g3 m3 => ⟨⟨by omega, by omega⟩, ?_⟩) (fun hge g7 m7 => vT ?_)
  · have hjx : j < xs.length := by omega
    have hjy : j < ys.length := by omega
    have gx := List.getElem?_eq_getElem hjx
    have gy := List.getElem?_eq_getElem hjy
    have hx3 := (hx.mono le).exm m3
    have hy3 := (hy.mono le).exm m3
    refine hx3.rd (i := j) gx ?_
    rintro r ad ⟨ea, en, ec, rfl, hd1⟩ hr
    refine ⟨bstr xs[j].1, ?_, ⟨by omega, by omega⟩, ?_⟩
    · rw [Int.toNat_natCast]
      have := (hr 0 _ rfl).1
      rwa [Addr.add_zero'] at this
    refine hy3.rd (i := j) gy ?_
    rintro r2 ad2 ⟨fa, fn, fc, rfl, hd2⟩ hr2
    refine ⟨bstr ys[j].1, ?_, ifSn (fun hne g4 m4 => vF ?_) (fun hk => ⟨⟨by omega, by omega⟩, ?_⟩)⟩
    · rw [Int.toNat_natCast]
      have := (hr2 0 _ rfl).1
      rwa [Addr.add_zero'] at this
    · rintro rfl; exact hne rfl
    have hk' : xs[j].1 = ys[j].1 := bstr_inj.1 hk
    refine hx3.rd (i := j) gx ?_
    rintro r3 ad3 ⟨ga, gn, gc, rfl, hd3⟩ hr3
    refine ⟨ga, gn, gc, ?_, ⟨by omega, by omega⟩, ?_⟩
    · rw [Int.toNat_natCast]
      exact (hr3 1 _ rfl).1
    refine hy3.rd (i := j) gy ?_
    rintro r4 ad4 ⟨ia, in_, ic, rfl, hd4⟩ hr4
    refine ⟨ia, in_, ic, ?_, (k38 _ _ hd3 hd4).mono ?_⟩
    · rw [Int.toNat_natCast]
      exact (hr4 1 _ rfl).1
    rintro v g5 m5 rfl
    refine ⟨_, rfl, ifPn (fun hne g6 m6 => vF ?_) (fun hdd => ⟨i64 (by omega) (by omega), k - 1, by omega, j + 1, by omega, by omega, ?_⟩)⟩
    · rintro rfl; exact hne rfl
    · rw [List.take_add_one, List.take_add_one, gx, gy, hj]
      have : xs[j] = ys[j] := Prod.ext hk' hdd
      rw [this]
  · have h1 : xs.take j = xs := List.take_of_length_le (by omega)
    have h2 : ys.take j = ys := List.take_of_length_le (by omega)
    rwa [h1, h2] at hj

/-- A result that is a slice and a code. -/
def rsV (a : Option Addr) (n c : Nat) (e : Int) : Value := .tuple ⟨[.slice a n c, .int .i64 e]⟩
def IsE {α : Type} (E : El α) (v : Value) (g : G) (xs : List α) (e : Int) : Prop := ∃ a n c, v = rsV a n c e ∧ SlE E g a n c xs
theorem IsE.zero {α : Type} (E : El α) (g : G) (e : Int) : IsE E (rsV none 0 0 e) g [] e := ⟨none, 0, 0, rfl, SlE.zero _⟩

/-- Compact, of the reference. -/
theorem k37 (b : List UInt8) {a : Option Addr} {n c : Nat} {g : G} (h : SlB g a n c b) (d af : Int) (hn : n ≤ 1048576) :
    CallsP Try.prog 37 #[stV a n c d af] g fun v g' => ∃ a' c', v = stV a' (cost (enL (recsL b))) c' (cost (enL (recsL b)) : Nat) af ∧ SlB g' a' (cost (enL (recsL b))) c' (compB (enL (recsL b))) := by
  refine call37 a n c d af g _ ?_
  have hlb := SlB.length h
  have hce := cost_end b
  have hel := endR_le b
  have hok := (enL_ok _ (recs_ok b)).1
  unfold F37
  refine fun g1 m1 => (k21 b (h.ex m1) d af hn).mono ?_
  rintro v g2 m2 ⟨oa, on, oc, rfl, ho, hon⟩
  have hsl := ho.sl
  have hlen := hsl.len
  generalize hes : enL (recsL b) = es at *
  refine ⟨_, _, _, rfl, fun m i xa xl xc o1 o2 g4 => ∃ j : Nat, i = j ∧ j + m = on ∧ o2 = af ∧ xl = cost (es.take j) ∧ OwnB g4 g.size 5 xa xl xc (compB (es.take j)) ∧ g.size ≤ g4.w.heap.size,
    fun g3 m3 => ⟨on, 0, rfl, by omega, rfl, by simp [cost], OwnG.nil _ _ _ _, ((m1.trans m2).trans m3).size⟩, ?_⟩
  rintro m i xa xl xc o1 o2 g4 le4 ⟨j, rfl, hjm, rfl, rfl, hx, hsz⟩
  refine ifLt (fun hlt g5 m5 => ⟨⟨by omega, by omega⟩, ?_⟩) (fun hge g9 m9 => ?_)
  · have hj : j < es.length := by omega
    have gj := List.getElem?_eq_getElem hj
    have hmem := List.mem_of_getElem? gj
    have hc1 := cost_mem hmem
    have hkey := hok.key _ hmem
    have hs5 := (hsl.mono le4).exm m5
    refine hs5.rd (i := j) gj ?_
    rintro r ad ⟨ea, en, ec, rfl, hd1⟩ hr
    refine ⟨bstr es[j].1, ?_, ⟨by omega, by omega⟩, ?_⟩
    · rw [Int.toNat_natCast]
      have := (hr 0 _ rfl).1
      rwa [Addr.add_zero'] at this
    refine hs5.rd (i := j) gj ?_
    rintro r2 ad2 ⟨fa, fn, fc, rfl, hd2⟩ hr2
    have hfn := SlB.length hd2
    refine ⟨fa, fn, fc, ?_, (k18 1 (by omega) es[j].1 es[j].2 hd2 hkey.2 (by omega)).mono ?_⟩
    · rw [Int.toNat_natCast]
      exact (hr2 1 _ rfl).1
    rintro v g6 m6 ⟨ra, rc, rfl, hrr⟩
    have hct := cost_take es (j + 1)
    have hcs : cost (es.take (j + 1)) = cost (es.take j) + (11 + es[j].1.length + fn) := by
      rw [← compB_len, compB_take es j gj, List.length_append, compB_len, recB_len, hfn]
    obtain ⟨ya, yc, w1, hrun, g7, hw, hst, hy, _, _⟩ := OwnB.app E22 22 (B := g.size) (Nat.le_trans hsz (m5.trans m6).size) (hx.ex (m5.trans m6)) hrr.sl (by omega) (by unfold maxLen; omega)
    rw [← hcs] at hrun hy
    refine ⟨_, _, _, rfl, ya, _, yc, w1, hrun, g7, hw, hst, i64 (by omega) (by omega), fun g8 m8 => ⟨m - 1, by omega, j + 1, by omega, by omega, rfl, rfl, ?_, ?_⟩⟩
    · rw [compB_take es j gj]
      exact hy.ex m8
    · exact Nat.le_trans hsz (Nat.le_trans (m5.trans m6).size (Nat.le_trans hst.le.size m8.size))
  · have htk : es.take j = es := List.take_of_length_le (by omega)
    rw [htk] at hx ⊢
    exact ⟨xa, xc, rfl, (hx.ex m9).sl⟩

noncomputable def compR (b : List UInt8) (d a : Int) : SR :=
  if tf (okS b.length d a) = false then ⟨[], 0, 0, 1⟩ else ⟨compB (enL (recsL b)), (cost (enL (recsL b)) : Nat), a, 0⟩

/-- What Keys returns. -/
def KeysSay (b : List UInt8) (d af : Int) (v : Value) (g : G) : Prop :=
  (¬ okS b.length d af ∧ v = rsV none 0 0 1) ∨ (okS b.length d af ∧ IsE strE v g ((enL (recsL b)).map Prod.fst) 0)
/-- What Entries returns. -/
def EntsSay (b : List UInt8) (d af : Int) (v : Value) (g : G) : Prop :=
  (¬ okS b.length d af ∧ v = rsV none 0 0 1) ∨ (okS b.length d af ∧ IsE entE v g (enL (recsL b)) 0)
/-- What Get returns. -/
def GetSay (b k : List UInt8) (d af : Int) (v : Value) (g : G) : Prop :=
  (¬ okS b.length d af ∧ v = rsV none 0 0 1) ∨ (okS b.length d af ∧ ¬ okK k.length ∧ v = rsV none 0 0 2) ∨ (okS b.length d af ∧ okK k.length ∧ mpF (recsL b) k = none ∧ v = rsV none 0 0 8) ∨
  (okS b.length d af ∧ okK k.length ∧ ∃ x a n c, mpF (recsL b) k = some x ∧ v = rsV a n c 0 ∧ SlB g a n c x)

/-- Get. -/
theorem k35 (b k : List UInt8) {a : Option Addr} {n c : Nat} {g : G} (h : SlB g a n c b) (d af : Int) :
    CallsP Try.prog 35 #[stV a n c d af, .string (bstr k)] g fun v g' => GetSay b k d af v g' := by
  refine call35 a n c d af (bstr k) g _ ?_
  have hlb := SlB.length h
  unfold F35 GetSay
  rw [hlb]
  refine fun g1 m1 => (k24 a n c d af g1).mono ?_
  rintro v g2 m2 rfl
  refine ⟨_, rfl, ifPn (fun hs g3 m3 => .inl ⟨hs, rfl⟩) (fun hs => (k43 (bstr k) g2).mono ?_)⟩
  rintro v g4 m4 rfl
  rw [bstr_size]
  refine ⟨_, rfl, ifPn (fun hk g5 m5 => .inr (.inl ⟨hs, hk, rfl⟩)) (fun hk => ?_)⟩
  have hs' := hs
  have hk' := hk
  unfold okS at hs'
  unfold okK at hk'
  refine (k44 b (h.ex ((m1.trans m2).trans m4)) d af (by omega)).mono ?_
  rintro v g6 m6 ⟨mb, mk, rfl, fv, hm, hfv⟩
  have hlk := hm.lookOk Try.underlying9 Try.underlying79 (zero22 g6.w) k (by unfold maxLen; omega)
  cases hF : mpF (recsL b) k with
  | none =>
    rw [(hfv k).1 hF] at hlk
    refine ⟨_, _, rfl, none, 0, 0, false, _, hlk, g6, rfl, Stp.refl _ _ _, ifT (fun _ g8 m8 => .inr (.inr (.inl ⟨hs, hk, rfl, rfl⟩))) (fun hh => by cases hh)⟩
  | some x =>
    obtain ⟨xa, xn, xc, hfk, hx⟩ := (hfv k).2 x hF
    rw [hfk] at hlk
    have hxl := SlB.length hx
    have hxn : xn ≤ 1048576 := by
      have h1 := cost_mem ((en_mp (recsL b) k x).2 hF)
      have h2 := cost_end b
      have h3 := endR_le b
      simp only at h1
      omega
    refine ⟨_, _, rfl, xa, xn, xc, true, _, hlk, g6, rfl, Stp.refl _ _ _, ifT (fun hh => by cases hh) (fun _ => (k49 x hx (by omega)).mono ?_)⟩
    rintro v g9 m9 ⟨ya, yc, rfl, hy⟩
    exact ⟨_, _, _, rfl, fun g10 m10 => .inr (.inr (.inr ⟨hs, hk, x, ya, xn, yc, rfl, rfl, (hy.ex m10).sl⟩))⟩
end Go.Proofs.Ytlofbfbcnlgmaaa
/- slices.Sorted(maps.Keys(m)) at this program: the layings that lay-plain.mjs prints. -/
namespace Go.Proofs
open Go.Shelf
def Try.keysA_ren : Go.Shelf.Ren := ⟨fun | 7 => 52 | 10 => 65 | n => n, fun | 23 => 79 | 26 => 9 | 3 => 22 | 28 => 76 | 0 => 0 | 27 => 75 | 33 => 31 | 4 => 4 | n => n, fun | n => n⟩
theorem Try.keysA : Go.Proofs.SlLaysZ.n7 Try.prog Try.keysA_ren := {
  mixed := by kernel_rfl
  f7 := ⟨Try.f52.name, by decide, Try.func52.trans (congrArg some (by kernel_rfl))⟩
  f10 := ⟨Try.f65.name, by decide, Try.func65.trans (congrArg some (by kernel_rfl))⟩
  t0 := Try.underlying0
  a0 := Try.isAgg0
  z0 := Try.sizeOf0
  v0 := Try.zeroValue0
  t4 := Try.underlying4
  a4 := Try.isAgg4
  z4 := Try.sizeOf4
  v4 := Try.zeroValue4
  t23 := Try.underlying79
  a23 := Try.isAgg79
  z23 := Try.sizeOf79
  v23 := Try.zeroValue79
  t26 := Try.underlying9
  a26 := Try.isAgg9
  z26 := Try.sizeOf9
  v26 := Try.zeroValue9
  t27 := Try.underlying75
  a27 := Try.isAgg75
  z27 := Try.sizeOf75
  v27 := Try.zeroValue75
  t28 := Try.underlying76
  a28 := Try.isAgg76
  z28 := Try.sizeOf76
  v28 := Try.zeroValue76
  t33 := Try.underlying31
  a33 := Try.isAgg31
  z33 := Try.sizeOf31
  v33 := Try.zeroValue31 }
def Try.sortedA_ren : Go.Shelf.Ren := ⟨fun | 6 => 40 | 8 => 53 | 9 => 54 | 11 => 66 | 13 => 68 | 12 => 67 | 23 => 79 | 24 => 80 | 14 => 70 | 15 => 71 | 16 => 72 | 17 => 73 | 18 => 74 | 19 => 75 | 20 => 76 | 21 => 77 | 22 => 78 | 25 => 81 | 26 => 82 | 27 => 83 | 28 => 84 | 29 => 85 | 30 => 86 | 31 => 87 | n => n, fun | 26 => 9 | 28 => 76 | 24 => 62 | 0 => 0 | 3 => 3 | 37 => 102 | 48 => 104 | 50 => 123 | 4 => 4 | 40 => 114 | 39 => 113 | 45 => 119 | 5 => 5 | 9 => 9 | 51 => 124 | 55 => 128 | 57 => 130 | 58 => 131 | 33 => 31 | n => n, fun | n => n⟩
theorem Try.sortedA : Go.Proofs.SlLaysZ.n6 Try.prog Try.sortedA_ren := {
  mixed := by kernel_rfl
  f6 := ⟨Try.f40.name, by decide, Try.func40.trans (congrArg some (by kernel_rfl))⟩
  f8 := ⟨Try.f53.name, by decide, Try.func53.trans (congrArg some (by kernel_rfl))⟩
  f11 := ⟨Try.f66.name, by decide, Try.func66.trans (congrArg some (by kernel_rfl))⟩
  t0 := Try.underlying0
  a0 := Try.isAgg0
  z0 := Try.sizeOf0
  v0 := Try.zeroValue0
  t24 := Try.underlying62
  a24 := Try.isAgg62
  z24 := Try.sizeOf62
  v24 := Try.zeroValue62
  t26 := Try.underlying9
  a26 := Try.isAgg9
  z26 := Try.sizeOf9
  v26 := Try.zeroValue9
  t28 := Try.underlying76
  a28 := Try.isAgg76
  z28 := Try.sizeOf76
  v28 := Try.zeroValue76
  i26 := by kernel_rfl }
def Try.sortA_ren : Go.Shelf.Ren := ⟨fun | 6 => 54 | 8 => 68 | 9 => 67 | 19 => 79 | 20 => 80 | 21 => 70 | 22 => 71 | 23 => 72 | 24 => 73 | 25 => 74 | 26 => 75 | 27 => 76 | 28 => 77 | 29 => 78 | 36 => 81 | 31 => 82 | 32 => 83 | 37 => 84 | 38 => 85 | 39 => 86 | 41 => 87 | n => n, fun | 27 => 62 | 29 => 9 | 3 => 3 | 32 => 102 | 26 => 62 | 0 => 0 | 44 => 104 | 46 => 123 | 4 => 4 | 36 => 114 | 35 => 113 | 41 => 119 | 5 => 5 | 9 => 9 | 53 => 124 | 57 => 128 | 63 => 130 | 64 => 131 | n => n, fun | n => n⟩
theorem Try.sortA : Go.Proofs.SlLaysM.n6 Try.prog Try.sortA_ren := {
  mixed := by kernel_rfl
  f6 := ⟨Try.f54.name, by decide, Try.func54.trans (congrArg some (by kernel_rfl))⟩
  f8 := Try.func68.trans (congrArg some (by kernel_rfl))
  f9 := ⟨Try.f67.name, by decide, Try.func67.trans (congrArg some (by kernel_rfl))⟩
  f19 := Try.func79.trans (congrArg some (by kernel_rfl))
  f20 := Try.func80.trans (congrArg some (by kernel_rfl))
  f21 := ⟨Try.f70.name, by decide, Try.func70.trans (congrArg some (by kernel_rfl))⟩
  f22 := ⟨Try.f71.name, by decide, Try.func71.trans (congrArg some (by kernel_rfl))⟩
  f23 := ⟨Try.f72.name, by decide, Try.func72.trans (congrArg some (by kernel_rfl))⟩
  f24 := ⟨Try.f73.name, by decide, Try.func73.trans (congrArg some (by kernel_rfl))⟩
  f25 := ⟨Try.f74.name, by decide, Try.func74.trans (congrArg some (by kernel_rfl))⟩
  f26 := ⟨Try.f75.name, by decide, Try.func75.trans (congrArg some (by kernel_rfl))⟩
  f27 := ⟨Try.f76.name, by decide, Try.func76.trans (congrArg some (by kernel_rfl))⟩
  f28 := ⟨Try.f77.name, by decide, Try.func77.trans (congrArg some (by kernel_rfl))⟩
  f29 := ⟨Try.f78.name, by decide, Try.func78.trans (congrArg some (by kernel_rfl))⟩
  f31 := Try.func82.trans (congrArg some (by kernel_rfl))
  f32 := Try.func83.trans (congrArg some (by kernel_rfl))
  f36 := ⟨Try.f81.name, by decide, Try.func81.trans (congrArg some (by kernel_rfl))⟩
  f37 := ⟨Try.f84.name, by decide, Try.func84.trans (congrArg some (by kernel_rfl))⟩
  f38 := ⟨Try.f85.name, by decide, Try.func85.trans (congrArg some (by kernel_rfl))⟩
  f39 := ⟨Try.f86.name, by decide, Try.func86.trans (congrArg some (by kernel_rfl))⟩
  f41 := ⟨Try.f87.name, by decide, Try.func87.trans (congrArg some (by kernel_rfl))⟩
  t0 := Try.underlying0
  a0 := Try.isAgg0
  z0 := Try.sizeOf0
  v0 := Try.zeroValue0
  t3 := Try.underlying3
  a3 := Try.isAgg3
  z3 := Try.sizeOf3
  v3 := Try.zeroValue3
  t4 := Try.underlying4
  a4 := Try.isAgg4
  z4 := Try.sizeOf4
  v4 := Try.zeroValue4
  t5 := Try.underlying5
  a5 := Try.isAgg5
  z5 := Try.sizeOf5
  v5 := Try.zeroValue5
  t9 := Try.underlying9
  a9 := Try.isAgg9
  z9 := Try.sizeOf9
  v9 := Try.zeroValue9
  t26 := Try.underlying62
  a26 := Try.isAgg62
  z26 := Try.sizeOf62
  v26 := Try.zeroValue62
  t27 := Try.underlying62
  a27 := Try.isAgg62
  z27 := Try.sizeOf62
  v27 := Try.zeroValue62
  t29 := Try.underlying9
  a29 := Try.isAgg9
  z29 := Try.sizeOf9
  v29 := Try.zeroValue9
  t32 := Try.underlying102
  a32 := Try.isAgg102
  z32 := Try.sizeOf102
  v32 := Try.zeroValue102
  t35 := Try.underlying113
  a35 := Try.isAgg113
  z35 := Try.sizeOf113
  v35 := Try.zeroValue113
  t36 := Try.underlying114
  a36 := Try.isAgg114
  z36 := Try.sizeOf114
  v36 := Try.zeroValue114
  t41 := Try.underlying119
  a41 := Try.isAgg119
  z41 := Try.sizeOf119
  v41 := Try.zeroValue119
  t44 := Try.underlying104
  a44 := Try.isAgg104
  z44 := Try.sizeOf104
  v44 := Try.zeroValue104
  t46 := Try.underlying123
  a46 := Try.isAgg123
  z46 := Try.sizeOf123
  v46 := Try.zeroValue123
  t53 := Try.underlying124
  a53 := Try.isAgg124
  z53 := Try.sizeOf124
  v53 := Try.zeroValue124
  t57 := Try.underlying128
  a57 := Try.isAgg128
  z57 := Try.sizeOf128
  v57 := Try.zeroValue128
  t63 := Try.underlying130
  a63 := Try.isAgg130
  z63 := Try.sizeOf130
  v63 := Try.zeroValue130
  t64 := Try.underlying131
  a64 := Try.isAgg131
  z64 := Try.sizeOf131
  v64 := Try.zeroValue131 }
def Try.keysB_ren : Go.Shelf.Ren := ⟨fun | 7 => 41 | 10 => 55 | n => n, fun | 23 => 71 | 26 => 9 | 3 => 9 | 28 => 76 | 0 => 0 | 27 => 75 | 33 => 31 | 4 => 4 | n => n, fun | n => n⟩
theorem Try.keysB : Go.Proofs.SlLaysZ.n7 Try.prog Try.keysB_ren := {
  mixed := by kernel_rfl
  f7 := ⟨Try.f41.name, by decide, Try.func41.trans (congrArg some (by kernel_rfl))⟩
  f10 := ⟨Try.f55.name, by decide, Try.func55.trans (congrArg some (by kernel_rfl))⟩
  t0 := Try.underlying0
  a0 := Try.isAgg0
  z0 := Try.sizeOf0
  v0 := Try.zeroValue0
  t4 := Try.underlying4
  a4 := Try.isAgg4
  z4 := Try.sizeOf4
  v4 := Try.zeroValue4
  t23 := Try.underlying71
  a23 := Try.isAgg71
  z23 := Try.sizeOf71
  v23 := Try.zeroValue71
  t26 := Try.underlying9
  a26 := Try.isAgg9
  z26 := Try.sizeOf9
  v26 := Try.zeroValue9
  t27 := Try.underlying75
  a27 := Try.isAgg75
  z27 := Try.sizeOf75
  v27 := Try.zeroValue75
  t28 := Try.underlying76
  a28 := Try.isAgg76
  z28 := Try.sizeOf76
  v28 := Try.zeroValue76
  t33 := Try.underlying31
  a33 := Try.isAgg31
  z33 := Try.sizeOf31
  v33 := Try.zeroValue31 }
end Go.Proofs
/- The store: the keys, sorted; Keys and Entries. -/
set_option linter.unusedVariables false
namespace Go.Proofs.Ytlofbfbcnlgmaaa
open Go Go.Vc Go.RowKit Go.Maps Go.Sort Go.Shelf

theorem sortsA (m : Nat) : AnyZ.SortsIn Try.prog Try.sortedA_ren Fence.wide m :=
  ⟨fun blk off cap ss W hH hblk hsz => callsIn_wide.2 (AnyM.slices_Sort_string Try.sortA blk off cap ss W hH hblk hsz),
   fun p cap W => callsIn_wide.2 (AnyM.slices_Sort_string_none Try.sortA p cap W)⟩

/-- The world behind a call that turns nothing below. -/
def _root_.Go.Vc.G.to (g : G) (w' : World) (h : g.w.heap.size ≤ w'.heap.size) : G := ⟨w', g.X, g.D, fun b hb => Nat.lt_of_lt_of_le (g.hX b hb) h, fun b i hb => Nat.lt_of_lt_of_le (g.hD b i hb) h⟩
theorem calls_below {P : Program} {k : FuncId} {args : Array Value} {g : G} {Q : Value → World → Prop} (h : Calls P k args g.w fun e w' => ∃ v, e = .returned v ∧ Below g.w.heap.size g.w w' ∧ Q v w') :
    CallsP P k args g fun v g' => ∃ h, Q v g'.w ∧ g' = g.to g'.w h := by
  refine Calls.mono h ?_
  rintro e w' ⟨v, rfl, hb, hq⟩
  refine ⟨v, g.to w' hb.size, rfl, rfl, ⟨?_, fun b => Iff.rfl, fun b hx => hb.block b (g.hX b hx), hb.os, hb.tape, hb.output, fun b hlt _ => hb.block b hlt, fun b hlt _ i => Iff.rfl⟩, hb.size, hq, rfl⟩
  have hex : Ex g (g.to w' hb.size) := ⟨hb.size, fun b _ hx => hx, fun b hlt _ => hb.block b hlt, fun b _ _ i => Iff.rfl⟩
  exact hex.le

/-- A new row that a call returned. -/
theorem own_sl {g : G} {w' : World} {h : g.w.heap.size ≤ w'.heap.size} {e : TypeId} {v : Value} {n : Nat} {L : List Value} (ho : w'.ownsRow g.w.heap.size e 1 v n L) : ∃ a c, v = .slice a n c ∧ Sl (g.to w' h) 1 a n c L := by
  obtain ⟨hl, ⟨rfl, rfl⟩ | ⟨b, cap, cur, rfl, hb, hheap, hnc, hcm, hcs, hcur⟩⟩ := ho
  · have : L = [] := List.eq_nil_of_length_eq_zero (by omega)
    subst this
    exact ⟨none, 0, rfl, Sl.zero _ _⟩
  · refine ⟨_, cap, rfl, by omega, hnc, hcm, fun h => (by cases h), ?_⟩
    rintro ad rfl2 i u hi
    cases rfl2
    rw [add_row, Nat.zero_add]
    refine ⟨?_, fun hx => ?_, fun hd => ?_⟩
    · show w'.cell? _ = _
      unfold World.cell?
      simp only
      rw [hheap]
      simp only [Option.isSome_none, Bool.false_eq_true, if_false]
      rw [← hcur, List.getElem?_take] at hi
      split at hi
      · simpa using hi
      · cases hi
    · have := g.hX b hx; omega
    · have := g.hD b i hd; omega

theorem encStr_bstr (l : List UInt8) : encStr l = .string (bstr l) := rfl
theorem strs_sle {g : G} {a : Option Addr} {n c : Nat} {ss : List (List UInt8)} (h : Sl g 1 a n c (ss.map encStr)) (hn : ss.length = n) : SlE strE g a n c ss := by
  refine ⟨⟨_, h, ss.map fun x => [encStr x], ?_, ?_⟩, hn⟩
  · induction ss with
    | nil => rfl
    | cons x r ih => clear ih; simp only [List.map_cons, List.flatten_cons, List.singleton_append]; congr 1; clear h hn; induction r with | nil => rfl | cons y r ih => simpa using ih
  · clear h hn
    induction ss with
    | nil => exact .nil
    | cons x r ih => exact .cons rfl ih

/-- slices.Sorted(maps.Keys(m)). -/
theorem k40 {g : G} {blk b nn : Nat} {fv : List UInt8 → Option Value} {es : List Ent} (hl : Live g ⟨blk, 0, none⟩ (.map (some b))) (hm : MapG Try.prog g 9 b nn fv) (hes : OkE es) (hk : ∀ s, fv s ≠ none ↔ s ∈ es.map Prod.fst) (hlen : es.length ≤ 1048576) :
    CallsP Try.prog 40 #[.func (.func 65) #[] #[.pointer (some ⟨blk, 0, none⟩)]] g fun v g' => ∃ a n c, v = .slice a n c ∧ SlE strE g' a n c (es.map Prod.fst) := by
  obtain ⟨D, hown, hsay⟩ := hm.own
  have hperm : (es.map Prod.fst).Perm (strKeys D) := by
    refine Collected.perm (left := fun _ => false) ⟨?_, fun x => ?_⟩ hown (string_keyed Try.underlying9) Try.underlying9 (fun _ => rfl)
    · exact (keys_srt hes.srt).imp fun h => klt_ne h
    · rw [← hk x]
      cases hf : fv x with
      | none => simp [(hsay x).2 hf]
      | some u => simp [((hsay x).1 u hf).1]
  have hsz : Maps.size D ≤ 1048576 := by
    obtain ⟨l, rfl⟩ := hown.isMap
    have := hperm.length_eq
    have h2 : (strKeys (DataW.map l)).length = l.length := by simp [strKeys]
    rw [h2, List.length_map] at this
    show l.length ≤ _
    omega
  have hseq : SeqGives Fence.wide 2 Try.prog 65 #[.pointer (some ⟨blk, 0, none⟩)] encStr (fun ss => ss.Perm (strKeys D)) (Maps.size D) g.w :=
    AnyZ.keys_gives (ρ := Try.keysA_ren) { Try.keysA with } Fence.wide _ trivial rfl (by omega) blk b nn D _ (cell_lt hl.1) hl.1 hown
  have cS := AnyZ.sorted_in Try.sortedA Fence.wide 5 trivial trivial trivial trivial rfl (by omega) (sortsA _) (enters_of Try.func54 (by kernel_rfl) rfl) 65 #[.pointer (some ⟨blk, 0, none⟩)] trivial (enters_of Try.func65 (by kernel_rfl) rfl) _ _ (by unfold maxLen; omega) (by omega) _ hseq
  change CallsIn _ _ Try.prog 40 _ _ _ at cS
  have hC := callsIn_wide.1 cS
  refine (calls_below (Q := fun v w' => w'.ownsRow g.w.heap.size 9 1 v es.length ((es.map Prod.fst).map encStr)) (hC.mono ?_)).mono ?_
  · rintro e w' ⟨v, ss, rfl, hS, hrow, _, hb⟩
    refine ⟨v, rfl, hb, ?_⟩
    have hp : ss.Perm (es.map Prod.fst) := hS.trans hperm.symm
    have e1 : ss.mergeSort leB = es.map Prod.fst := by
      rw [mergeSort_of_perm hp]
      refine List.mergeSort_of_pairwise ?_
      refine (keys_srt hes.srt).imp ?_
      intro x y hxy
      simp only [leB, decide_eq_true_eq]
      exact List.le_of_lt ((klt_iff x y).1 hxy)
    have e2 : ss.length = es.length := by rw [hp.length_eq, List.length_map]
    have hrow' := hrow
    rw [e2] at hrow'
    change w'.ownsRow g.w.heap.size 9 1 v es.length ((ss.mergeSort leB).map encStr) at hrow'
    rwa [e1] at hrow'
  · rintro v g' m ⟨h, hq, e⟩
    rw [e] at hq ⊢
    obtain ⟨a, c, rfl, hs⟩ := own_sl (h := h) hq
    exact ⟨a, _, c, rfl, strs_sle hs (by simp)⟩
end Go.Proofs.Ytlofbfbcnlgmaaa
/- The store: Keys, Entries, Compact. -/
set_option linter.unusedVariables false
namespace Go.Proofs.Ytlofbfbcnlgmaaa
open Go Go.Vc Go.RowKit

theorem len_cost (l : List Ent) : l.length ≤ cost l := by
  induction l with
  | nil => exact Nat.zero_le _
  | cons x r ih => simp only [cost, List.map_cons, List.sum_cons, List.length_cons] at *; omega
theorem k52 (b : Nat) (g : G) : CallsP Try.prog 52 #[.map (some b)] g fun v g' => ∃ blk, v = .func (.func 65) #[] #[.pointer (some ⟨blk, 0, none⟩)] ∧ Live g' ⟨blk, 0, none⟩ (.map (some b)) := by
  refine call52 (some b) g _ ?_
  unfold F52
  exact fun g1 n1 g2 m2 => ⟨_, rfl, (n1.at0 rfl).ex m2⟩

theorem k36 (b : List UInt8) {a : Option Addr} {n c : Nat} {g : G} (h : SlB g a n c b) (d af : Int) :
    CallsP Try.prog 36 #[stV a n c d af] g fun v g' => KeysSay b d af v g' := by
  refine call36 a n c d af g _ ?_
  have hlb := SlB.length h
  have hok := (enL_ok _ (recs_ok b)).1
  have hce := cost_end b
  have hel := endR_le b
  have hlc := len_cost (enL (recsL b))
  unfold F36 KeysSay
  rw [hlb]
  refine fun g1 m1 => (k24 a n c d af g1).mono ?_
  rintro v g2 m2 rfl
  refine ⟨_, rfl, ifPn (fun hs g3 m3 => .inl ⟨hs, rfl⟩) (fun hs => ?_)⟩
  have hs' := hs
  unfold okS at hs'
  refine (k44 b (h.ex (m1.trans m2)) d af (by omega)).mono ?_
  rintro v g4 m4 ⟨mb, mk, rfl, fv, hm, hfv⟩
  refine ⟨_, _, rfl, (k52 mb g4).mono ?_⟩
  rintro v g5 m5 ⟨blk, rfl, hl⟩
  refine ⟨65, _, rfl, (k40 hl (hm.ex m5) hok (fun s => ?_) (by omega)).mono ?_⟩
  · constructor
    · intro hne
      cases hF : mpF (recsL b) s with
      | none => exact absurd ((hfv s).1 hF) hne
      | some x => exact List.mem_map.2 ⟨(s, x), (en_mp (recsL b) s x).2 hF, rfl⟩
    · intro hs
      obtain ⟨e, he, rfl⟩ := List.mem_map.1 hs
      obtain ⟨xa, xn, xc, hfk, _⟩ := (hfv e.1).2 e.2 ((en_mp (recsL b) e.1 e.2).1 he)
      rw [hfk]
      simp
  · rintro v g6 m6 ⟨xa, xl, xc, rfl, hx⟩
    exact ⟨_, _, _, rfl, fun g7 m7 => .inr ⟨hs, xa, xl, xc, rfl, hx.exm m7⟩⟩

/-- Entries. -/
theorem k27 (b : List UInt8) {a : Option Addr} {n c : Nat} {g : G} (h : SlB g a n c b) (d af : Int) :
    CallsP Try.prog 27 #[stV a n c d af] g fun v g' => EntsSay b d af v g' := by
  refine call27 a n c d af g _ ?_
  have hlb := SlB.length h
  have hok := (enL_ok _ (recs_ok b)).1
  have hce := cost_end b
  have hel := endR_le b
  have hlc := len_cost (enL (recsL b))
  have hmpf := en_mp (recsL b)
  unfold F27
  refine fun g1 m1 => (k36 b (h.ex m1) d af).mono ?_
  rintro v g2 m2 (⟨hs, rfl⟩ | ⟨hs, xa, xl, xc, rfl, hx⟩)
  · exact ⟨_, _, _, _, rfl, ifNe (fun _ g3 m3 => .inl ⟨hs, rfl⟩) (fun hh => by cases hh)⟩
  refine ⟨_, _, _, _, rfl, ifNe (fun hh => absurd rfl hh) (fun _ => ?_)⟩
  have hs' := hs
  unfold okS at hs'
  rw [hlb] at hs'
  refine (k44 b (h.ex (m1.trans m2)) d af (by omega)).mono ?_
  rintro v g4 m4 ⟨mb, mk, rfl, hmap⟩
  have hx4 := hx.exm m4
  have hxl := hx4.len
  rw [List.length_map] at hxl
  have hmlt : mb < g4.w.heap.size := by obtain ⟨fv, hm, _⟩ := hmap; exact hm.lt
  have hsz4 : g.w.heap.size ≤ g4.w.heap.size := ((m1.trans m2).trans m4).size
  generalize hes : enL (recsL b) = es at *
  refine ⟨_, _, rfl, fun m oa on oc i g5 => ∃ j : Nat, i = j ∧ j + m = xl ∧ on = j ∧ OwnE entE g5 g4.w.heap.size 67 oa on oc (es.take j) ∧ MapB g5 mb mk (mpF (recsL b)) ∧ g4.w.heap.size ≤ g5.w.heap.size,
    ⟨xl, 0, rfl, by omega, rfl, OwnE.nil _ _ _, hmap, Nat.le_refl _⟩, ?_⟩
  rintro m oa on oc i g5 le5 ⟨j, rfl, hjm, rfl, ho, hmap5, hsz5⟩
  refine ifLt (fun hlt => ⟨⟨by omega, by omega⟩, ?_⟩) (fun hge g10 m10 => .inr ⟨hs, oa, on, oc, rfl, ?_⟩)
  · have hj : on < es.length := by omega
    have gj := List.getElem?_eq_getElem hj
    have hmem := List.mem_of_getElem? gj
    have hc1 := cost_mem hmem
    have hkey := hok.key _ hmem
    refine (hx4.mono le5).rd (i := on) (x := es[on].1) (by rw [List.getElem?_map, gj]; rfl) ?_
    rintro r ad rfl hr
    refine ⟨bstr es[on].1, ?_, ?_⟩
    · rw [Int.toNat_natCast]
      have := (hr 0 _ rfl).1
      rwa [Addr.add_zero'] at this
    obtain ⟨fv, hm, hfv⟩ := hmap5
    obtain ⟨ya, yn, yc, hfk, hy⟩ := (hfv es[on].1).2 es[on].2 ((hmpf es[on].1 es[on].2).1 hmem)
    have hlk := hm.look Try.underlying9 Try.underlying79 (zero22 g5.w) es[on].1 (by unfold maxLen; omega)
    rw [hfk] at hlk
    have hyn := SlB.length hy
    refine ⟨ya, yn, yc, _, hlk, g5, rfl, Stp.refl _ _ _, (k49 _ hy (by omega)).mono ?_⟩
    rintro v g7 m7 ⟨za, zc, rfl, hz⟩
    refine ⟨_, _, _, rfl, fun g8 n8 => ?_⟩
    have hB7 : g4.w.heap.size ≤ g7.w.heap.size := Nat.le_trans hsz5 m7.size
    obtain ⟨a', c', w', hrun, g9, hw, hst, ho9, hst2, _⟩ := OwnE.app1 E36 36 (B := g4.w.heap.size) hB7 (ho.exm m7) n8 (x := es[on]) ⟨za, yn, zc, rfl, hz.sl⟩ (by omega) (by unfold maxLen; omega)
    refine ⟨a', _, c', w', hrun, g9, hw, hst.mono hsz4 (fun _ _ h => h.elim), i64 (by omega) (by omega), m - 1, by omega, on + 1, by omega, by omega, rfl, ?_, ?_, ?_⟩
    · rw [List.take_add_one, gj]
      exact ho9
    · have hmb8 : MapB g8 mb mk (mpF (recsL b)) := MapB.ex ⟨fv, hm, hfv⟩ (m7.trans n8.ex)
      exact hmb8.but (hst2.but (Nat.le_refl _)) (ho.ne hmlt) hst.le
    · exact Nat.le_trans hB7 (Nat.le_trans n8.ex.size hst.le.size)
  · have htk : es.take on = es := List.take_of_length_le (by omega)
    rw [hes, ← htk]
    exact ho.sl.exm m10

/-- Compact. -/
theorem k26 (b : List UInt8) {a : Option Addr} {n c : Nat} {g : G} (h : SlB g a n c b) (d af : Int) :
    CallsP Try.prog 26 #[stV a n c d af] g fun v g' => IsSR v g' (compR b d af) := by
  refine call26 a n c d af g _ ?_
  have hlb := SlB.length h
  have hce := cost_end b
  have hel := endR_le b
  have hlc := len_cost (enL (recsL b))
  have hok := (enL_ok _ (recs_ok b)).1
  unfold F26
  refine fun g1 m1 => (k27 b (h.ex m1) d af).mono ?_
  rintro v g2 m2 (⟨hs, rfl⟩ | ⟨hs, xa, xl, xc, rfl, hx⟩)
  · refine ⟨_, _, _, _, rfl, ifNe (fun _ g3 m3 => ?_) (fun hh => by cases hh)⟩
    unfold compR
    rw [if_pos (tf_no hs)]
    exact IsSR.zero _ _
  refine ⟨_, _, _, _, rfl, ifNe (fun hh => absurd rfl hh) (fun _ => ?_)⟩
  have hs' := hs
  unfold okS at hs'
  have hxl := hx.len
  have ec : compR b d af = ⟨compB (enL (recsL b)), (cost (enL (recsL b)) : Nat), af, 0⟩ := by unfold compR; rw [if_neg (by rw [tf_of hs]; simp)]
  rw [ec]
  generalize hes : enL (recsL b) = es at *
  refine ⟨fun m i xa xl' xc o1 o2 g4 => ∃ j : Nat, i = j ∧ j + m = xl ∧ o2 = af ∧ xl' = cost (es.take j) ∧ OwnB g4 g.size 5 xa xl' xc (compB (es.take j)) ∧ g.size ≤ g4.w.heap.size,
    fun g3 m3 => ⟨xl, 0, rfl, by omega, rfl, by simp [cost], OwnG.nil _ _ _ _, ((m1.trans m2).trans m3).size⟩, ?_⟩
  rintro m i ya yl yc o1 o2 g4 le4 ⟨j, rfl, hjm, rfl, rfl, hy, hsz⟩
  refine ifLt (fun hlt => ⟨⟨by omega, by omega⟩, ?_⟩) (fun hge g9 m9 => ?_)
  · have hj : j < es.length := by omega
    have gj := List.getElem?_eq_getElem hj
    have hmem := List.mem_of_getElem? gj
    have hc1 := cost_mem hmem
    have hkey := hok.key _ hmem
    have hs5 := hx.mono le4
    refine hs5.rd (i := j) gj ?_
    rintro r ad ⟨ea, en, ec, rfl, hd1⟩ hr
    have hen := SlB.length hd1
    refine ⟨bstr es[j].1, ea, en, ec, ?_, ?_, fun g6 m6 => (k46 1 (by omega) es[j].1 es[j].2 (hd1.ex m6) hkey.2 (by omega)).mono ?_⟩
    · rw [Int.toNat_natCast]
      have := (hr 0 _ rfl).1
      rwa [Addr.add_zero'] at this
    · rw [Int.toNat_natCast]
      exact (hr 1 _ rfl).1
    rintro v g7 m7 ⟨ra, rc, rfl, hrr⟩
    have hct := cost_take es (j + 1)
    have hcs : cost (es.take (j + 1)) = cost (es.take j) + (11 + es[j].1.length + en) := by
      rw [← compB_len, compB_take es j gj, List.length_append, compB_len, recB_len, hen]
    obtain ⟨za, zc, w1, hrun, g8, hw, hst, hz, _, _⟩ := OwnB.app E22 22 (B := g.size) (Nat.le_trans hsz (m6.trans m7).size) (hy.ex (m6.trans m7)) hrr.sl (by omega) (by unfold maxLen; omega)
    rw [← hcs] at hrun hz
    refine ⟨_, _, _, rfl, za, _, zc, w1, hrun, g8, hw, hst, i64 (by omega) (by omega), fun g9 m9 => ⟨m - 1, by omega, j + 1, by omega, by omega, rfl, rfl, ?_, ?_⟩⟩
    · rw [compB_take es j gj]
      exact hz.ex m9
    · exact Nat.le_trans hsz (Nat.le_trans (m6.trans m7).size (Nat.le_trans hst.le.size m9.size))
  · have htk : es.take j = es := List.take_of_length_le (by omega)
    rw [htk] at hy ⊢
    exact ⟨ya, _, yc, rfl, (hy.ex m9).sl⟩
end Go.Proofs.Ytlofbfbcnlgmaaa
