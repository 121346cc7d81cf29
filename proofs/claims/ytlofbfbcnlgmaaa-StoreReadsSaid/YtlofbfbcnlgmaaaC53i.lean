/- The store: the reference's entries; records are read back. -/
import Derived.Test.YtlofbfbcnlgmaaaC53h
import Derived.Test.YtlofbfbcnlgmaaaVf4
set_option linter.unusedVariables false
namespace Go.Proofs.Ytlofbfbcnlgmaaa
open Go Go.Vc Go.RowKit

abbrev Ent := List UInt8 × List UInt8
/-- An entry: a key, and its data. -/
def entE : El Ent where
  m := 2
  rep g r x := ∃ a n c, r = [.string (bstr x.1), .slice a n c] ∧ SlB g a n c x.2
  len := by rintro g r x ⟨a, n, c, rfl, _⟩; rfl
  mono := by rintro g g' r x k ⟨a, n, c, rfl, h⟩; exact ⟨a, n, c, rfl, h.mono k⟩
  one := by
    rintro g r x ⟨a, n, c, rfl, _⟩ u hu
    simp only [List.mem_cons, List.not_mem_nil, or_false] at hu
    rcases hu with rfl | rfl <;> rfl
theorem E36 : Elem Try.prog 36 67 2 40 := ⟨Try.underlying36, by kernel_rfl⟩

/-- One key is below another. -/
def klt (a b : List UInt8) : Prop := Op.bytesLess a b = true
theorem strLt_klt (a b : List UInt8) : strLt (bstr a) (bstr b) = tf (klt a b) := by
  unfold strLt klt tf bstr
  simp
def insE (k d : List UInt8) : List Ent → List Ent
  | [] => [(k, d)]
  | x :: r => match Op.bytesLess x.1 k with
    | true => x :: insE k d r
    | false => (k, d) :: (x :: r).filter fun y => y.1 ≠ k
def delE (k : List UInt8) (l : List Ent) : List Ent := l.filter fun y => y.1 ≠ k
def stepE (l : List Ent) (r : Rec) : List Ent := if r.kind = 1 then insE r.key r.data l else delE r.key l
def enL (rs : List Rec) : List Ent := rs.foldl stepE []

theorem k20 (k : List UInt8) (es : List Ent) {a : Option Addr} {n c : Nat} {g : G} (h : SlE entE g a n c es) :
    CallsP Try.prog 20 #[.slice a n c, .string (bstr k)] g fun v _ => ∃ i : Int, v = .int .i64 i ∧ ((i = -1 ∧ ∀ e ∈ es, e.1 ≠ k) ∨ (∃ j e, i = ((j : Nat) : Int) ∧ es[j]? = some e ∧ e.1 = k)) := by
  refine call20 a n c (bstr k) g _ ?_
  have hl := h.len
  have hcap := h.cap
  have hle := h.le
  unfold maxLen at hcap
  unfold F20
  refine ⟨fun m i g' => ∃ j : Nat, i = j ∧ j + m = n ∧ ∀ e ∈ es.take j, e.1 ≠ k, ⟨n, 0, rfl, by omega, by simp⟩, ?_⟩
  rintro m i g1 le ⟨j, rfl, hjm, hj⟩
  refine ifLt (fun hlt => ⟨⟨by omega, by omega⟩, ?_⟩) (fun hge g3 m3 => ⟨-1, rfl, .inl ⟨rfl, ?_⟩⟩)
  · have hjl : j < es.length := by omega
    refine (h.mono le).rd (i := j) (List.getElem?_eq_getElem hjl) ?_
    rintro r ad ⟨ea, en, ec, rfl, _⟩ hr
    rw [Int.toNat_natCast]
    refine ⟨_, ?_, ifS (fun he g2 m2 => ⟨j, rfl, .inr ⟨j, _, rfl, List.getElem?_eq_getElem hjl, bstr_inj.1 he⟩⟩) (fun he => ⟨i64 (by omega) (by omega), m - 1, by omega, j + 1, by omega, by omega, ?_⟩)⟩
    · have := (hr 0 _ rfl).1
      rwa [Addr.add_zero'] at this
    · intro e hm
      rw [List.take_add_one, List.getElem?_eq_getElem hjl] at hm
      simp only [Option.toList_some, List.mem_append, List.mem_singleton] at hm
      rcases hm with hm | rfl
      · exact hj e hm
      · exact fun e => he (bstr_inj.2 e)
  · have : es.take j = es := List.take_of_length_le (by omega)
    rwa [this] at hj

theorem filter_cons (k : List UInt8) (x : Ent) (r : List Ent) : delE k (x :: r) = if x.1 = k then delE k r else x :: delE k r := by
  unfold delE
  rw [List.filter_cons]
  by_cases h : x.1 = k <;> simp [h]
theorem klt_irrefl : ∀ (a : List UInt8), Op.bytesLess a a = false
  | [] => rfl
  | x :: r => by simp [Op.bytesLess, klt_irrefl r]

/-- What is still to come of a step. -/
def todoE (r : Rec) (done : Bool) (l : List Ent) : List Ent := if r.kind = 1 ∧ done = false then insE r.key r.data l else delE r.key l

theorem k21 (l : List UInt8) {a : Option Addr} {n c : Nat} {g : G} (h : SlB g a n c l) (s1 s2 : Int) (hn : n ≤ 1048576) :
    CallsP Try.prog 21 #[stV a n c s1 s2] g fun v g' => ∃ oa on oc, v = .slice oa on oc ∧ OwnE entE g' g.size 67 oa on oc (enL (recsL l)) ∧ on ≤ 1048576 := by
  refine call21 a n c s1 s2 g _ ?_
  have hll := SlB.length h
  unfold F21
  refine ⟨fun m oa on oc p g2 => ∃ q done, p = ((q : Nat) : Int) ∧ q + m = n ∧ recsL l = done ++ recsL (l.drop q) ∧ OwnE entE g2 g.size 67 oa on oc (enL done) ∧ on ≤ q ∧ g.size ≤ g2.w.heap.size,
    fun g1 m1 => ⟨n, 0, [], rfl, by omega, by simp, OwnE.nil _ _ _, by omega, m1.size⟩, ?_⟩
  rintro m oa on oc p g2 le2 ⟨q, done, rfl, hqm, hrec, ho, hoq, hsz2⟩
  refine ifLt (fun hlt => ⟨⟨by omega, by omega⟩, ?_⟩) (fun hge g18 m18 => ⟨oa, on, oc, rfl, ?_, by omega⟩)
  · rw [Int.toNat_natCast]
    refine (k48 _ (SlB.drop (h.mono le2) (lo := q) (by omega)) (by omega)).mono ?_
    rintro v g3 m3 ⟨da, dl, dc, rfl, hd⟩
    have hsz3 : g.size ≤ g3.w.heap.size := Nat.le_trans hsz2 m3.size
    have ho3 := ho.exm m3
    refine ⟨_, _, _, _, _, _, rfl, ?_⟩
    unfold recOf at hd ⊢
    cases hf : firstR (l.drop q) with
    | none =>
      refine ifEq (fun _ g4 m4 => ⟨oa, on, oc, rfl, ?_, by omega⟩) (fun hh => absurd rfl hh)
      rw [hrec, recsL_none hf, List.append_nil]
      exact ho3.exm m4
    | some r =>
      have hlen := first_len hf
      rw [List.length_drop] at hlen
      rw [hf] at hd
      simp only [Option.getD_some] at hd ⊢
      have hrec2 : recsL l = (done ++ [r]) ++ recsL (l.drop (q + r.len)) := by
        rw [hrec, recsL_some hf, List.drop_drop, List.append_assoc]
        rfl
      have hen : enL (done ++ [r]) = stepE (enL done) r := by unfold enL; rw [List.foldl_append]; rfl
      have hel := ho3.len
      refine ifEq (fun hh => by omega) (fun _ => ⟨i64 (by omega) (by omega), ?_⟩)
      -- the entries are copied, with the new one among them
      refine ⟨fun m2 na nn nc dn i g6 => ∃ (j : Nat) (nx : List Ent), i = j ∧ j + m2 = on ∧ OwnE entE g6 g3.size 67 na nn nc nx ∧ nx ++ todoE r dn ((enL done).drop j) = stepE (enL done) r ∧ nn ≤ j + (if dn then 1 else 0) ∧ g3.size ≤ g6.w.heap.size,
        fun g5 m5 => ⟨on, 0, [], rfl, by omega, OwnE.nil _ _ _, by simp [todoE, stepE], by simp, m5.size⟩, ?_⟩
      rintro m2 na nn nc dn i g6 le6 ⟨j, nx, rfl, hjm, hnx, htodo, hnj, hsz6⟩
      have hd6 := hd.mono le6
      have hnn : nn ≤ j + 1 := by cases dn <;> simp at hnj <;> omega
      -- an entry is appended
      have app : ∀ {gx gy : G} {xa : Option Addr} {xn xc : Nat} {xs : List Ent} {L : List Value} {e : Ent}, Le g6 gx → g3.size ≤ gx.w.heap.size → OwnE entE gx g3.size 67 xa xn xc xs → NewL gx gy 67 L → entE.rep gx L e → xn ≤ 1148576 →
          ∃ a' c' w', Sem.run Try.prog (Builtin.append_ #[36, 36] 36 #[(.slice xa xn xc), (.slice (some ⟨gx.w.heap.size, 0, none⟩) 1 1)]) gy.w = .ok (.slice a' (xn + 1) c') w' ∧ ∃ g', g'.w = w' ∧ Stp g.w.heap.size nobody gy g' ∧ OwnE entE g' g3.size 67 a' (xn + 1) c' (xs ++ [e]) ∧ Le gx g' ∧ g3.size ≤ g'.w.heap.size := by
        intro gx gy xa xn xc xs L e hle hsx hox hny hrep hxn
        obtain ⟨a', c', w', hr, g', hw, hs, ho', _, _⟩ := OwnE.app1 E36 36 (B := g3.size) hsx hox hny hrep (by omega) (by unfold maxLen; omega)
        exact ⟨a', c', w', hr, g', hw, hs.mono hsz3 (fun _ _ h => h.elim), ho', hny.ex.le.trans hs.le, Nat.le_trans hsx (Nat.le_trans hny.ex.size hs.le.size)⟩
      refine ifLt (fun hlt2 => ?_) (fun hge2 => ?_)
      · have hjl : j < (enL done).length := by omega
        intro J hJ J1 hJ1 g14 m14
        have ho14 := ((ho3.sl).mono le6).exm m14
        -- what follows the insertion
        have tail : ∀ (g7 : G) (ya : Option Addr) (yn yc : Nat) (ys : List Ent) (dn1 : Bool), Le g14 g7 → g3.size ≤ g7.w.heap.size → OwnE entE g7 g3.size 67 ya yn yc ys → yn ≤ j + (if dn1 then 1 else 0) →
            ys ++ (if (enL done)[j].1 = r.key then [] else [(enL done)[j]]) ++ todoE r dn1 ((enL done).drop (j + 1)) = stepE (enL done) r → J ya yn yc dn1 g7 := by
          intro g7 ya yn yc ys dn1 hle7 hsz7 hoy hyn htd
          have hyn1 : yn ≤ j + 1 := by cases dn1 <;> simp at hyn <;> omega
          refine hJ _ _ _ _ _ (fun g8 m8 => ⟨⟨by omega, by omega⟩, ?_⟩)
          have ho8 := (ho14.mono hle7).exm m8
          refine ho8.rd (i := j) (List.getElem?_eq_getElem hjl) ?_
          rintro rr ad ⟨ea, en, ec, rfl, hed⟩ hr
          rw [Int.toNat_natCast]
          refine ⟨bstr (enL done)[j].1, ?_, ifSn (fun hne => ⟨⟨by omega, by omega⟩, ?_⟩) (fun heq => ⟨i64 (by omega) (by omega), m2 - 1, by omega, j + 1, ys, by omega, by omega, hoy.exm m8, ?_, by omega, Nat.le_trans hsz7 m8.size⟩)⟩
          · have := (hr 0 _ rfl).1
            rwa [Addr.add_zero'] at this
          · refine ho8.rd (i := j) (List.getElem?_eq_getElem hjl) ?_
            rintro rr2 ad2 ⟨ea2, en2, ec2, rfl, hed2⟩ hr2
            refine ⟨bstr (enL done)[j].1, ea2, en2, ec2, ?_, ?_, fun g9 n9 => ?_⟩
            · have := (hr2 0 _ rfl).1
              rwa [Addr.add_zero'] at this
            · exact (hr2 1 _ rfl).1
            · obtain ⟨a', c', w', hrun, g10, hw, hs10, ho10, hle10, hsz10⟩ := app (e := (enL done)[j]) ((m14.le.trans hle7).trans m8.le) (Nat.le_trans hsz7 m8.size) (hoy.exm m8) n9 ⟨ea2, en2, ec2, rfl, hed2⟩ (by omega)
              refine ⟨a', _, c', w', hrun, g10, hw, hs10, i64 (by omega) (by omega), m2 - 1, by omega, j + 1, _, by omega, by omega, ho10, ?_, by omega, hsz10⟩
              have hne' : (enL done)[j].1 ≠ r.key := fun e => hne (by rw [e])
              rw [if_neg hne'] at htd
              exact htd
          · have heq' : (enL done)[j].1 = r.key := bstr_inj.1 heq
            rw [if_pos heq', List.append_nil] at htd
            exact htd
        have hdrop : (enL done).drop j = (enL done)[j] :: (enL done).drop (j + 1) := List.drop_eq_getElem_cons hjl
        have hsz14 : g3.size ≤ g14.w.heap.size := Nat.le_trans hsz6 m14.size
        have hnx14 := hnx.exm m14
        -- nothing is inserted here
        have skip : (r.kind = 1 ∧ dn = false → Op.bytesLess (enL done)[j].1 r.key = true) → J1 false g14 := by
          intro hsk
          refine hJ1 _ _ (ifT (fun hh => by cases hh) (fun _ => tail g14 na nn nc nx dn (Le.refl _) hsz14 hnx14 hnj ?_))
          rw [← htodo, hdrop, List.append_assoc]
          congr 1
          unfold todoE
          by_cases hc : r.kind = 1 ∧ dn = false
          · rw [if_pos hc, if_pos hc]
            have hb := hsk hc
            have hne : (enL done)[j].1 ≠ r.key := fun e => by rw [e, klt_irrefl] at hb; cases hb
            rw [if_neg hne]
            simp only [insE, hb]
            rfl
          · rw [if_neg hc, if_neg hc, filter_cons]
            by_cases he : (enL done)[j].1 = r.key
            · rw [if_pos he, if_pos he]; rfl
            · rw [if_neg he, if_neg he]; rfl
        refine ifF (fun hdn => ifEq (fun hk => ⟨⟨by omega, by omega⟩, ?_⟩) (fun hk => skip (fun hh => absurd hh.1 (by omega)))) (fun hdn => skip (fun hh => by rw [hdn] at hh; cases hh.2))
        refine ho14.rd (i := j) (List.getElem?_eq_getElem hjl) ?_
        rintro rr ad ⟨ea, en, ec, rfl, hed⟩ hr
        rw [Int.toNat_natCast]
        refine ⟨bstr (enL done)[j].1, ?_, ?_⟩
        · have := (hr 0 _ rfl).1
          rwa [Addr.add_zero'] at this
        · rw [strLt_klt, tf_not]
          by_cases hb : klt (enL done)[j].1 r.key
          · rw [tf_no (fun h => h hb)]
            exact skip (fun _ => hb)
          · rw [tf_of hb]
            subst hdn
            refine hJ1 _ _ (ifT (fun _ g12 n12 => ?_) (fun hh => by cases hh))
            obtain ⟨a', c', w', hrun, g13, hw, hs13, ho13, hle13, hsz13⟩ := app (e := (r.key, r.data)) m14.le hsz14 hnx14 n12 ⟨da, dl, dc, rfl, hd6.ex m14⟩ (by omega)
            simp at hnj
            refine ⟨a', _, c', w', hrun, g13, hw, hs13, tail g13 a' _ c' _ true hle13 hsz13 ho13 (by simp; omega) ?_⟩
            rw [← htodo, hdrop, List.append_assoc, List.append_assoc]
            refine congrArg (nx ++ ·) ?_
            have t1 : ∀ X, todoE r true X = delE r.key X := fun X => by unfold todoE; rw [if_neg (fun h => by cases h.2)]
            have t2 : ∀ X, todoE r false X = insE r.key r.data X := fun X => by unfold todoE; rw [if_pos ⟨by omega, rfl⟩]
            rw [t1, t2]
            have hb' : Op.bytesLess (enL done)[j].1 r.key = false := by
              cases h : Op.bytesLess (enL done)[j].1 r.key
              · rfl
              · exact absurd h hb
            simp only [insE, hb']
            have : ((enL done)[j] :: (enL done).drop (j + 1)).filter (fun y => decide (y.1 ≠ r.key)) = delE r.key ((enL done)[j] :: (enL done).drop (j + 1)) := rfl
            rw [this, filter_cons]
            by_cases he : (enL done)[j].1 = r.key
            · rw [if_pos he, if_pos he]; rfl
            · rw [if_neg he, if_neg he]; rfl
      · have hj : j = on := by omega
        subst hj
        have hd0 : (enL done).drop j = [] := List.drop_eq_nil_of_le (by omega)
        rw [hd0] at htodo
        intro J2 hJ2
        have nope : (r.kind = 1 ∧ dn = false → False) → J2 false g6 := by
          intro hno
          refine hJ2 _ _ (ifT (fun hh => by cases hh) (fun _ => ⟨m - r.len, by omega, q + r.len, done ++ [r], by omega, by omega, hrec2, ?_, ?_, Nat.le_trans hsz3 hsz6⟩))
          · have : todoE r dn [] = [] := by unfold todoE; rw [if_neg (fun h => hno h)]; rfl
            rw [this, List.append_nil] at htodo
            rw [hen, ← htodo]
            exact hnx.base hsz3
          · omega
        refine ifF (fun hdn => ?_) (fun hdn => nope (fun h => by rw [hdn] at h; cases h.2))
        by_cases hk : r.kind = 1
        · have e : eqI ((r.kind : Nat) : Int) 1 = true := eqI_true.mpr (by omega)
          rw [e]
          refine hJ2 _ _ (ifT (fun _ g16 n16 => ?_) (fun hh => by cases hh))
          obtain ⟨a', c', w', hrun, g17, hw, hs17, ho17, hle17, hsz17⟩ := app (e := (r.key, r.data)) (Le.refl _) hsz6 hnx n16 ⟨da, dl, dc, rfl, hd6⟩ (by omega)
          refine ⟨a', _, c', w', hrun, g17, hw, hs17, m - r.len, by omega, q + r.len, done ++ [r], by omega, by omega, hrec2, ?_, ?_, Nat.le_trans hsz3 hsz17⟩
          · have : todoE r dn [] = [(r.key, r.data)] := by unfold todoE; rw [if_pos ⟨hk, hdn⟩]; rfl
            rw [this] at htodo
            rw [hen, ← htodo]
            exact ho17.base hsz3
          · omega
        · have e : eqI ((r.kind : Nat) : Int) 1 = false := eqI_false.mpr (by omega)
          rw [e]
          exact nope (fun h => hk h.1)
  · have hq : l.drop q = [] := List.drop_eq_nil_of_le (by omega)
    have : recsL ([] : List UInt8) = [] := rfl
    rw [hrec, hq, this, List.append_nil]
    exact ho.exm m18
end Go.Proofs.Ytlofbfbcnlgmaaa
