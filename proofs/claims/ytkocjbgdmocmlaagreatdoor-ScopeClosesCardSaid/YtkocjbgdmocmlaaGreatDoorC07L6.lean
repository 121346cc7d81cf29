/- Scope: the law ScopeCloses. -/
import Derived.Test.YtkocjbgdmocmlaaGreatDoorC07af
import Derived.Test.YtkocjbgdmocmlaaGreatDoorC07AD
import Derived.Test.YtkocjbgdmocmlaaGreatDoorSfree2
import Derived.Test.YtkocjbgdmocmlaaGreatDoorFnL6
set_option linter.unusedVariables false
namespace Go.Proofs.YtkocjbgdmocmlaaGreatDoor
open Go Go.Vc Go.RowKit Go.Syn

def isVal (s : Lab) : Prop := 4 < s.length ∧ s.take 4 = hVal
noncomputable instance (s : Lab) : Decidable (isVal s) := Classical.propDecidable _
def fnT (x : Lab) (t : Sy) : Sy := .mk ⟨25, 0, x, []⟩ [t]
noncomputable def wrap1 (t : Sy) (s : Lab) : Sy := if isVal s then fnT (s.drop 4) t else t
noncomputable def wraps (t : Sy) (l : List Lab) : Sy := l.foldl wrap1 t
noncomputable def nvals (l : List Lab) : Nat := (l.filter (fun s => tf (isVal s))).length
theorem wraps_take {t : Sy} {l : List Lab} {j : Nat} {s : Lab} (h : l[j]? = some s) : wraps t (l.take (j + 1)) = wrap1 (wraps t (l.take j)) s := by
  unfold wraps
  rw [List.take_add_one, h, List.foldl_append]
  rfl
theorem nvals_take {l : List Lab} {j : Nat} {s : Lab} (h : l[j]? = some s) : nvals (l.take (j + 1)) = nvals (l.take j) + if isVal s then 1 else 0 := by
  unfold nvals
  rw [List.take_add_one, h]
  by_cases q : isVal s
  · simp [List.filter_append, q]
  · simp [List.filter_append, q]
/-- A value's label. -/
theorem val_form {d : SynD} (hp : pathOK d) {s : Lab} (h : refersO d = some s) (hv : isVal s) : s = hVal ++ s.drop 4 ∧ lowerP (s.drop 4) := by
  have e1 : s = hVal ++ s.drop 4 := by
    conv => lhs; rw [← List.take_append_drop 4 s, hv.2]
  refine ⟨e1, ?_⟩
  unfold refersO at h
  rw [kind_head] at h
  cases hk : kindO d.op with
  | none => rw [hk] at h; cases h
  | some k =>
    rw [hk] at h
    obtain ⟨x, r, hx, hfit⟩ := hp k hk
    have hk5 : k = 1 ∨ k = 2 ∨ k = 3 ∨ k = 4 ∨ k = 5 := by
      unfold kindO at hk
      repeat' (split at hk)
      all_goals first | (cases hk; omega) | cases hk
    simp only [Option.map_some, hx] at h
    have no : ∀ hd : Lab, (hd ++ x).take 4 ≠ hVal → s ≠ hd ++ x := fun hd hne e => hne (by rw [← e]; exact hv.2)
    by_cases hr : r = []
    · rw [if_pos hr] at h hfit
      have e2 := Option.some.inj h
      rcases hk5 with rfl | rfl | rfl | rfl | rfl
      · have e3 : s = hVal ++ x := e2.symm
        rw [e3]
        exact hfit
      · exact absurd e2.symm (no hType (by show ([116, 121, 112, 101] : Lab) ≠ _; decide))
      · exact absurd e2.symm (no hCon (by show ([99, 111, 110, 46] : Lab) ≠ _; decide))
      · exact absurd e2.symm (no hMod (by show ([109, 111, 100, 46] : Lab) ≠ _; decide))
      · exact absurd e2.symm (no hSig (by show ([115, 105, 103, 46] : Lab) ≠ _; decide))
    · rw [if_neg hr] at h
      exact absurd (Option.some.inj h).symm (no hMod (by show ([109, 111, 100, 46] : Lab) ≠ _; decide))
/-- Each free label is that of a node. -/
theorem free_node : ∀ (t : Sy) {w : Bool} {n : Nat}, walkP t w n → ∀ (B : List Lab) (s : Lab), s ∈ freeT t B → ∃ d, pathOK d ∧ refersO d = some s := by
  intro t
  induction t using Tr.ind with
  | h d l ih =>
    intro w n hw B s hs
    obtain ⟨_, h2, _, h4⟩ := walk_iff.1 hw
    have hs' : s ∈ ownRef d B ++ freeL l d (B ++ extra d) := hs
    rcases List.mem_append.1 hs' with hs' | hs'
    · exact ⟨d, own_path h2, ((mem_own d B s).1 hs').1⟩
    · have key : ∀ (k : List Sy), (∀ x ∈ k, x ∈ l) → ∀ C, s ∈ freeL k d C → ∃ d, pathOK d ∧ refersO d = some s := by
        intro k
        induction k with
        | nil => intro _ C h; cases h
        | cons x r ihk =>
          intro hm C h
          have h' : s ∈ freeT x C ++ freeL r d (C ++ addOf d x) := h
          rcases List.mem_append.1 h' with h' | h'
          · exact ih x (hm x (by simp)) (h4 x (hm x (by simp))) C s h'
          · exact ihk (fun y hy => hm y (by simp [hy])) _ h'
      exact key l (fun _ h => h) _ hs'
theorem walk_at : ∀ (t : Sy) (w : Bool) (n m : Nat), walkP t w n → m + depth t ≤ 401 → walkP t w m := by
  intro t
  induction t using Tr.ind with
  | h d l ih =>
    intro w n m h hm
    obtain ⟨h1, h2, h3, h4⟩ := walk_iff.1 h
    have hd : depth (.mk d l) = depthL l + 1 := rfl
    refine walk_iff.2 ⟨by omega, h2, h3, fun x hx => ih x hx _ (n + 1) (m + 1) (h4 x hx) ?_⟩
    have := depth_mem (l := l) hx
    omega
theorem fn_walk {x : Lab} {t : Sy} (hx : lowerP x) (ht : belP 3 t.dat.op) {m : Nat} (hm : m ≤ 400) (hw : walkP t false (m + 1)) : walkP (fnT x t) false m := by
  have hw0 : decide ((fnT x t).dat.op = 74) = false := decide_eq_false (by show ¬ (25 : Int) = 74; omega)
  refine walk_iff.2 ⟨hm, ⟨by simp [fnT, bareP, usesN, usesS, usesL, Tr.dat], ?_⟩, (by show shapeP ⟨25, 0, x, []⟩ [t]; unfold shapeP; simp [partsP]; exact ht), fun y hy => ?_⟩
  · simp [fnT, ownB, Tr.dat, hx]
  · simp only [fnT, Tr.kids, List.mem_singleton] at hy
    subst hy
    rw [hw0]
    exact hw
theorem fn_free (x : Lab) (t : Sy) (hx : x ≠ []) (B : List Lab) (s : Lab) : s ∈ freeT (fnT x t) B ↔ s ∈ freeT t B ∧ s ≠ hVal ++ x := by
  have e : freeT (fnT x t) B = freeT t (B ++ [hVal ++ x]) := by
    show ownRef ⟨25, 0, x, []⟩ B ++ (freeT t (B ++ extra ⟨25, 0, x, []⟩) ++ []) = _
    have h1 : ownRef ⟨25, 0, x, []⟩ B = [] := rfl
    have h2 : extra ⟨25, 0, x, []⟩ = [hVal ++ x] := by unfold extra; rw [if_pos ⟨rfl, hx⟩]
    rw [h1, h2]
    simp
  rw [e, free_more]
  simp
theorem lower_ne {s : Lab} (h : lowerP s) : s ≠ [] := fun e => by
  have := h.1.1
  rw [e] at this
  simp at this
/-- What stands after some of the labels are bound. -/
theorem wraps_ok (t : Sy) (hv : validP 3 t) (hok : okT t) (hd : depth t ≤ 100) : ∀ (l : List Lab), (∀ s ∈ l, s ∈ freeT t []) → nvals l ≤ 300 →
    catN (wraps t l).dat.op = 3 ∧ okT (wraps t l) ∧ depth (wraps t l) ≤ 100 + nvals l ∧ size (wraps t l) ≤ size t + nvals l ∧ (∀ m, m + depth (wraps t l) ≤ 401 → walkP (wraps t l) false m) ∧ ∀ s, s ∈ freeT (wraps t l) [] ↔ s ∈ freeT t [] ∧ ¬ (isVal s ∧ s ∈ l) := by
  suffices main : ∀ (k : Nat) (l : List Lab), l.length = k → (∀ s ∈ l, s ∈ freeT t []) → nvals l ≤ 300 →
      catN (wraps t l).dat.op = 3 ∧ okT (wraps t l) ∧ depth (wraps t l) ≤ 100 + nvals l ∧ size (wraps t l) ≤ size t + nvals l ∧ (∀ m, m + depth (wraps t l) ≤ 401 → walkP (wraps t l) false m) ∧ ∀ s, s ∈ freeT (wraps t l) [] ↔ s ∈ freeT t [] ∧ ¬ (isVal s ∧ s ∈ l) from fun l => main l.length l rfl
  intro k
  induction k with
  | zero =>
    intro l hl
    have hl0 := List.eq_nil_of_length_eq_zero hl
    subst hl0
    exact fun _ _ => ⟨bel_cat hv.1 (by omega), hok, by simpa [wraps, nvals] using hd, by simp [wraps, nvals], fun m hm => walk_at t false 1 m hv.2 hm, fun s => by simp [wraps]⟩
  | succ k ih0 =>
    intro l hl
    obtain ⟨r, s, rfl⟩ : ∃ r s, l = r ++ [s] := by
      rcases List.eq_nil_or_concat l with rfl | ⟨r, s, e⟩
      · simp at hl
      · exact ⟨r, s, by simpa using e⟩
    have ih := ih0 r (by simpa using hl)
    intro hm hn
    have ew : wraps t (r ++ [s]) = wrap1 (wraps t r) s := by unfold wraps; rw [List.foldl_append]; rfl
    have hs := hm s (by simp)
    have hn1 : nvals (r ++ [s]) = nvals r + if isVal s then 1 else 0 := by
      unfold nvals
      by_cases q : isVal s
      · simp [List.filter_append, q]
      · simp [List.filter_append, q]
    have hnr : nvals r ≤ 300 := by omega
    obtain ⟨i1, i2, i3, i4, i5, i6⟩ := ih (fun x hx => hm x (by simp [hx])) hnr
    rw [ew, hn1]
    unfold wrap1
    by_cases q : isVal s
    · rw [if_pos q, if_pos q]
      rw [hn1, if_pos q] at hn
      obtain ⟨d, hp, hr⟩ := free_node t hv.2 [] s hs
      obtain ⟨e1, e2⟩ := val_form hp hr q
      have hx24 : (s.drop 4).length ≤ 24 := e2.1.2.1
      have hdp : depth (fnT (s.drop 4) (wraps t r)) = depth (wraps t r) + 1 := by
        show max (depth (wraps t r)) 0 + 1 = _
        omega
      refine ⟨by show catN 25 = 3; decide, okT_iff.2 ⟨⟨by show (s.drop 4).length ≤ _; omega, by show (0 : Nat) ≤ _; omega⟩, fun y hy => ?_⟩, by omega, ?_, fun m hm => fn_walk e2 (.inr ⟨by omega, i1⟩) (by omega) (i5 (m + 1) (by omega)), fun z => ?_⟩
      · simp only [fnT, Tr.kids, List.mem_singleton] at hy
        subst hy; exact i2
      · show sizeL [wraps t r] + 1 ≤ _
        simp [sizeL]; omega
      · rw [fn_free _ _ (lower_ne e2), i6, ← e1, List.mem_append, List.mem_singleton]
        constructor
        · rintro ⟨⟨h1, h2⟩, h3⟩
          exact ⟨h1, fun ⟨h4, h5⟩ => h5.elim (fun h6 => h2 ⟨h4, h6⟩) h3⟩
        · rintro ⟨h1, h2⟩
          exact ⟨⟨h1, fun ⟨h4, h5⟩ => h2 ⟨h4, .inl h5⟩⟩, fun e => h2 ⟨e ▸ q, .inr e⟩⟩
    · rw [if_neg q, if_neg q, Nat.add_zero]
      refine ⟨i1, i2, i3, i4, i5, fun z => ?_⟩
      rw [i6, List.mem_append, List.mem_singleton]
      constructor
      · rintro ⟨h1, h2⟩
        exact ⟨h1, fun ⟨h4, h5⟩ => h5.elim (fun h6 => h2 ⟨h4, h6⟩) (fun e => q (e ▸ h4))⟩
      · rintro ⟨h1, h2⟩
        exact ⟨h1, fun ⟨h4, h5⟩ => h2 ⟨h4, .inl h5⟩⟩
noncomputable def othersL (l : List Lab) : List Lab := l.filter (fun s => tf (¬ isVal s))
theorem others_take {l : List Lab} {j : Nat} {s : Lab} (h : l[j]? = some s) : othersL (l.take (j + 1)) = othersL (l.take j) ++ if isVal s then [] else [s] := by
  unfold othersL
  rw [List.take_add_one, h]
  by_cases q : isVal s
  · simp [List.filter_append, q]
  · simp [List.filter_append, q]
theorem nvals_le (l : List Lab) : nvals l ≤ l.length := List.length_filter_le _ _
/-- ScopeCloses. -/
theorem law6 (t : Sy) {na : Option Addr} {nn nc : Nat} {a : Option Addr} {n c : Nat} {g : G} (ht : TabG g) (h : SynI g t na nn nc a n c) :
    CallsP Tryz.prog 6 #[synV t na nn nc a n c] g fun v _ => v = .bool true := by
  refine PL6.call6 _ _ _ _ _ _ _ _ _ g _ ?_
  unfold PL6.F6
  refine fun g1 m1 => (k11 g1 (ht.exm m1)).mono ?_
  rintro v g2 m2 rfl
  have m02 := m1.trans m2
  refine ⟨_, rfl, ifF (fun hh => by cases hh) (fun _ => ?_)⟩
  intro J hJ
  have HJ : ∀ g4, Ex g g4 → size t ≤ 600 → okT t → depth t ≤ 100 → J g4 := by
    intro g4 m4 hsz hok hd
    refine hJ g4 ((k13 3 t hok (by omega) (ht.exm m4) (h.exm m4)).mono ?_)
    rintro v g5 m5 (⟨_, rfl⟩ | ⟨hv, fa, fn, fc, rfl, hf⟩)
    · exact ⟨_, _, _, _, rfl, ifNe (fun _ g6 _ => by simp [eqI]) (fun hh => by simp at hh)⟩
    refine ⟨_, _, _, _, rfl, ifNe (fun hh => absurd rfl hh) (fun _ => ?_)⟩
    have m05 := m4.trans m5
    have h1 := free_len t []
    have h2 := sortS_len (freeT t [])
    obtain ⟨F, hF⟩ : ∃ F, F = sortS (freeT t []) := ⟨_, rfl⟩
    rw [← hF] at hf h2
    have hfl := hf.len
    refine ⟨fun m oa on oc cnt i x0 x1 x2 x3a x3l x3c x4a x4l x4c g' => ∃ (j : Nat) (T : Sy), i = ((j : Nat) : Int) ∧ j + m = fn ∧ cnt = ((nvals (F.take j) : Nat) : Int) ∧ Ex g5 g' ∧ OwnE strE g' g5.w.heap.size 9 oa on oc (othersL (F.take j)) ∧ T = wraps t (F.take j) ∧ x0 = T.dat.op ∧ x1 = T.dat.n ∧ x2 = bstr T.dat.s ∧ SynI g' T x3a x3l x3c x4a x4l x4c,
      ⟨fn, 0, t, rfl, by omega, by simp [nvals], Ex.refl _, by simpa [othersL] using OwnE.nil _ _ _, by simp [wraps], rfl, rfl, rfl, h.exm m05⟩, ?_⟩
    rintro m oa on oc cnt i x0 x1 x2 x3a x3l x3c x4a x4l x4c g7 le7 ⟨j, T, rfl, hj, rfl, m57, ho, hT, rfl, rfl, rfl, hTI⟩
    have hol := ho.len
    have hotl : (othersL (F.take j)).length ≤ F.length := Nat.le_trans (List.length_filter_le _ _) (by rw [List.length_take]; omega)
    have hnv := nvals_le (F.take j)
    rw [List.length_take] at hnv
    refine ifLt (fun q => ⟨⟨by omega, by omega⟩, ?_⟩) (fun q => ?_)
    · have gj := List.getElem?_eq_getElem (show j < F.length by omega)
      generalize F[j] = s at gj
      have hs : s ∈ freeT t [] := by
        have := List.mem_of_getElem? gj
        rw [hF, mem_sortS] at this
        exact this
      refine rdS (hf.exm m57) j rfl gj ?_
      intro J1 hJ1
      have H1 : ∀ (b : Bool) g8, Ex g7 g8 → (b = true ↔ isVal s) → J1 b g8 := by
        intro b g8 m8 hb
        refine hJ1 b g8 ?_
        refine ifT (fun e g9 m9 => ?_) (fun e g13 n13 => ?_)
        · have hval := hb.1 e
          have e4 : Int.toNat (4 : Int) = 4 := rfl
          have hl4 : 4 < s.length := hval.1
          refine ⟨⟨by omega, by rw [bstr_size]; omega⟩, fun g10 m10 g11 n11 => ⟨i64 (by omega) (by omega), i64 (by omega) (by omega), fun g12 m12 => ⟨m - 1, by omega, j + 1, fnT (s.drop 4) T, by omega, by omega, ?_, ((((m57.trans m8).trans m9).trans m10).trans n11.ex).trans m12, ?_, ?_, rfl, rfl, ?_, SlE.zero _, ?_⟩⟩⟩
          · rw [nvals_take gj, if_pos hval]; omega
          · rw [others_take gj, if_pos hval, List.append_nil]
            exact ((((ho.exm m8).exm m9).exm m10).exm n11.ex).exm m12
          · rw [wraps_take gj, ← hT]
            unfold wrap1
            rw [if_pos hval]
          · rw [bstr_size, e4, bstr_extract, List.take_length]
            rfl
          · exact (n11.sle (E := synE) (xs := [T]) (Rws.single (((hTI.exm m8).exm m9).exm m10).rep) (by simp [maxLen])).exm m12
        · have hval : ¬ isVal s := fun hh => by rw [hb.2 hh] at e; cases e
          obtain ⟨a', c', w', hr, g14, hw, hs14, ho14, hst14, _⟩ := (ho.exm m8).app1 E22 22 (Nat.le_trans m57.size m8.size) n13 (x := s) rfl (by omega) (by unfold maxLen; omega)
          have z5 := m05.size
          have m1314 : Ex g5 g14 := by
            have hb1 : But (blkOf oa) g13 g14 := hst14.but (Nat.le_refl _)
            exact ((((m57.trans m8).trans n13.ex).but (blkOf oa)).trans hb1).ex (fun b hb _ => ho.ne hb)
          refine ⟨a', _, c', w', hr, g14, hw, hs14.mono z5 (fun _ _ hh => hh), i64 (by omega) (by omega), m - 1, by omega, j + 1, T, by omega, by omega, ?_, m1314, ?_, ?_, rfl, rfl, rfl, ((hTI.exm m8).exm n13.ex).mono hs14.le⟩
          · rw [nvals_take gj, if_neg hval, Nat.add_zero]
          · rw [others_take gj, if_neg hval]
            exact ho14
          · rw [wraps_take gj, ← hT]
            unfold wrap1
            rw [if_neg hval]
      refine ifLt (fun q4 => ⟨⟨by omega, by omega⟩, ?_⟩) (fun q4 => H1 false g7 (Ex.refl _) ⟨fun hh => (by cases hh), fun hh => ?_⟩)
      · rw [bstr_size] at q4
        rw [show Int.toNat (4 : Int) = 4 from rfl, bstr_extract, List.drop_zero, show bs [118, 97, 108, 46] = bstr hVal from rfl, strEq_bstr]
        refine H1 _ g7 (Ex.refl _) ?_
        rw [tf_true]
        exact ⟨fun hh => ⟨by omega, hh⟩, fun hh => hh.2⟩
      · rw [bstr_size] at q4
        have := hh.1
        omega
    · rw [take_all (by omega)] at hT ho hnv ⊢
      refine ifLt (fun _ g15 _ => rfl) (fun q9 => ?_)
      have hnv9 : nvals F ≤ 90 := by omega
      obtain ⟨w1, w2, w3, w4, w5, w6⟩ := wraps_ok t hv hok hd F (fun s hs => by rw [hF, mem_sortS] at hs; exact hs) (by omega)
      rw [← hT] at w1 w2 w3 w4 w5 w6
      have hvT : validP 3 T := ⟨.inr ⟨by omega, w1⟩, w5 1 (by omega)⟩
      refine (k13 3 T w2 (by omega) (ht.exm (m05.trans m57)) hTI).mono ?_
      rintro v g16 m16 (⟨hh, _⟩ | ⟨_, ra, rn, rc, rfl, hr⟩)
      · exact absurd hvT hh
      have heq : sortS (freeT T []) = othersL F := by
        have hFs : Srt F := hF ▸ srt_sortS _
        refine srt_eq (srt_sortS _) (hFs.sublist List.filter_sublist) (fun s => ?_)
        unfold othersL
        rw [mem_sortS, w6, List.mem_filter, tf_true, hF, mem_sortS]
        exact ⟨fun ⟨h1, h2⟩ => ⟨h1, fun hh => h2 ⟨hh, h1⟩⟩, fun ⟨h1, h2⟩ => ⟨h1, fun hh => h2 hh.1⟩⟩
      rw [heq] at hr
      refine ⟨_, _, _, _, rfl, ifEq (fun _ => (kk21 _ _ hr (ho.sl.exm m16)).mono ?_) (fun hh => absurd rfl hh)⟩
      rintro v g17 _ rfl
      exact ⟨_, rfl, fun g18 _ => (vT rfl).symm⟩
  refine fun g20 n20 => ⟨nobody, fun _ _ hh => hh, (k12 [t] (one_tree (h.exm m02) n20)).mono ?_⟩
  rintro v g21 m21 ⟨b, rfl, hb⟩
  have m021 := (m02.trans n20.ex).trans m21
  refine ⟨_, rfl, ifF (fun _ g22 _ => rfl) (fun q => ?_)⟩
  obtain ⟨hsz, hok1⟩ := hb q
  have hs1 : size t ≤ 600 := by simpa [sizeL] using hsz
  refine (kk30 t (by omega) (h.exm m021)).mono ?_
  rintro v g23 m23 rfl
  exact ⟨_, rfl, ifLt (fun _ g24 _ => rfl) (fun q2 => HJ g23 (m021.trans m23) hs1 (hok1 t (by simp)) (by omega))⟩
end Go.Proofs.YtkocjbgdmocmlaaGreatDoor
