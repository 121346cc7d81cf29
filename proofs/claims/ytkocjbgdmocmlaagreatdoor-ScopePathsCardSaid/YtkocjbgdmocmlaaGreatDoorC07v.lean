/- Scope: the reference's free. -/
import Derived.Test.YtkocjbgdmocmlaaGreatDoorC07O
set_option linter.unusedVariables false
namespace Go.Proofs.YtkocjbgdmocmlaaGreatDoor
open Go Go.Vc Go.RowKit Go.Syn

theorem hd_size (hd s : Lab) (h1 : hd.length ≤ 5) (h2 : s.length ≤ 1048576) : (bstr hd).size + (bstr s).size ≤ 9223372036854775807 := by rw [bstr_size, bstr_size]; omega
/-- free, of the reference. -/
theorem k83 : ∀ (t : Sy) (w : Bool) (dep : Nat), walkP t w dep → okT t → ∀ (B : List Lab), Srt B → B.length + 12 * size t ≤ 1000000 → ∀ {na : Option Addr} {nn nc : Nat} {a : Option Addr} {n c : Nat} {ba : Option Addr} {bn bc : Nat} {g : G}, SynI g t na nn nc a n c → SlE strE g ba bn bc B →
    CallsP Tryz.prog 83 #[synV t na nn nc a n c, .slice ba bn bc] g fun v g' => ∃ oa on oc, v = .slice oa on oc ∧ SlE strE g' oa on oc (sortS (freeT t B)) := by
  intro t
  induction t using Tr.ind with
  | h d l ih =>
    intro w dep hwk hok B hB hsz na nn nc a n c ba bn bc g h hb
    refine call83 _ _ _ _ _ _ _ _ _ ba bn bc g _ ?_
    obtain ⟨hw1, hw2, hw3, hw4⟩ := walk_iff.1 hwk
    obtain ⟨hokD, hokL⟩ := okT_iff.1 hok
    have hds : d.s.length ≤ 1048576 := hokD.1
    have hpt : pathOK (Tr.mk d l).dat := own_path hw2
    have hN : SlE strE g na nn nc d.names := h.names
    have hK : SlE synE g a n c l := h.kids
    have hl := hK.len
    have hcp := hK.le
    have hmx := hK.cap
    unfold maxLen at hmx
    have hnl := hN.len
    have hncp := hN.le
    have hnmx := hN.cap
    unfold maxLen at hnmx
    have hbl := hb.len
    have hll := len_sizeL l
    have hse : size (.mk d l) = sizeL l + 1 := rfl
    have hex := extra_le (d := d) hw2
    have hol := own_len d B
    have efree : freeT (.mk d l) B = ownRef d B ++ freeL l d (B ++ extra d) := rfl
    unfold F83
    intro J hJ g31 m31
    -- behind the node's own path
    have HJ : ∀ oa on oc g1, Le g g1 → SlE strE g1 oa on oc (ownRef d B) → J oa on oc g1 := by
      intro oa on oc g1 le1 ho
      refine hJ oa on oc g1 ?_
      have hon := ho.len
      refine ifEq (fun q => ?_) (fun q66 => ?_)
      · -- a sharing: its part is a path
        have q' : d.op = 66 := q
        have hsh := hw3
        change shapeP d l at hsh
        unfold shapeP at hsh
        simp [q'] at hsh
        obtain ⟨s1, s2, s3⟩ := hsh
        obtain ⟨x, rfl⟩ : ∃ x, l = [x] := by
          match l, s1 with
          | [x], _ => exact ⟨x, rfl⟩
        simp only [List.length_singleton] at hl
        have hx2 : x.dat.op = 2 := by have := s2 x (by simp); simpa using this
        have hxk : x.kids = [] := by simpa using s3
        have hxw := walk_iff.1 (hw4 x (by simp [Tr.kids]))
        have hpx : pathOK x.dat := own_path hxw.2.1
        obtain ⟨s, hs⟩ := refers_some hpx (k := 2) (by rw [hx2]; rfl)
        have hex0 : extra d = [] := by unfold extra; rw [if_neg (by omega), if_neg (by omega), if_neg (by omega)]
        have hfx : freeT (.mk d [x]) B = ownRef d B ++ (if s ∈ B then [] else [s]) := by
          rw [efree, hex0, List.append_nil]
          congr 1
          show freeT x B ++ [] = _
          rw [List.append_nil, x.eta, hxk]
          show ownRef x.dat B ++ [] = _
          rw [List.append_nil]
          unfold ownRef
          rw [hs]
        refine ⟨⟨by omega, by omega⟩, rdT (hK.mono le1) 0 rfl rfl (fun na' nn' nc' ka kn kc hx => (k119 x hpx hx).mono ?_)⟩
        rintro v g2 m2 rfl
        rw [hs]
        refine ⟨_, rfl, (k79 B s (hb.mono (le1.trans m2.le)) (by omega)).mono ?_⟩
        rintro v g3 m3 rfl
        refine ⟨_, rfl, ifPn (fun q1 => (k120 (ownRef d B) s (own_srt d B) ((ho.exm m2).exm m3) (by omega)).mono ?_) (fun q1 g6 m6 => ⟨_, _, _, rfl, ?_⟩)⟩
        · rintro v g4 m4 ⟨xa, xl, xc, rfl, hx'⟩
          refine ⟨xa, xl, xc, rfl, fun g5 m5 => ⟨_, _, _, rfl, ?_⟩⟩
          rw [hfx, if_neg q1, ← insS_sortS, sortS_self (own_srt d B)]
          exact hx'.exm m5
        · rw [hfx, if_pos q1, List.append_nil, sortS_self (own_srt d B)]
          exact ((ho.exm m2).exm m3).exm m6
      have q66' : d.op ≠ 66 := q66
      obtain ⟨E1, hE1⟩ : ∃ A, A = (if d.op = 25 ∧ d.s ≠ [] then [hVal ++ d.s] else []) := ⟨_, rfl⟩
      obtain ⟨E2, hE2⟩ : ∃ A, A = (if d.op = 42 then (hVal ++ d.s) :: d.names.map (hVal ++ ·) else []) := ⟨_, rfl⟩
      obtain ⟨E3, hE3⟩ : ∃ A, A = (if d.op = 44 then [hType ++ d.s] else []) := ⟨_, rfl⟩
      have hE : E1 ++ E2 ++ E3 = extra d := by
        rw [hE1, hE2, hE3]
        unfold extra
        by_cases c1 : d.op = 25 ∧ d.s ≠ []
        · rw [if_pos c1, if_neg (by omega), if_neg (by omega), if_pos c1]; rfl
        by_cases c2 : d.op = 42
        · rw [if_neg c1, if_pos c2, if_neg (by omega), if_neg c1, if_pos c2]; simp
        by_cases c3 : d.op = 44
        · rw [if_neg c1, if_neg c2, if_pos c3, if_neg c1, if_neg c2]; rfl
        · rw [if_neg c1, if_neg c2, if_neg c3, if_neg c1, if_neg c2]; rfl
      have hEl : E1.length ≤ 10 ∧ E2.length ≤ 10 := by
        have := congrArg List.length hE
        simp only [List.length_append] at this
        omega
      intro J1 hJ1
      have H1 : ∀ ia im ic g', Le g g' → SlE strE g' oa on oc (ownRef d B) → SlE strE g' ia im ic (sortS (B ++ E1)) → J1 ia im ic g' := by
        intro ia im ic g7 le7 ho7 hi7
        refine hJ1 ia im ic g7 ?_
        intro J2 hJ2
        have H2 : ∀ ia im ic g', Le g g' → SlE strE g' oa on oc (ownRef d B) → SlE strE g' ia im ic (sortS (B ++ E1 ++ E2)) → J2 ia im ic g' := by
          intro ia im ic g8 le8 ho8 hi8
          refine hJ2 ia im ic g8 ?_
          intro J3 hJ3
          have H3 : ∀ ia im ic g', Le g g' → SlE strE g' oa on oc (ownRef d B) → SlE strE g' ia im ic (sortS (B ++ extra d)) → J3 ia im ic g' := by
            intro ia im ic g9 le9 ho9 hi9
            refine hJ3 ia im ic g9 ?_
            refine ⟨fun m oa on oc ia im ic i g' => ∃ j : Nat, i = ((j : Nat) : Int) ∧ j + m = n ∧ SlE strE g' oa on oc (sortS (ownRef d B ++ freeL (l.take j) d (B ++ extra d))) ∧ SlE strE g' ia im ic (sortS (B ++ extra d ++ (l.take j).flatMap (addOf d))),
              ⟨n, 0, rfl, by omega, by simpa [freeL, sortS_self (own_srt d B)] using ho9, by simpa using hi9⟩, ?_⟩
            rintro m oa on oc ia im ic i g10 le ⟨j, rfl, hj, ho, hi⟩
            have le10 := le9.trans le
            have hon := ho.len
            have him := hi.len
            have b1 := sortS_len (ownRef d B ++ freeL (l.take j) d (B ++ extra d))
            have b2 := sortS_len (B ++ extra d ++ (l.take j).flatMap (addOf d))
            have b3 := freeL_le (d := d) (l.take j) (B ++ extra d) (fun x _ B => free_len x B)
            have b4 := adds_le d (l.take j)
            have b5 := sizeL_le l j
            simp only [List.length_append] at b1 b2
            refine ifLt (fun hlt => ⟨⟨by omega, by omega⟩, ?_⟩) (fun hge g20 m20 => ⟨_, _, _, rfl, ?_⟩)
            · have gj := List.getElem?_eq_getElem (show j < l.length by omega)
              generalize l[j] = x at gj
              have hin := List.mem_of_getElem? gj
              have hsx := size_mem hin
              have hst : sizeL (l.take j) + size x ≤ sizeL l := by rw [← sizeL_take gj]; exact sizeL_le l (j + 1)
              have hax := add_le d x
              have hfx := free_len x (B ++ extra d ++ (l.take j).flatMap (addOf d))
              have hokx := hokL x hin
              refine rdT (hK.mono le10) j rfl gj (fun na' nn' nc' ka kn kc hx => (ih x hin _ _ (hw4 x hin) hokx _ (srt_sortS _) (by omega) hx hi).mono ?_)
              rintro v g11 m11 ⟨xa, xl, xc, rfl, hx'⟩
              rw [free_congr x (B' := B ++ extra d ++ (l.take j).flatMap (addOf d)) (fun _ => mem_sortS)] at hx'
              have hxl := hx'.len
              have b6 := sortS_len (freeT x (B ++ extra d ++ (l.take j).flatMap (addOf d)))
              refine ⟨xa, xl, xc, rfl, (k84 _ _ (srt_sortS _) (ho.exm m11) hx' (by omega)).mono ?_⟩
              rintro v g12 m12 ⟨ya, yl, yc, rfl, hy⟩
              rw [sort_app2, List.append_assoc, ← freeL_take gj] at hy
              refine ⟨ya, yl, yc, rfl, ?_⟩
              intro J4 hJ4
              have m1012 := m11.trans m12
              have le12 := le10.trans m1012.le
              have step : ∀ (pa : Option Addr) (pn pc : Nat) (g' : G), Ex g12 g' → SlE strE g' pa pn pc (sortS (B ++ extra d ++ (l.take (j + 1)).flatMap (addOf d))) →
                  InI64 (((j : Nat) : Int) + 1) ∧ (∃ m_1 : Nat, m_1 < m ∧ ∃ j_1 : Nat, ((j : Nat) : Int) + 1 = ((j_1 : Nat) : Int) ∧ j_1 + m_1 = n ∧ SlE strE g' ya yl yc (sortS (ownRef d B ++ freeL (l.take j_1) d (B ++ extra d))) ∧ SlE strE g' pa pn pc (sortS (B ++ extra d ++ (l.take j_1).flatMap (addOf d)))) :=
                fun pa pn pc g' mm hp => ⟨i64 (by omega) (by omega), m - 1, by omega, j + 1, by omega, by omega, hy.exm mm, hp⟩
              have H4 : ∀ (pa : Option Addr) (pn pc : Nat) (g13 : G), Ex g12 g13 → SlE strE g13 pa pn pc (sortS (B ++ extra d ++ (l.take j).flatMap (addOf d) ++ if d.op ∈ [30, 31, 71, 81, 87] then bindsT x else [])) → J4 pa pn pc g13 := by
                intro pa pn pc g13 m13 hp
                refine hJ4 pa pn pc g13 ?_
                intro J5 hJ5
                refine oneOf [83, 73] (hJ5 _ g13 ?_)
                refine ifP (fun q => ?_) (fun q => step pa pn pc g13 m13 ?_)
                · have q2 : d.op ∈ [83, 73] := q
                  have q' : d.op = 83 ∨ d.op = 73 := by simpa using q2
                  have hq : ¬ d.op ∈ [30, 31, 71, 81, 87] := by simp only [List.mem_cons, List.not_mem_nil, or_false]; omega
                  rw [if_neg hq, List.append_nil] at hp
                  refine ⟨hd_size hMod d.s (by decide) hds, fun g15 n15 => ?_⟩
                  rw [show bs [109, 111, 100, 46] = bstr hMod from rfl, bstr_cat] at n15
                  refine (mrg1 _ _ hp (by simp only [List.length_append]; omega) n15).mono ?_
                  rintro v g16 m16 ⟨za, zl, zc, rfl, hz⟩
                  refine ⟨za, zl, zc, rfl, step za zl zc g16 (m13.trans (n15.ex.trans m16)) ?_⟩
                  rw [add_take gj, ← List.append_assoc]
                  have e : addOf d x = [hMod ++ d.s] := by
                    unfold addOf
                    rw [if_neg hq, if_pos (show d.op ∈ [73, 83] by simp only [List.mem_cons, List.not_mem_nil, or_false]; omega)]
                  rw [e]
                  exact hz
                · have q2 : ¬ d.op ∈ [83, 73] := q
                  have q' : ¬ (d.op = 83 ∨ d.op = 73) := by simpa using q2
                  rw [add_take gj, ← List.append_assoc]
                  have e : addOf d x = if d.op ∈ [30, 31, 71, 81, 87] then bindsT x else [] := by
                    unfold addOf
                    split
                    · rfl
                    · rw [if_neg (by simp only [List.mem_cons, List.not_mem_nil, or_false]; omega)]
                  rw [e]
                  exact hp
              intro J6 hJ6
              refine oneOf [30, 31, 81, 87, 71] (hJ6 _ g12 ?_)
              have hmem : d.op ∈ [30, 31, 81, 87, 71] ↔ d.op ∈ [30, 31, 71, 81, 87] := by simp only [List.mem_cons, List.not_mem_nil, or_false]; omega
              refine ifP (fun q => ⟨⟨by omega, by omega⟩, rdT (hK.mono le12) j rfl gj (fun na' nn' nc' ka kn kc hx2 => (k68 x (by omega) hokx hx2).mono ?_)⟩) (fun q => H4 ia im ic g12 (Ex.refl _) ?_)
              · rintro v g18 m18 ⟨za, zl, zc, rfl, hz⟩
                have hzl := hz.len
                have hbx := binds_le x
                refine ⟨za, zl, zc, rfl, (k84 _ _ (srt_sortS _) ((hi.exm m1012).exm m18) hz (by omega)).mono ?_⟩
                rintro v g19 m19 ⟨pa, pl, pc, rfl, hp⟩
                refine ⟨pa, pl, pc, rfl, H4 pa pl pc g19 (m18.trans m19) ?_⟩
                rw [if_pos (hmem.1 q), ← sort_app]
                exact hp
              · rw [if_neg (fun hh => q (hmem.2 hh)), List.append_nil]
                exact hi.exm m1012
            · rw [take_all (by omega), ← efree] at ho
              exact ho.exm m20
          refine ifEq (fun q => ?_) (fun q => H3 ia im ic g8 le8 ho8 ?_)
          · rw [if_pos (show d.op = 44 from q)] at hE3
            refine ⟨hd_size hType d.s (by decide) hds, fun g21 n21 => ?_⟩
            rw [show bs [116, 121, 112, 101, 46] = bstr hType from rfl, show (bstr (Tr.mk d l).dat.s) = bstr d.s from rfl, bstr_cat] at n21
            refine (mrg1 _ _ hi8 (by simp only [List.length_append]; omega) n21).mono ?_
            rintro v g22 m22 ⟨za, zl, zc, rfl, hz⟩
            refine ⟨za, zl, zc, rfl, H3 za zl zc g22 (le8.trans (n21.ex.trans m22).le) (ho8.exm (n21.ex.trans m22)) ?_⟩
            rw [← hE, hE3, ← List.append_assoc, ← List.append_assoc]
            exact hz
          · rw [if_neg (show ¬ d.op = 44 from q)] at hE3
            rw [← hE, hE3, List.append_nil, ← List.append_assoc]
            exact hi8
        refine ifEq (fun q => ?_) (fun q => H2 ia im ic g7 le7 ho7 ?_)
        · rw [if_pos (show d.op = 42 from q)] at hE2
          obtain ⟨hn9, hnlow⟩ := names42 (d := d) hw2 q
          refine ⟨hd_size hVal d.s (by decide) hds, fun g23 n23 => ?_⟩
          rw [show bs [118, 97, 108, 46] = bstr hVal from rfl, show (bstr (Tr.mk d l).dat.s) = bstr d.s from rfl, bstr_cat] at n23
          refine (mrg1 _ _ hi7 (by simp only [List.length_append]; omega) n23).mono ?_
          rintro v g24 m24 ⟨za, zl, zc, rfl, hz⟩
          refine ⟨za, zl, zc, rfl, ?_⟩
          have m724 := n23.ex.trans m24
          refine ⟨fun m ia im ic i g' => ∃ j : Nat, i = ((j : Nat) : Int) ∧ j + m = nn ∧ SlE strE g' ia im ic (sortS (B ++ E1 ++ (hVal ++ d.s) :: (d.names.take j).map (hVal ++ ·))), ⟨nn, 0, rfl, by omega, by simpa using hz⟩, ?_⟩
          rintro m pa pn pc i g25 le ⟨j, rfl, hj, hp⟩
          have le25 := (le7.trans m724.le).trans le
          refine ifLt (fun hlt => ⟨⟨by omega, by omega⟩, ?_⟩) (fun hge => H2 pa pn pc g25 le25 (ho7.mono (m724.le.trans le)) ?_)
          · have gj := List.getElem?_eq_getElem (show j < d.names.length by omega)
            generalize d.names[j] = x at gj
            have hx24 := (hnlow x (List.mem_of_getElem? gj)).1.2.1
            refine rdS (hN.mono le25) j rfl gj ⟨hd_size hVal x (by decide) (by omega), fun g26 n26 => ?_⟩
            rw [show bs [118, 97, 108, 46] = bstr hVal from rfl, bstr_cat] at n26
            refine (mrg1 _ _ hp (by simp only [List.length_append, List.length_cons, List.length_map, List.length_take]; omega) n26).mono ?_
            rintro v g27 m27 ⟨ya, yl, yc, rfl, hy⟩
            refine ⟨ya, yl, yc, rfl, i64 (by omega) (by omega), m - 1, by omega, j + 1, by omega, by omega, ?_⟩
            rw [List.take_add_one, gj]
            simpa [List.append_assoc] using hy
          · rw [take_all (by omega), ← hE2] at hp
            exact hp
        · rw [if_neg (show ¬ d.op = 42 from q)] at hE2
          rw [hE2, List.append_nil]
          exact hi7
      intro J7 hJ7
      have H7 : J7 (tf (d.op = 25 ∧ d.s ≠ [])) g1 := by
        refine hJ7 _ g1 ?_
        refine ifP (fun q => ?_) (fun q => H1 ba bn bc g1 le1 ho ?_)
        · rw [if_pos q] at hE1
          refine ⟨hd_size hVal d.s (by decide) hds, fun g29 n29 => ?_⟩
          rw [show bs [118, 97, 108, 46] = bstr hVal from rfl, show (bstr (Tr.mk d l).dat.s) = bstr d.s from rfl, bstr_cat] at n29
          refine (mrg1 B _ (by rw [sortS_self hB]; exact hb.mono le1) (by omega) n29).mono ?_
          rintro v g30 m30 ⟨za, zl, zc, rfl, hz⟩
          refine ⟨za, zl, zc, rfl, H1 za zl zc g30 (le1.trans (n29.ex.trans m30).le) (ho.exm (n29.ex.trans m30)) ?_⟩
          rw [hE1]
          exact hz
        · rw [if_neg q] at hE1
          rw [hE1, List.append_nil, sortS_self hB]
          exact hb.mono le1
      refine ifEq (fun q => ?_) (fun q => ?_)
      · rw [show bs [] = bstr [] from rfl, show (bstr (Tr.mk d l).dat.s) = bstr d.s from rfl, strEq_bstr, tf_not]
        rwa [tf_iff (q := ¬ d.s = []) ⟨fun hh => hh.2, fun hh => ⟨q, hh⟩⟩] at H7
      · rwa [tf_no (fun hh => q hh.1)] at H7
    refine (k119 (.mk d l) hpt (h.exm m31)).mono ?_
    rintro v g32 m32 rfl
    refine ⟨_, rfl, ?_⟩
    have m032 := m31.trans m32
    rw [show bs [] = bstr [] from rfl, strEq_bstr]
    cases hr : refersO d with
    | none =>
      rw [show refersO (Tr.mk d l).dat = refersO d from rfl, hr]
      refine ifPn (fun q => absurd rfl q) (fun q => HJ none 0 0 g32 m032.le ?_)
      have : ownRef d B = [] := by unfold ownRef; rw [hr]
      rw [this]
      exact SlE.zero _
    | some s =>
      rw [show refersO (Tr.mk d l).dat = refersO d from rfl, hr]
      refine ifPn (fun q => (k79 B s (hb.exm m032) (by omega)).mono ?_) (fun q => absurd q (refers_ne hr))
      rintro v g33 m33 rfl
      refine ⟨_, rfl, ifPn (fun q1 => (k120 [] s List.Pairwise.nil (SlE.zero _) (by omega)).mono ?_) (fun q1 => HJ none 0 0 g33 (m032.trans m33).le ?_)⟩
      · rintro v g34 m34 ⟨xa, xl, xc, rfl, hx⟩
        refine ⟨xa, xl, xc, rfl, HJ xa xl xc g34 ((m032.trans m33).trans m34).le ?_⟩
        have : ownRef d B = [s] := by unfold ownRef; rw [hr]; exact if_neg q1
        rw [this]
        exact hx
      · have : ownRef d B = [] := by unfold ownRef; rw [hr]; exact if_pos q1
        rw [this]
        exact SlE.zero _
/-- Free, of the reference. -/
theorem k36 (t : Sy) (w : Bool) (dep : Nat) (hw : walkP t w dep) (hok : okT t) (hsz : size t ≤ 80000) {na : Option Addr} {nn nc : Nat} {a : Option Addr} {n c : Nat} {g : G} (h : SynI g t na nn nc a n c) :
    CallsP Tryz.prog 36 #[synV t na nn nc a n c] g fun v g' => ∃ oa on oc, v = .slice oa on oc ∧ SlE strE g' oa on oc (sortS (freeT t [])) := by
  refine call36 _ _ _ _ _ _ _ _ _ g _ ?_
  unfold F36
  refine fun g1 m1 => (k83 t w dep hw hok [] List.Pairwise.nil (by simp; omega) (h.exm m1) (SlE.zero _)).mono ?_
  rintro v g2 _ ⟨oa, on, oc, rfl, ho⟩
  exact ⟨oa, on, oc, rfl, fun g3 m3 => ⟨_, _, _, rfl, ho.exm m3⟩⟩
end Go.Proofs.YtkocjbgdmocmlaaGreatDoor
