/- Joined texts. -/
import Derived.Test.YtkocjbgdmocmlaaGreatDoorC07W
import Derived.Test.YtkocjbgdmocmlaaGreatDoorSchk
/- Scope: the first error, by the reference. -/
set_option linter.unusedVariables false
namespace Go.Proofs.YtkocjbgdmocmlaaGreatDoor
open Go Go.Vc Go.RowKit Go.Syn

end Go.Proofs.YtkocjbgdmocmlaaGreatDoor
/- Scope: the first error: Check, and the reference's. -/
set_option linter.unusedVariables false
namespace Go.Proofs.YtkocjbgdmocmlaaGreatDoor
open Go Go.Vc Go.RowKit Go.Syn

/-- What Check returns. -/
noncomputable def checkN (cat : Int) (t : Sy) : Int := @ite _ (validP cat t) (Classical.propDecidable _) (chk0 t true fun _ => False) 1
/-- variables. -/
theorem k110 : ∀ (t : Sy), size t ≤ 20000 → ∀ {na : Option Addr} {nn nc : Nat} {a : Option Addr} {n c : Nat} {g : G}, SynI g t na nn nc a n c →
    CallsP Tryz.prog 110 #[synV t na nn nc a n c] g fun v g' => ∃ oa on oc, v = .slice oa on oc ∧ SlE strE g' oa on oc (varsT t) := by
  intro t
  induction t using Tr.ind with
  | h d l ih =>
    intro hsz na nn nc a n c g h
    refine P98.call110 _ _ _ _ _ _ _ _ _ g _ ?_
    have hK : SlE synE g a n c l := h.kids
    have hl := hK.len
    have hcp := hK.le
    have hmx := hK.cap
    unfold maxLen at hmx
    have hse : size (.mk d l) = sizeL l + 1 := rfl
    have hv : varsT (.mk d l) = (if d.op = 1 then [d.s] else []) ++ varsL l := rfl
    unfold P98.F110
    intro J hJ
    have HJ : ∀ oa on oc g1, Le g g1 → OwnE strE g1 g.w.heap.size 9 oa on oc (if d.op = 1 then [d.s] else []) → J oa on oc g1 := by
      intro oa on oc g1 le1 ho1
      refine hJ oa on oc g1 ?_
      refine ⟨fun m oa on oc i g' => ∃ j : Nat, i = ((j : Nat) : Int) ∧ j + m = n ∧ OwnE strE g' g.w.heap.size 9 oa on oc ((if d.op = 1 then [d.s] else []) ++ varsL (l.take j)), ⟨n, 0, rfl, by omega, by simpa [varsL] using ho1⟩, ?_⟩
      rintro m pa pn pc i g2 le ⟨j, rfl, hj, ho⟩
      have le2 := le1.trans le
      have hol := ho.len
      have hvl := varsL_len (l.take j) (fun x _ => vars_len x)
      have hsl := sizeL_le l j
      have h1 : (if d.op = 1 then [d.s] else []).length ≤ 1 := by split <;> simp
      simp only [List.length_append] at hol
      refine ifLt (fun hlt => ⟨⟨by omega, by omega⟩, ?_⟩) (fun hge g6 m6 => ⟨_, _, _, rfl, ?_⟩)
      · have gj := List.getElem?_eq_getElem (show j < l.length by omega)
        generalize l[j] = x at gj
        have hin := List.mem_of_getElem? gj
        have hsx := size_mem hin
        refine rdT (hK.mono le2) j rfl gj (fun na' nn' nc' ka kn kc hx g3 m3 => (ih x hin (by omega) (hx.exm m3)).mono ?_)
        rintro v g4 m4 ⟨xa, xl, xc, rfl, hx2⟩
        have hxl := hx2.len
        have hbx := vars_len x
        have m34 := m3.trans m4
        obtain ⟨a', c', w', hr, g5, hw, hs, ho5, _, _⟩ := (ho.exm m34).app E22 22 (Nat.le_trans le2.size m34.size) hx2 (by omega) (by unfold maxLen; omega)
        refine ⟨xa, xl, xc, rfl, a', _, c', w', hr, g5, hw, hs, i64 (by omega) (by omega), m - 1, by omega, j + 1, by omega, by omega, ?_⟩
        rw [varsL_take gj, ← List.append_assoc]
        exact ho5
      · rw [take_all (by omega), ← hv] at ho
        exact ho.sl.exm m6
    refine ifEq (fun q g7 m7 g8 n8 => ?_) (fun q g10 m10 => HJ none 0 0 g10 m10.le (by rw [if_neg (show ¬ d.op = 1 from q)]; exact OwnE.nil _ _ _))
    obtain ⟨a', c', w', hr, g9, hw, hs, ho9, _, _⟩ := (OwnE.nil g7 g.w.heap.size 9 : OwnE strE g7 g.w.heap.size 9 none 0 0 []).app1 (P := Tryz.prog) E22 22 m7.size n8 (x := d.s) rfl (by omega) (by unfold maxLen; omega)
    refine ⟨a', _, c', w', hr, g9, hw, hs, HJ a' _ c' g9 ((m7.trans n8.ex).le.trans hs.le) ?_⟩
    rw [if_pos (show d.op = 1 from q)]
    exact ho9
/-- check. -/
theorem k66 : ∀ (t : Sy) (w : Bool) (dep : Nat), walkP t w dep → size t ≤ 20000 → okT t → ∀ (root : Bool) (V : List Lab), V.length ≤ 1048576 → ∀ {na : Option Addr} {nn nc : Nat} {a : Option Addr} {n c : Nat} {va : Option Addr} {vn vc : Nat} {g : G}, TabG g → SynI g t na nn nc a n c → SlE strE g va vn vc V →
    CallsP Tryz.prog 66 #[synV t na nn nc a n c, .bool root, .slice va vn vc] g fun v _ => v = .int .i64 (chk0 t root (· ∈ V)) := by
  intro t
  induction t using Tr.ind with
  | h d l ih =>
    intro w dep hwk hsz hok root V hV na nn nc a n c va vn vc g ht h hv
    refine P98.call66 _ _ _ _ _ _ _ _ _ root va vn vc g _ ?_
    obtain ⟨hw1, hw2, hw3, hw4⟩ := walk_iff.1 hwk
    obtain ⟨hokD, hokL⟩ := okT_iff.1 hok
    have hsh := hw3
    change shapeP d l at hsh
    have hN : SlE strE g na nn nc d.names := h.names
    have hK : SlE synE g a n c l := h.kids
    have hl := hK.len
    have hcp := hK.le
    have hmx := hK.cap
    unfold maxLen at hmx
    have hnl := hN.len
    have hnl2 : d.names.length ≤ 1048576 := hokD.2
    have hvl := hv.len
    have hll := len_sizeL l
    have hse : size (.mk d l) = sizeL l + 1 := rfl
    unfold P98.F66
    intro J hJ
    -- the result
    obtain ⟨badR, hbadR⟩ : ∃ b : Prop, b = (badP d l ∨ (root = true ∧ catN d.op = 2 ∧ ¬ (bindsT (.mk d l)).Nodup)) := ⟨_, rfl⟩
    have hres : ¬ badR → chk0 (.mk d l) root (· ∈ V) = @ite _ (d.op = 1 ∧ ¬ d.s ∈ V) (Classical.propDecidable _) 10 (chkL l (nextV d (· ∈ V))) := by
      intro hb
      rw [hbadR] at hb
      unfold chk0
      rw [if_neg (fun hh => hb (.inr hh : badP d l ∨ (root = true ∧ catN (Tr.mk d l).dat.op = 2 ∧ ¬ (bindsT (.mk d l)).Nodup))), chk_mk, if_neg (fun hh => hb (.inl hh))]
    have hbad : badR → chk0 (.mk d l) root (· ∈ V) = 9 := by
      intro hb
      rw [hbadR] at hb
      unfold chk0
      by_cases q : root = true ∧ catN (Tr.mk d l).dat.op = 2 ∧ ¬ (bindsT (.mk d l)).Nodup
      · rw [if_pos q]
      · rw [if_neg q, chk_mk, if_pos (hb.resolve_right q)]
    have HJ : ∀ b g1, Ex g g1 → (b = true ↔ badR) → J b g1 := by
      intro b g1 m1 hb
      refine hJ b g1 ?_
      refine ifT (fun e g2 m2 => ?_) (fun e => ?_)
      · show Value.int .i64 9 = _
        rw [hbad (hb.1 e)]
      have hnb : ¬ badR := fun hh => by rw [hb.2 hh] at e; cases e
      have hr := hres hnb
      intro J1 hJ1
      have H1 : ∀ g3, Ex g g3 → ¬ (d.op = 1 ∧ ¬ d.s ∈ V) → J1 g3 := by
        intro g3 m3 hn1
        rw [if_neg hn1] at hr
        refine hJ1 g3 ?_
        intro J2 hJ2
        have H2 : ∀ (V' : List Lab) (pa : Option Addr) (pn pc : Nat) (g4 : G), Le g g4 → V'.length ≤ 1048576 → SlE strE g4 pa pn pc V' → (∀ x ∈ l, ∀ s ∈ varsT x, (nextV d (· ∈ V) s ↔ s ∈ V')) → J2 pa pn pc g4 := by
          intro V' pa pn pc g4 le4 hV' hp hnx
          refine hJ2 pa pn pc g4 ?_
          refine ⟨fun m i g' => ∃ j : Nat, i = ((j : Nat) : Int) ∧ j + m = n ∧ chkL (l.take j) (nextV d (· ∈ V)) = 0, ⟨n, 0, rfl, by omega, rfl⟩, ?_⟩
          rintro m i g5 le ⟨j, rfl, hj, h0⟩
          have le5 := le4.trans le
          refine ifLt (fun hlt => ⟨⟨by omega, by omega⟩, ?_⟩) (fun hge g9 m9 => ?_)
          · have gj := List.getElem?_eq_getElem (show j < l.length by omega)
            generalize l[j] = x at gj
            have hin := List.mem_of_getElem? gj
            have hsx := size_mem hin
            obtain ⟨t1, t2⟩ := chkL_take gj h0
            have hcg := chk_congr x (hnx x hin)
            have call : ∀ (na' : Option Addr) (nn' nc' : Nat) (ka : Option Addr) (kn kc : Nat) (g6 : G), Ex g5 g6 → SynI g5 x na' nn' nc' ka kn kc → CallsP Tryz.prog 66 #[synV x na' nn' nc' ka kn kc, .bool false, .slice pa pn pc] g6 fun v _ => v = .int .i64 (chk0 x false (· ∈ V')) := by
              intro na' nn' nc' ka kn kc g6 m6 hx
              exact ih x hin _ _ (hw4 x hin) (by omega) (hokL x hin) false V' hV' ((ht.mono le5).exm m6) (hx.exm m6) ((hp.mono le).exm m6)
            refine rdT (hK.mono le5) j rfl gj (fun na' nn' nc' ka kn kc hx g6 m6 => (call na' nn' nc' ka kn kc g6 m6 hx).mono ?_)
            rintro v g7 m7 rfl
            rw [chk0_no, ← hcg]
            refine ⟨_, rfl, ifNe (fun q g8 m8 => ?_) (fun q => ⟨i64 (by omega) (by omega), m - 1, by omega, j + 1, by omega, by omega, by rw [t1]; exact q⟩)⟩
            rw [hr, t2 q]
          · rw [take_all (by omega)] at h0
            rw [hr, h0]
        intro J3 hJ3
        have hform : ∀ x ∈ l, ∀ s ∈ varsT x, s ≠ [] := fun x hx s hs e => by
          have := (vars_form x (hw4 x hx) s hs).1
          rw [e] at this
          simp at this
        refine oneOf [43, 44] (hJ3 _ g3 ?_)
        refine ifP (fun q g11 n11 => ?_) (fun q => ?_)
        · have q2 : d.op ∈ [43, 44] := q
          have q3 : d.op = 43 ∨ d.op = 44 := by simpa using q2
          have hn4 : d.names.length ≤ 4 := by
            have hb := hw2.2
            unfold ownB at hb
            rcases q3 with q3 | q3 <;> simp [q3, Tr.dat] at hb <;> exact hb.2.2.2
          obtain ⟨a', c', w', hr2, g12, hw, hs, ho12, _, _⟩ := (one_own (s := []) n11 m3.size (Ex.refl _)).app (P := Tryz.prog) E22 22 (Nat.le_trans m3.size n11.ex.size) ((hN.exm m3).exm n11.ex) (by omega) (by unfold maxLen; omega)
          refine ⟨a', _, c', w', hr2, g12, hw, hs, H2 _ a' _ c' g12 (((m3.trans n11.ex).le).trans hs.le) (by simp; omega) ho12.sl (fun x hx s hs2 => ?_)⟩
          unfold nextV
          rw [if_pos q3]
          simp [hform x hx s hs2]
        · have q2 : ¬ d.op ∈ [43, 44] := q
          have q3 : ¬ (d.op = 43 ∨ d.op = 44) := by simpa using q2
          refine ifEq (fun q4 g13 n13 => ?_) (fun q4 => H2 V va vn vc g3 m3.le hV (hv.exm m3) (fun x hx s _ => ?_))
          · have q4' : d.op = 61 := q4
            have hl1 : l.length = 1 := by
              unfold shapeP at hsh
              simp [q4', partsP] at hsh
              exact hsh.1
            obtain ⟨x, rfl⟩ : ∃ x, l = [x] := by
              match l, hl1 with
              | [x], _ => exact ⟨x, rfl⟩
            have hsx : sizeL [x] = size x := by simp [sizeL]
            simp only [List.length_singleton] at hl
            have m313 := m3.trans n13.ex
            refine ⟨⟨by omega, by omega⟩, rdT (hK.exm m313) 0 rfl rfl (fun na' nn' nc' ka kn kc hx => (k110 x (by omega) hx).mono ?_)⟩
            rintro v g14 m14 ⟨xa, xl, xc, rfl, hx2⟩
            have hxl := hx2.len
            have hbx := vars_len x
            obtain ⟨a', c', w', hr2, g15, hw, hs, ho15, _, _⟩ := (one_own (s := []) n13 m3.size m14).app (P := Tryz.prog) E22 22 (Nat.le_trans m313.size m14.size) hx2 (by omega) (by unfold maxLen; omega)
            refine ⟨xa, xl, xc, rfl, a', _, c', w', hr2, g15, hw, hs, H2 _ a' _ c' g15 (((m313.trans m14).le).trans hs.le) (by simp; omega) ho15.sl (fun y hy s hs2 => ?_)⟩
            cases List.mem_singleton.1 hy
            unfold nextV
            rw [if_neg q3, if_pos q4']
            simp [hs2]
          · have q4' : ¬ d.op = 61 := q4
            unfold nextV
            rw [if_neg q3, if_neg q4']
      have none_nil : va.isNone = true → V = [] := fun e => by
        have ha : va = none := by cases va with | none => rfl | some _ => cases e
        have hc0 := hv.nil ha
        have hle := hv.le
        exact List.eq_nil_of_length_eq_zero (by omega)
      have err : ∀ (g' : G), d.op = 1 → ¬ d.s ∈ V → (fun (v : Value) (_ : G) => v = .int .i64 (chk0 (.mk d l) root (· ∈ V))) (.int .i64 10) g' := fun g' e1 e2 => by
        show _ = _
        rw [hr, if_pos ⟨e1, e2⟩]
      refine ifEq (fun q => ?_) (fun q => ifEq (fun q2 => absurd q2 q) (fun _ => H1 g1 m1 (fun hh => q hh.1)))
      have q' : d.op = 1 := q
      refine ifF (fun e => ?_) (fun e => ?_)
      · refine (kk19 V d.s (hv.exm m1) (by omega)).mono ?_
        rintro v g16 m16 rfl
        refine ⟨_, rfl, ifPn (fun q2 g17 m17 => err g17 q' q2) (fun q2 => ifEq (fun _ => ifT (fun e2 => by rw [e2] at e; cases e) (fun _ => H1 g16 (m1.trans m16) (fun hh => hh.2 q2))) (fun q3 => absurd q q3))⟩
      · refine ifEq (fun _ => ifT (fun e2 g19 m19 => err g19 q' (by rw [none_nil e2]; simp)) (fun e2 => by rw [e2] at e; cases e)) (fun q3 => absurd q q3)
    -- the first test
    have root_no : ∀ k : Int, d.op = k → catN k ≠ 2 → (badR ↔ badP d l) := fun k e hk => by
      rw [hbadR]
      constructor
      · rintro (hh | ⟨_, hh, _⟩)
        · exact hh
        · rw [e] at hh; exact absurd hh hk
      · exact .inl
    refine ifEq (fun q => ?_) (fun q => ifEq (fun q2 g24 m24 => ?_) (fun q2 => ifEq (fun q3 => ?_) (fun q3 => ?_)))
    · have q' : d.op = 30 := q
      have hl2 : l.length = 2 := by
        unfold shapeP at hsh
        simp [q', partsP] at hsh
        exact hsh.1
      have gj := List.getElem?_eq_getElem (show 0 < l.length by omega)
      have hgd : l.getD 0 noSy = l[0]'(by omega) := by rw [List.getD_eq_getElem?_getD, gj]; rfl
      generalize l[0] = x at gj hgd
      have hin := List.mem_of_getElem? gj
      have hsx := size_mem hin
      have hiff : badR ↔ ¬ (bindsT x).Nodup := by
        rw [root_no 30 q' (by decide)]
        unfold badP
        rw [hgd]
        constructor
        · rintro (⟨_, e⟩ | ⟨e, _⟩ | ⟨e, _⟩)
          · exact e
          · omega
          · omega
        · exact fun e => .inl ⟨q', e⟩
      refine ⟨⟨by omega, by omega⟩, rdA hK 0 rfl gj (fun ad na' nn' nc' ka kn kc hx hA g21 m21 => ?_)⟩
      obtain ⟨c0, c1, c2, c3, c4⟩ := hA g21 m21.le
      refine ⟨_, _, _, _, _, _, _, _, _, c0, c1, c2, c3, c4, (k61 x (by omega) _ _ (hw4 x hin) (fun _ => decide_eq_false (show ¬ d.op = 74 by omega)) (ht.exm m21) (hx.exm m21)).mono ?_⟩
      rintro v g22 m22 ⟨xa, xl, xc, rfl, hx2⟩
      have hxl := hx2.len
      have hbx := binds_le x
      refine ⟨_, _, _, rfl, (k109 hx2.sl (by omega)).mono ?_⟩
      rintro v g23 m23 rfl
      exact ⟨_, rfl, HJ _ g23 ((m21.trans m22).trans m23) (by rw [tf_true]; exact hiff.symm)⟩
    · have q2' : d.op = 42 := q2
      refine (k109 (hN.exm m24) (by omega)).mono ?_
      rintro v g25 m25 rfl
      refine ⟨_, rfl, HJ _ g25 (m24.trans m25) ?_⟩
      rw [tf_true, root_no 42 q2' (by decide)]
      unfold badP
      constructor
      · exact fun e => .inr (.inl ⟨q2', e⟩)
      · rintro (⟨e, _⟩ | ⟨_, e⟩ | ⟨e, _⟩)
        · omega
        · exact e
        · omega
    · have q' : d.op = 71 := q3
      refine ⟨fun m oa on oc i g' => ∃ j : Nat, i = ((j : Nat) : Int) ∧ j + m = n ∧ Ex g g' ∧ OwnE strE g' g.w.heap.size 9 oa on oc (bindsL (l.take j)), fun g26 m26 => ⟨n, 0, rfl, by omega, m26, by simpa [bindsL] using OwnE.nil _ _ _⟩, ?_⟩
      rintro m oa on oc i g27 le ⟨j, rfl, hj, m27, ho⟩
      have hol := ho.len
      have hbl := bindsL_le (l.take j) (fun x _ => binds_le x)
      have hsl := sizeL_le l j
      refine ifLt (fun hlt => ⟨⟨by omega, by omega⟩, ?_⟩) (fun hge => ?_)
      · have gj := List.getElem?_eq_getElem (show j < l.length by omega)
        generalize l[j] = x at gj
        have hin := List.mem_of_getElem? gj
        have hsx := size_mem hin
        refine rdT (hK.exm m27) j rfl gj (fun na' nn' nc' ka kn kc hx g28 m28 => (k61 x (by omega) _ _ (hw4 x hin) (fun _ => decide_eq_false (show ¬ d.op = 74 by omega)) ((ht.exm m27).exm m28) (hx.exm m28)).mono ?_)
        rintro v g29 m29 ⟨xa, xl, xc, rfl, hx2⟩
        have hxl := hx2.len
        have hbx := binds_le x
        have m2729 := m28.trans m29
        obtain ⟨a', c', w', hr, g30, hw, hs, ho30, hs30, _⟩ := (ho.exm m2729).app E22 22 (Nat.le_trans m27.size m2729.size) hx2.sl (by omega) (by unfold maxLen; omega)
        have m30 : Ex g g30 := by
          have hb1 : But (blkOf oa) g29 g30 := hs30.but (Nat.le_refl _)
          exact (((m27.trans m2729).but (blkOf oa)).trans hb1).ex (fun b hb _ => ho.ne hb)
        refine ⟨xa, xl, xc, rfl, a', _, c', w', hr, g30, hw, hs, i64 (by omega) (by omega), m - 1, by omega, j + 1, by omega, by omega, m30, ?_⟩
        rw [bindsL_take gj]
        exact ho30
      · rw [take_all (by omega)] at ho
        refine (k109 ho.sl (by omega)).mono ?_
        rintro v g31 m31 rfl
        refine ⟨_, rfl, HJ _ g31 (m27.trans m31) ?_⟩
        rw [tf_true, root_no 71 q' (by decide)]
        unfold badP
        constructor
        · exact fun e => .inr (.inr ⟨q', e⟩)
        · rintro (⟨e, _⟩ | ⟨e, _⟩ | ⟨_, e⟩)
          · omega
          · omega
          · exact e
    · have nb : ¬ badP d l := by
        rintro (⟨e, _⟩ | ⟨e, _⟩ | ⟨e, _⟩)
        · exact q e
        · exact q2 e
        · exact q3 e
      refine ifT (fun er g32 m32 => (kk60 d.op g32).mono ?_) (fun er g36 m36 => HJ false g36 m36 ⟨fun e => (by cases e), fun e => ?_⟩)
      · rintro v g33 m33 rfl
        refine ⟨_, rfl, ifEq (fun q4 => ?_) (fun q4 => HJ false g33 (m32.trans m33) ⟨fun e => (by cases e), fun e => ?_⟩)⟩
        · have hne : (Tr.mk d l).dat.op = 43 → w = false := fun e => by
            rw [show d.op = 43 from e] at q4
            exact absurd q4 (by decide)
          refine (k61 (.mk d l) (by omega) w dep hwk hne (ht.exm (m32.trans m33)) (h.exm (m32.trans m33))).mono ?_
          rintro v g34 m34 ⟨xa, xl, xc, rfl, hx2⟩
          have hxl := hx2.len
          have hbx := binds_le (.mk d l)
          refine ⟨_, _, _, rfl, (k109 hx2.sl (by omega)).mono ?_⟩
          rintro v g35 m35 rfl
          refine ⟨_, rfl, HJ _ g35 (((m32.trans m33).trans m34).trans m35) ?_⟩
          rw [tf_true, hbadR]
          constructor
          · exact fun e => .inr ⟨er, q4, e⟩
          · rintro (hh | ⟨_, _, hh⟩)
            · exact absurd hh nb
            · exact hh
        · rw [hbadR] at e
          rcases e with hh | ⟨_, hh, _⟩
          · exact absurd hh nb
          · exact absurd hh q4
      · rw [hbadR] at e
        rcases e with hh | ⟨hh, _⟩
        · exact absurd hh nb
        · rw [er] at hh; cases hh
/-- Check. -/
theorem k23 (cat : Int) (t : Sy) (hok : okT t) (hsz : size t ≤ 20000) {na : Option Addr} {nn nc : Nat} {a : Option Addr} {n c : Nat} {g : G} (ht : TabG g) (h : SynI g t na nn nc a n c) :
    CallsP Tryz.prog 23 #[.int .i64 cat, synV t na nn nc a n c] g fun v _ => v = .int .i64 (checkN cat t) := by
  refine P98.call23 _ _ _ _ _ _ _ _ _ _ g _ ?_
  unfold P98.F23 checkN
  refine fun g1 m1 => (kk58 cat t hok hsz (ht.exm m1) (h.exm m1)).mono ?_
  rintro v g2 m2 rfl
  refine ⟨_, rfl, ifPn (fun q g3 m3 => by rw [if_neg q]) (fun q => (k66 t false 1 q.2 hsz hok true [] (by simp) ((ht.exm m1).exm m2) ((h.exm m1).exm m2) (SlE.zero _)).mono ?_)⟩
  rintro v g4 m4 rfl
  refine ⟨_, rfl, fun g5 _ => ?_⟩
  rw [if_pos q]
  simp
end Go.Proofs.YtkocjbgdmocmlaaGreatDoor
