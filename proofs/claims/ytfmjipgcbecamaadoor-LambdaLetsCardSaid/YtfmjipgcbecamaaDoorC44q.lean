/- LambdaLets: the walk. -/
import Derived.Test.YtfmjipgcbecamaaDoorC44p
set_option linter.unusedVariables false
namespace Go.Proofs.YtfmjipgcbecamaaDoor
open Go Go.Vc Go.RowKit Go.Syn Go.Lam Go.Sort

theorem new3 {g g' : G} {t u w : E} {a : Option Addr} {n c : Nat} {b : Option Addr} {m d : Nat} {e : Option Addr} {p q : Nat} (h : SlE expE g a n c t.kids) (h2 : SlE expE g b m d u.kids) (h3 : SlE expE g e p q w.kids)
    (nn : NewL g g' 24 [.int .i64 t.dat.op, .int .i64 t.dat.n, .string (bstr t.dat.s), .slice a n c, .int .i64 u.dat.op, .int .i64 u.dat.n, .string (bstr u.dat.s), .slice b m d, .int .i64 w.dat.op, .int .i64 w.dat.n, .string (bstr w.dat.s), .slice e p q]) :
    SlE expE g' (some ⟨g.w.heap.size, 0, none⟩) 3 3 [t, u, w] :=
  nn.sle (Rws.cons (r := [.int .i64 t.dat.op, .int .i64 t.dat.n, .string (bstr t.dat.s), .slice a n c]) (exp_rep h) (Rws.cons (r := [.int .i64 u.dat.op, .int .i64 u.dat.n, .string (bstr u.dat.s), .slice b m d]) (exp_rep h2) (Rws.single (exp_rep h3)))) (by unfold maxLen; simp)
/-- What a run says, spelt out. -/
theorem run6 {x : E} (hx : i64E x) {a : Option Addr} {n c : Nat} {g : G} (hI : SlE expE g a n c x.kids) (ht : TabG g) : CallsP Tryd.prog 11 #[expV x a n c, .int .i64 6000] g fun v g' => ∃ w, v = .tuple ⟨[w, .int .i64 (runA x 6000).2]⟩ ∧ OutI g' (runA x 6000).1 w :=
  (k11 hx 6000 hI ht).mono fun v g' _ h => h
theorem run_ok {x : E} (h : closedE x) : runA x 6000 = (outO x 6000, 0) := by unfold runA; rw [if_pos h, if_pos ⟨by omega, by omega⟩]; rfl
theorem run_no {x : E} (h : ¬ closedE x) : runA x 6000 = (zeroO, 1) := by unfold runA; rw [if_neg h]
theorem law5 {x y z : E} (hx : i64E x) (hy : i64E y) (hz : i64E z) {xa : Option Addr} {xl xc : Nat} {ya : Option Addr} {yl yc : Nat} {za : Option Addr} {zl zc : Nat} {g : G} (ht : TabG g)
    (hX : SlE expE g xa xl xc x.kids) (hY : SlE expE g ya yl yc y.kids) (hZ : SlE expE g za zl zc z.kids) : CallsP Tryd.prog 5 #[expV x xa xl xc, expV y ya yl yc, expV z za zl zc] g fun v _ => v = .bool true := by
  refine call5 _ _ _ _ _ _ _ _ _ _ _ _ _ _ _ _ _ _ g _ ?_
  unfold F5
  refine fun g1 m1 => (k9 g1 (ht.exm m1)).mono ?_
  rintro v g2 m2 rfl
  have m02 := m1.trans m2
  refine ⟨_, rfl, ifF (fun e => by cases e) (fun _ => ?_)⟩
  intro J hJ
  have hJ' : (sizeE x ≤ 200 ∧ depthE x ≤ 60) → (sizeE y ≤ 200 ∧ depthE y ≤ 60) → ∀ g4, Ex g g4 → J g4 := by
    intro bx by' g4 m4
    refine hJ g4 (fun g5 n5 => (k18 11 0 [x, y] g5).mono ?_)
    have h5 := new2 (t := x) (u := y) (hX.exm m4) (hY.exm m4) n5
    rintro v g6 m6 rfl
    have m06 := (m4.trans n5.ex).trans m6
    refine ⟨_, _, _, _, _, _, rfl, ?_⟩
    intro J1 hJ1
    have H1 : ∀ (g7 : G) (a : Option Addr), Ex g6 g7 → SlE expE g7 a 2 2 [mkE 4 0 [y], x] → J1 5 0 (bstr []) a 2 2 g7 := by
      intro g7 a m67 ha
      refine hJ1 _ _ _ _ _ _ g7 ?_
      clear hJ1
      have m07 := m06.trans m67
      have hlet := (h5.exm m6).exm m67
      have cL := closed_let bx by'
      have cA := closed_app bx by'
      refine (run6 (x := mkE 11 0 [x, y]) (i64_mk (by omega) (fun t ht => ?_)) hlet (ht.exm m07)).mono ?_
      · simp at ht; rcases ht with rfl | rfl
        · exact hx
        · exact hy
      rintro v g8 m8 ⟨w, rfl, hO⟩
      have hO' := hO
      obtain ⟨na, nn, nc, oya, oyn, oyc, oa, on, oc, rfl, hOy, hOo⟩ := hO
      refine ⟨_, _, _, _, _, _, _, _, _, _, _, _, _, _, _, _, rfl, fun g9 m9 => (run6 (x := mkE 5 0 [mkE 4 0 [y], x]) (i64_mk (by omega) (fun t ht => ?_)) (ha.exm (m8.trans m9)) (ht.exm ((m07.trans m8).trans m9))).mono ?_⟩
      · simp at ht; rcases ht with rfl | rfl
        · exact i64_mk (by omega) (fun t ht => by simp at ht; rw [ht]; exact hy)
        · exact hx
      rintro v g10 m10 ⟨w, rfl, hP⟩
      have hP' := hP
      obtain ⟨pa, pn, pc, pya, pyn, pyc, qa, qn, qc, rfl, hPy, hPo⟩ := hP
      refine ⟨_, _, _, _, _, _, _, _, _, _, _, _, _, _, _, _, rfl, ?_⟩
      have m010 := ((m07.trans m8).trans m9).trans m10
      have e2 : (runA (mkE 11 0 [x, y]) 6000).2 = (runA (mkE 5 0 [mkE 4 0 [y], x]) 6000).2 := by
        by_cases q : formE x ∧ formE y ∧ scopedE 0 x ∧ scopedE 1 y
        · rw [run_ok (cL.2 q), run_ok (cA.2 q)]
        · rw [run_no (fun h => q (cL.1 h)), run_no (fun h => q (cA.1 h))]
      have e3 : (runA (mkE 5 0 [mkE 4 0 [y], x]) 6000).1.op ≠ 3 → sameEndP (runA (mkE 11 0 [x, y]) 6000).1 (runA (mkE 5 0 [mkE 4 0 [y], x]) 6000).1 := by
        intro hn
        by_cases q : formE x ∧ formE y ∧ scopedE 0 x ∧ scopedE 1 y
        · rw [run_ok (cA.2 q)] at hn
          rw [run_ok (cL.2 q), run_ok (cA.2 q)]
          exact same_let hn
        · rw [run_no (fun h => q (cL.1 h)), run_no (fun h => q (cA.1 h))]
          exact ⟨rfl, rfl, rfl, rfl⟩
      refine ifNe (fun q => absurd e2 q) (fun _ => ?_)
      intro J2 hJ2
      have H2 : ∀ g12, Ex g10 g12 → J2 g12 := by
        intro g12 m12
        refine hJ2 g12 ?_
        clear hJ2
        intro J3 hJ3
        have m012 := m010.trans m12
        have H3 : ∀ (g13 : G) (a : Option Addr), Ex g12 g13 → SlE expE g13 a 1 1 [mkE 6 0 [x, mkE 4 0 [z]]] → ∀ (v : Value) (g14' : G), (∃ w, v = .tuple ⟨[w, .int .i64 (runA (mkE 7 0 [mkE 6 0 [x, mkE 4 0 [z]]]) 6000).2]⟩ ∧ OutI g14' (runA (mkE 7 0 [mkE 6 0 [x, mkE 4 0 [z]]]) 6000).1 w) → Ex g13 g14' →
            ∃ x00 : Int, ∃ x01 : Int, ∃ x02 : Int, ∃ x03 : Int, ∃ x04 : Int, ∃ x05 : ByteArray, ∃ x06a : Option Addr, ∃ x06l : Nat, ∃ x06c : Nat, ∃ x07a : Option Addr, ∃ x07l : Nat, ∃ x07c : Nat, ∃ x08a : Option Addr, ∃ x08l : Nat, ∃ x08c : Nat, ∃ x1_2 : Int, v = (.tuple ⟨[(.agg ⟨[(.int .i64 x00), (.int .i64 x01), (.int .i64 x02), (.int .i64 x03), (.int .i64 x04), (.string x05), (.slice x06a x06l x06c), (.slice x07a x07l x07c), (.slice x08a x08l x08c)]⟩), (.int .i64 x1_2)]⟩) ∧ ∀ g9 : G, Ex g14' g9 → J3 x1_2 x00 x01 x02 x03 x04 x05 x06a x06l x06c x07a x07l x07c x08a x08l x08c g9 := by
          rintro g13 a m13 ha v g14 ⟨w, rfl, hC⟩ m14
          have hC' := hC
          obtain ⟨ca, cn, cc, cya, cyn, cyc, coa, con, coc, rfl, _, _⟩ := hC
          refine ⟨_, _, _, _, _, _, _, _, _, _, _, _, _, _, _, _, rfl, fun g15 m15 => ?_⟩
          have m015 := ((m012.trans m13).trans m14).trans m15
          refine hJ3 _ _ _ _ _ _ _ _ _ _ _ _ _ _ _ _ g15 ?_
          clear hJ3
          refine (run6 hx (hX.exm m015) (ht.exm m015)).mono ?_
          rintro v g16 m16 ⟨w, rfl, hD⟩
          have hD' := hD
          obtain ⟨da, dn, dc, dya, dyn, dyc, doa, don, doc, rfl, _, _⟩ := hD
          refine ⟨_, _, _, _, _, _, _, _, _, _, _, _, _, _, _, _, rfl, ?_⟩
          intro J4 hJ4
          have m016 := m015.trans m16
          have H4 : ∀ g17, Ex g16 g17 → J4 g17 := by
            intro g17 m17
            refine hJ4 g17 ?_
            clear hJ4
            have m017 := m016.trans m17
            have nil : ∀ g' : G, SlE expE g' none 0 0 ([] : List E) := fun g' => SlE.zero _
            refine (k18 6 0 [] g17).mono ?_
            rintro v g18 m18 rfl
            refine ⟨_, _, _, _, _, _, rfl, fun g19 n19 => (k18 8 1 [mkE 6 0 []] g19).mono ?_⟩
            have h19 := new1 (t := mkE 6 0 []) (nil g18) n19
            rintro v g20 m20 rfl
            refine ⟨_, _, _, _, _, _, rfl, fun g21 m21 g22 n22 => (k18 9 0 [mkE 8 1 [mkE 6 0 []], z, y] g22).mono ?_⟩
            have m021 := (((m017.trans m18).trans n19.ex).trans m20).trans m21
            have h22 := new3 (t := mkE 8 1 [mkE 6 0 []]) (u := z) (w := y) (h19.exm (m20.trans m21)) (hZ.exm m021) (hY.exm m021) n22
            rintro v g23 m23 rfl
            have m023 := (m021.trans n22.ex).trans m23
            refine ⟨_, _, _, _, _, _, rfl, (run6 (x := mkE 9 0 [mkE 8 1 [mkE 6 0 []], z, y]) (i64_mk (by omega) (fun t ht => ?_)) (h22.exm m23) (ht.exm m023)).mono ?_⟩
            · simp at ht; rcases ht with rfl | rfl | rfl
              · exact i64_mk (by omega) (fun t ht => by simp at ht; rw [ht]; exact i64_mk (by omega) (fun t ht => by simp at ht))
              · exact hz
              · exact hy
            rintro v g24 m24 ⟨w, rfl, hS⟩
            have hS' := hS
            obtain ⟨sa, sn, sc, sya, syn, syc, soa, son, soc, rfl, _, _⟩ := hS
            refine ⟨_, _, _, _, _, _, _, _, _, _, _, _, _, _, _, _, rfl, ?_⟩
            intro J5 hJ5
            have m024 := m023.trans m24
            have H5 : ∀ (g25 : G) (a : Option Addr), Ex g24 g25 → SlE expE g25 a 2 2 [mkE 6 0 [], y] → CallsP Tryd.prog 11 #[expV (mkE 11 0 [mkE 6 0 [], y]) a 2 2, .int .i64 6000] g25 fun v g14' =>
                ∃ x00 : Int, ∃ x01 : Int, ∃ x02 : Int, ∃ x03 : Int, ∃ x04 : Int, ∃ x05 : ByteArray, ∃ x06a : Option Addr, ∃ x06l : Nat, ∃ x06c : Nat, ∃ x07a : Option Addr, ∃ x07l : Nat, ∃ x07c : Nat, ∃ x08a : Option Addr, ∃ x08l : Nat, ∃ x08c : Nat, ∃ x1_2 : Int, v = (.tuple ⟨[(.agg ⟨[(.int .i64 x00), (.int .i64 x01), (.int .i64 x02), (.int .i64 x03), (.int .i64 x04), (.string x05), (.slice x06a x06l x06c), (.slice x07a x07l x07c), (.slice x08a x08l x08c)]⟩), (.int .i64 x1_2)]⟩) ∧ ∀ g9 : G, Ex g14' g9 → J5 x1_2 x00 x01 x02 x03 x04 x05 x06a x06l x06c x07a x07l x07c x08a x08l x08c g9 := by
              intro g25 a m25 ha
              refine (run6 (x := mkE 11 0 [mkE 6 0 [], y]) (i64_mk (by omega) (fun t ht => ?_)) ha (ht.exm (m024.trans m25))).mono ?_
              · simp at ht; rcases ht with rfl | rfl
                · exact i64_mk (by omega) (fun t ht => by simp at ht)
                · exact hy
              rintro v g26 m26 ⟨w, rfl, hQ⟩
              have hQ' := hQ
              obtain ⟨ta, tn, tc, tya, tyn, tyc, toa, ton, toc, rfl, _, _⟩ := hQ
              refine ⟨_, _, _, _, _, _, _, _, _, _, _, _, _, _, _, _, rfl, fun g27 m27 => ?_⟩
              refine hJ5 _ _ _ _ _ _ _ _ _ _ _ _ _ _ _ _ g27 ?_
              clear hJ5
              refine ifNe (fun _ g _ => rfl) (fun q1 => ifNe (fun _ g _ => rfl) (fun q2 => ifEq (fun _ g _ => rfl) (fun q3 => ifEq (fun _ g _ => rfl) (fun q4 => (k19 (hS'.exm ((m25.trans m26).trans m27)) (hQ'.exm m27)).mono ?_))))
              rintro v g28 m28 rfl
              refine ⟨_, rfl, fun g29 m29 => ?_⟩
              have c1 : closedE (mkE 9 0 [mkE 8 1 [mkE 6 0 []], z, y]) := Classical.byContradiction fun h => by rw [run_no h] at q1; cases q1
              have c2 : closedE (mkE 11 0 [mkE 6 0 [], y]) := Classical.byContradiction fun h => by rw [run_no h] at q2; cases q2
              rw [run_ok c1] at q3
              rw [run_ok c1, run_ok c2]
              obtain ⟨s1, s2, s3, s4⟩ := same_switch q3
              rw [tf_of]
              exact ⟨s1.symm, s2.symm, s3.symm, s4.symm⟩
            clear hJ5
            have D5 : ∀ gA gB : G, Ex g24 gA → NewL gA gB 24 [.int .i64 6, .int .i64 0, .string (bstr []), .slice none 0 0, .int .i64 y.dat.op, .int .i64 y.dat.n, .string (bstr y.dat.s), .slice ya yl yc] → SlE expE gB (some ⟨gA.w.heap.size, 0, none⟩) 2 2 [mkE 6 0 [], y] := fun gA gB mA nA => new2 (t := mkE 6 0 []) (u := y) (nil gA) (hY.exm (m024.trans mA)) nA
            intro g30 m30
            refine ⟨fun g31 m31 => (k18 6 0 [] g31).mono ?_, fun g55 m55 => (k18 6 0 [] g55).mono ?_⟩
            · rintro v g32 m32 rfl
              have e32 := (m30.trans m31).trans m32
              refine ⟨_, _, _, _, _, _, rfl, fun g33 m33 g34 n34 => ⟨fun g35 m35 => (k18 11 0 [mkE 6 0 [], y] g35).mono ?_, fun g43 m43 => (k18 11 0 [mkE 6 0 [], y] g43).mono ?_⟩, fun g48 m48 g49 n49 g50 m50 => (k18 11 0 [mkE 6 0 [], y] g50).mono ?_⟩
              · rintro v g36 m36 rfl
                refine ⟨_, _, _, _, _, _, rfl, rep (fun g37 m37 => H5 g37 _ ((((e32.trans m33).trans n34.ex).trans m35).trans (m36.trans m37)) ((D5 _ _ (e32.trans m33) n34).exm ((m35.trans m36).trans m37))) _⟩
              · rintro v g44 m44 rfl
                refine ⟨_, _, _, _, _, _, rfl, fun g45 m45 => H5 g45 _ ((((e32.trans m33).trans n34.ex).trans m43).trans (m44.trans m45)) ((D5 _ _ (e32.trans m33) n34).exm ((m43.trans m44).trans m45))⟩
              · rintro v g51 m51 rfl
                refine ⟨_, _, _, _, _, _, rfl, fun g52 m52 => H5 g52 _ ((((e32.trans m48).trans n49.ex).trans m50).trans (m51.trans m52)) ((D5 _ _ (e32.trans m48) n49).exm ((m50.trans m51).trans m52))⟩
            · rintro v g56 m56 rfl
              have e56 := (m30.trans m55).trans m56
              refine ⟨_, _, _, _, _, _, rfl, fun g57 m57 g58 n58 g59 m59 => (k18 11 0 [mkE 6 0 [], y] g59).mono ?_⟩
              rintro v g60 m60 rfl
              refine ⟨_, _, _, _, _, _, rfl, fun g61 m61 => H5 g61 _ ((((e56.trans m57).trans n58.ex).trans m59).trans (m60.trans m61)) ((D5 _ _ (e56.trans m57) n58).exm ((m59.trans m60).trans m61))⟩
          refine ifEq (fun q1 => ifEq (fun q2 => ifNe (fun q3 => ifNe (fun q4 g64 m64 => (k19 (hC'.exm ((m15.trans m16).trans m64)) (hD'.exm m64)).mono ?_) (fun _ g67 m67 => H4 g67 m67)) (fun _ g68 m68 => H4 g68 m68)) (fun _ g69 m69 => H4 g69 m69)) (fun _ g70 m70 => H4 g70 m70)
          rintro v g65 m65 rfl
          refine ⟨_, rfl, ifPn (fun q => absurd ?_ q) (fun _ => H4 g65 (m64.trans m65))⟩
          have c1 : closedE (mkE 7 0 [mkE 6 0 [x, mkE 4 0 [z]]]) := Classical.byContradiction fun h => by rw [run_no h] at q1; cases q1
          have c2 : closedE x := Classical.byContradiction fun h => by rw [run_no h] at q2; cases q2
          rw [run_ok c1] at q3
          rw [run_ok c1, run_ok c2]
          obtain ⟨s1, s2, s3, s4⟩ := same_field q3
          exact ⟨s1.symm, s2.symm, s3.symm, s4.symm⟩
        have C3 : ∀ (g13 : G) (a : Option Addr), Ex g12 g13 → SlE expE g13 a 1 1 [mkE 6 0 [x, mkE 4 0 [z]]] → CallsP Tryd.prog 11 #[expV (mkE 7 0 [mkE 6 0 [x, mkE 4 0 [z]]]) a 1 1, .int .i64 6000] g13 fun v g14' =>
            ∃ x00 : Int, ∃ x01 : Int, ∃ x02 : Int, ∃ x03 : Int, ∃ x04 : Int, ∃ x05 : ByteArray, ∃ x06a : Option Addr, ∃ x06l : Nat, ∃ x06c : Nat, ∃ x07a : Option Addr, ∃ x07l : Nat, ∃ x07c : Nat, ∃ x08a : Option Addr, ∃ x08l : Nat, ∃ x08c : Nat, ∃ x1_2 : Int, v = (.tuple ⟨[(.agg ⟨[(.int .i64 x00), (.int .i64 x01), (.int .i64 x02), (.int .i64 x03), (.int .i64 x04), (.string x05), (.slice x06a x06l x06c), (.slice x07a x07l x07c), (.slice x08a x08l x08c)]⟩), (.int .i64 x1_2)]⟩) ∧ ∀ g9 : G, Ex g14' g9 → J3 x1_2 x00 x01 x02 x03 x04 x05 x06a x06l x06c x07a x07l x07c x08a x08l x08c g9 := by
          intro g13 a m13 ha
          refine (run6 (x := mkE 7 0 [mkE 6 0 [x, mkE 4 0 [z]]]) (i64_mk (by omega) (fun t ht => ?_)) ha (ht.exm (m012.trans m13))).mono (fun v g' m' h => H3 g13 a m13 ha v g' h m')
          simp at ht
          rw [ht]
          refine i64_mk (by omega) (fun t ht => ?_)
          simp at ht; rcases ht with rfl | rfl
          · exact hx
          · exact i64_mk (by omega) (fun t ht => by simp at ht; rw [ht]; exact hz)
        -- the rows of c: in each order
        have D3 : ∀ (gA gB : G), Ex g12 gA → NewL gA gB 24 [.int .i64 z.dat.op, .int .i64 z.dat.n, .string (bstr z.dat.s), .slice za zl zc] → SlE expE gB (some ⟨gA.w.heap.size, 0, none⟩) 1 1 [z] := by
          intro gA gB mA nA
          exact new1 (t := z) (hZ.exm (m012.trans mA)) nA
        have E3 : ∀ (gA gB : G) (a : Option Addr), Ex g12 gA → SlE expE gA a 1 1 [z] → NewL gA gB 24 [.int .i64 x.dat.op, .int .i64 x.dat.n, .string (bstr x.dat.s), .slice xa xl xc, .int .i64 4, .int .i64 0, .string (bstr []), .slice a 1 1] → SlE expE gB (some ⟨gA.w.heap.size, 0, none⟩) 2 2 [x, mkE 4 0 [z]] := by
          intro gA gB a mA ha nA
          exact new2 (t := x) (u := mkE 4 0 [z]) (hX.exm (m012.trans mA)) ha nA
        have F3 : ∀ (gA gB : G) (a : Option Addr), SlE expE gA a 2 2 [x, mkE 4 0 [z]] → NewL gA gB 24 [.int .i64 6, .int .i64 0, .string (bstr []), .slice a 2 2] → SlE expE gB (some ⟨gA.w.heap.size, 0, none⟩) 1 1 [mkE 6 0 [x, mkE 4 0 [z]]] := by
          intro gA gB a ha nA
          exact new1 (t := mkE 6 0 [x, mkE 4 0 [z]]) ha nA
        clear hJ3
        intro g71 m71
        refine ⟨fun g72 m72 g73 n73 => ⟨fun g74 m74 => (k18 4 0 [z] g74).mono ?_, fun g122 m122 => (k18 4 0 [z] g122).mono ?_⟩, fun g135 m135 g136 n136 g137 m137 => (k18 4 0 [z] g137).mono ?_⟩
        · have h73 := D3 _ _ (m71.trans m72) n73
          have m073 := (m71.trans m72).trans n73.ex
          rintro v g75 m75 rfl
          have m075 := (m073.trans m74).trans m75
          have h75 := h73.exm (m74.trans m75)
          refine ⟨_, _, _, _, _, _, rfl, fun g76 m76 g77 n77 => ⟨fun g78 m78 => (k18 6 0 [x, mkE 4 0 [z]] g78).mono ?_, fun g102 m102 => (k18 6 0 [x, mkE 4 0 [z]] g102).mono ?_⟩, fun g111 m111 g112 n112 g113 m113 => (k18 6 0 [x, mkE 4 0 [z]] g113).mono ?_⟩
          · have h77 := E3 _ _ _ (m075.trans m76) (h75.exm m76) n77
            have m077 := (m075.trans m76).trans n77.ex
            rintro v g79 m79 rfl
            have m079 := (m077.trans m78).trans m79
            have h79 := h77.exm (m78.trans m79)
            refine ⟨_, _, _, _, _, _, rfl, fun g80 m80 g81 n81 => ⟨fun g82 m82 => (k18 7 0 [mkE 6 0 [x, mkE 4 0 [z]]] g82).mono ?_, fun g90 m90 => (k18 7 0 [mkE 6 0 [x, mkE 4 0 [z]]] g90).mono ?_⟩, fun g95 m95 g96 n96 g97 m97 => (k18 7 0 [mkE 6 0 [x, mkE 4 0 [z]]] g97).mono ?_⟩
            · rintro v g83 m83 rfl
              exact ⟨_, _, _, _, _, _, rfl, rep (fun g84 m84 => C3 g84 _ ((((m079.trans m80).trans n81.ex).trans m82).trans (m83.trans m84)) ((F3 _ _ _ (h79.exm m80) n81).exm ((m82.trans m83).trans m84))) _⟩
            · rintro v g83 m83 rfl
              exact ⟨_, _, _, _, _, _, rfl, fun g84 m84 => C3 g84 _ ((((m079.trans m80).trans n81.ex).trans m90).trans (m83.trans m84)) ((F3 _ _ _ (h79.exm m80) n81).exm ((m90.trans m83).trans m84))⟩
            · rintro v g83 m83 rfl
              exact ⟨_, _, _, _, _, _, rfl, fun g84 m84 => C3 g84 _ ((((m079.trans m95).trans n96.ex).trans m97).trans (m83.trans m84)) ((F3 _ _ _ (h79.exm m95) n96).exm ((m97.trans m83).trans m84))⟩
          · have h77 := E3 _ _ _ (m075.trans m76) (h75.exm m76) n77
            have m077 := (m075.trans m76).trans n77.ex
            rintro v g103 m103 rfl
            refine ⟨_, _, _, _, _, _, rfl, fun g104 m104 g105 n105 g106 m106 => (k18 7 0 [mkE 6 0 [x, mkE 4 0 [z]]] g106).mono ?_⟩
            rintro v g107 m107 rfl
            exact ⟨_, _, _, _, _, _, rfl, fun g108 m108 => C3 g108 _ ((((((m077.trans m102).trans m103).trans m104).trans n105.ex).trans m106).trans (m107.trans m108)) ((F3 _ _ _ (h77.exm ((m102.trans m103).trans m104)) n105).exm ((m106.trans m107).trans m108))⟩
          · have h77 := E3 _ _ _ (m075.trans m111) (h75.exm m111) n112
            have m077 := (m075.trans m111).trans n112.ex
            rintro v g103 m103 rfl
            refine ⟨_, _, _, _, _, _, rfl, fun g104 m104 g105 n105 g106 m106 => (k18 7 0 [mkE 6 0 [x, mkE 4 0 [z]]] g106).mono ?_⟩
            rintro v g107 m107 rfl
            exact ⟨_, _, _, _, _, _, rfl, fun g108 m108 => C3 g108 _ ((((((m077.trans m113).trans m103).trans m104).trans n105.ex).trans m106).trans (m107.trans m108)) ((F3 _ _ _ (h77.exm ((m113.trans m103).trans m104)) n105).exm ((m106.trans m107).trans m108))⟩
        · have h73 := D3 _ _ (m71.trans m72) n73
          have m073 := (m71.trans m72).trans n73.ex
          rintro v g75 m75 rfl
          have m075 := (m073.trans m122).trans m75
          have h75 := h73.exm (m122.trans m75)
          refine ⟨_, _, _, _, _, _, rfl, fun g111 m111 g112 n112 g113 m113 => (k18 6 0 [x, mkE 4 0 [z]] g113).mono ?_⟩
          have h77 := E3 _ _ _ (m075.trans m111) (h75.exm m111) n112
          have m077 := (m075.trans m111).trans n112.ex
          rintro v g103 m103 rfl
          refine ⟨_, _, _, _, _, _, rfl, fun g104 m104 g105 n105 g106 m106 => (k18 7 0 [mkE 6 0 [x, mkE 4 0 [z]]] g106).mono ?_⟩
          rintro v g107 m107 rfl
          exact ⟨_, _, _, _, _, _, rfl, fun g108 m108 => C3 g108 _ ((((((m077.trans m113).trans m103).trans m104).trans n105.ex).trans m106).trans (m107.trans m108)) ((F3 _ _ _ (h77.exm ((m113.trans m103).trans m104)) n105).exm ((m106.trans m107).trans m108))⟩
        · have h73 := D3 _ _ (m71.trans m135) n136
          have m073 := (m71.trans m135).trans n136.ex
          rintro v g75 m75 rfl
          have m075 := (m073.trans m137).trans m75
          have h75 := h73.exm (m137.trans m75)
          refine ⟨_, _, _, _, _, _, rfl, fun g111 m111 g112 n112 g113 m113 => (k18 6 0 [x, mkE 4 0 [z]] g113).mono ?_⟩
          have h77 := E3 _ _ _ (m075.trans m111) (h75.exm m111) n112
          have m077 := (m075.trans m111).trans n112.ex
          rintro v g103 m103 rfl
          refine ⟨_, _, _, _, _, _, rfl, fun g104 m104 g105 n105 g106 m106 => (k18 7 0 [mkE 6 0 [x, mkE 4 0 [z]]] g106).mono ?_⟩
          rintro v g107 m107 rfl
          exact ⟨_, _, _, _, _, _, rfl, fun g108 m108 => C3 g108 _ ((((((m077.trans m113).trans m103).trans m104).trans n105.ex).trans m106).trans (m107.trans m108)) ((F3 _ _ _ (h77.exm ((m113.trans m103).trans m104)) n105).exm ((m106.trans m107).trans m108))⟩
      refine ifNe (fun q1 => ifNe (fun q2 g150 m150 => (k19 (hO'.exm (((m9.trans m10)).trans m150)) (hP'.exm m150)).mono ?_) (fun _ g153 m153 => H2 g153 m153)) (fun _ g154 m154 => H2 g154 m154)
      rintro v g151 m151 rfl
      exact ⟨_, rfl, ifPn (fun q => absurd (e3 q2) q) (fun _ => H2 g151 (m150.trans m151))⟩
    intro g155 m155
    refine ⟨fun g156 m156 g157 n157 => ⟨fun g158 m158 => (k18 4 0 [y] g158).mono ?_, fun g173 m173 => (k18 4 0 [y] g173).mono ?_⟩, fun g180 m180 g181 n181 g182 m182 => (k18 4 0 [y] g182).mono ?_⟩
    · have h157 := new1 (t := y) (hY.exm ((m06.trans m155).trans m156)) n157
      rintro v g159 m159 rfl
      refine ⟨_, _, _, _, _, _, rfl, fun g160 m160 g161 n161 => rep (fun g162 m162 => (k18 5 0 [mkE 4 0 [y], x] g162).mono ?_) _, fun g168 m168 g169 n169 g170 m170 => (k18 5 0 [mkE 4 0 [y], x] g170).mono ?_⟩
      · have h161 := new2 (t := mkE 4 0 [y]) (u := x) (h157.exm ((m158.trans m159).trans m160)) (hX.exm ((((((m06.trans m155).trans m156).trans n157.ex).trans m158).trans m159).trans m160)) n161
        rintro v g163 m163 rfl
        refine ⟨_, _, _, _, _, _, rfl, fun g164 m164 => H1 g164 _ ?_ (h161.exm ((m162.trans m163).trans m164))⟩
        exact ((((((((m155.trans m156).trans n157.ex).trans m158).trans m159).trans m160).trans n161.ex).trans m162).trans m163).trans m164
      · have h169 := new2 (t := mkE 4 0 [y]) (u := x) (h157.exm ((m158.trans m159).trans m168)) (hX.exm ((((((m06.trans m155).trans m156).trans n157.ex).trans m158).trans m159).trans m168)) n169
        rintro v g171 m171 rfl
        refine ⟨_, _, _, _, _, _, rfl, fun g172 m172 => H1 g172 _ ?_ (h169.exm ((m170.trans m171).trans m172))⟩
        exact ((((((((m155.trans m156).trans n157.ex).trans m158).trans m159).trans m168).trans n169.ex).trans m170).trans m171).trans m172
    · have h157 := new1 (t := y) (hY.exm ((m06.trans m155).trans m156)) n157
      rintro v g174 m174 rfl
      refine ⟨_, _, _, _, _, _, rfl, fun g175 m175 g176 n176 g177 m177 => (k18 5 0 [mkE 4 0 [y], x] g177).mono ?_⟩
      have h176 := new2 (t := mkE 4 0 [y]) (u := x) (h157.exm ((m173.trans m174).trans m175)) (hX.exm ((((((m06.trans m155).trans m156).trans n157.ex).trans m173).trans m174).trans m175)) n176
      rintro v g178 m178 rfl
      refine ⟨_, _, _, _, _, _, rfl, fun g179 m179 => H1 g179 _ ?_ (h176.exm ((m177.trans m178).trans m179))⟩
      exact ((((((((m155.trans m156).trans n157.ex).trans m173).trans m174).trans m175).trans n176.ex).trans m177).trans m178).trans m179
    · have h181 := new1 (t := y) (hY.exm ((m06.trans m155).trans m180)) n181
      rintro v g183 m183 rfl
      refine ⟨_, _, _, _, _, _, rfl, fun g184 m184 g185 n185 g186 m186 => (k18 5 0 [mkE 4 0 [y], x] g186).mono ?_⟩
      have h185 := new2 (t := mkE 4 0 [y]) (u := x) (h181.exm ((m182.trans m183).trans m184)) (hX.exm ((((((m06.trans m155).trans m180).trans n181.ex).trans m182).trans m183).trans m184)) n185
      rintro v g187 m187 rfl
      refine ⟨_, _, _, _, _, _, rfl, fun g188 m188 => H1 g188 _ ?_ (h185.exm ((m186.trans m187).trans m188))⟩
      exact ((((((((m155.trans m180).trans n181.ex).trans m182).trans m183).trans m184).trans n185.ex).trans m186).trans m187).trans m188
  refine (k10 x (hX.exm m02)).mono ?_
  rintro v g3 m3 ⟨b, rfl, hb⟩
  refine ⟨_, rfl, ifT (fun _ g6 _ => rfl) (fun eb => (k10 y (hY.exm (m02.trans m3))).mono ?_)⟩
  rintro v g4 m4 ⟨b', rfl, hb'⟩
  refine ⟨_, rfl, ifT (fun _ g6 _ => rfl) (fun eb' => (k10 z (hZ.exm ((m02.trans m3).trans m4))).mono ?_)⟩
  rintro v g5 m5 ⟨b'', rfl, hb''⟩
  exact ⟨_, rfl, ifT (fun _ g6 _ => rfl) (fun eb'' => hJ' (hb eb) (hb' eb') g5 (((m02.trans m3).trans m4).trans m5))⟩
end Go.Proofs.YtfmjipgcbecamaaDoor
