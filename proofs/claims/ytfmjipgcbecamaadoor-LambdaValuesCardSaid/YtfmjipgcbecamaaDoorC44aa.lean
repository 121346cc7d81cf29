/- LambdaValues. -/
import Derived.Test.YtfmjipgcbecamaaDoorC44t
import Derived.Test.YtfmjipgcbecamaaDoorFnV44
set_option linter.unusedVariables false
namespace Go.Proofs.YtfmjipgcbecamaaDoor
open Go Go.Vc Go.RowKit Go.Syn Go.Lam Go.Sort

def WInv (d : ExpD) (l : List E) (b : Bool) (sz fb n : Nat) (m : Nat) (v_1 v0 v1 : Int) (v2 : ByteArray) (v3a : Option Addr) (v3l v3c : Nat) (v4a : Option Addr) (v4l v4c : Nat) (g' : G) : Prop :=
  ∃ (j : Nat) (b1 : Bool), v_1 = ((j : Nat) : Int) ∧ j + m = n ∧ v0 = wop d.op ∧ v1 = d.n ∧ v2 = bstr d.s ∧ v3a = none ∧ v3l = 0 ∧ v3c = 0 ∧ OwnE synE g' sz 30 v4a v4l v4c ((l.take j).map wrV) ∧ MutB g' fb 4 [.bool b1] ∧ (b1 = false → b = false ∧ ∀ y ∈ l.take j, noF y) ∧ ¬ blkOf v4a fb
/-- written. -/
theorem k21 (x : E) : ∀ {a : Option Addr} {n c : Nat} {g : G} {fb wb : Nat} {b : Bool}, formE x → SlE expE g a n c x.kids → MutB g fb 4 [.bool b] → Live g ⟨wb, 0, none⟩ (.func (.func 21) #[] ⟨[.pointer (some ⟨fb, 0, none⟩), .pointer (some ⟨wb, 0, none⟩)]⟩) →
    CallsG Tryd.prog 21 (⟨[expV x a n c]⟩ ++ ⟨[.pointer (some ⟨fb, 0, none⟩), .pointer (some ⟨wb, 0, none⟩)]⟩) g (fun z => z = fb) fun v g' => ∃ na nn nc ka kn kc b', v = synV (wrV x) na nn nc ka kn kc ∧ SynI g' (wrV x) na nn nc ka kn kc ∧ MutB g' fb 4 [.bool b'] ∧ (b' = false → b = false ∧ noF x) := by
  induction x using Tr.ind with
  | h d l ih =>
    intro a n c g fb wb b hf hI hb hw
    refine PV.call21 _ _ _ _ _ _ _ _ g _ _ ?_
    have hl : l.length = n := hI.len
    have hk1 := (node_len hf).2.2.2.2.2.2.2.2.2.2.2
    have hk2 : l.length ≤ 1001 := hk1
    unfold PV.F21
    intro g1 m1 J hJ
    have loop : ∀ (g2 : G), Ex g1 g2 → wop d.op ≠ 0 → ∀ y0 y1 y2 y3a y3l y3c y4a y4l y4c, J y0 y1 y2 y3a y3l y3c y4a y4l y4c (wop d.op) d.n (bstr d.s) none 0 0 none 0 0 g2 := by
      intro g2 m2 hw0 y0 y1 y2 y3a y3l y3c y4a y4l y4c
      refine hJ _ _ _ _ _ _ _ _ _ _ _ _ _ _ _ _ _ _ g2 ⟨WInv d l b g.w.heap.size fb n, ⟨n, 0, b, rfl, by omega, rfl, rfl, rfl, rfl, rfl, rfl, by simpa using OwnE.nil _ _ _, (hb.ex m1).ex m2, fun h => ⟨h, by simp⟩, fun ⟨_, h, _⟩ => by cases h⟩, ?_⟩
      rintro m v_1 v0 v1 v2 v3a v3l v3c v4a v4l v4c g3 le ⟨j, b1, rfl, hj, rfl, rfl, rfl, rfl, rfl, rfl, hown, hb3, hb1, hap⟩
      have le3 : Le g g3 := (m1.le.trans m2.le).trans le
      have hol := hown.sl.len
      rw [List.length_map, List.length_take] at hol
      refine ifLt (fun q => ⟨⟨by omega, by omega⟩, ?_⟩) (fun q g21 m21 => ?_)
      · have gj := List.getElem?_eq_getElem (show j < l.length by omega)
        generalize l[j] = y at gj
        have hy := List.mem_of_getElem? gj
        refine rdE (hI.mono le3) j rfl gj (fun ka kn kc hk g4 m4 => ?_)
        have hw4 := (hw.mono le3).ex m4
        have hb4 := hb3.ex m4
        have hne : wb ≠ fb := fun e => hw4.2.2 (by rw [show Addr.block ⟨wb, 0, none⟩ = fb from e]; exact hb4.d _)
        have step : ∀ g5, Ex g4 g5 → CallsG Tryd.prog 21 (⟨[expV y ka kn kc]⟩ ++ ⟨[.pointer (some ⟨fb, 0, none⟩), .pointer (some ⟨wb, 0, none⟩)]⟩) g5 (fun z => z = fb) fun v g' => ∃ na nn nc ka kn kc b', v = synV (wrV y) na nn nc ka kn kc ∧ SynI g' (wrV y) na nn nc ka kn kc ∧ MutB g' fb 4 [.bool b'] ∧ (b' = false → b1 = false ∧ noF y) :=
          fun g5 m5 => ih y hy ((formE_un hf).2 y hy) ((hk.exm m4).exm m5) (hb4.ex m5) (hw4.ex m5)
        have same : ∀ {g5 g6 : G}, Ex g4 g5 → Stp g5.size (fun z => z = fb) g5 g6 → SameBut (fun z => z = fb) g4 g6 := fun m5 hs b h1 h2 h3 => ((m5.but _).trans (hs.but (Nat.le_refl _))).same b h1 h2 h3
        have fin : ∀ {g5 g6 g7 g8 : G} {na : Option Addr} {nn nc : Nat} {qa : Option Addr} {qn qc : Nat} {b2 : Bool}, Ex g4 g5 → Stp g5.size (fun z => z = fb) g5 g6 → SynI g6 (wrV y) na nn nc qa qn qc → MutB g6 fb 4 [.bool b2] → (b2 = false → b1 = false ∧ noF y) → Ex g6 g7 →
            NewL g7 g8 30 [.int .i64 (wrV y).dat.op, .int .i64 (wrV y).dat.n, .string (bstr (wrV y).dat.s), .slice na nn nc, .slice qa qn qc] →
            ∃ xa : Option Addr, ∃ xl : Nat, ∃ xc_1 : Nat, ∃ wo1 : World, Sem.run Tryd.prog (Builtin.append_ #[28, 28] 28 #[(.slice v4a v4l v4c), (.slice (some ⟨g7.w.heap.size, 0, none⟩) 1 1)]) g8.w = .ok (.slice xa xl xc_1) wo1 ∧ ∃ g9 : G, g9.w = wo1 ∧ Stp g.w.heap.size (fun z => z = fb) g8 g9 ∧ InI64 (((j : Nat) : Int) + (1 : Int)) ∧ ∀ g10 : G, Ex g9 g10 →
              (∃ m_1 : Nat, m_1 < m ∧ WInv d l b g.w.heap.size fb n m_1 (((j : Nat) : Int) + (1 : Int)) (wop d.op) d.n (bstr d.s) none 0 0 xa xl xc_1 g10) := by
          intro g5 g6 g7 g8 na nn nc qa qn qc b2 m5 hs hz hb6 hb2 m7 n8
          have b46 := (m5.but (fun z => z = fb)).trans (hs.but (Nat.le_refl _))
          have hown6 := (hown.exm m4).but b46 (fun z hz e => hap (e ▸ hz)) (m5.le.trans hs.le)
          have hzz : g.w.heap.size ≤ g7.w.heap.size := Nat.le_trans le3.size (Nat.le_trans m4.size (Nat.le_trans m5.size (Nat.le_trans hs.le.size m7.size)))
          obtain ⟨a', c', w', hrun, g9, hw9, hs9, ho9, hs9', hnew⟩ := (hown6.exm m7).app1 (E := synE) E28 28 hzz n8 (x := wrV y) (hz.exm m7).rep (by omega) (by unfold maxLen; omega)
          refine ⟨a', _, c', w', hrun, g9, hw9, hs9.mono (Nat.le_refl _) (fun _ _ h => h.elim), i64 (by omega) (by omega), fun g10 m10 => ⟨m - 1, by omega, j + 1, b2, by omega, by omega, rfl, rfl, rfl, rfl, rfl, rfl, ?_, ?_, fun h => ?_, ?_⟩⟩
          · rw [List.take_add_one, gj, List.map_append]
            exact ho9.exm m10
          · exact (((hb6.ex m7).ex n8.ex).but (hs9'.but (Nat.le_refl _)) hap).ex m10
          · obtain ⟨h1, h2⟩ := hb2 h
            obtain ⟨h3, h4⟩ := hb1 h1
            exact ⟨h3, (all_take gj (fun y => noF y)).2 ⟨h4, h2⟩⟩
          · intro hh
            rcases hnew _ hh with h2 | h2
            · exact hap h2
            · have h3 := hb6.lt
              have h4 : g6.w.heap.size ≤ g8.w.heap.size := (m7.trans n8.ex).size
              omega
        refine ⟨fun z => z = fb, fun z e => by rw [e]; exact hb4.nx, hw4.2.1, fun e => hne e, _, _, hw4.1, fun g5 m5 => ⟨⟨_, Tryd.func21, by kernel_rfl, by kernel_rfl⟩, fun z => z = fb, fun _ _ h => h, (step g5 m5).mono ?_⟩, fun g5 m5 => ⟨⟨_, Tryd.func21, by kernel_rfl, by kernel_rfl⟩, fun z => z = fb, fun _ _ h => h, (step g5 m5).mono ?_⟩⟩
        · rintro v g6 hs ⟨na, nn, nc, qa, qn, qc, b2, rfl, hz, hb6, hb2⟩
          exact ⟨_, _, _, _, _, _, _, _, _, rfl, same m5 hs, fun g7 m7 g8 n8 => fin m5 hs hz hb6 hb2 m7 n8⟩
        · rintro v g6 hs ⟨na, nn, nc, qa, qn, qc, b2, rfl, hz, hb6, hb2⟩
          exact ⟨_, _, _, _, _, _, _, _, _, rfl, same m5 hs, rep (fun g7 m7 g8 n8 => fin m5 hs hz hb6 hb2 m7 n8) _⟩
      · rw [List.take_of_length_le (by omega)] at hown hb1
        have e : wrV (.mk d l) = .mk ⟨wop d.op, d.n, d.s, []⟩ (l.map wrV) := by rw [wrV_mk, if_neg hw0]
        rw [e]
        exact ⟨none, 0, 0, v4a, v4l, v4c, b1, rfl, ⟨SlE.zero _, hown.sl.exm m21⟩, hb3.ex m21, fun h => ⟨(hb1 h).1, noF_iff.2 ⟨hw0, (hb1 h).2⟩⟩⟩
    clear hJ
    refine ifEq (fun e g22 m22 => ?_) (fun e2 => ifEq (fun e g22 m22 => ?_) (fun e3 => ifEq (fun e g22 m22 => ?_) (fun e6 => ifEq (fun e g22 m22 => ?_) (fun e8 g26 m26 => ?_))))
    · have e' : d.op = 2 := e
      have w : wop d.op = 1 := by unfold wop; rw [if_pos e']
      have := loop g22 m22 (by omega) 0 0 (bs []) none 0 0 none 0 0
      rw [w] at this
      exact this
    · have e' : d.op = 3 := e
      have w : wop d.op = 2 := by unfold wop; rw [if_neg (by omega), if_pos e']
      have := loop g22 m22 (by omega) 0 0 (bs []) none 0 0 none 0 0
      rw [w] at this
      exact this
    · have e' : d.op = 6 := e
      have w : wop d.op = 3 := by unfold wop; rw [if_neg (by omega), if_neg (by omega), if_pos e']
      have := loop g22 m22 (by omega) 0 0 (bs []) none 0 0 none 0 0
      rw [w] at this
      exact this
    · have e' : d.op = 8 := e
      have w : wop d.op = 4 := by unfold wop; rw [if_neg (by omega), if_neg (by omega), if_neg (by omega), if_pos e']
      have := loop g22 m22 (by omega) 0 0 (bs []) none 0 0 none 0 0
      rw [w] at this
      exact this
    · have w : wop d.op = 0 := by
        have h2 : d.op ≠ 2 := e2
        have h3 : d.op ≠ 3 := e3
        have h6 : d.op ≠ 6 := e6
        have h8 : d.op ≠ 8 := e8
        unfold wop; rw [if_neg h2, if_neg h3, if_neg h6, if_neg h8]
      have hb26 := (hb.ex m1).ex m26
      refine ⟨hb26.ok0 (by simp), hb26.nx, hb26.mut0 1, fun _ => rfl, fun g27 k27 g28 m28 => ?_⟩
      obtain ⟨hb27, _⟩ := hb26.st0 k27
      have e : wrV (.mk d l) = .mk ⟨0, d.n, d.s, []⟩ [] := by rw [wrV_mk, if_pos w, w]
      rw [e]
      exact ⟨none, 0, 0, none, 0, 0, true, rfl, ⟨SlE.zero _, SlE.zero _⟩, hb27.ex m28, fun h => by cases h⟩
/-- LambdaValues. -/
theorem law6 {x : E} (hx : i64E x) {a : Option Addr} {n c : Nat} {g : G} (ht : TabG g) (hI : SlE expE g a n c x.kids) : CallsP Tryd.prog 6 #[expV x a n c] g fun v _ => v = .bool true := by
  refine PV.call6 _ _ _ _ _ _ g _ ?_
  unfold PV.F6
  refine fun g1 m1 => (k9 g1 (ht.exm m1)).mono ?_
  rintro v g2 m2 rfl
  refine ⟨_, rfl, ifF (fun e => by cases e) (fun _ => ?_)⟩
  intro J hJ
  have m02 := m1.trans m2
  refine (k10 x (hI.exm m02)).mono ?_
  rintro v g3 m3 ⟨b, rfl, hbig⟩
  refine ⟨_, rfl, ifT (fun _ g4 _ => rfl) (fun hbf => (k20 hx (hI.exm (m02.trans m3))).mono ?_)⟩
  obtain ⟨hsz, _⟩ := hbig hbf
  rintro v g4 m4 rfl
  refine ⟨_, rfl, ifPn (fun _ g5 _ => rfl) (fun hv => hJ g4 ?_)⟩
  clear hJ
  obtain ⟨hc, hval⟩ := hv
  have m04 := (m02.trans m3).trans m4
  intro g5 n5
  have h5 := n5.mut
  have hz4 : g.w.heap.size ≤ g4.w.heap.size := m04.size
  refine ⟨h5.ok0 (by simp), h5.nx, h5.mut0 1, fun hh => by have h3 : g4.w.heap.size < g.w.heap.size := hh; omega, fun g6 k6 => ?_⟩
  obtain ⟨h6, b6⟩ := h5.st0 k6
  have le6 : Le g4 g6 := n5.ex.le.trans (b6.le (fun z hz i => by have e : z = g4.w.heap.size := hz; rw [e]; exact h5.d i))
  intro g7 n7
  have h7 := n7.mut
  refine ⟨h7.ok0 (by simp), h7.nx, h7.mut0 1, fun hh => by have h3 : g6.w.heap.size < g.w.heap.size := hh; have := le6.size; omega, fun g8 k8 => ?_⟩
  obtain ⟨hw, b8⟩ := h7.pub1 k8
  have le8 : Le g6 g8 := n7.ex.le.trans (b8.le (fun z hz i => by have e : z = g6.w.heap.size := hz; rw [e]; exact h7.d i))
  have hlt : g4.w.heap.size < g6.w.heap.size := h6.lt
  have h8 : MutB g8 g4.w.heap.size 4 [.bool false] := (h6.ex n7.ex).but b8 (fun e => by have e' : g4.w.heap.size = g6.w.heap.size := e; omega)
  have le48 : Le g g8 := (m04.le.trans le6).trans le8
  refine ⟨_, _, hw.1, ⟨_, Tryd.func21, by kernel_rfl, by kernel_rfl⟩, fun z => z = g4.w.heap.size, fun b hb e => by omega, (k21 x hc.1.1 (hI.mono le48) h8 hw).mono ?_⟩
  rintro v g9 hs9 ⟨na, nn, nc, ka, kn, kc, b', rfl, hz, hb9, hb'⟩
  refine ⟨_, _, _, _, _, _, _, _, _, rfl, fun g10 m10 => (k11 hx 5000 ((hI.mono (le48.trans hs9.le)).exm m10) ?_).mono ?_⟩
  · exact (ht.mono (le48.trans hs9.le)).exm m10
  rintro v g11 m11 ⟨o, rfl, hO⟩
  have hrun : runA x 5000 = (outO x 5000, 0) := by unfold runA; rw [if_pos hc, if_pos ⟨by omega, by omega⟩]; rfl
  rw [hrun] at hO ⊢
  have hO' := hO
  obtain ⟨oa, on, oc, ya, yn, yc, pa, pn, pc, rfl, hy, hp⟩ := hO
  refine ⟨_, _, _, _, _, _, _, _, _, _, _, _, _, _, _, _, rfl, ?_⟩
  obtain ⟨t, k, hg⟩ := gives x hc.1.1 hval 5000 5000 [] (by omega) (Nat.le_refl _)
  obtain ⟨y, j, ho1, ho2, ho3⟩ := hg.obs 400 20000 hc.1.2.2 hc.1.2.1
  have hgl := hg.le
  have hfin : outO x 5000 = ⟨1, 0, ((k : Nat) : Int), y, []⟩ := by
    have e : finN x 5000 = ⟨1, 0, 5000 - k, y, []⟩ := by unfold finN; rw [hg.ev]; exact finR_some ho1
    unfold outO
    rw [e, show (((5000 : Nat) : Nat) : Int) - ((5000 - k : Nat) : Int) = ((k : Nat) : Int) by omega]
  rw [hfin] at hy hp ⊢
  have hpl := hp.len
  have m911 := m10.trans m11
  intro J1 hJ1
  refine ifNe (fun h => absurd rfl h) (fun _ => ifNe (fun h => absurd rfl h) (fun _ => ifNe (fun h => absurd (by simp at hpl; omega) h) (fun _ g22 m22 => hJ1 g22 (fun g13 m13 => ?_))))
  have m913 := (m911.trans m22).trans m13
  have hb13 := hb9.ex m913
  refine ⟨b', hb13.rd0 rfl, ifT (fun _ g14 _ => rfl) (fun hbF => (k22 y (hy.exm (m22.trans m13)) (hz.exm m913)).mono ?_)⟩
  have hnf := (hb' hbF).2
  rintro v g15 m15 rfl
  refine ⟨_, rfl, ifP (fun _ => (k23 hx ((hI.mono (le48.trans hs9.le)).exm (m913.trans m15))).mono ?_) (fun h => absurd (ho3 hnf) h)⟩
  rintro v g16 _ ⟨k2, rfl, hk2, _⟩
  refine ⟨_, rfl, fun g17 _ => ?_⟩
  have e1 := hg.size hnf
  have e2 := hk2 hc.1
  show Value.bool (eqI ((k : Nat) : Int) ((k2 : Nat) : Int)) = _
  rw [tf_eq, tf_of (by omega)]
end Go.Proofs.YtfmjipgcbecamaaDoor
