/- What the laws ask first: sizes, and the example of the chapter. -/
import Derived.Test.YtmkdbndniffkfaaDoorL41U
import Derived.Test.YtmkdbndniffkfaaDoorSdec
set_option linter.unusedVariables false
namespace Go.Proofs.YtmkdbndniffkfaaDoor
open Go Go.Vc Go.RowKit Go.Syn

/-- size. -/
theorem kkd17 (t : Sy) : ∀ (most depth : Nat) {na : Option Addr} {nn nc : Nat} {a : Option Addr} {n c : Nat} {g : G}, SynI g t na nn nc a n c → 1 ≤ most → most ≤ 1000 → depth ≤ 1000 →
    CallsP Tryd.prog 17 #[synV t na nn nc a n c, .int .i64 ((most : Nat) : Int), .int .i64 ((depth : Nat) : Int)] g fun v _ => ∃ x : Nat, v = .int .i64 ((x : Nat) : Int) ∧ x ≤ most ∧ (x < most → okT t ∧ size t = x) := by
  induction t using Tr.ind with
  | h d l ih =>
    intro most depth na nn nc a n c g h h1 h2 h3
    refine call17 _ _ _ _ _ _ _ _ _ _ _ g _ ?_
    have hN : SlE strE g na nn nc d.names := h.names
    have hK : SlE synE g a n c l := h.kids
    have hnl := hN.len
    have hl := hK.len
    have hc := hK.le
    have hcap := hK.cap
    unfold maxLen at hcap
    have hse : size (.mk d l) = sizeL l + 1 := rfl
    unfold F17
    rw [show (bstr (Tr.mk d l).dat.s).size = d.s.length from bstr_size _]
    have big : ∀ g' : G, (fun (v : Value) (_ : G) => ∃ x : Nat, v = .int .i64 ((x : Nat) : Int) ∧ x ≤ most ∧ (x < most → okT (.mk d l) ∧ size (.mk d l) = x)) (.int .i64 ((most : Nat) : Int)) g' := fun g' => ⟨most, rfl, Nat.le_refl _, fun hh => by omega⟩
    intro J hJ
    refine ifLt (fun q g7 _ => big g7) (fun q1 => ifLt (fun q g8 _ => big g8) (fun q2 => ifLt (fun q g9 _ => big g9) (fun q3 g10 m10 => hJ g10 ?_)))
    refine ⟨fun m k i g' => ∃ (j x : Nat), i = ((j : Nat) : Int) ∧ k = ((x : Nat) : Int) ∧ j + m = n ∧ x ≤ most ∧ (x < most → x = 1 + sizeL (l.take j) ∧ ∀ y ∈ l.take j, okT y), ⟨n, 0, 1, rfl, rfl, by omega, h1, fun _ => ⟨by simp [sizeL], by simp⟩⟩, ?_⟩
    rintro m k i g2 le ⟨j, x, rfl, rfl, hj, hx, hxs⟩
    refine ifLt (fun q4 => ⟨⟨by omega, by omega⟩, ?_⟩) (fun q4 g6 _ => ?_)
    · have gj := List.getElem?_eq_getElem (show j < l.length by omega)
      generalize l[j] = y at gj
      have htk := sizeL_take gj
      refine rdT ((hK.exm m10).mono le) j rfl gj (fun na' nn' nc' ka kn kc hs => ifLe (fun q5 g3 _ => big g3) (fun q5 => ⟨i64 (by omega) (by omega), i64 (by omega) (by omega), fun g4 m4 => ?_⟩))
      have hcall := ih y (List.mem_of_getElem? gj) (most - x) (depth + 1) (hs.exm m4) (by omega) (by omega) (by omega)
      rw [show ((most - x : Nat) : Int) = ((most : Nat) : Int) - ((x : Nat) : Int) by omega, show ((depth + 1 : Nat) : Int) = ((depth : Nat) : Int) + 1 by omega] at hcall
      refine hcall.mono ?_
      rintro v g5 m5 ⟨z, rfl, hz, hzs⟩
      refine ⟨_, rfl, i64 (by omega) (by omega), i64 (by omega) (by omega), m - 1, by omega, j + 1, x + z, by omega, by omega, by omega, by omega, fun hh => ?_⟩
      obtain ⟨e1, e2⟩ := hxs (by omega)
      obtain ⟨e3, e4⟩ := hzs (by omega)
      exact ⟨by omega, (all_take gj _).2 ⟨e2, e3⟩⟩
    · rw [take_all (by omega)] at hxs
      refine ⟨x, ?_, hx, fun hh => ?_⟩
      · unfold minI
        split
        · congr 1; omega
        · rfl
      · obtain ⟨e1, e2⟩ := hxs hh
        exact ⟨okT_iff.2 ⟨⟨by show d.s.length ≤ _; omega, by show d.names.length ≤ _; omega⟩, e2⟩, by omega⟩
theorem kkd26 (s : List UInt8) (g : G) : CallsP Tryd.prog 26 #[.string (bstr s)] g fun v _ => v = .bool (tf (100 < s.length)) := by
  refine call26 _ g _ ?_
  unfold F26
  intro g1 _
  rw [size_i, tf_lt]
  exact vP ⟨fun h => by omega, fun h => by omega⟩
/-- long. -/
theorem kkd14 {L : List Lab} {a : Option Addr} {n c : Nat} {g : G} (h : SlE strE g a n c L) : CallsP Tryd.prog 14 #[.slice a n c] g fun v _ => ∃ b, v = .bool b ∧ (b = false → L.length ≤ 20 ∧ ∀ s ∈ L, s.length ≤ 100) := by
  refine call14 a n c g _ ?_
  have hl := h.len
  unfold F14
  refine ifLt (fun q g1 _ => ⟨_, rfl, fun e => by cases e⟩) (fun q => (kq61x 26 #[] (fun s => 100 < s.length) L h (by omega) ⟨_, Tryd.func26, by kernel_rfl, by kernel_rfl⟩ (fun g' _ s _ => kkd26 s g')).mono ?_)
  rintro v g2 _ rfl
  refine ⟨_, rfl, fun g3 _ => ⟨_, rfl, fun e => ⟨by omega, fun s hs => ?_⟩⟩⟩
  have := tf_false.mp e
  exact Classical.byContradiction fun hc => this ⟨s, hs, by omega⟩
theorem kkd16 (t : Sy) {na : Option Addr} {nn nc : Nat} {a : Option Addr} {n c : Nat} {g : G} (h : SynI g t na nn nc a n c) : CallsP Tryd.prog 16 (#[synV t na nn nc a n c] ++ #[]) g fun v _ => ∃ b, v = .bool b ∧ (b = false → okT t ∧ size t < 60) := by
  refine call16 _ _ _ _ _ _ _ _ _ g _ ?_
  unfold F16
  refine fun g1 m1 => (kkd17 t 60 1 (h.exm m1) (by omega) (by omega) (by omega)).mono ?_
  rintro v g2 _ ⟨x, rfl, hx, hxs⟩
  refine ⟨_, rfl, fun g3 _ => ⟨_, rfl, fun e => ?_⟩⟩
  have hlt : x < 60 := by rw [leI_false] at e; omega
  obtain ⟨e1, e2⟩ := hxs hlt
  exact ⟨e1, by omega⟩
/-- few. -/
theorem kkd5 {L : List UnitD} {a : Option Addr} {n c : Nat} {g : G} (h : SlE unitE g a n c L) : CallsP Tryd.prog 5 #[.slice a n c] g fun v _ => ∃ b, v = .bool b ∧ (b = true → L.length ≤ 20 ∧ ∀ u ∈ L, unitOK u) := by
  refine call5 a n c g _ ?_
  have hl := h.len
  have hc := h.le
  have hcap := h.cap
  unfold maxLen at hcap
  unfold F5
  refine ⟨fun m w i g' => ∃ (j x : Nat), i = ((j : Nat) : Int) ∧ w = ((x : Nat) : Int) ∧ x ≤ j ∧ j + m = n ∧ Ex g g' ∧ ∀ u ∈ L.take j, unitOK u, ⟨n, 0, 0, rfl, rfl, Nat.le_refl _, by omega, Ex.refl _, by simp⟩, ?_⟩
  rintro m w i g1 le ⟨j, x, rfl, rfl, hx, hj, m1, hall⟩
  refine ifLt (fun q => ⟨⟨by omega, by omega⟩, ?_⟩) (fun q => ?_)
  · have gj := List.getElem?_eq_getElem (show j < L.length by omega)
    generalize L[j] = u at gj
    refine rdUA (h.mono le) j rfl gj (fun ad ia im ic da dn dc hI hcc => ?_)
    obtain ⟨c0, c1, c2⟩ := hcc g1 (Le.refl _)
    have hil := hI.imps.len
    have hdl := hI.decls.len
    refine ⟨_, _, _, _, _, _, _, c0, c1, c2, ?_⟩
    intro J hJ
    have HJ : ∀ g2, Ex g g2 → unitOK u → J g2 := by
      intro g2 m2 hu
      have ha := (all_take gj unitOK).2 ⟨hall, hu⟩
      exact hJ g2 (ifLt (fun _ => ⟨i64 (by omega) (by omega), i64 (by omega) (by omega), m - 1, by omega, j + 1, x + 1, by omega, by omega, by omega, by omega, m2, ha⟩) (fun _ => ⟨i64 (by omega) (by omega), m - 1, by omega, j + 1, x, by omega, rfl, by omega, by omega, m2, ha⟩))
    refine ifLt (fun _ g3 _ => ⟨_, rfl, fun e => by cases e⟩) (fun q1 g4 m4 => (kkd14 (hI.imps.exm m4)).mono ?_)
    rintro v g5 m5 ⟨b, rfl, hb⟩
    refine ⟨_, rfl, ifT (fun _ g6 _ => ⟨_, rfl, fun e => by cases e⟩) (fun e => ifLt (fun _ g7 _ => ⟨_, rfl, fun e => by cases e⟩) (fun q2 => ?_))⟩
    have hb' := hb e
    refine ⟨nobody, fun _ _ hh => hh, (kk55 16 #[] nobody (fun k g' => sizeL (u.decls.take k) ≤ 60 * k ∧ ∀ y ∈ u.decls.take k, okT y) (fun _ => True) u.decls ((hI.decls.exm m4).exm m5) ⟨_, Tryd.func16, by kernel_rfl, by kernel_rfl⟩ (fun _ _ _ _ hh => hh) (fun _ _ _ _ => trivial) ⟨by simp [sizeL], by simp⟩ ?_).mono ?_⟩
    · intro g' k y le' _ gk hI' na nn nc ka kn kc hs
      have htk := sizeL_take gk
      refine ⟨nobody, fun _ _ hh => hh, (kkd16 y hs).mono ?_⟩
      rintro v g2 _ ⟨b2, rfl, hb2⟩
      refine ⟨_, rfl, fun _ => trivial, fun e2 => ?_⟩
      obtain ⟨e3, e4⟩ := hb2 e2
      exact ⟨by omega, (all_take gk _).2 ⟨hI'.2, e3⟩⟩
    · rintro v g8 s8 ⟨b2, rfl, _, hb2⟩
      refine ⟨_, rfl, ifT (fun _ g9 _ => ⟨_, rfl, fun e => by cases e⟩) (fun e2 => HJ g8 (((m1.trans m4).trans m5).trans s8.ex) ?_)⟩
      obtain ⟨e3, e4⟩ := hb2 e2
      rw [take_all (Nat.le_refl _)] at e3 e4
      exact ⟨by omega, e4, by have := hb'.1; omega⟩
  · rw [take_all (by omega)] at hall
    exact ifLe (fun q1 g10 _ => ⟨_, rfl, fun _ => ⟨by omega, hall⟩⟩) (fun _ g11 _ => ⟨_, rfl, fun e => by cases e⟩)
/-! ### The example -/
def nA : Lab := [65]
def nB : Lab := [66]
def nC : Lab := [67]
def uA : UnitD := ⟨nA, [], []⟩
def uB : UnitD := ⟨nB, [nA], []⟩
def uC : UnitD := ⟨nC, [nB], []⟩
def exL : List UnitD := [uC, uA, uB]
theorem mem_ex {u : UnitD} : u ∈ exL ↔ u = uC ∨ u = uA ∨ u = uB := by simp [exL]
theorem ex_ok : ∀ u ∈ exL, unitOK u := by
  intro u hu
  rcases mem_ex.1 hu with rfl | rfl | rfl <;> exact ⟨by decide, (by intro t ht; cases ht), by decide⟩
theorem ex_pick {out : List Lab} {u : UnitD} (hu : u ∈ exL) (hr : readyU out u) (hno : ∀ v ∈ exL, readyU out v → v = u) : pick exL out = some u.name :=
  pick_some hu hr (fun v hv hrv hlt => klt_ne (by rw [hno v hv hrv] at hlt; exact hlt) rfl)
theorem ex_topo : topo exL 3 [] = ([nA, nB, nC], 0) := by
  have p1 : pick exL [] = some nA := by
    refine ex_pick (u := uA) (mem_ex.2 (.inr (.inl rfl))) ⟨by simp, by simp [uA]⟩ (fun v hv hr => ?_)
    rcases mem_ex.1 hv with rfl | rfl | rfl
    · have := hr.2 nB (by simp [uC]); simp at this
    · rfl
    · have := hr.2 nA (by simp [uB]); simp at this
  have p2 : pick exL [nA] = some nB := by
    refine ex_pick (u := uB) (mem_ex.2 (.inr (.inr rfl))) ⟨by simp [uB, nA, nB], by simp [uB]⟩ (fun v hv hr => ?_)
    rcases mem_ex.1 hv with rfl | rfl | rfl
    · have := hr.2 nB (by simp [uC]); simp [nA, nB] at this
    · exact absurd (show uA.name ∈ [nA] by simp [uA]) hr.1
    · rfl
  have p3 : pick exL [nA, nB] = some nC := by
    refine ex_pick (u := uC) (mem_ex.2 (.inl rfl)) ⟨by simp [uC, nA, nB, nC], by simp [uC]⟩ (fun v hv hr => ?_)
    rcases mem_ex.1 hv with rfl | rfl | rfl
    · rfl
    · exact absurd (show uA.name ∈ [nA, nB] by simp [uA]) hr.1
    · exact absurd (show uB.name ∈ [nA, nB] by simp [uB]) hr.1
  rw [topo_some p1, List.nil_append, topo_some p2, List.singleton_append, topo_some p3, topo_zero]
  rfl
theorem ex_order : orderN exL = ([nA, nB, nC], 0) := by
  unfold orderN
  rw [if_neg (by decide), if_neg, if_neg, if_neg]
  · exact ex_topo
  · rintro ⟨u, hu, s, hs, hh⟩
    rcases mem_ex.1 hu with rfl | rfl | rfl <;> simp [uA, uB, uC] at hs <;> subst hs <;> exact hh (by decide)
  · exact fun hh => hh (by decide)
  · rintro ⟨u, hu, hh⟩
    rcases mem_ex.1 hu with rfl | rfl | rfl
    · exact hh (by decide +kernel)
    · exact hh (by decide +kernel)
    · exact hh (by decide +kernel)
theorem ex_ord : Ordered exL [nA, nB, nC] := by
  have := orderN_ordered (L := exL) (by rw [ex_order])
  rwa [ex_order] at this
theorem need_A (s : Lab) : ¬ NeedP exL nA s := by
  intro h
  obtain ⟨t, ht, _⟩ := (need_iff ex_ord.nd (u := uA) (mem_ex.2 (.inr (.inl rfl)))).1 h
  cases ht
theorem need_B (s : Lab) : NeedP exL nB s ↔ s = nA := by
  rw [show nB = uB.name from rfl, need_iff ex_ord.nd (u := uB) (mem_ex.2 (.inr (.inr rfl)))]
  constructor
  · rintro ⟨t, ht, hh⟩
    simp [uB] at ht
    subst ht
    rcases hh with hh | hh
    · exact hh.symm
    · exact absurd hh (need_A s)
  · rintro rfl; exact ⟨nA, by simp [uB], .inl rfl⟩
theorem need_C (s : Lab) : NeedP exL nC s ↔ s = nB ∨ s = nA := by
  rw [show nC = uC.name from rfl, need_iff ex_ord.nd (u := uC) (mem_ex.2 (.inl rfl))]
  constructor
  · rintro ⟨t, ht, hh⟩
    simp [uC] at ht
    subst ht
    rcases hh with hh | hh
    · exact .inl hh.symm
    · exact .inr ((need_B s).1 hh)
  · rintro (rfl | rfl)
    · exact ⟨nB, by simp [uC], .inl rfl⟩
    · exact ⟨nB, by simp [uC], .inr ((need_B _).2 rfl)⟩
theorem ex_rel {name : Lab} {P : Lab → Prop} (hn : name ∈ [nA, nB, nC]) : relA exL name P = ([nA, nB, nC].filter (fun s => @decide (P s) (Classical.propDecidable _)), 0) := by
  unfold relA
  rw [ex_order, if_pos rfl, if_pos hn]
theorem ex_closure : closureA exL nC = ([nA, nB], 0) := by
  unfold closureA
  rw [ex_rel (by simp)]
  simp only [List.filter_cons, List.filter_nil, need_C]
  simp [nA, nB, nC]
theorem ex_users : usersA exL nA = ([nB, nC], 0) := by
  unfold usersA
  rw [ex_rel (by simp)]
  simp only [List.filter_cons, List.filter_nil, need_C, need_B, need_A]
  simp
theorem ex_levels : (levelsA exL).2 = 0 ∧ (levelsA exL).1.length = 3 ∧ (levelsA exL).1[1]? = some [nB] := by
  classical
  have e : levelsA exL = (levelsN exL [nA, nB, nC], 0) := by unfold levelsA; rw [ex_order, if_pos rfl]
  have fA : levs exL [nA, nB, nC] nA = 0 := levs_all ex_ord (u := uA) (mem_ex.2 (.inr (.inl rfl)))
  have fB : levs exL [nA, nB, nC] nB = 1 := by
    have := levs_all ex_ord (u := uB) (mem_ex.2 (.inr (.inr rfl)))
    rw [show uB.imps = [nA] from rfl, show uB.name = nB from rfl] at this
    rw [this]
    show max 0 (levs exL [nA, nB, nC] nA + 1) = 1
    rw [fA]; rfl
  have fC : levs exL [nA, nB, nC] nC = 2 := by
    have := levs_all ex_ord (u := uC) (mem_ex.2 (.inl rfl))
    rw [show uC.imps = [nB] from rfl, show uC.name = nC from rfl] at this
    rw [this]
    show max 0 (levs exL [nA, nB, nC] nB + 1) = 2
    rw [fB]; rfl
  have fl : levOf (levs exL [nA, nB, nC]) [nA, nB, nC] = 3 := by
    show max (max (max 0 (levs exL [nA, nB, nC] nA + 1)) (levs exL [nA, nB, nC] nB + 1)) (levs exL [nA, nB, nC] nC + 1) = 3
    rw [fA, fB, fC]; rfl
  rw [e]
  refine ⟨rfl, ?_, ?_⟩
  · show (levelsN _ _).length = 3
    unfold levelsN
    rw [List.length_map, rowsN_len, fl]
  · show (levelsN _ _)[1]? = _
    unfold levelsN
    rw [List.getElem?_map, rowsN_get (by rw [fl]; omega)]
    show some (sortS (Go.Syn.rowAt _ _ 1)) = _
    have : Go.Syn.rowAt (levs exL [nA, nB, nC]) [nA, nB, nC] 1 = [nB] := by
      unfold Go.Syn.rowAt
      simp [fA, fB, fC]
    rw [this]
    rfl
/-- awake. -/
theorem kkd4 (g : G) (ht : TabG g) : CallsP Tryd.prog 4 #[] g fun v _ => v = .bool true := by
  refine call4 g _ ?_
  unfold F4
  intro g1 n1 g2 n2 g3 n3
  have s1 : SlE strE g1 (some ⟨g.w.heap.size, 0, none⟩) 1 1 [nB] := n1.sle (Rws.single rfl) (by unfold maxLen; simp)
  have s2 : SlE strE g2 (some ⟨g1.w.heap.size, 0, none⟩) 1 1 [nA] := n2.sle (Rws.single rfl) (by unfold maxLen; simp)
  have e13 : Ex g1 g3 := n2.ex.trans n3.ex
  have e03 : Ex g g3 := n1.ex.trans e13
  have rw1 : Rws unitE g2 [(.string (bs [67])), (.slice (some ⟨g.w.heap.size, 0, none⟩) 1 1), (.slice none 0 0), (.string (bs [65])), (.slice none 0 0), (.slice none 0 0), (.string (bs [66])), (.slice (some ⟨g1.w.heap.size, 0, none⟩) 1 1), (.slice none 0 0)] exL :=
    Rws.cons (r := [.string (bstr nC), .slice (some ⟨g.w.heap.size, 0, none⟩) 1 1, .slice none 0 0]) (x := uC) ⟨_, _, _, _, _, _, rfl, s1.exm n2.ex, SlE.zero _⟩ (Rws.cons (r := [.string (bstr nA), .slice none 0 0, .slice none 0 0]) (x := uA) ⟨_, _, _, _, _, _, rfl, SlE.zero _, SlE.zero _⟩ (Rws.single (r := [.string (bstr nB), .slice (some ⟨g1.w.heap.size, 0, none⟩) 1 1, .slice none 0 0]) (x := uB) ⟨_, _, _, _, _, _, rfl, s2, SlE.zero _⟩))
  have sU : SlE unitE g3 (some ⟨g2.w.heap.size, 0, none⟩) 3 3 exL := n3.sle (xs := exL) rw1 (by unfold maxLen; simp [exL])
  have ht3 := ht.exm e03
  refine (kkd6 ex_ok ht3 sU).mono ?_
  rintro v g4 m4 ⟨la, ln, lc, rfl, hl⟩
  refine ⟨_, _, _, _, rfl, (kkd8 nC ex_ok (ht3.exm m4) (sU.exm m4)).mono ?_⟩
  rintro v g5 m5 ⟨ca, cn, cc, rfl, hc⟩
  refine ⟨_, _, _, _, rfl, (kkd9 nA ex_ok ((ht3.exm m4).exm m5) ((sU.exm m4).exm m5)).mono ?_⟩
  rintro v g6 m6 ⟨pa, pn, pc, rfl, hp⟩
  rw [ex_closure] at hc ⊢
  rw [ex_users] at hp ⊢
  obtain ⟨x1, x2, x3⟩ := ex_levels
  rw [x1]
  have hln := hl.len
  have hl6 := (hl.exm m5).exm m6
  refine ⟨_, _, _, _, rfl, ifEq (fun _ => ifEq (fun _ => ⟨⟨by omega, by omega⟩, ?_⟩) (fun hh => absurd (by omega) hh)) (fun hh => absurd rfl hh)⟩
  refine rdL hl6 1 rfl x3 (fun xa xl xc hx g7 n7 => (kk21 [nB] [nB] (hx.exm n7.ex) (n7.sle (Rws.single rfl) (by unfold maxLen; simp))).mono ?_)
  rintro v g8 m8 rfl
  refine ⟨_, rfl, ifP (fun _ => ifEq (fun _ g9 n9 => ?_) (fun hh => absurd rfl hh)) (fun hh => absurd rfl hh)⟩
  refine (kk21 [nA, nB] [nA, nB] ((((hc.exm m6).exm n7.ex).exm m8).exm n9.ex) (n9.sle (Rws.cons (r := [.string (bstr nA)]) (x := nA) rfl (Rws.single (r := [.string (bstr nB)]) (x := nB) rfl)) (by unfold maxLen; simp))).mono ?_
  rintro v g10 m10 rfl
  refine ⟨_, rfl, ifP (fun _ => ifEq (fun _ g11 n11 => ?_) (fun hh => absurd rfl hh)) (fun hh => absurd rfl hh)⟩
  refine (kk21 [nB, nC] [nB, nC] (((((hp.exm n7.ex).exm m8).exm n9.ex).exm m10).exm n11.ex) (n11.sle (Rws.cons (r := [.string (bstr nB)]) (x := nB) rfl (Rws.single (r := [.string (bstr nC)]) (x := nC) rfl)) (by unfold maxLen; simp))).mono ?_
  rintro v g12 m12 rfl
  exact ⟨_, rfl, fun g13 _ => by rw [tf_of rfl]⟩
end Go.Proofs.YtmkdbndniffkfaaDoor
