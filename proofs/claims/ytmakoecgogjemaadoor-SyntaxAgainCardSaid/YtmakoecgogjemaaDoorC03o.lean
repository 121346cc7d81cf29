/- Syntax trees: Paths. -/
import Derived.Test.YtmakoecgogjemaaDoorC03n
import Derived.Test.YtmakoecgogjemaaDoorSpath
set_option linter.unusedVariables false
namespace Go.Proofs.YtmakoecgogjemaaDoor
open Go Go.Vc Go.RowKit Go.Syn

abbrev pathE : El (List (List UInt8)) := lsE strE
theorem E22 : Elem Tryd.prog 22 9 1 16 := ⟨Tryd.underlying22, by kernel_rfl⟩
theorem E34 : Elem Tryd.prog 34 22 1 24 := ⟨Tryd.underlying34, by kernel_rfl⟩
/-- slices.Clone. -/
theorem k42 (L : List (List UInt8)) {a : Option Addr} {n c : Nat} {g : G} (h : SlE strE g a n c L) (hn : n ≤ 1048576) :
    CallsP Tryd.prog 42 #[.slice a n c] g fun v g' => ∃ a' c', v = .slice a' n c' ∧ SlE strE g' a' n c' L := by
  refine call42 a n c g _ ?_
  have hl := h.len
  have hc := h.le
  unfold F42
  refine ifT (fun q g1 m1 => ?_) (fun q g2 n2 => ?_)
  · obtain rfl : a = none := by simpa using q
    have h0 := h.nil rfl
    obtain rfl : n = 0 := by omega
    obtain rfl : L = [] := List.eq_nil_of_length_eq_zero hl
    exact ⟨none, 0, rfl, SlE.zero _⟩
  · have ho : OwnE strE g2 g.w.heap.size 9 (some ⟨g.w.heap.size, 0, none⟩) 0 0 [] := OwnE.lit n2 Rws.nil (Nat.le_refl _) (by unfold maxLen; simp)
    obtain ⟨a', c', w', hr, g3, hw, hs, ho3, _, _⟩ := ho.app E22 22 n2.ex.size (h.exm n2.ex) (by omega) (by unfold maxLen; omega)
    rw [Nat.zero_add] at hr ho3
    refine ⟨a', n, c', w', hr, g3, hw, hs, fun g4 m4 => ⟨a', c', rfl, ho3.sl.exm m4⟩⟩
/-- What walk does. -/
def W40 (t : Sy) : Prop := ∀ (T : List (List (List UInt8))) {B ob wb : Nat} {oa : Option Addr} {on oc : Nat} {na : Option Addr} {nn nc : Nat} {a : Option Addr} {n c : Nat} {g : G}, SynI g t na nn nc a n c → T.length + size t ≤ 20000 →
  MutB g ob 34 [.slice oa on oc] → OwnE pathE g B 22 oa on oc T → B ≤ g.w.heap.size → ob < B → Live g ⟨wb, 0, none⟩ (.func (.func 40) #[] ⟨[.pointer (some ⟨ob, 0, none⟩), .pointer (some ⟨wb, 0, none⟩)]⟩) →
  CallsG Tryd.prog 40 #[synV t na nn nc a n c, .pointer (some ⟨ob, 0, none⟩), .pointer (some ⟨wb, 0, none⟩)] g (fun z => z = ob ∨ blkOf oa z) fun v g' =>
    v = .tuple ⟨[]⟩ ∧ ∃ oa' on' oc', MutB g' ob 34 [.slice oa' on' oc'] ∧ OwnE pathE g' B 22 oa' on' oc' (T ++ pathsT t) ∧ (∀ z, blkOf oa' z → blkOf oa z ∨ g.w.heap.size ≤ z)
theorem w40 (t : Sy) (hok : okT t) : W40 t := by
  induction t using Tr.ind with
  | h d l ih =>
    intro T B ob wb oa on oc na nn nc a n c g h hsz hm ho hB hob hw
    refine call40 _ _ _ _ _ _ _ _ _ _ _ g _ _ ?_
    obtain ⟨hokD, hokL⟩ := okT_iff.1 hok
    have hK : SlE synE g a n c l := h.kids
    have hl := hK.len
    have hcp := hK.le
    have hmx := hK.cap
    unfold maxLen at hmx
    have hse : size (.mk d l) = sizeL l + 1 := rfl
    unfold F40
    -- the loop over the parts
    intro J hJ g6 m6
    have loop : ∀ (g1 : G) (T1 : List (List (List UInt8))) (oa1 : Option Addr) (on1 oc1 : Nat), Le g g1 → MutB g1 ob 34 [.slice oa1 on1 oc1] → OwnE pathE g1 B 22 oa1 on1 oc1 T1 → T1.length + sizeL l ≤ 20000 → (∀ z, blkOf oa1 z → blkOf oa z ∨ g.w.heap.size ≤ z) →
        T1 ++ pathsL l = T ++ pathsT (.mk d l) → J g1 := by
      intro g1 T1 oa1 on1 oc1 le1 hm1 ho1 hT1 hb1 hfin
      refine hJ g1 ⟨fun m v g' => ∃ (j : Nat) (oa2 : Option Addr) (on2 oc2 : Nat), v = ((j : Nat) : Int) ∧ j + m = n ∧ MutB g' ob 34 [.slice oa2 on2 oc2] ∧ OwnE pathE g' B 22 oa2 on2 oc2 (T1 ++ pathsL (l.take j)) ∧ (∀ z, blkOf oa2 z → blkOf oa z ∨ g.w.heap.size ≤ z),
        ⟨n, 0, oa1, on1, oc1, rfl, by omega, hm1, by simpa [pathsL] using ho1, hb1⟩, ?_⟩
      rintro m v g2 le2 ⟨j, oa2, on2, oc2, rfl, hj, hm2, ho2, hb2⟩
      have le02 := le1.trans le2
      refine ifLt (fun hlt => ⟨⟨by omega, by omega⟩, ?_⟩) (fun hge g5 m5 => ⟨rfl, oa2, on2, oc2, hm2.ex m5, ?_, hb2⟩)
      · have gj := List.getElem?_eq_getElem (show j < l.length by omega)
        generalize l[j] = y at gj
        have hin := List.mem_of_getElem? gj
        refine rdT (hK.mono le02) j rfl gj (fun na' nn' nc' ka kn kc hy g3 m3 => ⟨40, _, ((hw.mono le02).mono m3.le).1, ⟨_, Tryd.func40, by kernel_rfl, by kernel_rfl⟩, (fun z => z = ob ∨ blkOf oa2 z), ?_, ?_⟩)
        · rintro z hz (e | e)
          · exact .inl e
          · rcases hb2 z e with e | e
            · exact .inr e
            · omega
        · have hle := sizeL_take gj
          have hle2 := sizeL_le l (j + 1)
          have hpl := pathsL_le (l.take j)
          refine CallsG.mono (ih y hin (hokL y hin) (T1 ++ pathsL (l.take j)) (hy.exm m3) (by rw [List.length_append]; omega) (hm2.ex m3) (ho2.exm m3) (Nat.le_trans hB (le02.trans m3.le).size) hob ((hw.mono le02).mono m3.le)) ?_
          rintro v g4 s4 ⟨rfl, oa', on', oc', hm4, ho4, hb4⟩
          refine ⟨rfl, i64 (by omega) (by omega), m - 1, by omega, j + 1, oa', on', oc', by omega, by omega, hm4, ?_, fun z hz => ?_⟩
          · rw [pathsL_take gj, ← List.append_assoc]; exact ho4
          · rcases hb4 z hz with e | e
            · exact hb2 z e
            · have := (le02.trans m3.le).size; exact .inr (by omega)
      · rw [take_all (by omega), hfin] at ho2
        exact ho2.exm m5
    refine (k41 d.op g6).mono ?_
    rintro v g7 m67 rfl
    have m07 := m6.trans m67
    refine ⟨_, _, _, rfl, ?_⟩
    intro J1 hJ1
    have skip : ∀ g8, Ex g g8 → ¬ bearP d.op → J g8 := by
      intro g8 m8 q
      refine loop g8 T oa on oc m8.le (hm.ex m8) (ho.exm m8) (by omega) (fun z hz => .inl hz) ?_
      rw [paths_eq]
      show T ++ pathsL l = T ++ ((if bearP d.op then _ else _) ++ pathsL l)
      rw [if_neg q, List.nil_append]
    have put : ∀ g8, Ex g g8 → bearP d.op → J1 true g8 := by
      intro g8 m8 q
      refine hJ1 true g8 (ifT (fun _ g9 m9 => ?_) (fun hh => by cases hh))
      have m09 := m8.trans m9
      have hN : SlE strE g na nn nc d.names := h.names
      have hnl := hN.len
      have hokn : d.names.length ≤ 1048576 := hokD.2
      refine ⟨oa, on, oc, (hm.ex m09).rd0 rfl, (k42 d.names (hN.exm m09) (by omega)).mono ?_⟩
      rintro v g10 m10 ⟨a', c', rfl, hsl⟩
      refine ⟨a', nn, c', rfl, fun g11 n11 => ?_⟩
      have m010 := m09.trans m10
      have m011 := m010.trans n11.ex
      have hol := ho.len
      obtain ⟨a2, c2, w', hr, g12, hw', hs, ho12, hst, hbl⟩ := (ho.exm m010).app1 E34 34 (Nat.le_trans hB m010.size) n11 ⟨_, _, _, rfl, hsl⟩ (by omega) (by unfold maxLen; omega)
      have nb : ¬ blkOf oa ob := ho.ne hob
      have hm12 : MutB g12 ob 34 [.slice oa on oc] := (hm.ex m011).but (hst.but (Nat.le_refl _)) nb
      have sz := m011.size
      refine ⟨a2, on + 1, c2, w', hr, g12, hw', hst.mono (B := g.w.heap.size) sz (fun z hz e => .inr e), hm12.ok0 (Nat.le_refl _), hm12.nx, hm12.mut0 _, fun _ => .inl rfl, fun g13 k13 => ?_⟩
      obtain ⟨hm13, but13⟩ := hm12.st0 k13
      rw [set1] at hm13
      refine loop g13 (T ++ [d.names]) a2 (on + 1) c2 ((m011.le.trans hst.le).trans (mut_le hm12 but13)) hm13 (ho12.but but13 (fun z hz e => ho12.ne hob (e ▸ hz)) (mut_le hm12 but13)) (by rw [List.length_append, List.length_singleton]; omega) (fun z hz => ?_) ?_
      · rcases hbl z hz with e | e
        · exact .inl e
        · exact .inr (by omega)
      · rw [paths_eq]
        show (T ++ [d.names]) ++ pathsL l = T ++ ((if bearP d.op then [d.names] else _) ++ pathsL l)
        rw [if_pos q, List.append_assoc]
    have hbi := bear_iff d.op
    refine ifP (fun q1 g14 m14 => ?_) (fun q1 g15 m15 => ?_)
    · show J1 (!tf (usesS d.op)) g14
      rw [tf_not]
      by_cases q2 : usesS d.op
      · rw [tf_no (fun hh => hh q2)]
        exact hJ1 false g14 (ifT (fun hh => by cases hh) (fun _ => skip g14 (m07.trans m14) (fun hh => (hbi.1 hh).2 q2)))
      · rw [tf_of q2]
        exact put g14 (m07.trans m14) (hbi.2 ⟨q1, q2⟩)
    · exact hJ1 false g15 (ifT (fun hh => by cases hh) (fun _ => skip g15 (m07.trans m15) (fun hh => q1 (hbi.1 hh).1)))
/-- Paths. -/
theorem k19 (t : Sy) (hok : okT t) (hsz : size t ≤ 20000) {na : Option Addr} {nn nc : Nat} {a : Option Addr} {n c : Nat} {g : G} (ht : TabG g) (h : SynI g t na nn nc a n c) :
    CallsP Tryd.prog 19 #[synV t na nn nc a n c] g fun v g' => ∃ oa on oc, (v = .tuple ⟨[.slice oa on oc, .int .i64 0]⟩ ∧ SlE pathE g' oa on oc (pathsT t) ∧ catN t.dat.op ≠ 0 ∧ formedP t) ∨ (v = .tuple ⟨[.slice oa on oc, .int .i64 1]⟩ ∧ on = 0 ∧ ¬ (catN t.dat.op ≠ 0 ∧ formedP t)) := by
  refine call19 _ _ _ _ _ _ _ _ _ g _ ?_
  unfold F19
  refine fun g1 m1 => (k39 t hok hsz (ht.exm m1) (h.exm m1)).mono ?_
  rintro v g2 m12 rfl
  have m2 := m1.trans m12
  refine ⟨_, rfl, ifPn (fun q g3 _ => ⟨none, 0, 0, .inr ⟨rfl, rfl, q⟩⟩) (fun q g4 n4 g5 n5 => ?_)⟩
  have hm4 := n4.mut
  have hm5 := n5.mut
  have sz2 := m2.size
  have sz4 := n4.ex.size
  have hlt4 : g2.w.heap.size < g4.w.heap.size := hm4.lt
  refine ⟨hm5.ok0 (Nat.le_refl _), hm5.nx, hm5.mut0 _, fun hh => absurd hh (by show ¬ g4.w.heap.size < g.w.heap.size; omega), fun g6 k6 => ?_⟩
  obtain ⟨hw6, but6⟩ := hm5.pub1 k6
  have ne : ¬ g2.w.heap.size = g4.w.heap.size := by omega
  have hm6 := (hm4.ex n5.ex).but but6 ne
  have le56 : Le g5 g6 := but6.le (fun x e i => e ▸ hm5.d i)
  have le6 : Le g g6 := m2.le.trans (n4.ex.le.trans (n5.ex.le.trans le56))
  refine ⟨40, _, hw6.1, ⟨_, Tryd.func40, by kernel_rfl, by kernel_rfl⟩, (fun z => z = g2.w.heap.size ∨ blkOf none z), ?_, ?_⟩
  · rintro z hz (e | ⟨_, e, _⟩)
    · omega
    · cases e
  refine CallsG.mono (w40 t hok [] (B := g2.w.heap.size + 1) (h.mono le6) (by simpa using hsz) hm6 (OwnE.nil _ _ _) (by have := (n5.ex.le.trans le56).size; omega) (Nat.lt_succ_self _) hw6) ?_
  rintro v g7 s7 ⟨rfl, oa, on, oc, hm7, ho7, _⟩
  rw [List.nil_append] at ho7
  exact ⟨rfl, oa, on, oc, hm7.rd0 rfl, fun g8 m8 => ⟨oa, on, oc, .inl ⟨rfl, ho7.sl.exm m8, q⟩⟩⟩
/-- named. -/
theorem k45 (op : Int) (g : G) : CallsP Tryd.prog 45 #[.int .i64 op] g fun v _ => v = .bool (tf (bearP op)) := by
  refine call45 op g _ ?_
  unfold F45 bearP
  intro g1 n1
  have hsl := n1.sle (E := intE') (ints_rws g [2, 5, 14, 23, 24, 34, 48, 49, 66, 72, 74, 82]) (by unfold maxLen; simp)
  generalize hL : ([2, 5, 14, 23, 24, 34, 48, 49, 66, 72, 74, 82] : List Int) = L at hsl ⊢
  have hl : L.length = 12 := by rw [← hL]; rfl
  refine ⟨fun m i g' => ∃ j : Nat, i = ((j : Nat) : Int) ∧ j + m = 12 ∧ ∀ y ∈ L.take j, y ≠ op, ⟨12, 0, rfl, by omega, by simp⟩, ?_⟩
  rintro m i g2 le ⟨j, rfl, hj, hall⟩
  refine ifLt (fun hlt => ⟨⟨by omega, by omega⟩, ?_⟩) (fun hge g4 _ => vF (fun hh => ?_))
  · have gj := List.getElem?_eq_getElem (show j < L.length by omega)
    generalize L[j] = y at gj
    exact rdN (hsl.mono le) j rfl gj (ifEq (fun e g3 _ => vT (e ▸ List.mem_of_getElem? gj)) (fun e => ⟨i64 (by omega) (by omega), m - 1, by omega, j + 1, by omega, by omega, (all_take gj _).2 ⟨hall, e⟩⟩))
  · rw [take_all (by omega)] at hall
    exact hall op hh rfl
/-- Paths, of the reference. -/
theorem k22 : ∀ (t : Sy), size t ≤ 20000 → ∀ {na : Option Addr} {nn nc : Nat} {a : Option Addr} {n c : Nat} {g : G}, SynI g t na nn nc a n c →
    CallsP Tryd.prog 22 #[synV t na nn nc a n c] g fun v g' => ∃ oa on oc, v = .slice oa on oc ∧ SlE pathE g' oa on oc (pathsT t) := by
  intro t
  induction t using Tr.ind with
  | h d l ih =>
    intro hsz na nn nc a n c g h
    refine call22 _ _ _ _ _ _ _ _ _ g _ ?_
    have hK : SlE synE g a n c l := h.kids
    have hl := hK.len
    have hcp := hK.le
    have hmx := hK.cap
    unfold maxLen at hmx
    have hse : size (.mk d l) = sizeL l + 1 := rfl
    unfold F22
    intro J hJ g6 m6
    have loop : ∀ (g1 : G) (T1 : List (List (List UInt8))) (oa1 : Option Addr) (on1 oc1 : Nat), Ex g g1 → OwnE pathE g1 g.w.heap.size 22 oa1 on1 oc1 T1 → T1.length ≤ 1 → T1 ++ pathsL l = pathsT (.mk d l) → J oa1 on1 oc1 g1 := by
      intro g1 T1 oa1 on1 oc1 m1 ho1 hT1 hfin
      refine hJ oa1 on1 oc1 g1 ⟨fun m oa2 on2 oc2 v g' => ∃ j : Nat, v = ((j : Nat) : Int) ∧ j + m = n ∧ OwnE pathE g' g.w.heap.size 22 oa2 on2 oc2 (T1 ++ pathsL (l.take j)), ⟨n, 0, rfl, by omega, by simpa [pathsL] using ho1⟩, ?_⟩
      rintro m oa2 on2 oc2 v g2 le2 ⟨j, rfl, hj, ho2⟩
      have le02 := m1.le.trans le2
      have hol := ho2.len
      have hpl := pathsL_le (l.take j)
      have hle2 := sizeL_le l j
      rw [List.length_append] at hol
      refine ifLt (fun hlt => ⟨⟨by omega, by omega⟩, ?_⟩) (fun hge g5 m5 => ⟨oa2, on2, oc2, rfl, ?_⟩)
      · have gj := List.getElem?_eq_getElem (show j < l.length by omega)
        generalize l[j] = y at gj
        have hin := List.mem_of_getElem? gj
        have hsy := size_mem hin
        refine rdT (hK.mono le02) j rfl gj (fun na' nn' nc' ka kn kc hy => (ih y hin (by omega) hy).mono ?_)
        rintro v g3 m3 ⟨xa, xl, xc, rfl, hx⟩
        have hxl := hx.len
        have hpy := paths_le y
        obtain ⟨a', c', w', hr, g4, hw, hs, ho4, _, _⟩ := (ho2.exm m3).app E34 34 (Nat.le_trans le02.size m3.size) hx (by omega) (by unfold maxLen; omega)
        refine ⟨xa, xl, xc, rfl, a', on2 + xl, c', w', hr, g4, hw, hs, i64 (by omega) (by omega), m - 1, by omega, j + 1, by omega, by omega, ?_⟩
        rw [pathsL_take gj, ← List.append_assoc]
        exact ho4
      · rw [take_all (by omega), hfin] at ho2
        exact ho2.sl.exm m5
    refine (k45 d.op g6).mono ?_
    rintro v g7 m67 rfl
    have m07 := m6.trans m67
    refine ⟨_, rfl, ifP (fun q g8 n8 => ?_) (fun q => ?_)⟩
    · obtain ⟨a', c', w', hr, g9, hw, hs, ho9, hst, hbl⟩ := (OwnE.nil (E := pathE) g7 g.w.heap.size 22).app1 E34 34 m07.size n8 ⟨_, _, _, rfl, h.names.exm m07⟩ (by omega) (by unfold maxLen; omega)
      have m8 := m07.trans n8.ex
      have hst' : Ex g8 g9 := (hst.mono (M := nobody) (Nat.le_refl _) (fun z _ e => by obtain ⟨_, e, _⟩ := e; cases e)).ex
      refine ⟨a', 0 + 1, c', w', hr, g9, hw, hs, loop g9 [d.names] a' (0 + 1) c' (m8.trans hst') ho9 (Nat.le_refl _) ?_⟩
      rw [paths_eq]
      show [d.names] ++ pathsL l = (if bearP d.op then [d.names] else _) ++ pathsL l
      rw [if_pos q]
    · refine loop g7 [] none 0 0 m07 (OwnE.nil _ _ _) (Nat.zero_le _) ?_
      rw [paths_eq]
      show [] ++ pathsL l = (if bearP d.op then _ else []) ++ pathsL l
      rw [if_neg q]
/-- slices.EqualFunc, of paths. -/
theorem k44 (x y : List (List UInt8)) {a b : Option Addr} {n c m d : Nat} {g : G} (hx : SlE strE g a n c x) (hy : SlE strE g b m d y) : CallsP Tryd.prog 44 #[.slice a n c, .slice b m d] g fun v _ => v = .bool (tf (x = y)) := by
  refine call44 _ _ _ _ _ _ g _ ?_
  unfold F44
  refine (k30 x y hx hy).mono ?_
  rintro v g1 _ rfl
  exact ⟨_, rfl, fun _ _ => rfl⟩
theorem k43 (L M : List (List (List UInt8))) {a b : Option Addr} {n c m d : Nat} {g : G} (hx : SlE pathE g a n c L) (hy : SlE pathE g b m d M) : CallsP Tryd.prog 43 #[.slice a n c, .slice b m d, .func (.func 44) #[] #[]] g fun v _ => v = .bool (tf (L = M)) := by
  refine call43 _ _ _ _ _ _ 44 #[] g _ ?_
  have h1 := hx.len
  have h2 := hy.len
  have hcp := hx.le
  have hmx := hx.cap
  unfold maxLen at hmx
  unfold F43
  refine ifNe (fun q g1 _ => vF (fun e => q (by rw [e] at h1; omega))) (fun q => ?_)
  refine ⟨fun m i g' => ∃ j : Nat, i = ((j : Nat) : Int) ∧ j + m = n ∧ L.take j = M.take j, ⟨n, 0, rfl, by omega, by simp⟩, ?_⟩
  rintro m i g2 le ⟨j, rfl, hj, hall⟩
  refine ifLt (fun hlt => ⟨⟨by omega, by omega⟩, ?_⟩) (fun hge g5 _ => vT ?_)
  · have gj := List.getElem?_eq_getElem (show j < L.length by omega)
    have gk := List.getElem?_eq_getElem (show j < M.length by omega)
    generalize L[j] = x at gj
    generalize M[j] = y at gk
    refine rdL (hx.mono le) j rfl gj (fun xa xl xc hxx => ⟨⟨by omega, by omega⟩, rdL (hy.mono le) j rfl gk (fun ya yl yc hyy => ⟨⟨_, Tryd.func44, by kernel_rfl, by kernel_rfl⟩, (k44 x y hxx hyy).mono ?_⟩)⟩)
    rintro v g3 _ rfl
    refine ⟨_, rfl, ifPn (fun q2 g4 _ => vF (fun e => ?_)) (fun q2 => ⟨i64 (by omega) (by omega), m - 1, by omega, j + 1, by omega, by omega, (take_eq gj gk).2 ⟨hall, q2⟩⟩)⟩
    subst e
    rw [gj] at gk
    exact q2 (Option.some.inj gk)
  · rw [take_all (by omega), take_all (by omega)] at hall
    exact hall
theorem k21 (L M : List (List (List UInt8))) {a b : Option Addr} {n c m d : Nat} {g : G} (hx : SlE pathE g a n c L) (hy : SlE pathE g b m d M) : CallsP Tryd.prog 21 #[.slice a n c, .slice b m d] g fun v _ => v = .bool (tf (L = M)) := by
  refine call21 _ _ _ _ _ _ g _ ?_
  unfold F21
  refine (k43 L M hx hy).mono ?_
  rintro v g1 _ rfl
  exact ⟨_, rfl, fun _ _ => rfl⟩
end Go.Proofs.YtmakoecgogjemaaDoor
