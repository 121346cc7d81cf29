/- Joined texts. -/
import Derived.Test.YtmkdbndniffkfaaGreatDoorC41x
import Derived.Test.YtmkdbndniffkfaaGreatDoorSplan
/- The reference's levels and needs; the law RecompileGraphs. -/
set_option linter.unusedVariables false
namespace Go.Proofs.YtmkdbndniffkfaaGreatDoor
open Go Go.Vc Go.RowKit Go.Syn

/-- index. -/
theorem k75 {L : List UnitD} (name : Lab) {a : Option Addr} {n c : Nat} {g : G} (h : SlE unitE g a n c L) (hn : n ≤ 1048576) : CallsP Tryz.prog 75 #[.slice a n c, .string (bstr name)] g fun v _ =>
    ∃ i : Int, v = .int .i64 i ∧ ((i = -1 ∧ name ∉ namesU L) ∨ ∃ (j : Nat) (u : UnitD), i = ((j : Nat) : Int) ∧ L[j]? = some u ∧ u.name = name) := by
  refine call75 a n c _ g _ ?_
  have hl := h.len
  unfold F75
  refine ⟨fun m i g' => ∃ j : Nat, i = ((j : Nat) : Int) ∧ j + m = n ∧ ∀ u ∈ L.take j, u.name ≠ name, ⟨n, 0, rfl, by omega, by simp⟩, ?_⟩
  rintro m i g1 le ⟨j, rfl, hj, hno⟩
  refine ifLt (fun q => ⟨⟨by omega, by omega⟩, ?_⟩) (fun q g3 _ => ⟨_, rfl, .inl ⟨rfl, ?_⟩⟩)
  · have gj := List.getElem?_eq_getElem (show j < L.length by omega)
    generalize L[j] = u at gj
    refine rdUA (h.mono le) j rfl gj (fun ad ia im ic da dn dc hI hc => ⟨_, (hc g1 (Le.refl _)).1, ?_⟩)
    rw [strEq_bstr]
    exact ifP (fun q1 g2 _ => ⟨_, rfl, .inr ⟨j, u, rfl, gj, q1⟩⟩) (fun q1 => ⟨i64 (by omega) (by omega), m - 1, by omega, j + 1, by omega, by omega, (all_take gj _).2 ⟨hno, q1⟩⟩)
  · rw [take_all (by omega)] at hno
    intro hh
    obtain ⟨u, hu, e⟩ := mem_names.1 hh
    exact hno u hu e
section
variable {L : List UnitD} {o : List Lab} {a : Option Addr} {n c : Nat} (hO : Ordered L o)
include hO
/-- level. -/
theorem k58 : ∀ u ∈ L, ∀ (g : G) (ia : Option Addr) (im ic : Nat) (da : Option Addr) (dn dc : Nat), SlE unitE g a n c L → UnI g u ia im ic da dn dc →
    CallsP Tryz.prog 58 #[.slice a n c, unitV u ia im ic da dn dc] g fun v _ => v = .int .i64 ((levs L o u.name : Nat) : Int) := by
  refine hO.ind fun u hu ih g ia im ic da dn dc h hI => ?_
  refine call58 a n c _ _ _ _ _ _ _ g _ ?_
  have hl := h.len
  have h16 := hO.ln
  have hil := hI.imps.len
  have hi16 := (hO.ok u hu).2.1
  unfold F58
  refine ⟨fun m v i g' => ∃ p : Nat, i = ((p : Nat) : Int) ∧ p + m = im ∧ v = ((levOf (levs L o) (u.imps.take p) : Nat) : Int), fun g1 _ => ⟨im, 0, rfl, by omega, rfl⟩, ?_⟩
  rintro m v i g2 le ⟨p, rfl, hp, rfl⟩
  refine ifLt (fun q => ⟨⟨by omega, by omega⟩, ?_⟩) (fun q g5 _ => by rw [take_all (by omega), ← levs_all hO hu])
  have gp := List.getElem?_eq_getElem (show p < u.imps.length by omega)
  generalize u.imps[p] = s at gp
  have hs := List.mem_of_getElem? gp
  have hsU := hO.imp u hu s hs
  have h2 := h.mono le
  refine rdS (hI.imps.mono le) p rfl gp ((k75 s h2 (by omega)).mono ?_)
  rintro v g3 m3 ⟨x, rfl, hx⟩
  rcases hx with ⟨_, hno⟩ | ⟨j, w, rfl, gj, hw⟩
  · exact absurd hsU hno
  have hjl := (List.getElem?_eq_some_iff.1 gj).1
  have hwL := List.mem_of_getElem? gj
  refine ⟨_, rfl, ⟨by omega, by omega⟩, rdUA (h2.exm m3) j rfl gj (fun ad ia2 im2 ic2 da2 dn2 dc2 hI2 hc => ?_)⟩
  obtain ⟨c0, c1, c2⟩ := hc g3 (Le.refl _)
  refine ⟨_, _, _, _, _, _, _, c0, c1, c2, (ih w hwL (by rw [hw]; exact hs) g3 _ _ _ _ _ _ (h2.exm m3) hI2).mono ?_⟩
  rintro v g4 _ rfl
  have hlv : levs L o w.name < 16 := by
    have := levs_lt hO o.length (Nat.le_refl _) w.name (by rw [List.take_length, hO.mem]; exact mem_names.2 ⟨w, hwL, rfl⟩)
    rw [List.take_length] at this
    have := hO.len
    omega
  refine ⟨_, rfl, i64 (by omega) (by omega), i64 (by omega) (by omega), m - 1, by omega, p + 1, by omega, by omega, ?_⟩
  rw [List.take_add_one, gp]
  show maxI _ _ = ((levOf (levs L o) (u.imps.take p ++ [s]) : Nat) : Int)
  rw [levOf_snoc, ← hw]
  unfold maxI
  split <;> omega
/-- Needs. -/
theorem k90 (other : Lab) : ∀ u ∈ L, ∀ (g : G), SlE unitE g a n c L → CallsP Tryz.prog 90 #[.slice a n c, .string (bstr u.name), .string (bstr other)] g fun v _ => v = .bool (tf (NeedP L u.name other)) := by
  refine hO.ind fun u hu ih g h => ?_
  refine call90 a n c _ _ g _ ?_
  have hl := h.len
  have h16 := hO.ln
  unfold F90
  refine (k75 u.name h (by omega)).mono ?_
  rintro v g1 m1 ⟨x, rfl, hx⟩
  rcases hx with ⟨_, hno⟩ | ⟨j, w, rfl, gj, hw⟩
  · exact absurd (mem_names.2 ⟨u, hu, rfl⟩) hno
  have hjl := (List.getElem?_eq_some_iff.1 gj).1
  have e := units_inj hO.nd (List.mem_of_getElem? gj) hu hw
  subst e
  have h1 := h.exm m1
  refine ⟨_, rfl, ⟨by omega, by omega⟩, rdUA h1 j rfl gj (fun ad ia im ic da dn dc hI hc => ?_)⟩
  obtain ⟨c0, c1, c2⟩ := hc g1 (Le.refl _)
  have hil := hI.imps.len
  have hi16 := (hO.ok w hu).2.1
  refine ⟨_, _, _, _, _, _, _, c0, c1, c2, fun m i g' => ∃ p : Nat, i = ((p : Nat) : Int) ∧ p + m = im ∧ ∀ t ∈ w.imps.take p, ¬ (t = other ∨ NeedP L t other), fun g2 _ => ⟨im, 0, rfl, by omega, by simp⟩, ?_⟩
  rintro m i g3 le ⟨p, rfl, hp, hno⟩
  refine ifLt (fun q => ⟨⟨by omega, by omega⟩, ?_⟩) (fun q g7 _ => ?_)
  · have gp := List.getElem?_eq_getElem (show p < w.imps.length by omega)
    generalize w.imps[p] = s at gp
    have hs := List.mem_of_getElem? gp
    obtain ⟨y, hy, rfl⟩ := mem_names.1 (hO.imp w hu s hs)
    refine rdS (hI.imps.mono le) p rfl gp ?_
    rw [strEq_bstr]
    refine ifP (fun q1 g4 _ => vT ((need_iff hO.nd hu).2 ⟨_, hs, .inl q1⟩)) (fun q1 => ⟨⟨by omega, by omega⟩, rdS (hI.imps.mono le) p rfl gp ((ih y hy hs g3 (h1.mono le)).mono ?_)⟩)
    rintro v g5 _ rfl
    exact ⟨_, rfl, ifP (fun q2 g6 _ => vT ((need_iff hO.nd hu).2 ⟨_, hs, .inr q2⟩)) (fun q2 => ⟨i64 (by omega) (by omega), m - 1, by omega, p + 1, by omega, by omega, (all_take gp _).2 ⟨hno, fun hh => hh.elim q1 q2⟩⟩)⟩
  · rw [take_all (by omega)] at hno
    refine vF (fun hh => ?_)
    obtain ⟨t, ht, ht2⟩ := (need_iff hO.nd hu).1 hh
    exact hno t ht ht2
end
theorem ex_stp {a b c : G} (h : Ex a b) (k : Stp a.w.heap.size nobody b c) : Ex a c :=
  ⟨Nat.le_trans h.size k.le.size, fun x hx hn hh => h.x x hx hn ((k.x x).1 hh), fun x hx hn => (k.same x hx (fun hh => hh)).trans (h.same x hx hn), fun x hx hn i => (k.d x hx (fun hh => hh) i).trans (h.d x hx hn i)⟩
/-- put. -/
theorem k59 {R : List Lab} (s : Lab) {a : Option Addr} {n c : Nat} {g : G} (h : SlE strE g a n c R) (hs : Srt R) (hno : s ∉ R) (hn : n ≤ 1000) : CallsP Tryz.prog 59 #[.slice a n c, .string (bstr s)] g fun v g' => ∃ oa on oc, v = .slice oa on oc ∧ SlE strE g' oa on oc (insS s R) := by
  refine call59 a n c _ g _ ?_
  have hl := h.len
  have hc := h.le
  unfold F59
  intro J hJ
  have fin : ∀ (k : Nat) (g1 : G), Le g g1 → k ≤ n → (∀ x ∈ R.take k, klt x s) → (∀ x, R[k]? = some x → ¬ klt x s) → J ((k : Nat) : Int) g1 := by
    intro k g1 le1 hk h1 h2
    have e : insS s R = R.take k ++ s :: R.drop k := by
      refine insS_split hs h1 (fun x hx hlt => ?_) hno
      by_cases q : k < R.length
      · have gk := List.getElem?_eq_getElem q
        have hd := List.drop_eq_getElem_cons q
        generalize R[k] = y at gk hd
        rw [hd] at hx
        have hsd : Srt (R.drop k) := hs.sublist (List.drop_sublist _ _)
        rw [hd] at hsd
        rcases List.mem_cons.1 hx with rfl | hx
        · exact h2 _ gk hlt
        · exact h2 _ gk (klt_trans ((List.pairwise_cons.1 hsd).1 x hx) hlt)
      · rw [List.drop_eq_nil_of_le (by omega)] at hx; cases hx
    refine hJ _ g1 (fun g2 m2 => ⟨⟨by omega, by omega⟩, ⟨by omega, by omega⟩, ?_⟩)
    have le2 : Le g g2 := le1.trans m2.le
    have zg : g.w.heap.size ≤ g2.w.heap.size := le2.size
    have hT : ∀ g', Le g2 g' → SlE strE g' (slAddr a c 0 1) (Int.toNat ((k : Nat) : Int) - 0) (c - 0) (R.take k) := fun g' le => by
      rw [Int.toNat_natCast]; exact ((h.mono le2).mono le).take hk
    have hD : ∀ g', Le g2 g' → SlE strE g' (slAddr a c (Int.toNat ((k : Nat) : Int)) 1) (n - Int.toNat ((k : Nat) : Int)) (c - Int.toNat ((k : Nat) : Int)) (R.drop k) := fun g' le => by
      rw [Int.toNat_natCast]; exact ((h.mono le2).mono le).drop hk
    have hk2 : Int.toNat ((k : Nat) : Int) = k := Int.toNat_natCast k
    -- the three appends
    have go : ∀ {ga : G} {ea : Option Addr}, Ex g2 ga → OwnE strE ga g2.w.heap.size 9 ea 0 0 [] →
        ∃ a1 c1 w1, (Builtin.append_ #[30, 30] 30 #[.slice ea 0 0, .slice (slAddr a c 0 1) (Int.toNat ((k : Nat) : Int) - 0) (c - 0)]).run Tryz.prog ga.w = .ok (.slice a1 k c1) w1 ∧ ∃ gb, gb.w = w1 ∧ Stp g2.w.heap.size nobody ga gb ∧ OwnE strE gb g2.w.heap.size 9 a1 k c1 (R.take k) := by
      intro ga ea m ho
      obtain ⟨a1, c1, w1, hr, gb, hw, hst, ho1, _, _⟩ := ho.app E30 30 m.size (hT ga m.le) (by omega) (by unfold maxLen; omega)
      rw [show 0 + (Int.toNat ((k : Nat) : Int) - 0) = k by omega] at hr ho1
      rw [List.nil_append] at ho1
      exact ⟨a1, c1, w1, hr, gb, hw, hst, ho1⟩
    have go2 : ∀ {ga : G} {a1 sa : Option Addr} {c1 : Nat}, g2.w.heap.size ≤ ga.w.heap.size → OwnE strE ga g2.w.heap.size 9 a1 k c1 (R.take k) → SlE strE ga sa 1 1 [s] →
        ∃ a2 c2 w2, (Builtin.append_ #[30, 30] 30 #[.slice a1 k c1, .slice sa 1 1]).run Tryz.prog ga.w = .ok (.slice a2 (k + 1) c2) w2 ∧ ∃ gb, gb.w = w2 ∧ Stp g2.w.heap.size nobody ga gb ∧ OwnE strE gb g2.w.heap.size 9 a2 (k + 1) c2 (R.take k ++ [s]) := by
      intro ga a1 sa c1 hz ho hN
      obtain ⟨a2, c2, w2, hr, gb, hw, hst, ho2, _, _⟩ := ho.app E30 30 hz hN (by omega) (by unfold maxLen; omega)
      exact ⟨a2, c2, w2, hr, gb, hw, hst, ho2⟩
    have go3 : ∀ {ga : G} {a2 : Option Addr} {c2 : Nat}, Le g2 ga → OwnE strE ga g2.w.heap.size 9 a2 (k + 1) c2 (R.take k ++ [s]) →
        ∃ a3 n3 c3 w3, (Builtin.append_ #[30, 30] 30 #[.slice a2 (k + 1) c2, .slice (slAddr a c (Int.toNat ((k : Nat) : Int)) 1) (n - Int.toNat ((k : Nat) : Int)) (c - Int.toNat ((k : Nat) : Int))]).run Tryz.prog ga.w = .ok (.slice a3 n3 c3) w3 ∧ ∃ gb, gb.w = w3 ∧ Stp g2.w.heap.size nobody ga gb ∧ SlE strE gb a3 n3 c3 (insS s R) := by
      intro ga a2 c2 le ho
      obtain ⟨a3, c3, w3, hr, gb, hw, hst, ho3, _, _⟩ := ho.app E30 30 le.size (hD ga le) (by omega) (by unfold maxLen; omega)
      refine ⟨a3, _, c3, w3, hr, gb, hw, hst, ?_⟩
      have := ho3.sl
      rw [List.append_assoc, List.singleton_append, ← e] at this
      exact this
    refine ⟨fun g3 n3 => ⟨?_, ?_⟩, fun g14 n14 g15 n15 => ?_⟩
    · obtain ⟨a1, c1, w1, hr1, g4, hw4, hs4, ho4⟩ := go n3.ex (OwnE.lit n3 (xs := []) Rws.nil (Nat.le_refl _) (by unfold maxLen; simp))
      have e4 := ex_stp n3.ex hs4
      refine ⟨a1, k, c1, w1, hr1, g4, hw4, hs4.mono zg (fun _ _ hh => hh), e4.same, fun g5 n5 => ?_⟩
      obtain ⟨a2, c2, w2, hr2, g6, hw6, hs6, ho6⟩ := go2 (Nat.le_trans e4.size n5.ex.size) (ho4.exm n5.ex) (n5.sle (Rws.single (x := s) rfl) (by unfold maxLen; simp))
      have e6 := ex_stp (e4.trans n5.ex) hs6
      obtain ⟨a3, n3', c3, w3, hr3, g7, hw7, hs7, ho7⟩ := go3 e6.le ho6
      exact ⟨a2, _, c2, w2, hr2, g6, hw6, hs6.mono zg (fun _ _ hh => hh), e6.same, a3, n3', c3, w3, hr3, g7, hw7, hs7.mono zg (fun _ _ hh => hh), fun g8 m8 => ⟨a3, n3', c3, rfl, ho7.exm m8⟩⟩
    · intro g9 n9
      have sS : SlE strE g9 (some ⟨g3.w.heap.size, 0, none⟩) 1 1 [s] := n9.sle (Rws.single (x := s) rfl) (by unfold maxLen; simp)
      obtain ⟨a1, c1, w1, hr1, g4, hw4, hs4, ho4⟩ := go (n3.ex.trans n9.ex) ((OwnE.lit n3 (xs := []) Rws.nil (Nat.le_refl _) (by unfold maxLen; simp)).exm n9.ex)
      have e4 := ex_stp (n3.ex.trans n9.ex) hs4
      obtain ⟨a2, c2, w2, hr2, g6, hw6, hs6, ho6⟩ := go2 e4.size ho4 (sS.mono hs4.le)
      have e6 := ex_stp e4 hs6
      obtain ⟨a3, n3', c3, w3, hr3, g7, hw7, hs7, ho7⟩ := go3 e6.le ho6
      exact ⟨a1, k, c1, w1, hr1, g4, hw4, hs4.mono zg (fun _ _ hh => hh), e4.same, a2, _, c2, w2, hr2, g6, hw6, hs6.mono zg (fun _ _ hh => hh), e6.same, a3, n3', c3, w3, hr3, g7, hw7, hs7.mono zg (fun _ _ hh => hh), fun g8 m8 => ⟨a3, n3', c3, rfl, ho7.exm m8⟩⟩
    · have sS : SlE strE g14 (some ⟨g2.w.heap.size, 0, none⟩) 1 1 [s] := n14.sle (Rws.single (x := s) rfl) (by unfold maxLen; simp)
      obtain ⟨a1, c1, w1, hr1, g4, hw4, hs4, ho4⟩ := go (n14.ex.trans n15.ex) (OwnE.lit n15 (xs := []) Rws.nil n14.ex.size (by unfold maxLen; simp))
      have e4 := ex_stp (n14.ex.trans n15.ex) hs4
      obtain ⟨a2, c2, w2, hr2, g6, hw6, hs6, ho6⟩ := go2 e4.size ho4 ((sS.exm n15.ex).mono hs4.le)
      have e6 := ex_stp e4 hs6
      obtain ⟨a3, n3', c3, w3, hr3, g7, hw7, hs7, ho7⟩ := go3 e6.le ho6
      exact ⟨a1, k, c1, w1, hr1, g4, hw4, hs4.mono zg (fun _ _ hh => hh), e4.same, a2, _, c2, w2, hr2, g6, hw6, hs6.mono zg (fun _ _ hh => hh), e6.same, a3, n3', c3, w3, hr3, g7, hw7, hs7.mono zg (fun _ _ hh => hh), fun g8 m8 => ⟨a3, n3', c3, rfl, ho7.exm m8⟩⟩
  clear hJ
  refine ⟨fun m i g' => ∃ k : Nat, i = ((k : Nat) : Int) ∧ k + m = n ∧ ∀ x ∈ R.take k, klt x s, ⟨n, 0, rfl, by omega, by simp⟩, ?_⟩
  rintro m i g20 le ⟨k, rfl, hk, hall⟩
  refine ifLt (fun q => ⟨⟨by omega, by omega⟩, ?_⟩) (fun q => fin k g20 le (by omega) hall (fun x hx => by rw [List.getElem?_eq_none (by omega)] at hx; cases hx))
  have gk := List.getElem?_eq_getElem (show k < R.length by omega)
  generalize R[k] = x at gk
  refine rdS (h.mono le) k rfl gk ?_
  rw [strLt_klt]
  exact ifP (fun q1 => ⟨i64 (by omega) (by omega), m - 1, by omega, k + 1, by omega, by omega, (all_take gk _).2 ⟨hall, q1⟩⟩) (fun q1 => fin k g20 le (by omega) hall (fun y hy => by rw [gk] at hy; cases hy; exact q1))
theorem srtS_len : ∀ l : List Lab, (sortS l).length ≤ l.length
  | [] => Nat.le_refl _
  | x :: r => by
    have ins : ∀ (s : Lab) (l : List Lab), (insS s l).length ≤ l.length + 1 := by
      intro s l
      induction l with
      | nil => simp [insS]
      | cons x r ih => unfold insS; split <;> (try split) <;> simp_all <;> omega
    have h1 := ins x (sortS r)
    have h2 := srtS_len r
    show (insS x (sortS r)).length ≤ _
    simp
    omega
/-- Levels, of the reference. -/
theorem k21 {L : List UnitD} {a : Option Addr} {n c : Nat} {g : G} (hL : ∀ u ∈ L, unitOK u) (h : SlE unitE g a n c L) : CallsP Tryz.prog 21 #[.slice a n c] g fun v g' => LevSay L v g' := by
  refine call21 a n c g _ ?_
  have hl := h.len
  unfold F21
  refine (kq57 hL h).mono ?_
  rintro v g1 m1 ⟨oa, on, oc, rfl, ho⟩
  refine ⟨oa, on, oc, _, rfl, ifNe (fun q g2 m2 => ?_) (fun q => ?_)⟩
  · have e : levelsA L = ([], (orderN L).2) := if_neg q
    exact ⟨none, 0, 0, by rw [e], by rw [e]; exact SlE.zero _⟩
  have eA : levelsA L = (levelsN L (orderN L).1, 0) := if_pos q
  have hO := orderN_ordered q
  have hol := hO.len
  have hon := ho.len
  have h16 := hO.ln
  generalize hoe : (orderN L).1 = o at hO hol ho hon eA
  have hlen : levOf (levs L o) o ≤ o.length := by
    have := levOf_le (levs L o) o (m := o.length) (fun s hs => by
      have := levs_lt hO o.length (Nat.le_refl _) s (by rw [List.take_length]; exact hs)
      rwa [List.take_length] at this)
    exact this
  have hrl : ((rowsN (levs L o) o).map sortS).length = levOf (levs L o) o := by rw [List.length_map, rowsN_len]
  refine ⟨fun m ra rn rc i g' => ∃ k : Nat, i = ((k : Nat) : Int) ∧ k + m = on ∧ OwnE (lsE strE) g' g1.w.heap.size 30 ra rn rc (((rowsN (levs L o) o).map sortS).take k), ⟨on, 0, rfl, by omega, by simpa using OwnE.nil _ _ _⟩, ?_⟩
  rintro m ra rn rc i g3 le3 ⟨k, rfl, hk, hout⟩
  have houl := hout.len
  have hou16 : rn ≤ 16 := by rw [← houl, List.length_take]; omega
  refine ifLt (fun q1 => ?_) (fun q1 g9 m9 => ?_)
  · have hn3 := h.mono (m1.le.trans le3)
    refine ⟨fun m wa wn wc i g' => ∃ j : Nat, i = ((j : Nat) : Int) ∧ j + m = n ∧ Ex g3 g' ∧ SlE strE g' wa wn wc (sortS (Go.Syn.rowAt (levs L o) (namesU (L.take j)) k)), ⟨n, 0, rfl, by omega, Ex.refl _, SlE.zero _⟩, ?_⟩
    rintro m2 wa wn wc i g4 le4 ⟨j, rfl, hj, m4, hrow⟩
    have hwl := hrow.len
    have hw16 : wn ≤ 16 := by
      rw [← hwl]
      refine Nat.le_trans (srtS_len _) (Nat.le_trans (List.length_filter_le _ _) ?_)
      unfold namesU
      rw [List.length_map, List.length_take]
      omega
    refine ifLt (fun q2 => ⟨⟨by omega, by omega⟩, ?_⟩) (fun q2 => ?_)
    · have gj := List.getElem?_eq_getElem (show j < L.length by omega)
      generalize L[j] = u at gj
      have hu := List.mem_of_getElem? gj
      refine rdUA (hn3.mono le4) j rfl gj (fun ad ia im ic da dn dc hI hc => ?_)
      obtain ⟨c0, c1, c2⟩ := hc g4 (Le.refl _)
      refine ⟨_, _, _, _, _, _, _, c0, c1, c2, (k58 hO u hu g4 _ _ _ _ _ _ (hn3.mono le4) hI).mono ?_⟩
      rintro v g5 m5 rfl
      have hnt : namesU (L.take (j + 1)) = namesU (L.take j) ++ [u.name] := names_take gj
      refine ⟨_, rfl, ifEq (fun q3 => ⟨⟨by omega, by omega⟩, ?_⟩) (fun q3 => ⟨i64 (by omega) (by omega), m2 - 1, by omega, j + 1, by omega, by omega, m4.trans m5, ?_⟩)⟩
      · refine rdUA ((hn3.mono le4).exm m5) j rfl gj (fun ad2 ia2 im2 ic2 da2 dn2 dc2 hI2 hc2 => ⟨_, (hc2 g5 (Le.refl _)).1, (k59 u.name (hrow.exm m5) (srt_sortS _) (fun hh => ?_) (by omega)).mono ?_⟩)
        · have h1 := (mem_rowAt.1 (mem_sortS.1 hh)).1
          have h2 : (namesU (L.take (j + 1))).Nodup := by
            have := hO.nd
            unfold namesU at this ⊢
            rw [List.map_take]
            exact this.sublist (List.take_sublist _ _)
          rw [hnt] at h2
          exact (List.nodup_append.1 h2).2.2 _ h1 _ (by simp) rfl
        rintro v g6 m6 ⟨wa2, wn2, wc2, rfl, hrow2⟩
        refine ⟨_, _, _, rfl, i64 (by omega) (by omega), m2 - 1, by omega, j + 1, by omega, by omega, (m4.trans m5).trans m6, ?_⟩
        rw [hnt, rowAt_snoc, if_pos (by omega), ← insS_sortS]
        exact hrow2
      · rw [hnt, rowAt_snoc, if_neg (by omega), List.append_nil]
        exact hrow.exm m5
    · rw [take_all (by omega), ← row_names hO] at hrow
      have hfull := row_full hO (n := k)
      have hne : 0 < wn ↔ k < levOf (levs L o) o := by
        rw [← hfull, ← hrow.len]
        constructor
        · intro hh e
          rw [e] at hh
          exact absurd hh (by simp [sortS])
        · intro hh
          refine List.length_pos_iff.2 (fun e => hh ?_)
          refine List.eq_nil_iff_forall_not_mem.2 fun x hx => ?_
          have := mem_sortS.2 hx
          rw [e] at this
          cases this
      refine ifLt (fun q3 g7 n7 => ?_) (fun q3 => ⟨i64 (by omega) (by omega), m - 1, by omega, k + 1, by omega, by omega, ?_⟩)
      · have hlt := hne.1 (by omega)
        obtain ⟨a', c', w', hr, g8, hw, hs8, ho8, _, _⟩ := (hout.exm m4).app1 (E := lsE strE) E26 26 (Nat.le_trans le3.size m4.size) n7 (x := sortS (Go.Syn.rowAt (levs L o) o k)) ⟨_, _, _, rfl, hrow⟩ (by omega) (by unfold maxLen; omega)
        refine ⟨a', _, c', w', hr, g8, hw, hs8.mono m1.size (fun _ _ hh => hh), i64 (by omega) (by omega), m - 1, by omega, k + 1, by omega, by omega, ?_⟩
        rw [List.take_add_one, List.getElem?_map, rowsN_get hlt]
        exact ho8
      · have hge : levOf (levs L o) o ≤ k := Nat.le_of_not_lt (fun hh => by have := hne.2 hh; omega)
        rw [List.take_of_length_le (by omega)]
        rw [List.take_of_length_le (by omega)] at hout
        exact hout.exm m4
  · rw [List.take_of_length_le (by omega)] at hout
    have eL : levelsN L o = (rowsN (levs L o) o).map sortS := rfl
    exact ⟨ra, rn, rc, by rw [eA], by rw [eA, eL]; exact hout.sl.exm m9⟩
section
open Classical
/-- related. -/
theorem k60 {L : List UnitD} (name : Lab) (users : Bool) {a : Option Addr} {n c : Nat} {g : G} (hL : ∀ u ∈ L, unitOK u) (h : SlE unitE g a n c L) : CallsP Tryz.prog 60 #[.slice a n c, .string (bstr name), .bool users] g fun v g' => RelSay (relA L name (fun s => if users = true then NeedP L s name else NeedP L name s)) v g' := by
  refine call60 a n c _ users g _ ?_
  have hl := h.len
  unfold F60
  generalize hP : (fun s => if users = true then NeedP L s name else NeedP L name s) = P
  refine (kq57 hL h).mono ?_
  rintro v g1 m1 ⟨oa, on, oc, rfl, ho⟩
  refine ⟨oa, on, oc, _, rfl, ifNe (fun q g2 m2 => ?_) (fun q => ?_)⟩
  · have e : relA L name P = ([], (orderN L).2) := if_neg q
    exact ⟨none, 0, 0, by rw [e], by rw [e]; exact SlE.zero _⟩
  have hO := orderN_ordered q
  have hol := hO.len
  have hon := ho.len
  have h16 := hO.ln
  refine (k75 name (h.exm m1) (by omega)).mono ?_
  rintro v g3 m3 ⟨x, rfl, hx⟩
  have hmem : x < 0 ↔ name ∉ (orderN L).1 := by
    rw [hO.mem]
    rcases hx with ⟨rfl, hno⟩ | ⟨j, u, rfl, gj, hu⟩
    · exact ⟨fun _ => hno, fun _ => by omega⟩
    · exact ⟨fun hh => by omega, fun hh => absurd (mem_names.2 ⟨u, List.mem_of_getElem? gj, hu⟩) hh⟩
  refine ⟨_, rfl, ifLt (fun q1 g4 m4 => ?_) (fun q1 => ?_)⟩
  · have e : relA L name P = ([], 8) := (if_pos q).trans (if_neg (hmem.1 q1))
    exact ⟨none, 0, 0, by rw [e], by rw [e]; exact SlE.zero _⟩
  have hin : name ∈ (orderN L).1 := Classical.byContradiction fun hh => by have := hmem.2 hh; omega
  have eA : relA L name P = ((orderN L).1.filter fun s => decide (P s), 0) := (if_pos q).trans (if_pos hin)
  obtain ⟨w, hw, rfl⟩ := hO.unit hin
  have m13 := m1.trans m3
  refine ⟨fun m ra rn rc i g' => ∃ (j : Nat) (out : List Lab), i = ((j : Nat) : Int) ∧ j + m = on ∧ OwnE strE g' g3.w.heap.size 9 ra rn rc out ∧ out = ((orderN L).1.take j).filter (fun s => decide (P s)),
    ⟨on, 0, [], rfl, by omega, OwnE.nil _ _ _, by simp⟩, ?_⟩
  rintro m ra rn rc i g5 le5 ⟨j, out, rfl, hj, hout, hoe⟩
  have hrl := hout.len
  have hol2 : out.length ≤ 16 := by rw [hoe]; exact Nat.le_trans (List.length_filter_le _ _) (by rw [List.length_take]; omega)
  refine ifLt (fun q2 => ?_) (fun q2 g12 m12 => ?_)
  · have gj := List.getElem?_eq_getElem (show j < (orderN L).1.length by omega)
    generalize (orderN L).1[j] = s at gj
    have hs := List.mem_of_getElem? gj
    obtain ⟨y, hy, rfl⟩ := hO.unit hs
    have hnext : ((orderN L).1.take (j + 1)).filter (fun s => decide (P s)) = out ++ if P y.name then [y.name] else [] := by
      rw [List.take_add_one, gj, List.filter_append, ← hoe]
      by_cases e : P y.name <;> simp [e]
    have ho5 := (ho.exm m3).mono le5
    have h5 := (h.exm m13).mono le5
    intro J hJ
    have HJ : ∀ g6, Ex g5 g6 → J (tf (P y.name)) g6 := by
      intro g6 m6
      refine hJ _ g6 (ifP (fun q3 => ⟨⟨by omega, by omega⟩, rdS (ho5.exm m6) j rfl gj (fun g7 n7 => ?_)⟩) (fun q3 => ⟨i64 (by omega) (by omega), m - 1, by omega, j + 1, out, by omega, by omega, hout.exm m6, by rw [hnext, if_neg q3, List.append_nil]⟩))
      obtain ⟨a', c', w', hr, g8, hw8, hs8, ho8, _, _⟩ := (hout.exm m6).app1 E30 30 (Nat.le_trans le5.size m6.size) n7 (x := y.name) rfl (by omega) (by unfold maxLen; omega)
      exact ⟨a', _, c', w', hr, g8, hw8, hs8.mono m13.size (fun _ _ hh => hh), i64 (by omega) (by omega), m - 1, by omega, j + 1, _, by omega, by omega, ho8, by rw [hnext, if_pos q3]⟩
    clear hJ
    cases users with
    | true =>
      have eP : P y.name = NeedP L y.name w.name := by rw [← hP]; simp
      refine ifT (fun _ => ⟨⟨by omega, by omega⟩, rdS ho5 j rfl gj ((k90 hO w.name y hy g5 h5).mono ?_)⟩) (fun e => by cases e)
      rintro v g9 m9 rfl
      have := HJ g9 m9
      rw [eP] at this
      refine ⟨_, rfl, ifP (fun q4 => by rwa [tf_of q4] at this) (fun q4 => ifF (fun e => by cases e) (fun _ => by rwa [tf_no q4] at this))⟩
    | false =>
      have eP : P y.name = NeedP L w.name y.name := by rw [← hP]; simp
      refine ifT (fun e => by cases e) (fun _ => ifF (fun _ => ⟨⟨by omega, by omega⟩, rdS ho5 j rfl gj ((k90 hO y.name w hw g5 h5).mono ?_)⟩) (fun e => by cases e))
      rintro v g9 m9 rfl
      have := HJ g9 m9
      rw [eP] at this
      exact ⟨_, rfl, this⟩
  · rw [take_all (by omega)] at hoe
    subst hoe
    exact ⟨ra, rn, rc, by rw [eA], by rw [eA]; exact hout.sl.exm m12⟩
end
theorem k22 {L : List UnitD} (name : Lab) {a : Option Addr} {n c : Nat} {g : G} (hL : ∀ u ∈ L, unitOK u) (h : SlE unitE g a n c L) : CallsP Tryz.prog 22 #[.slice a n c, .string (bstr name)] g fun v g' => RelSay (closureA L name) v g' := by
  refine call22 a n c _ g _ ?_
  unfold F22
  refine (k60 name false hL h).mono ?_
  rintro v g2 m2 ⟨oa, on, oc, rfl, ho⟩
  refine ⟨oa, on, oc, _, rfl, fun g3 m3 => ⟨oa, on, oc, ?_, ?_⟩⟩
  · unfold closureA; simp
  · unfold closureA; simpa using ho.exm m3
theorem k23 {L : List UnitD} (name : Lab) {a : Option Addr} {n c : Nat} {g : G} (hL : ∀ u ∈ L, unitOK u) (h : SlE unitE g a n c L) : CallsP Tryz.prog 23 #[.slice a n c, .string (bstr name)] g fun v g' => RelSay (usersA L name) v g' := by
  refine call23 a n c _ g _ ?_
  unfold F23
  refine (k60 name true hL h).mono ?_
  rintro v g2 m2 ⟨oa, on, oc, rfl, ho⟩
  refine ⟨oa, on, oc, _, rfl, fun g3 m3 => ⟨oa, on, oc, ?_, ?_⟩⟩
  · unfold usersA; simp
  · unfold usersA; simpa using ho.exm m3
/-- slices.EqualFunc of lists of names. -/
theorem k26 {X Y : List (List Lab)} {a b : Option Addr} {n c m d : Nat} {g : G} (hx : SlE (lsE strE) g a n c X) (hy : SlE (lsE strE) g b m d Y) (hn : n ≤ 1048576) : CallsP Tryz.prog 26 #[.slice a n c, .slice b m d, .func (.func 24) #[] #[]] g fun v _ => v = .bool (tf (X = Y)) := by
  refine call26 _ _ _ _ _ _ 24 #[] g _ ?_
  have l1 := hx.len
  have l2 := hy.len
  unfold F26
  refine ifNe (fun q g1 _ => vF (fun hh => q (by rw [hh] at l1; omega))) (fun q => ?_)
  refine ⟨fun m0 i g' => ∃ j : Nat, i = ((j : Nat) : Int) ∧ j + m0 = n ∧ X.take j = Y.take j, ⟨n, 0, rfl, by omega, rfl⟩, ?_⟩
  rintro m0 i g2 le ⟨j, rfl, hj, ht⟩
  refine ifLt (fun q1 => ⟨⟨by omega, by omega⟩, ?_⟩) (fun q1 g5 _ => ?_)
  · have g1' := List.getElem?_eq_getElem (show j < X.length by omega)
    have g2' := List.getElem?_eq_getElem (show j < Y.length by omega)
    generalize X[j] = x at g1'
    generalize Y[j] = y at g2'
    refine rdL (hx.mono le) j rfl g1' (fun xa xl xc hxx => ⟨⟨by omega, by omega⟩, rdL (hy.mono le) j rfl g2' (fun ya yl yc hyy => ⟨⟨_, Tryz.func24, by kernel_rfl, by kernel_rfl⟩, ?_⟩)⟩)
    have hc : CallsP Tryz.prog 24 (#[.slice xa xl xc, .slice ya yl yc] ++ #[]) g2 fun v _ => v = .bool (tf (x = y)) := by
      refine call24 _ _ _ _ _ _ g2 _ ?_
      unfold F24
      refine (kk21 x y hxx hyy).mono ?_
      rintro v g3 _ rfl
      exact ⟨_, rfl, fun g4 _ => rfl⟩
    refine hc.mono ?_
    rintro v g3 _ rfl
    refine ⟨_, rfl, ifPn (fun q3 g4 _ => vF (fun hh => q3 ?_)) (fun q3 => ⟨i64 (by omega) (by omega), m0 - 1, by omega, j + 1, by omega, by omega, ?_⟩)⟩
    · rw [hh, g2'] at g1'
      exact (Option.some.inj g1').symm
    · rw [List.take_add_one, List.take_add_one, g1', g2', ht, q3]
  · rw [take_all (by omega), take_all (by omega)] at ht
    exact vT ht
/-- RecompileGraphs. -/
theorem law4 (L : List UnitD) (name : Lab) {a : Option Addr} {n c : Nat} {g : G} (ht : TabG g) (h : SlE unitE g a n c L) : CallsP Tryz.prog 4 #[.slice a n c, .string (bstr name)] g fun v _ => v = .bool true := by
  refine call4 a n c _ g _ ?_
  unfold F4
  intro J hJ
  have HJ : ∀ g1, Ex g g1 → (∀ u ∈ L, unitOK u) → J g1 := by
    intro g1 m1 hL
    refine hJ g1 ((k9 hL (ht.exm m1) (h.exm m1)).mono ?_)
    rintro v g2 m2 ⟨xa, xn, xc, rfl, hx⟩
    have m12 := m1.trans m2
    refine ⟨_, _, _, _, rfl, (k19 name hL (ht.exm m12) (h.exm m12)).mono ?_⟩
    rintro v g3 m3 ⟨ya, yn, yc, rfl, hy⟩
    have m13 := m12.trans m3
    refine ⟨_, _, _, _, rfl, (k20 name hL (ht.exm m13) (h.exm m13)).mono ?_⟩
    rintro v g4 m4 ⟨za, zn, zc, rfl, hz⟩
    have m14 := m13.trans m4
    refine ⟨_, _, _, _, rfl, (k21 hL (h.exm m14)).mono ?_⟩
    rintro v g5 m5 ⟨xa', xn', xc', rfl, hx'⟩
    have m15 := m14.trans m5
    refine ⟨_, _, _, _, rfl, (k22 name hL (h.exm m15)).mono ?_⟩
    rintro v g6 m6 ⟨ya', yn', yc', rfl, hy'⟩
    have m16 := m15.trans m6
    refine ⟨_, _, _, _, rfl, (k23 name hL (h.exm m16)).mono ?_⟩
    rintro v g7 m7 ⟨za', zn', zc', rfl, hz'⟩
    have e27 := (((m3.trans m4).trans m5).trans m6).trans m7
    have hxl := hx.len
    have hx16 : xn ≤ 1048576 := by
      rw [← hxl]
      by_cases q : (orderN L).2 = 0
      · have hO := orderN_ordered q
        have e : levelsA L = (levelsN L (orderN L).1, 0) := if_pos q
        rw [e]
        show (levelsN _ _).length ≤ _
        unfold levelsN
        rw [List.length_map, rowsN_len]
        refine Nat.le_trans (levOf_le _ _ (m := (orderN L).1.length) (fun s hs => by
          have := levs_lt hO _ (Nat.le_refl _) s (by rw [List.take_length]; exact hs)
          rwa [List.take_length] at this)) ?_
        have := hO.len
        have := hO.ln
        omega
      · have e : levelsA L = ([], (orderN L).2) := if_neg q
        rw [e]; simp
    refine ⟨_, _, _, _, rfl, (k26 (hx.exm e27) ((hx'.exm m6).exm m7) hx16).mono ?_⟩
    rintro v g8 m8 rfl
    refine ⟨_, rfl, ifP (fun _ => ifEq (fun _ => (kk21 _ _ ((((((hy.exm m4).exm m5).exm m6).exm m7)).exm m8) ((hy'.exm m7).exm m8)).mono ?_) (fun hh => absurd rfl hh)) (fun hh => absurd rfl hh)⟩
    rintro v g9 m9 rfl
    refine ⟨_, rfl, ifP (fun _ => ifEq (fun _ => (kk21 _ _ ((((((hz.exm m5).exm m6).exm m7).exm m8)).exm m9) ((hz'.exm m8).exm m9)).mono ?_) (fun hh => absurd rfl hh)) (fun hh => absurd rfl hh)⟩
    rintro v g10 m10 rfl
    exact ⟨_, rfl, ifP (fun _ g11 _ => by simp [eqI]) (fun hh => absurd rfl hh)⟩
  clear hJ
  have aw : ∀ g', Ex g g' → CallsP Tryz.prog 7 #[] g' fun v g18 => ∃ x_4 : Bool, v = (.bool x_4) ∧ ∀ g19 : G, Ex g18 g19 → (fun v _ => v = Value.bool true) (Value.bool x_4) g19 := by
    intro g' m'
    refine (k7 g' (ht.exm m')).mono ?_
    rintro v g2 _ rfl
    exact ⟨_, rfl, fun _ _ => rfl⟩
  refine (k7 g ht).mono ?_
  rintro v g17 m17 rfl
  refine ⟨_, rfl, ifF (fun e => by cases e) (fun _ => (k8 (h.exm m17)).mono ?_)⟩
  rintro v g20 m20 ⟨b, rfl, hb⟩
  exact ⟨_, rfl, ifF (fun e => aw g20 (m17.trans m20)) (fun e => ifLt (fun _ => aw g20 (m17.trans m20)) (fun _ => HJ g20 (m17.trans m20) (hb e).2))⟩
end Go.Proofs.YtmkdbndniffkfaaGreatDoor
/- Plan. -/
set_option linter.unusedVariables false
namespace Go.Proofs.YtmkdbndniffkfaaGreatDoor
open Go Go.Vc Go.RowKit Go.Syn

/-- A read of a record; its cells stand in all later worlds. -/
theorem rdRA {R : List RecD} {a : Option Addr} {n c : Nat} {g : G} (h : SlE recE g a n c R) {i : Int} (p : Nat) (hi : i = (p : Int)) {r : RecD} (hr : R[p]? = some r) {K : Addr → Prop}
    (hk : ∀ ad ia im ic da dn dc, a = some ad → RecI g r ia im ic da dn dc → (∀ g', Le g g' → g'.w.cell? (Addr.add ad (Int.toNat i * 5)) = some (.string (bstr r.name)) ∧ g'.w.cell? (Addr.add (Addr.add ad (Int.toNat i * 5)) 1) = some (.string (bstr r.source)) ∧
      g'.w.cell? (Addr.add (Addr.add ad (Int.toNat i * 5)) 2) = some (.slice ia im ic) ∧ g'.w.cell? (Addr.add (Addr.add ad (Int.toNat i * 5)) 3) = some (.slice da dn dc) ∧ g'.w.cell? (Addr.add (Addr.add ad (Int.toNat i * 5)) 4) = some (.string (bstr r.face))) → K ad) : derefP a K := by
  subst hi
  have hrd := h.rd (i := p) hr (K := fun ad => ∃ rr, recE.rep g rr r ∧ ∀ j v, rr[j]? = some v → Live g ((Addr.add ad (p * 5)).add j) v) (fun rr ad h1 h2 => ⟨rr, h1, h2⟩)
  obtain ⟨ad, rfl, rr, ⟨ia, im, ic, da, dn, dc, rfl, hI⟩, hl⟩ := derefP_some hrd
  refine hk ad ia im ic da dn dc rfl hI (fun g' m => ?_)
  rw [Int.toNat_natCast]
  have h0 := ((hl 0 _ rfl).mono m).1
  rw [Addr.add_zero'] at h0
  exact ⟨h0, ((hl 1 _ rfl).mono m).1, ((hl 2 _ rfl).mono m).1, ((hl 3 _ rfl).mono m).1, ((hl 4 _ rfl).mono m).1⟩
/-- slices.IndexFunc and ContainsFunc, of records. -/
theorem k33 (f : FuncId) (c0 : Array Value) (p : RecD → Bool → Prop) (R : List RecD) {a : Option Addr} {n c : Nat} {g : G} (h : SlE recE g a n c R) (hn : n ≤ 1048576) (he : Go.Vc.Enters Tryz.prog f)
    (hf : ∀ g' r, Le g g' → r ∈ R → ∀ ia im ic da dn dc, RecI g' r ia im ic da dn dc → CallsP Tryz.prog f (#[recV r ia im ic da dn dc] ++ c0) g' fun v _ => ∃ b, v = .bool b ∧ p r b) :
    CallsP Tryz.prog 33 #[.slice a n c, .func (.func f) #[] c0] g fun v _ => ∃ b, v = .bool b ∧ (b = true → ∃ r ∈ R, p r true) ∧ (b = false → ∀ r ∈ R, p r false) := by
  have hl := h.len
  have k73 : CallsP Tryz.prog 73 #[.slice a n c, .func (.func f) #[] c0] g fun v _ => ∃ i : Int, v = .int .i64 i ∧ ((0 ≤ i ∧ ∃ r ∈ R, p r true) ∨ (i < 0 ∧ ∀ r ∈ R, p r false)) := by
    refine call73 a n c f c0 g _ ?_
    unfold F73
    refine ⟨fun m i g' => ∃ j : Nat, i = ((j : Nat) : Int) ∧ j + m = n ∧ ∀ r ∈ R.take j, p r false, ⟨n, 0, rfl, by omega, by simp⟩, ?_⟩
    rintro m i g1 le ⟨j, rfl, hj, hall⟩
    refine ifLt (fun hlt => ⟨⟨by omega, by omega⟩, ?_⟩) (fun hge g4 _ => ⟨_, rfl, .inr ⟨by omega, by rwa [take_all (by omega)] at hall⟩⟩)
    have gj := List.getElem?_eq_getElem (show j < R.length by omega)
    generalize R[j] = r at gj
    have hr := List.mem_of_getElem? gj
    refine rdRA (h.mono le) j rfl gj (fun ad ia im ic da dn dc _ hI hc => ?_)
    obtain ⟨c0', c1, c2, c3, c4⟩ := hc g1 (Le.refl _)
    refine ⟨_, _, _, _, _, _, _, _, _, c0', c1, c2, c3, c4, he, (hf g1 r le hr ia im ic da dn dc hI).mono ?_⟩
    rintro v g2 _ ⟨b, rfl, hb⟩
    exact ⟨_, rfl, ifT (fun e g3 _ => ⟨_, rfl, .inl ⟨by omega, r, hr, e ▸ hb⟩⟩) (fun e => ⟨i64 (by omega) (by omega), m - 1, by omega, j + 1, by omega, by omega, (all_take gj (p · false)).2 ⟨hall, e ▸ hb⟩⟩)⟩
  refine call33 a n c f c0 g _ ?_
  unfold F33
  refine k73.mono ?_
  rintro v g1 _ ⟨i, rfl, hi⟩
  refine ⟨_, rfl, fun g2 _ => ⟨_, rfl, fun e => ?_, fun e => ?_⟩⟩
  · rcases hi with ⟨_, h2⟩ | ⟨h1, _⟩
    · exact h2
    · rw [leI_true] at e; omega
  · rcases hi with ⟨h1, _⟩ | ⟨_, h2⟩
    · rw [leI_false] at e; omega
    · exact h2
theorem k51 {r : RecD} (hr : recOK r) {ia : Option Addr} {im ic : Nat} {da : Option Addr} {dn dc : Nat} {g : G} (h : RecI g r ia im ic da dn dc) : CallsP Tryz.prog 51 (#[recV r ia im ic da dn dc] ++ #[]) g fun v _ => ∃ b, v = .bool b ∧ (b = true ↔ ¬ recP r) := by
  refine call51 _ _ _ _ _ _ _ _ _ g _ ?_
  unfold F51
  refine fun g1 m1 => (k31 hr (h.exm m1)).mono ?_
  rintro v g2 _ rfl
  exact ⟨_, rfl, fun g3 _ => ⟨_, rfl, by rw [tf_not, tf_true]⟩⟩
theorem k34 {r : RecD} {ia : Option Addr} {im ic : Nat} {da : Option Addr} {dn dc : Nat} {g : G} (h : RecI g r ia im ic da dn dc) : CallsP Tryz.prog 34 (#[recV r ia im ic da dn dc] ++ #[]) g fun v _ => ∃ b, v = .bool b ∧ (b = false → recOK r) := by
  refine call34 _ _ _ _ _ _ _ _ _ g _ ?_
  unfold F34
  refine fun g1 m1 => (k27 (h.exm m1)).mono ?_
  rintro v g2 _ ⟨b, rfl, hb⟩
  exact ⟨_, rfl, fun g3 _ => ⟨_, rfl, fun e => hb (by simpa using e)⟩⟩
def PlanSay (r : List ReaD × Int) (v : Value) (g' : G) : Prop := ∃ oa on oc, v = .tuple ⟨[.slice oa on oc, .int .i64 r.2]⟩ ∧ SlE reaE g' oa on oc r.1
theorem plan_err {L : List UnitD} {R : List RecD} {S F : List Lab} {k : Int} (h : planA L R S F = ([], k)) (g' : G) : PlanSay (planA L R S F) (.tuple ⟨[.slice none 0 0, .int .i64 k]⟩) g' := ⟨none, 0, 0, by rw [h], by rw [h]; exact SlE.zero _⟩
theorem E34 : Elem Tryz.prog 34 39 2 24 := ⟨Tryz.underlying34, by kernel_rfl⟩
theorem zero102 (w : World) : (zeroValue 102).run Tryz.prog w = .ok (.pointer none) w := by kernel_rfl
theorem zero9 (w : World) : (zeroValue 9).run Tryz.prog w = .ok (.string (bs [])) w := by kernel_rfl
theorem recOf_none {R : List RecD} {s : Lab} (h : ∀ r ∈ R, r.name ≠ s) : recOf R s = none := by
  unfold recOf
  rw [List.find?_eq_none]
  intro r hr
  simpa using h r hr
theorem names_nodup_take {R : List RecD} {j : Nat} {r : RecD} (h : R[j]? = some r) : ((R.take (j + 1)).map (·.name)).Nodup ↔ ((R.take j).map (·.name)).Nodup ∧ ∀ x ∈ R.take j, x.name ≠ r.name := by
  rw [List.take_add_one, h, List.map_append, List.nodup_append]
  simp only [Option.toList_some, List.map_cons, List.map_nil, List.mem_map, List.mem_singleton, forall_eq]
  constructor
  · rintro ⟨h1, _, h3⟩
    exact ⟨h1, fun x hx e => h3 _ ⟨x, hx, rfl⟩ e⟩
  · rintro ⟨h1, h2⟩
    exact ⟨h1, by simp, by rintro _ ⟨x, hx, rfl⟩ e; exact h2 x hx e⟩
theorem names_nodup_mono {R : List RecD} {j : Nat} (h : (R.map (·.name)).Nodup) : ((R.take j).map (·.name)).Nodup := by
  rw [List.map_take]
  exact h.sublist (List.take_sublist _ _)
/-- The map of the records. -/
structure KnownI (g : G) (mb k : Nat) (ad : Addr) (R : List RecD) (f : List UInt8 → Option Value) : Prop where
  map : MapG Tryz.prog g 9 mb k f
  say : ∀ s, (f s = none ∧ ∀ r ∈ R, r.name ≠ s) ∨ ∃ (i : Nat) (r : RecD), R[i]? = some r ∧ r.name = s ∧ f s = some (.pointer (some (Addr.add ad (i * 5))))
theorem planA_ok {L : List UnitD} {R : List RecD} {S F : List Lab} (q : (orderN L).2 = 0) (h : S.length = L.length ∧ F.length = L.length ∧ (∀ s ∈ S, digestP s) ∧ (∀ s ∈ F, digestP s) ∧ ∀ r ∈ R, recP r) (h2 : ¬ 1000 < R.length) (h3 : (R.map (·.name)).Nodup) : planA L R S F = (planRow L R F L S, 0) :=
  (if_pos q).trans ((if_pos h).trans ((if_neg h2).trans (if_pos h3)))
section
variable {L : List UnitD} {R : List RecD} {S F : List Lab} {a : Option Addr} {n c : Nat} {ra : Option Addr} {rn rc : Nat} {sa : Option Addr} {sn sc : Nat} {fa : Option Addr} {fn fc : Nat} {g : G}
/-- Plan. -/
theorem k12 (hL : ∀ u ∈ L, unitOK u) (hRok : ∀ r ∈ R, recOK r) (hRn : R.length ≤ 1048576) (hSs : shortL S) (hFs : shortL F) (ht : TabG g) (h : SlE unitE g a n c L) (hR : SlE recE g ra rn rc R) (hS : SlE strE g sa sn sc S) (hF : SlE strE g fa fn fc F) :
    CallsP Tryz.prog 12 #[.slice a n c, .slice ra rn rc, .slice sa sn sc, .slice fa fn fc] g fun v g' => PlanSay (planA L R S F) v g' := by
  refine call12 a n c ra rn rc sa sn sc fa fn fc g _ ?_
  have hl := h.len
  have hrl := hR.len
  have hsl := hS.len
  have hfl := hF.len
  unfold F12
  refine (k40 hL ht h).mono ?_
  rintro v g1 m1 ⟨p, rfl, hp⟩
  refine ⟨p, _, rfl, ifNe (fun q g2 m2 => plan_err (if_neg q) g2) (fun q => ?_)⟩
  have hO := orderN_ordered q
  have h16 := hO.ln
  intro J hJ
  have bad : ∀ g3, ¬ (S.length = L.length ∧ F.length = L.length ∧ (∀ s ∈ S, digestP s) ∧ (∀ s ∈ F, digestP s) ∧ ∀ r ∈ R, recP r) → J true g3 := fun g3 hh => hJ true g3 (ifT (fun _ g4 _ => plan_err ((if_pos q).trans (if_neg hh)) g4) (fun e => by cases e))
  have ok : ∀ g3, Ex g1 g3 → (S.length = L.length ∧ F.length = L.length ∧ (∀ s ∈ S, digestP s) ∧ (∀ s ∈ F, digestP s) ∧ ∀ r ∈ R, recP r) → J false g3 := by
    intro g3 m3 hok
    obtain ⟨ok1, ok2, ok3, ok4, ok5⟩ := hok
    have m03 := m1.trans m3
    refine hJ false g3 (ifT (fun e => by cases e) (fun _ => ifLt (fun q1 g5 _ => plan_err ((if_pos q).trans ((if_pos ⟨ok1, ok2, ok3, ok4, ok5⟩).trans (if_pos (by omega)))) g5) (fun q1 g6 n6 => ?_)))
    have hR6 := (hR.exm m03).exm n6.ex
    -- the address of the records
    obtain ⟨rad, hrad⟩ : ∃ rad : Addr, ∀ ad, ra = some ad → ad = rad := by
      cases ra with
      | none => exact ⟨⟨0, 0, none⟩, fun ad e => by cases e⟩
      | some x => exact ⟨x, fun ad e => by cases e; rfl⟩
    have K0 : KnownI g6 g3.w.heap.size 0 rad (R.take 0) (fun _ => none) := ⟨MapG.new n6 Tryz.prog 9, fun s => .inl ⟨rfl, by simp⟩⟩
    refine ⟨fun m i g' => ∃ (j : Nat) (f : List UInt8 → Option Value), i = ((j : Nat) : Int) ∧ j + m = rn ∧ KnownI g' g3.w.heap.size j rad (R.take j) f ∧ ((R.take j).map (·.name)).Nodup, ⟨rn, 0, _, rfl, by omega, K0, by simp⟩, ?_⟩
    rintro m i g7 le7 ⟨j, f, rfl, hj, hk, hnd⟩
    have le07 : Le g g7 := (m03.trans n6.ex).le.trans le7
    refine ifLt (fun q2 => ⟨⟨by omega, by omega⟩, ?_⟩) (fun q2 => ?_)
    · have gj := List.getElem?_eq_getElem (show j < R.length by omega)
      generalize R[j] = r at gj
      have hr := List.mem_of_getElem? gj
      have hrname : r.name.length ≤ 24 := upper_len (ok5 r hr).1
      refine rdRA (hR6.mono le7) j rfl gj (fun ad ia im ic da dn dc hra hI hc => ⟨_, (hc g7 (Le.refl _)).1, ?_⟩)
      have had := hrad ad hra
      have hlk := hk.map.look Tryz.underlying9 Tryz.underlying101 (zero102 g7.w) r.name (by unfold maxLen; omega)
      rcases hk.say r.name with ⟨hf, hno⟩ | ⟨i0, r0, gi0, hr0, hf⟩
      · rw [hf] at hlk
        refine ⟨_, _, hlk, g7, rfl, Stp.refl _ _ _, ifT (fun e => by cases e) (fun _ g10 m10 => ⟨⟨by omega, by omega⟩, ?_⟩)⟩
        refine rdRA ((hR6.mono le7).exm m10) j rfl gj (fun ad2 ia2 im2 ic2 da2 dn2 dc2 hra2 hI2 hc2 => ⟨_, (hc2 g10 (Le.refl _)).1, ⟨by omega, by omega⟩, ?_⟩)
        have had2 := hrad ad2 hra2
        rw [hra2]
        obtain ⟨w', hrun, g11, hw, hs11, hm11, hb11⟩ := (hk.map.ex m10).put Tryz.underlying9 Tryz.underlying101 (by unfold maxLen; omega) r.name (by unfold maxLen; omega) (.pointer (some (Addr.add ad2 (Int.toNat ((j : Nat) : Int) * 5)))) (B := g.w.heap.size) m03.size
        refine ⟨w', hrun, g11, hw, hs11, i64 (by omega) (by omega), m - 1, by omega, j + 1, _, by omega, by omega, ⟨hm11, fun s => ?_⟩, (names_nodup_take gj).2 ⟨hnd, hno⟩⟩
        have htk : R.take (j + 1) = R.take j ++ [r] := by rw [List.take_add_one, gj]; rfl
        by_cases e : s = r.name
        · subst e
          refine .inr ⟨j, r, ?_, rfl, ?_⟩
          · rw [List.getElem?_take, if_pos (by omega)]; exact gj
          · rw [upd_same, had2, Int.toNat_natCast]
        · rw [upd_other _ _ e]
          rcases hk.say s with ⟨h1, h2⟩ | ⟨i1, r1, h1, h2, h3⟩
          · refine .inl ⟨h1, fun x hx => ?_⟩
            rw [htk] at hx
            rcases List.mem_append.1 hx with hx | hx
            · exact h2 x hx
            · rw [List.mem_singleton.1 hx]; exact fun e2 => e e2.symm
          · refine .inr ⟨i1, r1, ?_, h2, h3⟩
            rw [htk, List.getElem?_append_left (List.getElem?_eq_some_iff.1 h1).1]
            exact h1
      · rw [hf] at hlk
        refine ⟨_, _, hlk, g7, rfl, Stp.refl _ _ _, ifT (fun _ g9 _ => plan_err ?_ g9) (fun e => by cases e)⟩
        refine (if_pos q).trans ((if_pos ⟨ok1, ok2, ok3, ok4, ok5⟩).trans ((if_neg (by omega)).trans (if_neg (fun hh => ?_))))
        have h1 := names_nodup_mono (j := j + 1) hh
        exact ((names_nodup_take gj).1 h1).2 r0 (List.mem_of_getElem? gi0) hr0
    · rw [take_all (by omega)] at hk hnd
      have eA := planA_ok q ⟨ok1, ok2, ok3, ok4, ok5⟩ (by omega) hnd
      intro g12 n12
      have z3 : g3.w.heap.size < g7.w.heap.size := hk.map.lt
      have hk12 : KnownI g12 g3.w.heap.size j rad R f := ⟨hk.map.ex n12.ex, hk.say⟩
      have le012 := le07.trans n12.ex.le
      have hfm : ∀ {jj : Nat} {u : UnitD} {x : Lab}, L[jj]? = some u → F[jj]? = some x → faceOf L F u.name = x := fun h1 h2 => faceOf_at hO.nd h1 h2
      refine ⟨fun m i g' => ∃ (j2 : Nat) (fm : List UInt8 → Option Value), i = ((j2 : Nat) : Int) ∧ j2 + m = n ∧ KnownI g' g3.w.heap.size j rad R f ∧ MapG Tryz.prog g' 9 g7.w.heap.size j2 fm ∧ ∀ u ∈ L.take j2, fm u.name = some (.string (bstr (faceOf L F u.name))),
        ⟨n, 0, _, rfl, by omega, hk12, MapG.new n12 Tryz.prog 9, by simp⟩, ?_⟩
      rintro m2 i2 g13 le13 ⟨j2, fm, rfl, hj2, hk13, hm13, hfs⟩
      have le013 := le012.trans le13
      refine ifLt (fun q3 => ⟨⟨by omega, by omega⟩, ?_⟩) (fun q3 => ?_)
      · have gj2 := List.getElem?_eq_getElem (show j2 < L.length by omega)
        have gf2 := List.getElem?_eq_getElem (show j2 < F.length by omega)
        generalize L[j2] = u at gj2
        generalize F[j2] = x at gf2
        have hu := List.mem_of_getElem? gj2
        have hul := upper_len (hO.ok u hu).1
        refine rdUA (h.mono le013) j2 rfl gj2 (fun ad ia im ic da dn dc hI hc => ?_)
        obtain ⟨c0, c1, c2⟩ := hc g13 (Le.refl _)
        refine ⟨_, _, _, _, _, _, _, c0, c1, c2, fun g14 m14 => ⟨⟨by omega, by omega⟩, rdS ((hF.mono le013).exm m14) j2 rfl gf2 ?_⟩⟩
        obtain ⟨w', hrun, g15, hw, hs15, hm15, hb15⟩ := (hm13.ex m14).put Tryz.underlying9 Tryz.underlying103 (by unfold maxLen; omega) u.name (by unfold maxLen; omega) (.string (bstr x)) (B := g.w.heap.size) le07.size
        refine ⟨w', hrun, g15, hw, hs15, i64 (by omega) (by omega), m2 - 1, by omega, j2 + 1, _, by omega, by omega, ⟨(hk13.map.ex m14).but hb15 (fun e => by have e' : g3.w.heap.size = g7.w.heap.size := e; omega), hk13.say⟩, hm15, ?_⟩
        refine (all_take gj2 (fun y : UnitD => upd fm u.name (some (.string (bstr x))) y.name = some (.string (bstr (faceOf L F y.name))))).2 ⟨fun y hy => ?_, by rw [upd_same, hfm gj2 gf2]⟩
        by_cases e : y.name = u.name
        · rw [e, upd_same, hfm gj2 gf2]
        · rw [upd_other _ _ e]; exact hfs y hy
      · rw [take_all (by omega)] at hfs
        refine ⟨fun m oa on oc i g' => ∃ (k : Nat), i = ((k : Nat) : Int) ∧ k + m = n ∧ OwnE reaE g' g13.w.heap.size 39 oa on oc ((planRow L R F L S).take k) ∧ KnownI g' g3.w.heap.size j rad R f ∧ MapG Tryz.prog g' 9 g7.w.heap.size j2 fm,
          ⟨n, 0, rfl, by omega, by simpa using OwnE.nil _ _ _, hk13, hm13⟩, ?_⟩
        rintro m4 oa on oc i4 g16 le16 ⟨k, rfl, hkn, hout, hk16, hm16⟩
        have hpl := planRow_len L R F L S ok1
        have houl := hout.len
        rw [List.length_take, hpl] at houl
        have le016 := le013.trans le16
        refine ifLt (fun q4 => ⟨⟨by omega, by omega⟩, ?_⟩) (fun q4 g27 m27 => ?_)
        · have gk := List.getElem?_eq_getElem (show k < L.length by omega)
          have gs := List.getElem?_eq_getElem (show k < S.length by omega)
          generalize L[k] = u at gk
          generalize S[k] = src at gs
          have hu := List.mem_of_getElem? gk
          have hul := upper_len (hO.ok u hu).1
          have hpg := planRow_get L R F L S gk gs
          refine rdUA (h.mono le016) k rfl gk (fun ad ia im ic da dn dc hI hc => ?_)
          obtain ⟨c0, c1, c2⟩ := hc g16 (Le.refl _)
          have hil := hI.imps.len
          have hi16 := (hO.ok u hu).2.1
          refine ⟨_, _, _, _, _, _, _, c0, c1, c2, fun m wa wn wc i g' => ∃ p : Nat, i = ((p : Nat) : Int) ∧ p + m = im ∧ OwnE strE g' g16.w.heap.size 9 wa wn wc ((u.imps.take p).map (faceOf L F)) ∧ Ex g16 g',
            fun g17 m17 => ⟨im, 0, rfl, by omega, by simpa using OwnE.nil _ _ _, m17⟩, ?_⟩
          rintro m6 wa wn wc i6 g18 le18 ⟨p, rfl, hp, hd, m18⟩
          have hdl := hd.len
          rw [List.length_map, List.length_take] at hdl
          refine ifLt (fun q5 => ⟨⟨by omega, by omega⟩, ?_⟩) (fun q5 g22 m22 => ⟨⟨by omega, by omega⟩, ?_⟩)
          · have gp := List.getElem?_eq_getElem (show p < u.imps.length by omega)
            generalize u.imps[p] = s at gp
            have hs := List.mem_of_getElem? gp
            obtain ⟨y, hy, rfl⟩ := mem_names.1 (hO.imp u hu s hs)
            have hyl := upper_len (hO.ok y hy).1
            have hlk := (hm16.ex m18).look Tryz.underlying9 Tryz.underlying103 (zero9 g18.w) y.name (by unfold maxLen; omega)
            rw [hfs y hy] at hlk
            refine rdS (hI.imps.mono le18) p rfl gp ⟨_, _, hlk, g18, rfl, Stp.refl _ _ _, fun g20 n20 => ?_⟩
            obtain ⟨a', c', w', hr, g21, hw, hs21, ho21, _, _⟩ := hd.app1 E30 30 m18.size n20 (x := faceOf L F y.name) rfl (by omega) (by unfold maxLen; omega)
            refine ⟨a', _, c', w', hr, g21, hw, hs21.mono le016.size (fun _ _ hh => hh), i64 (by omega) (by omega), m6 - 1, by omega, p + 1, by omega, by omega, ?_, ex_stp (m18.trans n20.ex) hs21⟩
            rw [List.take_add_one, gp, List.map_append]
            exact ho21
          · rw [take_all (by omega)] at hd
            have m1622 := m18.trans m22
            refine rdS ((hS.mono le016).exm m1622) k rfl gs ?_
            have hlk := (hk16.map.ex m1622).look Tryz.underlying9 Tryz.underlying101 (zero102 g22.w) u.name (by unfold maxLen; omega)
            have fin : ∀ (pt : Option Addr), (CallsP Tryz.prog 52 #[.pointer pt, .string (bstr src), .slice ia im ic, .slice wa wn wc] g22 fun v _ => v = reaV (reasonN (recOf R u.name) src u.imps (u.imps.map (faceOf L F)))) →
                CallsP Tryz.prog 52 #[.pointer pt, .string (bstr src), .slice ia im ic, .slice wa wn wc] g22 fun v g24 => ∃ x0_3 : Int, ∃ x1_1 : ByteArray, v = .agg ⟨[.int .i64 x0_3, .string x1_1]⟩ ∧ ∀ g25 : G, NewL g24 g25 39 [.int .i64 x0_3, .string x1_1] →
                  ∃ outa_1 : Option Addr, ∃ outl_1 : Nat, ∃ outc_1 : Nat, ∃ wo7 : World, Sem.run Tryz.prog (Builtin.append_ #[34, 34] 34 #[.slice oa on oc, .slice (some ⟨g24.w.heap.size, 0, none⟩) 1 1]) g25.w = .ok (.slice outa_1 outl_1 outc_1) wo7 ∧ ∃ g26 : G, g26.w = wo7 ∧ Stp g.w.heap.size nobody g25 g26 ∧ InI64 (((k : Nat) : Int) + 1) ∧ (∃ m_5 : Nat, m_5 < m4 ∧ ∃ (k' : Nat), ((k : Nat) : Int) + 1 = ((k' : Nat) : Int) ∧ k' + m_5 = n ∧ OwnE reaE g26 g13.w.heap.size 39 outa_1 outl_1 outc_1 ((planRow L R F L S).take k') ∧ KnownI g26 g3.w.heap.size j rad R f ∧ MapG Tryz.prog g26 9 g7.w.heap.size j2 fm) := by
              intro pt hc52
              refine hc52.mono ?_
              rintro v g24 m24 rfl
              refine ⟨_, _, rfl, fun g25 n25 => ?_⟩
              have m1624 := m1622.trans m24
              obtain ⟨a', c', w', hr, g26, hw, hs26, ho26, hs26', _⟩ := (hout.exm m1624).app1 (E := reaE) E34 34 (Nat.le_trans le16.size m1624.size) n25 (x := reasonN (recOf R u.name) src u.imps (u.imps.map (faceOf L F))) rfl (by show (on + 1) * 24 ≤ _; omega) (by unfold maxLen; omega)
              have bt : But (blkOf oa) g25 g26 := hs26'.but (Nat.le_refl _)
              have z13 : g7.w.heap.size < g13.w.heap.size := hm13.lt
              refine ⟨a', _, c', w', hr, g26, hw, hs26.mono le013.size (fun _ _ hh => hh), i64 (by omega) (by omega), m4 - 1, by omega, k + 1, by omega, by omega, ?_, ⟨((hk16.map.ex m1624).ex n25.ex).but bt (hout.ne (by omega)), hk16.say⟩, ((hm16.ex m1624).ex n25.ex).but bt (hout.ne z13)⟩
              rw [List.take_add_one, hpg]
              exact ho26
            rcases hk16.say u.name with ⟨hf, hno⟩ | ⟨i0, r0, gi0, hr0, hf⟩
            · rw [hf] at hlk
              refine ⟨_, _, hlk, g22, rfl, Stp.refl _ _ _, fun _ _ _ => rfl, fin none ?_⟩
              rw [recOf_none hno]
              exact k52n src [] [] g22
            · rw [hf] at hlk
              refine ⟨_, _, hlk, g22, rfl, Stp.refl _ _ _, fun _ _ _ => rfl, fin _ ?_⟩
              have hrm := List.mem_of_getElem? gi0
              rw [← hr0, recOf_mem hnd hrm]
              have hrd : derefP ra fun ad => ∃ ia' im' ic' da' dn' dc', ad = rad ∧ RecI g22 r0 ia' im' ic' da' dn' dc' ∧ ∀ g', Ex g22 g' → g'.w.cell? (Addr.add (Addr.add rad (i0 * 5)) 1) = some (.string (bstr r0.source)) ∧ g'.w.cell? (Addr.add (Addr.add rad (i0 * 5)) 2) = some (.slice ia' im' ic') ∧ g'.w.cell? (Addr.add (Addr.add rad (i0 * 5)) 3) = some (.slice da' dn' dc') := by
                refine rdRA ((hR.mono le016).exm m1622) i0 rfl gi0 (fun ad ia' im' ic' da' dn' dc' hra' hI' hc' => ⟨ia', im', ic', da', dn', dc', hrad ad hra', hI', fun g' m' => ?_⟩)
                have := hc' g' m'.le
                rw [Int.toNat_natCast, hrad ad hra'] at this
                exact ⟨this.2.1, this.2.2.1, this.2.2.2.1⟩
              obtain ⟨ad', _, ia', im', ic', da', dn', dc', _, hI', hcells⟩ := derefP_some hrd
              refine k52 src hI' hcells ((hI.imps.mono m1622.le)) (hd.sl.exm m22) (by simp) (ok5 r0 hrm).2.2.2.2.2.1 (by omega)
        · rw [List.take_of_length_le (by omega)] at hout
          exact ⟨oa, on, oc, by rw [eA], by rw [eA]; exact hout.sl.exm m27⟩
  clear hJ
  refine ifNe (fun q1 => bad g1 (fun hh => q1 (by have := hh.1; omega))) (fun q1 => ifNe (fun q2 => bad g1 (fun hh => q2 (by have := hh.2.1; omega))) (fun q2 => (k50 hSs (hS.exm m1)).mono ?_))
  rintro v g28 m28 rfl
  refine ⟨_, rfl, ifPn (fun q3 => bad g28 (fun hh => q3 hh.2.2.1)) (fun q3 => (k50 hFs (hF.exm (m1.trans m28))).mono ?_)⟩
  rintro v g29 m29 rfl
  have m129 := m28.trans m29
  refine ⟨_, rfl, ifPn (fun q4 => bad g29 (fun hh => q4 hh.2.2.2.1)) (fun q4 => (k33 51 #[] (fun r b => b = true ↔ ¬ recP r) R (hR.exm (m1.trans m129)) (by omega) ⟨_, Tryz.func51, by kernel_rfl, by kernel_rfl⟩ (fun g' r _ hr ia im ic da dn dc hI => k51 (hRok r hr) hI)).mono ?_)⟩
  rintro v g30 m30 ⟨b, rfl, hb1, hb2⟩
  refine ⟨_, rfl, ?_⟩
  cases b with
  | true =>
    obtain ⟨r, hr, hh⟩ := hb1 rfl
    exact bad g30 (fun h2 => hh.1 rfl (h2.2.2.2.2 r hr))
  | false =>
    exact ok g30 (m129.trans m30) ⟨by omega, by omega, q3, q4, fun r hr => Classical.byContradiction fun hh => by have := (hb2 rfl r hr).2 hh; cases this⟩
end
end Go.Proofs.YtmkdbndniffkfaaGreatDoor
/- The reference's Plan; the law RecompilePlans. -/
set_option linter.unusedVariables false
namespace Go.Proofs.YtmkdbndniffkfaaGreatDoor
open Go Go.Vc Go.RowKit Go.Syn

/-- record. -/
theorem k74 {R : List RecD} (name : Lab) {a : Option Addr} {n c : Nat} {g : G} (h : SlE recE g a n c R) (hn : n ≤ 1048576) : CallsP Tryz.prog 74 #[.slice a n c, .string (bstr name)] g fun v _ =>
    ∃ i : Int, v = .int .i64 i ∧ ((i = -1 ∧ ∀ r ∈ R, r.name ≠ name) ∨ ∃ (j : Nat) (r : RecD), i = ((j : Nat) : Int) ∧ R[j]? = some r ∧ r.name = name ∧ ∀ x ∈ R.take j, x.name ≠ name) := by
  refine call74 a n c _ g _ ?_
  have hl := h.len
  unfold F74
  refine ⟨fun m i g' => ∃ j : Nat, i = ((j : Nat) : Int) ∧ j + m = n ∧ ∀ r ∈ R.take j, r.name ≠ name, ⟨n, 0, rfl, by omega, by simp⟩, ?_⟩
  rintro m i g1 le ⟨j, rfl, hj, hno⟩
  refine ifLt (fun q => ⟨⟨by omega, by omega⟩, ?_⟩) (fun q g3 _ => ⟨_, rfl, .inl ⟨rfl, by rwa [take_all (by omega)] at hno⟩⟩)
  have gj := List.getElem?_eq_getElem (show j < R.length by omega)
  generalize R[j] = r at gj
  refine rdRA (h.mono le) j rfl gj (fun ad ia im ic da dn dc _ hI hc => ⟨_, (hc g1 (Le.refl _)).1, ?_⟩)
  rw [strEq_bstr]
  exact ifP (fun q1 g2 _ => ⟨_, rfl, .inr ⟨j, r, rfl, gj, q1, hno⟩⟩) (fun q1 => ⟨i64 (by omega) (by omega), m - 1, by omega, j + 1, by omega, by omega, (all_take gj _).2 ⟨hno, q1⟩⟩)
section
variable {L : List UnitD} {R : List RecD} {S F : List Lab} {a : Option Addr} {n c : Nat} {ra : Option Addr} {rn rc : Nat} {sa : Option Addr} {sn sc : Nat} {fa : Option Addr} {fn fc : Nat} {g : G}
/-- Plan, of the reference. -/
theorem k35 (hL : ∀ u ∈ L, unitOK u) (hRok : ∀ r ∈ R, recOK r) (hRn : R.length ≤ 1048576) (hSs : shortL S) (hFs : shortL F) (h : SlE unitE g a n c L) (hR : SlE recE g ra rn rc R) (hS : SlE strE g sa sn sc S) (hF : SlE strE g fa fn fc F) :
    CallsP Tryz.prog 35 #[.slice a n c, .slice ra rn rc, .slice sa sn sc, .slice fa fn fc] g fun v g' => PlanSay (planA L R S F) v g' := by
  refine call35 a n c ra rn rc sa sn sc fa fn fc g _ ?_
  have hl := h.len
  have hrl := hR.len
  have hsl := hS.len
  have hfl := hF.len
  unfold F35
  refine (kq57 hL h).mono ?_
  rintro v g1 m1 ⟨oa, on, oc, rfl, ho⟩
  refine ⟨oa, on, oc, _, rfl, ifNe (fun q g2 m2 => plan_err (if_neg q) g2) (fun q => ?_)⟩
  have hO := orderN_ordered q
  have h16 := hO.ln
  intro J hJ
  have run : ∀ (ok : Bool) g3, Ex g1 g3 → (ok = true ↔ (S.length = L.length ∧ F.length = L.length ∧ (∀ s ∈ S, digestP s) ∧ (∀ s ∈ F, digestP s))) → J ok g3 := by
    intro ok g3 m3 hok
    have m03 := m1.trans m3
    refine hJ ok g3 ⟨fun m b i g' => ∃ j : Nat, i = ((j : Nat) : Int) ∧ j + m = rn ∧ (b = true ↔ (S.length = L.length ∧ F.length = L.length ∧ (∀ s ∈ S, digestP s) ∧ (∀ s ∈ F, digestP s)) ∧ ∀ r ∈ R.take j, recP r), ⟨rn, 0, rfl, by omega, by rw [hok]; simp⟩, ?_⟩
    rintro m b i g4 le4 ⟨j, rfl, hj, hb⟩
    have le04 : Le g g4 := m03.le.trans le4
    refine ifLt (fun q2 => ?_) (fun q2 => ?_)
    · have gj := List.getElem?_eq_getElem (show j < R.length by omega)
      generalize R[j] = r at gj
      have hr := List.mem_of_getElem? gj
      refine ifT (fun e => ⟨⟨by omega, by omega⟩, rdRA (hR.mono le04) j rfl gj (fun ad ia im ic da dn dc _ hI hc => ?_)⟩) (fun e => ⟨i64 (by omega) (by omega), m - 1, by omega, j + 1, by omega, by omega, ?_⟩)
      · obtain ⟨c0, c1, c2, c3, c4⟩ := hc g4 (Le.refl _)
        refine ⟨_, _, _, _, _, _, _, _, _, c0, c1, c2, c3, c4, (k32 (hRok r hr) hI).mono ?_⟩
        rintro v g5 _ rfl
        refine ⟨_, rfl, i64 (by omega) (by omega), m - 1, by omega, j + 1, by omega, by omega, ?_⟩
        rw [tf_true, all_take gj recP]
        obtain ⟨h1, h2⟩ := hb.1 e
        exact ⟨fun hh => ⟨h1, h2, hh⟩, fun hh => hh.2.2⟩
      · constructor
        · intro hh; cases hh
        · rintro ⟨h1, h2⟩
          have := hb.2 ⟨h1, ((all_take gj recP).1 h2).1⟩
          rw [e] at this; cases this
    · rw [take_all (by omega)] at hb
      refine ifF (fun e g6 _ => plan_err ((if_pos q).trans (if_neg ?_)) g6) (fun e => ?_)
      · rintro ⟨h1, h2, h3, h4, h5⟩
        have := hb.2 ⟨⟨h1, h2, h3, h4⟩, h5⟩
        rw [e] at this; cases this
      obtain ⟨⟨ok1, ok2, ok3, ok4⟩, ok5⟩ := hb.1 e
      refine ifLt (fun q1 g7 _ => plan_err ((if_pos q).trans ((if_pos ⟨ok1, ok2, ok3, ok4, ok5⟩).trans (if_pos (by omega)))) g7) (fun q1 => ?_)
      refine ⟨fun m i g' => ∃ j : Nat, i = ((j : Nat) : Int) ∧ j + m = rn ∧ ((R.take j).map (·.name)).Nodup, ⟨rn, 0, rfl, by omega, by simp⟩, ?_⟩
      rintro m2 i2 g8 le8 ⟨j2, rfl, hj2, hnd⟩
      have le08 := le04.trans le8
      refine ifLt (fun q3 => ⟨⟨by omega, by omega⟩, ?_⟩) (fun q3 => ?_)
      · have gj := List.getElem?_eq_getElem (show j2 < R.length by omega)
        generalize R[j2] = r at gj
        refine rdRA (hR.mono le08) j2 rfl gj (fun ad ia im ic da dn dc _ hI hc => ⟨_, (hc g8 (Le.refl _)).1, (k74 r.name (hR.mono le08) (by omega)).mono ?_⟩)
        rintro v g9 m9 ⟨x, rfl, hx⟩
        have hx2 : x = ((j2 : Nat) : Int) ↔ ∀ y ∈ R.take j2, y.name ≠ r.name := by
          rcases hx with ⟨rfl, hno⟩ | ⟨p, r', rfl, gp, hp, hno⟩
          · exact absurd rfl (hno r (List.mem_of_getElem? gj))
          · constructor
            · intro e2
              have : p = j2 := by omega
              rwa [this] at hno
            · intro hno2
              rcases Nat.lt_trichotomy p j2 with e2 | e2 | e2
              · refine absurd hp (hno2 r' (List.mem_take_iff_getElem.2 ⟨p, by have := (List.getElem?_eq_some_iff.1 gp).1; omega, (List.getElem?_eq_some_iff.1 gp).2⟩))
              · rw [e2]
              · exact absurd rfl (hno r (List.mem_take_iff_getElem.2 ⟨j2, by have := (List.getElem?_eq_some_iff.1 gj).1; omega, (List.getElem?_eq_some_iff.1 gj).2⟩))
        refine ⟨_, rfl, ifNe (fun q4 g10 _ => plan_err ?_ g10) (fun q4 => ⟨i64 (by omega) (by omega), m2 - 1, by omega, j2 + 1, by omega, by omega, (names_nodup_take gj).2 ⟨hnd, hx2.1 q4⟩⟩)⟩
        refine (if_pos q).trans ((if_pos ⟨ok1, ok2, ok3, ok4, ok5⟩).trans ((if_neg (by omega)).trans (if_neg (fun hh => q4 (hx2.2 ?_)))))
        exact ((names_nodup_take gj).1 (names_nodup_mono (j := j2 + 1) hh)).2
      · rw [take_all (by omega)] at hnd
        have eA := planA_ok q ⟨ok1, ok2, ok3, ok4, ok5⟩ (by omega) hnd
        have hpl := planRow_len L R F L S ok1
        refine ⟨fun m wa wn wc i g' => ∃ (k : Nat), i = ((k : Nat) : Int) ∧ k + m = n ∧ OwnE reaE g' g8.w.heap.size 39 wa wn wc ((planRow L R F L S).take k), ⟨n, 0, rfl, by omega, by simpa using OwnE.nil _ _ _⟩, ?_⟩
        rintro m4 wa wn wc i4 g11 le11 ⟨k, rfl, hkn, hout⟩
        have houl := hout.len
        rw [List.length_take, hpl] at houl
        have le011 := le08.trans le11
        refine ifLt (fun q4 => ?_) (fun q4 g23 m23 => ?_)
        · have gk := List.getElem?_eq_getElem (show k < L.length by omega)
          have gs := List.getElem?_eq_getElem (show k < S.length by omega)
          generalize L[k] = u at gk
          generalize S[k] = src at gs
          have hu := List.mem_of_getElem? gk
          have hi16 := (hO.ok u hu).2.1
          have hpg := planRow_get L R F L S gk gs
          refine ⟨fun m da dn dc i g' => ∃ p : Nat, i = ((p : Nat) : Int) ∧ p + m = u.imps.length ∧ OwnE strE g' g11.w.heap.size 9 da dn dc ((u.imps.take p).map (faceOf L F)) ∧ Ex g11 g', ⟨u.imps.length, 0, rfl, by omega, by simpa using OwnE.nil _ _ _, Ex.refl _⟩, ?_⟩
          rintro m6 da dn dc i6 g12 le12 ⟨p, rfl, hp, hd, m12⟩
          have hdl := hd.len
          rw [List.length_map, List.length_take] at hdl
          have h12 := h.mono (le011.trans le12)
          refine ⟨⟨by omega, by omega⟩, rdUA h12 k rfl gk (fun ad ia im ic da' dn' dc' hI hc => ⟨_, _, _, (hc g12 (Le.refl _)).2.1, ?_⟩)⟩
          have hil := hI.imps.len
          refine ifLt (fun q5 => ⟨⟨by omega, by omega⟩, rdUA h12 k rfl gk (fun ad2 ia2 im2 ic2 da2 dn2 dc2 hI2 hc2 => ⟨_, _, _, (hc2 g12 (Le.refl _)).2.1, ?_⟩)⟩) (fun q5 => ⟨⟨by omega, by omega⟩, rdUA h12 k rfl gk (fun ad2 ia2 im2 ic2 da2 dn2 dc2 hI2 hc2 => ⟨_, (hc2 g12 (Le.refl _)).1, ?_⟩)⟩)
          · have hil2 := hI2.imps.len
            have gp := List.getElem?_eq_getElem (show p < u.imps.length by omega)
            generalize u.imps[p] = s at gp
            have hs := List.mem_of_getElem? gp
            obtain ⟨y, hy, rfl⟩ := mem_names.1 (hO.imp u hu s hs)
            refine ⟨⟨by omega, by omega⟩, rdS hI2.imps p rfl gp ((k75 y.name h12 (by omega)).mono ?_)⟩
            rintro v g13 m13 ⟨x, rfl, hx⟩
            rcases hx with ⟨_, hno⟩ | ⟨jj, w, rfl, gj, hw⟩
            · exact absurd (mem_names.2 ⟨y, hy, rfl⟩) hno
            have hjl := (List.getElem?_eq_some_iff.1 gj).1
            have gf := List.getElem?_eq_getElem (show jj < F.length by omega)
            generalize F[jj] = fx at gf
            have hfx : faceOf L F y.name = fx := by rw [← hw]; exact faceOf_at hO.nd gj gf
            refine ⟨_, rfl, ⟨by omega, by omega⟩, rdS ((hF.mono (le011.trans le12)).exm m13) jj rfl gf (fun g14 n14 => ?_)⟩
            have m1213 := m12.trans m13
            obtain ⟨a', c', w', hr, g15, hw15, hs15, ho15, _, _⟩ := (hd.exm m13).app1 E30 30 m1213.size n14 (x := fx) rfl (by omega) (by unfold maxLen; omega)
            refine ⟨a', _, c', w', hr, g15, hw15, hs15.mono le011.size (fun _ _ hh => hh), i64 (by omega) (by omega), m6 - 1, by omega, p + 1, by omega, by omega, ?_, ex_stp (m1213.trans n14.ex) hs15⟩
            rw [List.take_add_one, gp, List.map_append, ← hfx] at *
            exact ho15
          · rw [take_all (by omega)] at hd
            refine (k74 u.name (hR.mono (le011.trans le12)) (by omega)).mono ?_
            rintro v g16 m16 ⟨x, rfl, hx⟩
            have m1116 := m12.trans m16
            have hnew : ∀ {gx gy : G} {z : ReaD}, Ex g11 gx → z = reasonN (recOf R u.name) src u.imps (u.imps.map (faceOf L F)) → NewL gx gy 39 [.int .i64 z.op, .string (bstr z.unit)] →
                ∃ outa_1 : Option Addr, ∃ outl_1 : Nat, ∃ outc_1 : Nat, ∃ wo2 : World, Sem.run Tryz.prog (Builtin.append_ #[34, 34] 34 #[.slice wa wn wc, .slice (some ⟨gx.w.heap.size, 0, none⟩) 1 1]) gy.w = .ok (.slice outa_1 outl_1 outc_1) wo2 ∧ ∃ g18 : G, g18.w = wo2 ∧ Stp g.w.heap.size nobody gy g18 ∧ InI64 (((k : Nat) : Int) + 1) ∧ (∃ m_5 : Nat, m_5 < m4 ∧ ∃ (k' : Nat), ((k : Nat) : Int) + 1 = ((k' : Nat) : Int) ∧ k' + m_5 = n ∧ OwnE reaE g18 g8.w.heap.size 39 outa_1 outl_1 outc_1 ((planRow L R F L S).take k')) := by
              intro gx gy z mx hz ny
              obtain ⟨a', c', w', hr, g26, hw, hs26, ho26, _, _⟩ := (hout.exm mx).app1 (E := reaE) E34 34 (Nat.le_trans le11.size mx.size) ny (x := z) rfl (by show (wn + 1) * 24 ≤ _; omega) (by unfold maxLen; omega)
              refine ⟨a', _, c', w', hr, g26, hw, hs26.mono le08.size (fun _ _ hh => hh), i64 (by omega) (by omega), m4 - 1, by omega, k + 1, by omega, by omega, ?_⟩
              rw [List.take_add_one, hpg, ← hz]
              exact ho26
            refine ⟨_, rfl, ?_⟩
            rcases hx with ⟨rfl, hno⟩ | ⟨jj, r, rfl, gj, hrn, _⟩
            · refine ifLt (fun _ g17 n17 => hnew (z := ⟨1, []⟩) m1116 (by rw [recOf_none hno]; rfl) n17) (fun hh => by omega)
            · have hjl := (List.getElem?_eq_some_iff.1 gj).1
              have hrm := List.mem_of_getElem? gj
              have le16 := le011.trans m1116.le
              refine ifLt (fun hh => by omega) (fun _ g19 m19 => ⟨⟨by omega, by omega⟩, rdRA ((hR.mono le16).exm m19) jj rfl gj (fun ad3 ia3 im3 ic3 da3 dn3 dc3 _ hI3 hc3 => ?_)⟩)
              obtain ⟨c0, c1, c2, c3, c4⟩ := hc3 g19 (Le.refl _)
              refine ⟨_, _, _, _, _, _, _, _, _, c0, c1, c2, c3, c4, ⟨by omega, by omega⟩, rdS ((hS.mono le16).exm m19) k rfl gs ⟨⟨by omega, by omega⟩, rdUA ((h.mono le16).exm m19) k rfl gk (fun ad4 ia4 im4 ic4 da4 dn4 dc4 hI4 hc4 => ⟨_, _, _, (hc4 g19 (Le.refl _)).2.1, ?_⟩)⟩⟩
              have hil4 := hI4.imps.len
              refine (k68 src hI3 hI4.imps ((hd.sl.exm m16).exm m19) (by simp) (ok5 r hrm).2.2.2.2.2.1 (by omega) (hRok r hrm).2.2.1).mono ?_
              rintro v g20 m20 rfl
              refine ⟨_, _, rfl, fun g21 n21 => hnew ((m1116.trans m19).trans m20) ?_ n21⟩
              rw [← hrn, recOf_mem hnd hrm]
        · rw [List.take_of_length_le (by omega)] at hout
          exact ⟨wa, wn, wc, by rw [eA], by rw [eA]; exact hout.sl.exm m23⟩
  clear hJ
  refine ifEq (fun q1 => ifEq (fun q2 => (k67 hSs (hS.exm m1)).mono ?_) (fun q2 => run false g1 (Ex.refl _) ⟨fun e => (by cases e), fun hh => absurd (by have := hh.2.1; omega) q2⟩)) (fun q1 => run false g1 (Ex.refl _) ⟨fun e => (by cases e), fun hh => absurd (by have := hh.1; omega) q1⟩)
  rintro v g24 m24 rfl
  refine ⟨_, rfl, ifP (fun q3 => (k67 hFs (hF.exm (m1.trans m24))).mono ?_) (fun q3 => run false g24 m24 ⟨fun e => (by cases e), fun hh => absurd hh.2.2.1 q3⟩)⟩
  rintro v g25 m25 rfl
  refine ⟨_, rfl, run _ g25 (m24.trans m25) ?_⟩
  rw [tf_true]
  exact ⟨fun hh => ⟨by omega, by omega, q3, hh⟩, fun hh => hh.2.2.2⟩
end
theorem rdE {X : List ReaD} {a : Option Addr} {n c : Nat} {g : G} (h : SlE reaE g a n c X) {i : Int} (p : Nat) (hi : i = (p : Int)) {x : ReaD} (hx : X[p]? = some x) {K : Addr → Prop}
    (hk : ∀ ad, g.w.cell? (Addr.add ad (Int.toNat i * 2)) = some (.int .i64 x.op) → g.w.cell? (Addr.add (Addr.add ad (Int.toNat i * 2)) 1) = some (.string (bstr x.unit)) → K ad) : derefP a K := by
  subst hi
  refine h.rd (i := p) hx ?_
  rintro r ad rfl hl
  have h0 := (hl 0 _ rfl).1
  rw [Addr.add_zero'] at h0
  refine hk ad ?_ ?_
  · rw [Int.toNat_natCast]; exact h0
  · rw [Int.toNat_natCast]; exact (hl 1 _ rfl).1
theorem rea_eq {x y : ReaD} : ((eqI x.op y.op) && ((strEq (bstr x.unit) (bstr y.unit)) && true)) = tf (x = y) := by
  rw [strEq_bstr, tf_eq, Bool.and_true, tf_and]
  refine tf_iff ?_
  cases x; cases y
  simp
/-- slices.Equal of reasons. -/
theorem k36 {X Y : List ReaD} {a b : Option Addr} {n c m d : Nat} {g : G} (hx : SlE reaE g a n c X) (hy : SlE reaE g b m d Y) : CallsP Tryz.prog 36 #[.slice a n c, .slice b m d] g fun v _ => v = .bool (tf (X = Y)) := by
  refine call36 _ _ _ _ _ _ g _ ?_
  have l1 := hx.len
  have l2 := hy.len
  have hc := hx.le
  have hcap := hx.cap
  unfold maxLen at hcap
  unfold F36
  refine ifNe (fun q g1 _ => vF (fun hh => q (by rw [hh] at l1; omega))) (fun q => ?_)
  refine ⟨fun m0 i g' => ∃ j : Nat, i = ((j : Nat) : Int) ∧ j + m0 = n ∧ X.take j = Y.take j, ⟨n, 0, rfl, by omega, rfl⟩, ?_⟩
  rintro m0 i g2 le ⟨j, rfl, hj, ht⟩
  refine ifLt (fun q1 g3 m3 => ⟨⟨by omega, by omega⟩, ?_⟩) (fun q1 g5 _ => ?_)
  · have g1' := List.getElem?_eq_getElem (show j < X.length by omega)
    have g2' := List.getElem?_eq_getElem (show j < Y.length by omega)
    generalize X[j] = x at g1'
    generalize Y[j] = y at g2'
    refine rdE ((hx.mono le).exm m3) j rfl g1' (fun ad c0 c1 => ⟨_, _, c0, c1, ⟨by omega, by omega⟩, rdE ((hy.mono le).exm m3) j rfl g2' (fun ad2 c2 c3 => ⟨_, _, c2, c3, ?_⟩)⟩)
    rw [rea_eq]
    refine ifPn (fun q3 g8 _ => vF (fun hh => q3 ?_)) (fun q3 => ⟨i64 (by omega) (by omega), m0 - 1, by omega, j + 1, by omega, by omega, ?_⟩)
    · rw [hh, g2'] at g1'
      exact (Option.some.inj g1').symm
    · rw [List.take_add_one, List.take_add_one, g1', g2', ht, q3]
  · rw [take_all (by omega), take_all (by omega)] at ht
    exact vT ht
/-- RecompilePlans. -/
theorem law6 (L : List UnitD) (R : List RecD) (S F : List Lab) {a : Option Addr} {n c : Nat} {ra : Option Addr} {rn rc : Nat} {sa : Option Addr} {sn sc : Nat} {fa : Option Addr} {fn fc : Nat} {g : G} (ht : TabG g) (h : SlE unitE g a n c L) (hR : SlE recE g ra rn rc R) (hS : SlE strE g sa sn sc S) (hF : SlE strE g fa fn fc F) :
    CallsP Tryz.prog 6 #[.slice a n c, .slice ra rn rc, .slice sa sn sc, .slice fa fn fc] g fun v _ => v = .bool true := by
  refine call6 a n c ra rn rc sa sn sc fa fn fc g _ ?_
  have hrl := hR.len
  unfold F6
  intro J hJ
  have yes : ∀ g1, Ex g g1 → J true g1 := by
    intro g1 m1
    refine hJ true g1 (ifT (fun _ => (k7 g1 (ht.exm m1)).mono ?_) (fun e => by cases e))
    rintro v g2 _ rfl
    exact ⟨_, rfl, fun _ _ => rfl⟩
  have run : ∀ g1, Ex g g1 → (∀ u ∈ L, unitOK u) → (∀ r ∈ R, recOK r) → R.length ≤ 1048576 → shortL S → shortL F → J false g1 := by
    intro g1 m1 hL hRok hRn hSs hFs
    refine hJ false g1 (ifT (fun e => by cases e) (fun _ => (k12 hL hRok hRn hSs hFs (ht.exm m1) (h.exm m1) (hR.exm m1) (hS.exm m1) (hF.exm m1)).mono ?_))
    rintro v g4 m4 ⟨xa, xn, xc, rfl, hx⟩
    have m14 := m1.trans m4
    refine ⟨_, _, _, _, rfl, (k35 hL hRok hRn hSs hFs (h.exm m14) (hR.exm m14) (hS.exm m14) (hF.exm m14)).mono ?_⟩
    rintro v g5 m5 ⟨ya, yn, yc, rfl, hy⟩
    refine ⟨_, _, _, _, rfl, (k36 (hx.exm m5) hy).mono ?_⟩
    rintro v g6 m6 rfl
    exact ⟨_, rfl, ifP (fun _ g7 _ => by simp [eqI]) (fun hh => absurd rfl hh)⟩
  clear hJ
  have tail : ∀ g10, Ex g g10 → (∀ u ∈ L, unitOK u) → R.length ≤ 1010 → (CallsP Tryz.prog 33 #[.slice ra rn rc, .func (.func 34) #[] #[]] g10 fun v g14 => ∃ x_7 : Bool, v = .bool x_7 ∧ ifB x_7 (J true g14)
      ((CallsP Tryz.prog 28 #[.slice sa sn sc] g14 fun v g15 => ∃ x_8 : Bool, v = .bool x_8 ∧ ifB x_8 (J true g15) ((CallsP Tryz.prog 28 #[.slice fa fn fc] g15 fun v g16 => ∃ x_9 : Bool, v = .bool x_9 ∧ J x_9 g16))))) := by
    intro g10 m10 hL hRl
    refine (k33 34 #[] (fun r b => b = false → recOK r) R (hR.exm m10) (by omega) ⟨_, Tryz.func34, by kernel_rfl, by kernel_rfl⟩ (fun g' r _ hr ia im ic da dn dc hI => k34 hI)).mono ?_
    rintro v g14 m14 ⟨b1, rfl, _, hb1⟩
    have m014 := m10.trans m14
    refine ⟨_, rfl, ifT (fun _ => yes g14 m014) (fun e1 => (k28 (hS.exm m014)).mono ?_)⟩
    rintro v g15 m15 ⟨b2, rfl, hb2⟩
    have m015 := m014.trans m15
    refine ⟨_, rfl, ifT (fun _ => yes g15 m015) (fun e2 => (k28 (hF.exm m015)).mono ?_)⟩
    rintro v g16 m16 ⟨b3, rfl, hb3⟩
    refine ⟨_, rfl, ?_⟩
    cases b3 with
    | true => exact yes g16 (m015.trans m16)
    | false =>
      obtain ⟨h1, h2⟩ := hb2 e2
      obtain ⟨h3, h4⟩ := hb3 rfl
      exact run g16 (m015.trans m16) hL (fun r hr => hb1 e1 r hr rfl) (by omega) ⟨by omega, fun s hs => by have := h2 s hs; omega⟩ ⟨by omega, fun s hs => by have := h4 s hs; omega⟩
  refine (k7 g ht).mono ?_
  rintro v g9 m9 rfl
  refine ⟨_, rfl, ifF (fun e => by cases e) (fun _ => (k8 (h.exm m9)).mono ?_)⟩
  rintro v g10 m10 ⟨b, rfl, hb⟩
  have m010 := m9.trans m10
  refine ⟨_, rfl, ifF (fun _ => yes g10 m010) (fun e => ?_)⟩
  have hL := (hb e).2
  exact ifLt (fun _ => ifLe (fun _ => yes g10 m010) (fun _ => ifLt (fun _ => yes g10 m010) (fun q => tail g10 m010 hL (by omega)))) (fun _ => ifLt (fun _ => yes g10 m010) (fun q => tail g10 m010 hL (by omega)))
end Go.Proofs.YtmkdbndniffkfaaGreatDoor
