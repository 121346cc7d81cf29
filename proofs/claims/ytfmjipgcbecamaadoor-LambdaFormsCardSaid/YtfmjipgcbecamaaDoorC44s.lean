/- The reference's free variables, forms of values, equality. -/
import Derived.Test.YtfmjipgcbecamaaDoorC44r
set_option linter.unusedVariables false
namespace Go.Proofs.YtfmjipgcbecamaaDoor
open Go Go.Vc Go.RowKit Go.Syn Go.Lam Go.Sort

/-- Bound. -/
theorem k51 {x : E} {a : Option Addr} {n c : Nat} (j : Nat) (g : G) : CallsP Tryd.prog 51 #[expV x a n c, .int .i64 ((j : Nat) : Int)] g fun v _ => v = .int .i64 ((bndN x.dat.op j : Nat) : Int) := by
  refine call51 _ _ _ _ _ _ _ g _ ?_
  unfold F51
  intro J hJ
  have one : ∀ b g1, b = true → (x.dat.op = 4 ∨ x.dat.op = 10) → J b g1 := fun b g1 hb e => hJ b g1 (ifT (fun _ g2 _ => by rw [bnd_body e]; rfl) (fun h => by rw [hb] at h; cases h))
  refine ifEq (fun e g8 _ => one _ g8 rfl (.inl e)) (fun e4 g9 _ => ?_)
  by_cases e10 : x.dat.op = 10
  · exact one _ g9 (by simp [e10]) (.inr e10)
  refine hJ _ g9 (ifT (fun h => absurd (by rw [eqI_true] at h; exact h) e10) (fun _ => ?_))
  have more : (x.dat.op = 11 ∨ x.dat.op = 9) → ifB (ltI 0 ((j : Nat) : Int)) (∀ g3 : G, Ex g9 g3 → (fun (v : Value) (_ : G) => v = .int .i64 ((bndN x.dat.op j : Nat) : Int)) (.int .i64 (1 : Int)) g3) (∀ g3 : G, Ex g9 g3 → (fun (v : Value) (_ : G) => v = .int .i64 ((bndN x.dat.op j : Nat) : Int)) (.int .i64 (0 : Int)) g3) :=
    fun h => ifLt (fun q g3 _ => by rw [bnd_more h (by omega)]; rfl) (fun q g3 _ => by rw [show j = 0 by omega, bnd_first (by omega)]; rfl)
  refine ifEq (fun e => more (.inl e)) (fun e11 => ifEq (fun e => more (.inr e)) (fun e9 g7 _ => ?_))
  rw [bnd_none (by omega)]; rfl
theorem asc_unique {F H : List Int} (hF : F.Pairwise (· < ·)) (hH : H.Pairwise (· < ·)) (h : ∀ s, s ∈ F ↔ s ∈ H) : F = H := by
  induction F generalizing H with
  | nil =>
    cases H with
    | nil => rfl
    | cons b r => exact absurd ((h b).2 (by simp)) (by simp)
  | cons a F ih =>
    cases H with
    | nil => exact absurd ((h a).1 (by simp)) (by simp)
    | cons b H =>
      obtain ⟨h1, h2⟩ := List.pairwise_cons.1 hF
      obtain ⟨h3, h4⟩ := List.pairwise_cons.1 hH
      have ab : a = b := by
        rcases List.mem_cons.1 ((h a).1 (by simp)) with e | e
        · exact e
        · rcases List.mem_cons.1 ((h b).2 (by simp)) with e2 | e2
          · exact e2.symm
          · have := h3 a e; have := h1 b e2; omega
      subst ab
      rw [ih h2 h4 (fun s => ?_)]
      have hs := h s
      simp only [List.mem_cons] at hs
      constructor
      · intro hm
        rcases hs.1 (.inr hm) with e | e
        · have := h1 s hm; omega
        · exact e
      · intro hm
        rcases hs.2 (.inr hm) with e | e
        · have := h3 s hm; omega
        · exact e
theorem ascF_unique {x : E} {F H : List Int} (hF : AscF x F) (hH : AscF x H) : F = H := asc_unique hF.1 hH.1 (fun s => by rw [hF.2, hH.2])
theorem asc_ins {L : List Int} (hL : L.Pairwise (· < ·)) {j : Nat} {n : Int} (h1 : ∀ x ∈ L.take j, x < n) (h2 : ∀ y, L[j]? = some y → n < y) :
    (L.take j ++ [n] ++ L.drop j).Pairwise (· < ·) ∧ ∀ s, s ∈ L.take j ++ [n] ++ L.drop j ↔ s ∈ L ∨ s = n := by
  have h3 : ∀ y ∈ L.drop j, n < y := by
    intro y hy
    cases hd : L.drop j with
    | nil => rw [hd] at hy; cases hy
    | cons z r =>
      have hz : L[j]? = some z := by
        have := congrArg (fun l => l[0]?) hd
        simpa using this
      have hp : (L.drop j).Pairwise (· < ·) := List.Pairwise.sublist (List.drop_sublist j L) hL
      rw [hd] at hy hp
      obtain ⟨p1, _⟩ := List.pairwise_cons.1 hp
      rcases List.mem_cons.1 hy with rfl | hy
      · exact h2 _ hz
      · have := h2 _ hz; have := p1 y hy; omega
  refine ⟨?_, fun s => ?_⟩
  · refine List.pairwise_append.2 ⟨List.pairwise_append.2 ⟨List.Pairwise.sublist (List.take_sublist j L) hL, by simp, fun a ha b hb => ?_⟩, List.Pairwise.sublist (List.drop_sublist j L) hL, fun a ha b hb => ?_⟩
    · have : b = n := by simpa using hb
      rw [this]; exact h1 a ha
    · rcases List.mem_append.1 ha with ha | ha
      · have := h1 a ha; have := h3 b hb; omega
      · have : a = n := by simpa using ha
        rw [this]; exact h3 b hb
  · constructor
    · intro hm
      rcases List.mem_append.1 hm with hm | hm
      · rcases List.mem_append.1 hm with hm | hm
        · exact .inl (List.mem_of_mem_take hm)
        · exact .inr (by simpa using hm)
      · exact .inl (List.mem_of_mem_drop hm)
    · rintro (hm | rfl)
      · rw [← List.take_append_drop j L, List.mem_append] at hm
        rcases hm with hm | hm
        · simp [hm]
        · simp [hm]
      · simp
/-- insert. -/
theorem k50 {L : List Int} (n : Int) {a : Option Addr} {ln lc : Nat} {g : G} (hL : L.Pairwise (· < ·)) (h : SlE intE' g a ln lc L) (hn : ln ≤ 1048576) :
    CallsP Tryd.prog 50 #[.slice a ln lc, .int .i64 n] g fun v g' => ∃ oa on oc F, v = .slice oa on oc ∧ SlE intE' g' oa on oc F ∧ F.Pairwise (· < ·) ∧ F.length ≤ L.length + 1 ∧ ∀ s, s ∈ F ↔ s ∈ L ∨ s = n := by
  refine call50 a ln lc _ g _ ?_
  have hl := h.len
  have hcp := h.le
  unfold F50
  intro J hJ
  have HJ : ∀ (j : Nat) (g1 : G), Le g g1 → j ≤ ln → (∀ x ∈ L.take j, x < n) → (∀ x, L[j]? = some x → n ≤ x) → J ((j : Nat) : Int) g1 := by
    intro j g1 le1 hjn h1 h2
    refine hJ _ g1 ?_
    clear hJ
    intro J1 hJ1
    have build : (∀ y, L[j]? = some y → y ≠ n) → J1 g1 := by
      intro hne
      obtain ⟨p1, p2⟩ := asc_ins hL h1 (fun y hy => by have := h2 y hy; have := hne y hy; omega)
      refine hJ1 g1 (fun g3 n3 => ⟨⟨by omega, by omega⟩, ?_⟩)
      have le3 := le1.trans n3.ex.le
      have o3 : OwnE intE' g3 g.w.heap.size 3 (some ⟨g1.w.heap.size, 0, none⟩) 0 0 ([] : List Int) := OwnE.lit (xs := []) n3 Rws.nil le1.size (by unfold maxLen; simp)
      have ht := (h.mono le3).take (hi := j) hjn
      obtain ⟨a1, c1, w1, hr1, g4, hw1, hs1, o4, st4, _⟩ := o3.app E36 36 le3.size ht (by omega) (by unfold maxLen; omega)
      rw [Int.toNat_natCast]
      refine ⟨a1, 0 + (j - 0), c1, w1, hr1, g4, hw1, hs1, fun g5 n5 => ?_⟩
      have le4 : Le g g4 := le3.trans hs1.le
      obtain ⟨a2, c2, w2, hr2, g6, hw2, hs2, o6, st6, _⟩ := o4.app1 E36 36 le4.size n5 (x := n) rfl (by omega) (by unfold maxLen; omega)
      have le6 : Le g g6 := (le4.trans n5.ex.le).trans hs2.le
      have hd := (h.mono le6).drop (lo := j) hjn
      obtain ⟨a3, c3, w3, hr3, g7, hw3, hs3, o7, st7, _⟩ := o6.app E36 36 le6.size hd (by omega) (by unfold maxLen; omega)
      refine ⟨a2, _, c2, w2, hr2, g6, hw2, hs2, ⟨by omega, by omega⟩, a3, _, c3, w3, hr3, g7, hw3, hs3, fun g8 m8 => ⟨a3, _, c3, L.take j ++ [n] ++ L.drop j, rfl, by simpa using o7.sl.exm m8, p1, ?_, p2⟩⟩
      simp only [List.length_append, List.length_take, List.length_drop, List.length_singleton]
      omega
    refine ifLt (fun q => ⟨⟨by omega, by omega⟩, ?_⟩) (fun q => build (fun y hy => by have := (List.getElem?_eq_some_iff.1 hy).1; omega))
    have gj := List.getElem?_eq_getElem (show j < L.length by omega)
    generalize L[j] = x at gj
    refine rdN (h.mono le1) j rfl gj (ifEq (fun e g12 m12 => ⟨a, ln, lc, L, rfl, h.mono (le1.trans m12.le), hL, by omega, fun s => ⟨.inl, fun hh => hh.elim id (fun e2 => by rw [e2, ← e]; exact List.mem_of_getElem? gj)⟩⟩) (fun e => build (fun y hy => by rw [gj] at hy; cases hy; exact e)))
  refine ⟨fun m i g' => ∃ j : Nat, i = ((j : Nat) : Int) ∧ j + m = ln ∧ ∀ x ∈ L.take j, x < n, ⟨ln, 0, rfl, by omega, by simp⟩, ?_⟩
  rintro m i g13 le ⟨j, rfl, hj, hall⟩
  refine ifLt (fun q => ⟨⟨by omega, by omega⟩, ?_⟩) (fun q => HJ j g13 le (by omega) hall (fun x hx => by have := (List.getElem?_eq_some_iff.1 hx).1; omega))
  have gj := List.getElem?_eq_getElem (show j < L.length by omega)
  generalize L[j] = x at gj
  refine rdN (h.mono le) j rfl gj (ifLt (fun e => ⟨i64 (by omega) (by omega), m - 1, by omega, j + 1, by omega, by omega, (all_take gj _).2 ⟨hall, e⟩⟩) (fun e => HJ j g13 le (by omega) hall (fun y hy => by rw [gj] at hy; cases hy; exact e)))
/-- free. -/
theorem k36 (x : E) : ∀ {under : Nat} {L : List Int} {la : Option Addr} {ll lc : Nat} {a : Option Addr} {n c : Nat} {g : G}, i64E x → (x.dat.op = 1 → x.kids = []) → (∀ y : E, y = x ∨ y ∈ x.kids → formE y) → under + depthE x ≤ 1000 → L.Pairwise (· < ·) → L.length + sizeE x ≤ 20000 → SlE intE' g la ll lc L → SlE expE g a n c x.kids →
    CallsP Tryd.prog 36 #[expV x a n c, .int .i64 ((under : Nat) : Int), .slice la ll lc] g fun v g' => ∃ oa on oc F, v = .slice oa on oc ∧ SlE intE' g' oa on oc F ∧ F.Pairwise (· < ·) ∧ F.length ≤ L.length + sizeE x ∧ ∀ s, s ∈ F ↔ s ∈ L ∨ s ∈ frees x under := by
  induction x using Tr.ind with
  | h d l ih =>
    intro under L la ll lc a n c g hx hvk hfm hud hP hsz hL hI
    obtain ⟨hn, hkx⟩ := i64E_un hx
    refine call36 _ _ _ _ _ _ _ _ _ _ g _ ?_
    have hl : l.length = n := hI.len
    have hll := hL.len
    have hcap := hI.cap
    have hnc := hI.le
    have hss : sizeE (.mk d l) = sizeEL l + 1 := rfl
    have hdd : depthE (.mk d l) = depthEL l + 1 := rfl
    unfold maxLen at hcap
    unfold F36
    intro J hJ
    have yes : ∀ b g1, Ex g g1 → b = true → d.op = 1 → ((under : Nat) : Int) ≤ d.n → J b g1 := by
      intro b g1 m1 hb e1 e2
      have hn' : d.n ≤ 9223372036854775807 := hn
      refine hJ b g1 (ifT (fun _ => ⟨i64 (by show _ ≤ d.n - _; omega) (by show d.n - _ ≤ _; omega), (k50 (d.n - ((under : Nat) : Int)) hP (hL.exm m1) (by omega)).mono ?_⟩) (fun h => by rw [hb] at h; cases h))
      rintro v g2 _ ⟨oa, on, oc, F, rfl, h1, h2, h3, h4⟩
      refine ⟨_, _, _, rfl, fun g3 m3 => ⟨oa, on, oc, F, rfl, h1.exm m3, h2, by omega, fun s => ?_⟩⟩
      have hl0 : l = [] := hvk e1
      subst hl0
      rw [h4, frees, if_pos ⟨e1, e2⟩]
      simp [freesL]
    have nope : ∀ b g1, Ex g g1 → b = false → ¬ (d.op = 1 ∧ ((under : Nat) : Int) ≤ d.n) → J b g1 := by
      intro b g1 m1 hb e1
      refine hJ b g1 (ifT (fun h => by rw [hb] at h; cases h) (fun _ => ?_))
      clear hJ
      refine ⟨fun m la1 ll1 lc1 i g' => ∃ (j : Nat) (F : List Int), i = ((j : Nat) : Int) ∧ j + m = n ∧ SlE intE' g' la1 ll1 lc1 F ∧ F.Pairwise (· < ·) ∧ F.length ≤ L.length + sizeEL (l.take j) ∧ ∀ s, s ∈ F ↔ s ∈ L ∨ s ∈ freesL d.op 0 (l.take j) under,
        ⟨n, 0, L, rfl, by omega, hL.exm m1, hP, by omega, fun s => by simp [freesL]⟩, ?_⟩
      rintro m la1 ll1 lc1 i g4 le ⟨j, F, rfl, hj, hF, hFP, hFl, hFm⟩
      refine ifLt (fun q g5 m5 => ⟨⟨by omega, by omega⟩, ?_⟩) (fun q g8 m8 => ?_)
      · have gj := List.getElem?_eq_getElem (show j < l.length by omega)
        generalize l[j] = y at gj
        have hy := List.mem_of_getElem? gj
        have htk := sizeEL_take gj
        have hle2 := sizeEL_le l (j + 1)
        have hdy := depthE_mem hy
        have hb1 : bndN d.op j ≤ 1 := by unfold bndN; split <;> (try split) <;> omega
        have hfy : formE y := hfm y (.inr hy)
        refine rdE ((((hI.exm m1).mono le).exm m5)) j rfl gj (fun ka kn kc hk => (k51 (x := .mk d l) j g5).mono ?_)
        rintro v g6 m6 rfl
        have hb' : bndN (Tr.dat (Tr.mk d l)).op j = bndN d.op j := rfl
        refine ⟨_, rfl, i64 (by omega) (by omega), ?_⟩
        have hcall := ih y hy (under := under + bndN d.op j) (L := F) (hkx y hy) (fun e => ?_) (fun z hz => ?_) (by omega) hFP (by omega) ((hF.exm m5).exm m6) (hk.exm m6)
        · rw [show ((under + bndN d.op j : Nat) : Int) = ((under : Nat) : Int) + ((bndN d.op j : Nat) : Int) by omega] at hcall
          refine hcall.mono ?_
          rintro v g7 _ ⟨oa, on, oc, F2, rfl, h1, h2, h3, h4⟩
          refine ⟨_, _, _, rfl, i64 (by omega) (by omega), m - 1, by omega, j + 1, F2, by omega, by omega, h1, h2, by omega, fun s => ?_⟩
          rw [h4, hFm, freesL_take d.op gj, List.mem_append, or_assoc]
        · have := (formE_un hfy).1.2
          exact List.eq_nil_of_length_eq_zero (by omega)
        · rcases hz with rfl | hz
          · exact hfy
          · exact (formE_un hfy).2 z hz
      · rw [List.take_of_length_le (by omega)] at hFl hFm
        refine ⟨la1, ll1, lc1, F, rfl, hF.exm m8, hFP, by omega, fun s => ?_⟩
        rw [hFm, frees, if_neg e1]
        simp
    refine ifEq (fun e g9 m9 => ?_) (fun e g10 m10 => nope _ g10 m10 rfl (fun h => e h.1))
    by_cases e2 : ((under : Nat) : Int) ≤ d.n
    · exact yes _ g9 m9 (by rw [leI_true]; exact e2) e e2
    · exact nope _ g9 m9 (by rw [leI_false]; show d.n < _; omega) (fun h => e2 h.2)
/-- The reference's Free. -/
theorem k13 {x : E} (hx : i64E x) (hv : validE x) {a : Option Addr} {n c : Nat} {g : G} (hI : SlE expE g a n c x.kids) : CallsP Tryd.prog 13 #[expV x a n c] g fun v g' => ∃ oa on oc F, v = .slice oa on oc ∧ SlE intE' g' oa on oc F ∧ AscF x F := by
  refine call13 _ _ _ _ _ _ g _ ?_
  unfold F13
  have h1 := hv.2.1
  have h2 := hv.2.2
  refine fun g1 m1 => (k36 x (under := 0) (L := []) hx (fun e => ?_) (fun z hz => ?_) (by omega) List.Pairwise.nil (by simp; omega) (SlE.zero _) (hI.exm m1)).mono ?_
  · have := (formE_un hv.1).1.2
    exact List.eq_nil_of_length_eq_zero (by omega)
  · rcases hz with rfl | hz
    · exact hv.1
    · exact (formE_un hv.1).2 z hz
  rintro v g2 _ ⟨oa, on, oc, F, rfl, k1, k2, k3, k4⟩
  refine ⟨_, _, _, rfl, fun g3 m3 => ⟨oa, on, oc, F, rfl, k1.exm m3, k2, fun s => ?_⟩⟩
  rw [k4, mem_frees]
  simp
/-! ### Forms of values -/
mutual
def valP : E → Prop
  | .mk d l => (d.op = 2 ∨ d.op = 3 ∨ d.op = 4 ∨ d.op = 10) ∨ ((d.op = 6 ∨ d.op = 8) ∧ valPL l)
def valPL : List E → Prop
  | [] => True
  | t :: r => valP t ∧ valPL r
end
theorem valPL_iff : ∀ {l : List E}, valPL l ↔ ∀ y ∈ l, valP y
  | [] => by simp [valPL]
  | t :: r => by simp [valPL, valPL_iff (l := r)]
theorem valP_iff {d : ExpD} {l : List E} : valP (.mk d l) ↔ (d.op = 2 ∨ d.op = 3 ∨ d.op = 4 ∨ d.op = 10) ∨ ((d.op = 6 ∨ d.op = 8) ∧ ∀ y ∈ l, valP y) := by rw [valP, valPL_iff]
/-- The reference's form. -/
theorem k39 (x : E) : ∀ {a : Option Addr} {n c : Nat} {g : G}, SlE expE g a n c x.kids → CallsP Tryd.prog 39 #[expV x a n c] g fun v _ => v = .bool (tf (valP x)) := by
  induction x using Tr.ind with
  | h d l ih =>
    intro a n c g hI
    refine call39 _ _ _ _ _ _ g _ ?_
    have hl : l.length = n := hI.len
    have hcap := hI.cap
    have hnc := hI.le
    unfold maxLen at hcap
    unfold F39
    intro J hJ
    have leaf : ∀ b g1, b = true → (d.op = 2 ∨ d.op = 3 ∨ d.op = 4 ∨ d.op = 10) → J b g1 := fun b g1 hb e => hJ b g1 (ifT (fun _ g2 _ => vT (valP_iff.2 (.inl e))) (fun h => by rw [hb] at h; cases h))
    refine ifEq (fun e g9 _ => leaf _ g9 rfl (.inl e)) (fun e2 => ifEq (fun e g9 _ => leaf _ g9 rfl (.inr (.inl e))) (fun e3 => ifEq (fun e g9 _ => leaf _ g9 rfl (.inr (.inr (.inl e)))) (fun e4 g12 m12 => ?_)))
    by_cases e10 : d.op = 10
    · exact leaf _ g12 (by rw [eqI_true]; exact e10) (.inr (.inr (.inr e10)))
    refine hJ _ g12 (ifT (fun h => absurd (by rw [eqI_true] at h; exact h) e10) (fun _ => ?_))
    clear hJ leaf
    have h0 : ¬ (d.op = 2 ∨ d.op = 3 ∨ d.op = 4 ∨ d.op = 10) := by
      have e2' : d.op ≠ 2 := e2
      have e3' : d.op ≠ 3 := e3
      have e4' : d.op ≠ 4 := e4
      omega
    intro J1 hJ1
    have all : ∀ b, b = true → (d.op = 6 ∨ d.op = 8) → J1 b g12 := by
      intro b hb e
      refine hJ1 b g12 (ifT (fun _ => ?_) (fun h => by rw [hb] at h; cases h))
      refine ⟨fun m i g' => ∃ j : Nat, i = ((j : Nat) : Int) ∧ j + m = n ∧ ∀ y ∈ l.take j, valP y, ⟨n, 0, rfl, by omega, by simp⟩, ?_⟩
      rintro m i g4 le ⟨j, rfl, hj, hall⟩
      refine ifLt (fun q => ⟨⟨by omega, by omega⟩, ?_⟩) (fun q g7 _ => ?_)
      · have gj := List.getElem?_eq_getElem (show j < l.length by omega)
        generalize l[j] = y at gj
        have hy := List.mem_of_getElem? gj
        refine rdE ((hI.exm m12).mono le) j rfl gj (fun ka kn kc hk => (ih y hy hk).mono ?_)
        rintro v g5 _ rfl
        refine ⟨_, rfl, ifPn (fun q g6 _ => vF (fun h => ?_)) (fun q => ⟨i64 (by omega) (by omega), m - 1, by omega, j + 1, by omega, by omega, (all_take gj _).2 ⟨hall, q⟩⟩)⟩
        rcases valP_iff.1 h with h | h
        · exact h0 h
        · exact q (h.2 y hy)
      · rw [List.take_of_length_le (by omega)] at hall
        exact vT (valP_iff.2 (.inr ⟨e, hall⟩))
    refine ifEq (fun e => all _ rfl (.inl e)) (fun e6 => ?_)
    by_cases e8 : d.op = 8
    · exact all _ (by rw [eqI_true]; exact e8) (.inr e8)
    refine hJ1 _ g12 (ifT (fun h => absurd (by rw [eqI_true] at h; exact h) e8) (fun _ g8 _ => vF (fun h => ?_)))
    have e6' : d.op ≠ 6 := e6
    rcases valP_iff.1 h with h | h
    · exact h0 h
    · omega
/-- The reference's Value. -/
theorem k20 {x : E} (hx : i64E x) {a : Option Addr} {n c : Nat} {g : G} (hI : SlE expE g a n c x.kids) : CallsP Tryd.prog 20 #[expV x a n c] g fun v _ => v = .bool (tf (closedE x ∧ valP x)) := by
  refine call20 _ _ _ _ _ _ g _ ?_
  unfold F20
  refine fun g1 m1 => (k12 hx (hI.exm m1)).mono ?_
  rintro v g2 m2 rfl
  refine ⟨_, rfl, ifP (fun hv => (k13 hx hv (hI.exm (m1.trans m2))).mono ?_) (fun hv g7 _ => vF (fun h => hv h.1.1))⟩
  rintro v g3 m3 ⟨oa, on, oc, F, rfl, hF, hA⟩
  have hlen := hF.len
  have h0 := asc_nil hA
  refine ⟨_, _, _, rfl, ifEq (fun q => (k39 x (hI.exm ((m1.trans m2).trans m3))).mono ?_) (fun q g6 _ => vF (fun h => q ?_))⟩
  · rintro v g4 _ rfl
    exact ⟨_, rfl, fun g5 _ => vP ⟨fun h => ⟨⟨hv, h0.1 (List.eq_nil_of_length_eq_zero (by omega))⟩, h⟩, fun h => h.2⟩⟩
  · have := h0.2 h.1.2
    rw [this] at hlen
    simp at hlen
    omega
/-- The reference's Same. -/
theorem k29 (x : E) : ∀ {y : E} {a : Option Addr} {n c : Nat} {b : Option Addr} {m d : Nat} {g : G}, SlE expE g a n c x.kids → SlE expE g b m d y.kids → CallsP Tryd.prog 29 #[expV x a n c, expV y b m d] g fun v _ => v = .bool (tf (x = y)) := by
  induction x using Tr.ind with
  | h dx l ih =>
    intro y a n c b m d g hX hY
    obtain ⟨dy, l2⟩ := y
    refine call29 _ _ _ _ _ _ _ _ _ _ _ _ g _ ?_
    have hX' : SlE expE g a n c l := hX
    have hY' : SlE expE g b m d l2 := hY
    have hXl := hX'.len
    have hYl := hY'.len
    have hcap := hX'.cap
    have hle := hX'.le
    unfold maxLen at hcap
    unfold F29
    intro J hJ
    have es : (strEq (bstr dx.s) (bstr dy.s) = true) = (dx.s = dy.s) := by rw [strEq_true, bstr_inj]
    refine ifNe (fun q g7 _ => vF (fun e => q (by cases e; rfl))) (fun q1 => ifNe (fun q g8 _ => vF (fun e => q (by cases e; rfl))) (fun q2 => ifF (fun e g9 _ => vF (fun h => ?_)) (fun e3 => ifNe (fun q g10 _ => vF (fun e => ?_)) (fun q4 g11 m11 => hJ g11 ?_))))
    · cases h
      have e' : strEq (bstr dx.s) (bstr dx.s) = false := e
      rw [es.mpr rfl] at e'
      cases e'
    · cases e; omega
    clear hJ
    have q3 : dx.s = dy.s := by rw [← es]; exact e3
    refine ⟨fun k i g' => ∃ j : Nat, i = ((j : Nat) : Int) ∧ j + k = n ∧ l.take j = l2.take j, ⟨n, 0, rfl, by omega, rfl⟩, ?_⟩
    rintro k i g2 le ⟨j, rfl, hj, he⟩
    refine ifLt (fun qq g3 m3 => ⟨⟨by omega, by omega⟩, ?_⟩) (fun qq g6 _ => ?_)
    · have gx := List.getElem?_eq_getElem (show j < l.length by omega)
      have gy := List.getElem?_eq_getElem (show j < l2.length by omega)
      generalize l[j] = x at gx
      generalize l2[j] = y at gy
      refine rdE (((hX'.exm m11).mono le).exm m3) j rfl gx (fun ka kn kc hk => ⟨⟨by omega, by omega⟩, rdE (((hY'.exm m11).mono le).exm m3) j rfl gy (fun pa pn pc hp => (ih x (List.mem_of_getElem? gx) hk hp).mono ?_)⟩)
      rintro v g4 _ rfl
      refine ⟨_, rfl, ifPn (fun q g5 _ => vF (fun h => q ?_)) (fun q => ⟨i64 (by omega) (by omega), k - 1, by omega, j + 1, by omega, by omega, take_eq_succ gx gy he q⟩)⟩
      cases h
      rw [gy] at gx
      cases gx
      rfl
    · rw [List.take_of_length_le (by omega), List.take_of_length_le (by omega)] at he
      obtain ⟨p1, p2, p3⟩ := dx
      obtain ⟨r1, r2, r3⟩ := dy
      have h1 : p1 = r1 := q1
      have h2 : p2 = r2 := q2
      have h3 : p3 = r3 := q3
      rw [h1, h2, h3, he]
      exact vT rfl
end Go.Proofs.YtfmjipgcbecamaaDoor
