/- Equal, Value, slices of numbers; LambdaForms. -/
import Derived.Test.YtfmjipgcbecamaaDoorC44s
set_option linter.unusedVariables false
namespace Go.Proofs.YtfmjipgcbecamaaDoor
open Go Go.Vc Go.RowKit Go.Syn Go.Lam Go.Sort

/-- cmp.Less. -/
theorem k43 (x y : Int) (g : G) : CallsP Tryd.prog 43 #[.int .i64 x, .int .i64 y] g fun v _ => v = .bool (tf (x < y)) := by
  refine (calls_below (Q := fun v _ => v = .bool (tf (x < y))) (Calls.mono (Tryd.cmp_Less_int2 x y g.w) ?_)).mono ?_
  · rintro e w' ⟨rfl, rfl⟩
    exact ⟨_, rfl, Below.refl _ _, by unfold tf; exact congrArg Value.bool (decide_eq_decide.2 Iff.rfl)⟩
  · rintro v g1 _ ⟨_, h, _⟩
    exact h
/-- slices.IsSorted. -/
theorem k25 {F : List Int} (hF : F.Pairwise (· < ·)) {a : Option Addr} {n c : Nat} {g : G} (h : SlE intE' g a n c F) : CallsP Tryd.prog 25 #[.slice a n c] g fun v _ => v = .bool true := by
  refine call25 a n c g _ ?_
  have hl := h.len
  have hcap := h.cap
  have hnc := h.le
  unfold maxLen at hcap
  unfold F25
  refine ⟨i64 (by omega) (by omega), fun m i g' => i < ((n : Nat) : Int) ∧ i + 1 = ((m : Nat) : Int), ⟨n, by omega, by omega⟩, ?_⟩
  rintro m i g1 le ⟨h1, h2⟩
  refine ifLt (fun q g2 m2 => ⟨⟨by omega, by omega⟩, ?_⟩) (fun q g5 _ => rfl)
  obtain ⟨j, rfl⟩ : ∃ j : Nat, i = ((j + 1 : Nat) : Int) := ⟨(i - 1).toNat, by omega⟩
  have gx := List.getElem?_eq_getElem (show j + 1 < F.length by omega)
  have gy := List.getElem?_eq_getElem (show j < F.length by omega)
  have hlt : F[j] < F[j + 1] := List.pairwise_iff_getElem.1 hF j (j + 1) (by omega) (by omega) (by omega)
  generalize F[j + 1] = x at gx hlt
  generalize F[j] = y at gy hlt
  refine rdN ((h.mono le).exm m2) (j + 1) rfl gx ⟨i64 (by omega) (by omega), ⟨by omega, by omega⟩, rdN ((h.mono le).exm m2) j (by omega) gy ((k43 x y g2).mono ?_)⟩
  rintro v g3 _ rfl
  exact ⟨_, rfl, ifP (fun q => by omega) (fun _ => ⟨i64 (by omega) (by omega), m - 1, by omega, by omega, by omega⟩)⟩
/-- slices.Equal of numbers. -/
theorem k26 {xs ys : List Int} {a : Option Addr} {n c : Nat} {b : Option Addr} {m d : Nat} {g : G} (hx : SlE intE' g a n c xs) (hy : SlE intE' g b m d ys) : CallsP Tryd.prog 26 #[.slice a n c, .slice b m d] g fun v _ => v = .bool (tf (xs = ys)) := by
  refine call26 a n c b m d g _ ?_
  have hxl := hx.len
  have hyl := hy.len
  have hcap := hx.cap
  have hnc := hx.le
  unfold maxLen at hcap
  unfold F26
  refine ifNe (fun q g1 _ => vF (fun e => by rw [e] at hxl; omega)) (fun q => ?_)
  refine ⟨fun k i g' => ∃ j : Nat, i = ((j : Nat) : Int) ∧ j + k = n ∧ xs.take j = ys.take j, ⟨n, 0, rfl, by omega, rfl⟩, ?_⟩
  rintro k i g2 le ⟨j, rfl, hj, he⟩
  refine ifLt (fun q2 g3 m3 => ⟨⟨by omega, by omega⟩, ?_⟩) (fun q2 g5 _ => ?_)
  · have gx := List.getElem?_eq_getElem (show j < xs.length by omega)
    have gy := List.getElem?_eq_getElem (show j < ys.length by omega)
    generalize xs[j] = x at gx
    generalize ys[j] = y at gy
    refine rdN ((hx.mono le).exm m3) j rfl gx ⟨⟨by omega, by omega⟩, rdN ((hy.mono le).exm m3) j rfl gy (ifNe (fun e g4 _ => vF (fun h => e ?_)) (fun e => ⟨i64 (by omega) (by omega), k - 1, by omega, j + 1, by omega, by omega, take_eq_succ gx gy he e⟩))⟩
    rw [h, gy] at gx
    cases gx
    rfl
  · rw [List.take_of_length_le (by omega), List.take_of_length_le (by omega)] at he
    rw [tf_of he]
/-- slices.EqualFunc. -/
theorem k61 {l l2 : List E} (H : ∀ x ∈ l, ∀ {y : E} {a : Option Addr} {n c : Nat} {b : Option Addr} {m d : Nat} {g : G}, SlE expE g a n c x.kids → SlE expE g b m d y.kids → CallsP Tryd.prog 44 #[expV x a n c, expV y b m d] g fun v _ => v = .bool (tf (x = y)))
    {a : Option Addr} {n c : Nat} {b : Option Addr} {m d : Nat} {g : G} (hX : SlE expE g a n c l) (hY : SlE expE g b m d l2) : CallsP Tryd.prog 61 #[.slice a n c, .slice b m d, .func (.func 44) #[] #[]] g fun v _ => v = .bool (tf (l = l2)) := by
  refine call61 _ _ _ _ _ _ _ _ g _ ?_
  have hXl := hX.len
  have hYl := hY.len
  have hcap := hX.cap
  have hle := hX.le
  unfold maxLen at hcap
  unfold F61
  refine ifNe (fun q g1 _ => vF (fun e => by rw [e] at hXl; omega)) (fun q => ?_)
  refine ⟨fun k i g' => ∃ j : Nat, i = ((j : Nat) : Int) ∧ j + k = n ∧ l.take j = l2.take j, ⟨n, 0, rfl, by omega, rfl⟩, ?_⟩
  rintro k i g2 le ⟨j, rfl, hj, he⟩
  refine ifLt (fun qq => ⟨⟨by omega, by omega⟩, ?_⟩) (fun qq g7 _ => ?_)
  · have gx := List.getElem?_eq_getElem (show j < l.length by omega)
    have gy := List.getElem?_eq_getElem (show j < l2.length by omega)
    generalize l[j] = x at gx
    generalize l2[j] = y at gy
    refine rdE (hX.mono le) j rfl gx (fun ka kn kc hk => ⟨⟨by omega, by omega⟩, rdEL (hY.mono le) j rfl gy (fun ad pa pn pc _ hp hl g3 m3 => ⟨_, _, _, _, _, _, ((live0 (hl 0 _ rfl)).ex m3).1, ((hl 1 _ rfl).ex m3).1, ((hl 2 _ rfl).ex m3).1, ((hl 3 _ rfl).ex m3).1, fun g4 m4 => ⟨⟨_, Tryd.func44, by kernel_rfl, by kernel_rfl⟩, ?_⟩⟩)⟩)
    refine (H x (List.mem_of_getElem? gx) (y := y) (g := g4) ((hk.exm m3).exm m4) ((hp.exm m3).exm m4)).mono ?_
    rintro v g5 _ rfl
    refine ⟨_, rfl, ifPn (fun q g6 _ => vF (fun h => q ?_)) (fun q => ⟨i64 (by omega) (by omega), k - 1, by omega, j + 1, by omega, by omega, take_eq_succ gx gy he q⟩)⟩
    cases h
    rw [gy] at gx
    cases gx
    rfl
  · rw [List.take_of_length_le (by omega), List.take_of_length_le (by omega)] at he
    rw [tf_of he]
/-- equal. -/
theorem k44 (x : E) : ∀ {y : E} {a : Option Addr} {n c : Nat} {b : Option Addr} {m d : Nat} {g : G}, SlE expE g a n c x.kids → SlE expE g b m d y.kids → CallsP Tryd.prog 44 #[expV x a n c, expV y b m d] g fun v _ => v = .bool (tf (x = y)) := by
  induction x using Tr.ind with
  | h dx l ih =>
    intro y a n c b m d g hX hY
    obtain ⟨dy, l2⟩ := y
    refine call44 _ _ _ _ _ _ _ _ _ _ _ _ g _ ?_
    unfold F44
    have es : (strEq (bstr dx.s) (bstr dy.s) = true) = (dx.s = dy.s) := by rw [strEq_true, bstr_inj]
    refine ifEq (fun q1 => ifEq (fun q2 => ifT (fun e3 g1 m1 => (k61 (l := l) (l2 := l2) ih (hX.exm m1) (hY.exm m1)).mono ?_) (fun e g4 _ => vF (fun h => ?_))) (fun q g5 _ => vF (fun e => q (by cases e; rfl)))) (fun q g6 _ => vF (fun e => q (by cases e; rfl)))
    · rintro v g2 _ rfl
      refine ⟨_, rfl, fun g3 _ => vP ?_⟩
      have q3 : dx.s = dy.s := by rw [← es]; exact e3
      obtain ⟨p1, p2, p3⟩ := dx
      obtain ⟨r1, r2, r3⟩ := dy
      have h1 : p1 = r1 := q1
      have h2 : p2 = r2 := q2
      have h3 : p3 = r3 := q3
      rw [h1, h2, h3]
      exact ⟨fun h => by rw [h], fun h => by cases h; rfl⟩
    · cases h
      have e' : strEq (bstr dx.s) (bstr dx.s) = false := e
      rw [es.mpr rfl] at e'
      cases e'
/-- Equal. -/
theorem k28 {x y : E} (hx : i64E x) (hy : i64E y) {a : Option Addr} {n c : Nat} {b : Option Addr} {m d : Nat} {g : G} (hX : SlE expE g a n c x.kids) (hY : SlE expE g b m d y.kids) : CallsP Tryd.prog 28 #[expV x a n c, expV y b m d] g fun v _ => v = .bool (tf (validE x ∧ validE y ∧ x = y)) := by
  refine call28 _ _ _ _ _ _ _ _ _ _ _ _ g _ ?_
  unfold F28
  refine fun g1 m1 => (k27 hx (hX.exm m1)).mono ?_
  rintro v g2 m2 rfl
  refine ⟨_, rfl, ifP (fun h1 => (k27 hy (hY.exm (m1.trans m2))).mono ?_) (fun h g7 _ => vF (fun hh => h hh.1))⟩
  rintro v g3 m3 rfl
  refine ⟨_, rfl, ifP (fun h2 => (k44 x (hX.exm ((m1.trans m2).trans m3)) (hY.exm ((m1.trans m2).trans m3))).mono ?_) (fun h g6 _ => vF (fun hh => h hh.2.1))⟩
  rintro v g4 _ rfl
  exact ⟨_, rfl, fun g5 _ => vP ⟨fun h => ⟨h1, h2, h⟩, fun h => h.2.2⟩⟩
/-- slices.IndexFunc, ContainsFunc of forms. -/
theorem k85 {l : List E} (H : ∀ y ∈ l, ∀ {a : Option Addr} {n c : Nat} {g : G}, SlE expE g a n c y.kids → CallsP Tryd.prog 63 #[expV y a n c] g fun v _ => v = .bool (tf (¬ valP y))) {a : Option Addr} {n c : Nat} {g : G} (hI : SlE expE g a n c l) :
    CallsP Tryd.prog 85 #[.slice a n c, .func (.func 63) #[] #[]] g fun v _ => ∃ i, v = .int .i64 i ∧ (0 ≤ i ↔ ¬ ∀ y ∈ l, valP y) := by
  refine call85 _ _ _ _ _ g _ ?_
  have hl := hI.len
  have hcap := hI.cap
  have hnc := hI.le
  unfold maxLen at hcap
  unfold F85
  refine ⟨fun m i g' => ∃ j : Nat, i = ((j : Nat) : Int) ∧ j + m = n ∧ ∀ y ∈ l.take j, valP y, ⟨n, 0, rfl, by omega, by simp⟩, ?_⟩
  rintro m i g1 le ⟨j, rfl, hj, hall⟩
  refine ifLt (fun q => ⟨⟨by omega, by omega⟩, ?_⟩) (fun q g4 _ => ⟨-1, rfl, ?_⟩)
  · have gj := List.getElem?_eq_getElem (show j < l.length by omega)
    generalize l[j] = y at gj
    have hy := List.mem_of_getElem? gj
    refine rdE (hI.mono le) j rfl gj (fun ka kn kc hk => ⟨⟨_, Tryd.func63, by kernel_rfl, by kernel_rfl⟩, (H y hy hk).mono ?_⟩)
    rintro v g2 _ rfl
    refine ⟨_, rfl, ifP (fun q g3 _ => ⟨_, rfl, fun _ h => q (h y hy), fun _ => by omega⟩) (fun q => ⟨i64 (by omega) (by omega), m - 1, by omega, j + 1, by omega, by omega, (all_take gj _).2 ⟨hall, Classical.not_not.1 q⟩⟩)⟩
  · rw [List.take_of_length_le (by omega)] at hall
    exact ⟨fun h => by omega, fun h => absurd hall h⟩
theorem k62 {l : List E} (H : ∀ y ∈ l, ∀ {a : Option Addr} {n c : Nat} {g : G}, SlE expE g a n c y.kids → CallsP Tryd.prog 63 #[expV y a n c] g fun v _ => v = .bool (tf (¬ valP y))) {a : Option Addr} {n c : Nat} {g : G} (hI : SlE expE g a n c l) :
    CallsP Tryd.prog 62 #[.slice a n c, .func (.func 63) #[] #[]] g fun v _ => v = .bool (tf (¬ ∀ y ∈ l, valP y)) := by
  refine call62 _ _ _ _ _ g _ ?_
  unfold F62
  refine (k85 H hI).mono ?_
  rintro v g1 _ ⟨i, rfl, hi⟩
  refine ⟨_, rfl, fun g2 _ => ?_⟩
  rw [tf_le]
  exact vP hi
/-- form. -/
theorem k45 (x : E) : ∀ {a : Option Addr} {n c : Nat} {g : G}, SlE expE g a n c x.kids → CallsP Tryd.prog 45 #[expV x a n c] g fun v _ => v = .bool (tf (valP x)) := by
  induction x using Tr.ind with
  | h d l ih =>
    intro a n c g hI
    refine call45 _ _ _ _ _ _ g _ ?_
    unfold F45
    have hk : ∀ y ∈ l, ∀ {a : Option Addr} {n c : Nat} {g : G}, SlE expE g a n c y.kids → CallsP Tryd.prog 63 #[expV y a n c] g fun v _ => v = .bool (tf (¬ valP y)) := by
      intro y hy a n c g hI
      refine call63 _ _ _ _ _ _ g _ ?_
      unfold F63
      refine fun g1 m1 => (ih y hy (hI.exm m1)).mono ?_
      rintro v g2 _ rfl
      exact ⟨_, rfl, fun g3 _ => by rw [tf_not]⟩
    intro J hJ
    have leaf : ∀ b g1, b = true → (d.op = 2 ∨ d.op = 3 ∨ d.op = 4 ∨ d.op = 10) → J b g1 := fun b g1 hb e => hJ b g1 (ifT (fun _ g2 _ => vT (valP_iff.2 (.inl e))) (fun h => by rw [hb] at h; cases h))
    refine ifEq (fun e g9 _ => leaf _ g9 rfl (.inl e)) (fun e2 => ifEq (fun e g9 _ => leaf _ g9 rfl (.inr (.inl e))) (fun e3 => ifEq (fun e g9 _ => leaf _ g9 rfl (.inr (.inr (.inl e)))) (fun e4 g12 m12 => ?_)))
    by_cases e10 : d.op = 10
    · exact leaf _ g12 (by rw [eqI_true]; exact e10) (.inr (.inr (.inr e10)))
    refine hJ _ g12 (ifT (fun h => absurd (by rw [eqI_true] at h; exact h) e10) (fun _ => ?_))
    clear hJ leaf
    have h0 : ¬ (d.op = 2 ∨ d.op = 3 ∨ d.op = 4 ∨ d.op = 10) := by
      have e2' : d.op ≠ 2 := e2
      have e3' : d.op ≠ 3 := e3
      have e4' : d.op ≠ 4 := e4
      omega
    have main : (d.op = 6 ∨ d.op = 8) → (¬ (¬ ∀ y ∈ l, valP y) ↔ valP (.mk d l)) := by
      intro e
      rw [Classical.not_not, valP_iff]
      exact ⟨fun h => .inr ⟨e, h⟩, fun h => h.elim (fun h => absurd h h0) (fun h => h.2)⟩
    refine ifEq (fun e => (k62 hk (hI.exm m12)).mono ?_) (fun e6 => ifEq (fun e => (k62 hk (hI.exm m12)).mono ?_) (fun e8 g7 _ => vF (fun h => ?_)))
    · rintro v g3 _ rfl
      exact ⟨_, rfl, fun g4 _ => by rw [tf_not]; exact vP (main (.inl e))⟩
    · rintro v g3 _ rfl
      exact ⟨_, rfl, fun g4 _ => by rw [tf_not]; exact vP (main (.inr e))⟩
    · have e6' : d.op ≠ 6 := e6
      have e8' : d.op ≠ 8 := e8
      rcases valP_iff.1 h with h | h
      · exact h0 h
      · omega
/-- Value. -/
theorem k30 {x : E} (hx : i64E x) {a : Option Addr} {n c : Nat} {g : G} (hI : SlE expE g a n c x.kids) : CallsP Tryd.prog 30 #[expV x a n c] g fun v _ => v = .bool (tf (closedE x ∧ valP x)) := by
  refine call30 _ _ _ _ _ _ g _ ?_
  unfold F30
  refine fun g1 m1 => (k33 hx (hI.exm m1)).mono ?_
  rintro v g2 m2 rfl
  refine ⟨_, rfl, ifP (fun h1 => (k45 x (hI.exm (m1.trans m2))).mono ?_) (fun h g5 _ => vF (fun hh => h hh.1))⟩
  rintro v g3 _ rfl
  exact ⟨_, rfl, fun g4 _ => vP ⟨fun h => ⟨h1, h⟩, fun h => h.2⟩⟩
/-- LambdaForms. -/
theorem law8 {x y : E} (hx : i64E x) (hy : i64E y) {xa : Option Addr} {xl xc : Nat} {ya : Option Addr} {yl yc : Nat} {g : G} (ht : TabG g) (hX : SlE expE g xa xl xc x.kids) (hY : SlE expE g ya yl yc y.kids) :
    CallsP Tryd.prog 8 #[expV x xa xl xc, expV y ya yl yc] g fun v _ => v = .bool true := by
  refine call8 _ _ _ _ _ _ _ _ _ _ _ _ g _ ?_
  unfold F8
  refine fun g1 m1 => (k9 g1 (ht.exm m1)).mono ?_
  rintro v g2 m2 rfl
  refine ⟨_, rfl, ifF (fun e => by cases e) (fun _ => ?_)⟩
  intro J hJ
  have m02 := m1.trans m2
  refine (k10 x (hX.exm m02)).mono ?_
  rintro v g3 m3 ⟨b, rfl, _⟩
  refine ⟨_, rfl, ifT (fun _ g4 _ => rfl) (fun _ => (k10 y (hY.exm (m02.trans m3))).mono ?_)⟩
  rintro v g4 m4 ⟨b2, rfl, _⟩
  refine ⟨_, rfl, ifT (fun _ g5 _ => rfl) (fun _ => hJ g4 ?_)⟩
  clear hJ
  have m04 := (m02.trans m3).trans m4
  refine (k24 hx (hX.exm m04)).mono ?_
  rintro v g5 m5 ⟨fa, fn, fc, fe, rfl, hF⟩
  have m05 := m04.trans m5
  refine ⟨_, _, _, _, rfl, (k12 hx (hX.exm m05)).mono ?_⟩
  rintro v g6 m6 rfl
  have m06 := m05.trans m6
  refine ⟨_, rfl, ?_⟩
  intro J1 hJ1
  have fin : ∀ g7, Ex g6 g7 → J1 g7 := by
    intro g7 m7
    have m07 := m06.trans m7
    refine hJ1 g7 (ifPn (fun hv => (k23 hx (hX.exm m07)).mono ?_) (fun hv g12 m12 => (k23 hx (hX.exm (m07.trans m12))).mono ?_))
    · rintro v g8 m8 ⟨k, rfl, _, hk⟩
      rcases hF with ⟨h, _⟩ | ⟨_, he, rfl, rfl, rfl⟩
      · exact absurd h hv
      · refine ⟨_, rfl, ifEq (fun _ => ifEq (fun _ g9 _ => ?_) (fun h => absurd he h)) (fun h => absurd (by rw [hk hv]; rfl) h)⟩
        simp
    · rintro v g13 m13 ⟨k, rfl, hk, _⟩
      have m013 := (m07.trans m12).trans m13
      refine ⟨_, rfl, (k31 hx hv (hX.exm m013)).mono ?_⟩
      rintro v g14 m14 rfl
      have m014 := m013.trans m14
      rcases hF with ⟨_, he, F, hF, hA⟩ | ⟨h, _⟩
      · refine ⟨_, rfl, ifEq (fun _ => ifEq (fun _ => (k13 hx hv (hX.exm m014)).mono ?_) (fun h => absurd he h)) (fun h => absurd (by rw [hk hv]) h)⟩
        rintro v g15 m15 ⟨oa, on, oc, H, rfl, hH, hB⟩
        have m515 := (((((m6.trans m7).trans m12).trans m13).trans m14).trans m15)
        refine ⟨_, _, _, rfl, (k26 (hF.exm m515) hH).mono ?_⟩
        rintro v g16 m16 rfl
        have m016 := (m014.trans m15).trans m16
        refine ⟨_, rfl, ifP (fun _ => (k28 hx hx (hX.exm m016) (hX.exm m016)).mono ?_) (fun h => absurd (ascF_unique hA hB) h)⟩
        rintro v g17 _ rfl
        exact ⟨_, rfl, fun g18 _ => by rw [tf_of ⟨hv, hv, rfl⟩]⟩
      · exact absurd hv h
  clear hJ1
  have same : ∀ {p q : Bool} {A B : Prop}, p = q → B → ifB (!(p == q)) A B := fun e h => ifF (fun hh => by rw [e] at hh; simp at hh) (fun _ => h)
  have val : ∀ (g7 : G), Ex g6 g7 → CallsP Tryd.prog 30 #[expV x xa xl xc] g7 fun v g8 => ∃ p : Bool, v = .bool p ∧ CallsP Tryd.prog 20 #[expV x xa xl xc] g8 fun v g9 => ∃ q : Bool, v = .bool q ∧ ifB (!(p == q)) (∀ g31 : G, Ex g9 g31 → Value.bool false = .bool true) (J1 g9) := by
    intro g7 m7
    have m07 := m06.trans m7
    refine (k30 hx (hX.exm m07)).mono ?_
    rintro v g8 m8 rfl
    refine ⟨_, rfl, (k20 hx (hX.exm (m07.trans m8))).mono ?_⟩
    rintro v g9 m9 rfl
    exact ⟨_, rfl, same rfl (fin g9 ((m7.trans m8).trans m9))⟩
  intro g22 m22
  have m022 := m06.trans m22
  refine (k27 hx (hX.exm m022)).mono ?_
  rintro v g23 m23 rfl
  have m023 := m022.trans m23
  refine ⟨_, rfl, same rfl ((k28 hx hy (hX.exm m023) (hY.exm m023)).mono ?_)⟩
  rintro v g25 m25 rfl
  have m025 := m023.trans m25
  have m625 := (m22.trans m23).trans m25
  refine ⟨_, rfl, ifP (fun hv => (k12 hy (hY.exm m025)).mono ?_) (fun hv => same (tf_no (fun h => hv h.1)) (val g25 m625))⟩
  rintro v g26 m26 rfl
  have m026 := m025.trans m26
  refine ⟨_, rfl, ifP (fun hw => (k29 x (hX.exm m026) (hY.exm m026)).mono ?_) (fun hw => same (tf_no (fun h => hw h.2.1)) (val g26 (m625.trans m26)))⟩
  rintro v g27 m27 rfl
  exact ⟨_, rfl, same (tf_iff ⟨fun h => h.2.2, fun h => ⟨hv, hw, h⟩⟩) (val g27 ((m625.trans m26).trans m27))⟩
end Go.Proofs.YtfmjipgcbecamaaDoor
