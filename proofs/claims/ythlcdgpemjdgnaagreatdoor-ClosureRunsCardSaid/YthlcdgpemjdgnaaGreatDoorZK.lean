/- Joined texts. -/
import Derived.Test.YthlcdgpemjdgnaaGreatDoorZV
import Derived.Test.YthlcdgpemjdgnaaGreatDoorZN
import Derived.Test.YthlcdgpemjdgnaaGreatDoorLrefz
import Derived.Test.YthlcdgpemjdgnaaGreatDoorVwith
import Derived.Test.YthlcdgpemjdgnaaGreatDoorZF
import Derived.Test.YthlcdgpemjdgnaaGreatDoorRows
import Derived.Lib.LaidTab
import Derived.Lib.LaidU8
import Derived.Test.YthlcdgpemjdgnaaGreatDoorVop
/- The reference's operations. -/
set_option linter.unusedVariables false
namespace Go.Proofs.YthlcdgpemjdgnaaGreatDoor
open Go Go.Vc Go.RowKit Go.Syn Go.Lam Go.Sort

theorem E75 : Elem Tryz.prog 75 77 4 56 := ⟨Tryz.underlying75, by kernel_rfl⟩
section
variable {fuel left : Nat} {oa : Option Addr} {on oc : Nat} {out : List Lab} {g : G} {r : Res Th}
/-- end. -/
theorem relE (hO : SlE strE g oa on oc out) {op0 code0 op code : Int} (h : op ≠ 0) (e : r = .stop op code left out) : CallsP Tryz.prog 54 #[stZ fuel left oa on oc op0 code0, .int .i64 op, .int .i64 code] g fun v g2 =>
    ∃ x0 : Int, ∃ x1 : Int, ∃ x2 : Int, ∃ x3 : Int, ∃ x4a : Option Addr, ∃ x4l : Nat, ∃ x4c : Nat, v = (.agg ⟨[(.int .i64 x0), (.int .i64 x1), (.int .i64 x2), (.int .i64 x3), (.slice x4a x4l x4c)]⟩) ∧ ∀ g3 : G, Ex g2 g3 →
      RefZ fuel r (.tuple ⟨[(.agg ⟨[(.int .i64 (0 : Int)), (.int .i64 (0 : Int)), (.string (bs [])), (.slice none 0 0)]⟩), (.agg ⟨[(.int .i64 x0), (.int .i64 x1), (.int .i64 x2), (.int .i64 x3), (.slice x4a x4l x4c)]⟩)]⟩) g3 := by
  refine call54 _ _ _ _ _ _ _ _ _ g _ ?_
  unfold F54
  intro g1 m1
  refine ⟨_, _, _, _, _, _, _, rfl, fun g3 m3 => ?_⟩
  rw [e]
  exact refZ_stop (t := zeroT) (hO.exm (m1.trans m3)) (SlE.zero _) h
/-- A call whose result is handed on. -/
theorem relZ {k : FuncId} {args : Array Value} {r r2 : Res Th} (h : CallsP Tryz.prog k args g fun v g' => RefZ fuel r v g') (e : r = r2) :
    CallsP Tryz.prog k args g fun v g1 => ∃ x00 : Int, ∃ x01 : Int, ∃ x02 : ByteArray, ∃ x03a : Option Addr, ∃ x03l : Nat, ∃ x03c : Nat, ∃ x10 : Int, ∃ x11 : Int, ∃ x12 : Int, ∃ x13 : Int, ∃ x14a : Option Addr, ∃ x14l : Nat, ∃ x14c : Nat,
      v = (.tuple ⟨[(.agg ⟨[(.int .i64 x00), (.int .i64 x01), (.string x02), (.slice x03a x03l x03c)]⟩), (.agg ⟨[(.int .i64 x10), (.int .i64 x11), (.int .i64 x12), (.int .i64 x13), (.slice x14a x14l x14c)]⟩)]⟩) ∧ ∀ g' : G, Ex g1 g' →
      RefZ fuel r2 (.tuple ⟨[(.agg ⟨[(.int .i64 x00), (.int .i64 x01), (.string x02), (.slice x03a x03l x03c)]⟩), (.agg ⟨[(.int .i64 x10), (.int .i64 x11), (.int .i64 x12), (.int .i64 x13), (.slice x14a x14l x14c)]⟩)]⟩) g' := by
  subst e
  refine h.mono fun v g1 _ hp => ?_
  have hh := hp
  obtain ⟨t, la, ln, lc, oa, on, oc, left, op, code, out, rfl, _, _, _⟩ := hp
  exact ⟨_, _, _, _, _, _, _, _, _, _, _, _, _, rfl, fun g' m => hh.exm m⟩
/-- number. -/
theorem k81 (hO : SlE strE g oa on oc out) (n : Int) : CallsP Tryz.prog 81 #[.int .i64 n, stZ fuel left oa on oc 0 0] g fun v g' => RefZ fuel (numberN n left out) v g' := by
  refine call81 n _ _ _ _ _ _ _ g _ ?_
  unfold F81
  refine fun g1 m1 => (k28 n _ _ g1).mono ?_
  rintro v g2 m2 rfl
  have m02 := m1.trans m2
  refine ⟨_, rfl, ifPn (fun q => relE (hO.exm m02) (by omega) (if_pos (by unfold mostN; omega))) (fun q g5 m5 g6 m6 g7 m7 => ?_)⟩
  unfold numberN
  rw [if_neg (by unfold mostN; omega)]
  exact refZ_ok (t := intT n) (hO.exm (((m02.trans m5).trans m6).trans m7)) (SlE.zero _)
end
theorem absN_max (a : Int) : maxI a (0 - a) = absN a := by
  unfold absN maxI
  split <;> split <;> omega
/-- product. -/
def prodZ (a b : Int) : Int := if a ≠ 0 ∧ b ≠ 0 ∧ Int.tdiv mostN (absN b) < absN a then 4503599627370497 else a * b
theorem div_swap {a b m : Int} (ha : 0 < a) (hb : 0 < b) (hm : 0 ≤ m) : m / b < a ↔ m / a < b := by
  rw [Int.ediv_lt_iff_lt_mul hb, Int.ediv_lt_iff_lt_mul ha, Int.mul_comm]
theorem prodZ_number {a b : Int} (left : Nat) (out : List Lab) : numberN (prodZ a b) left out = if a ≠ 0 ∧ Int.tdiv mostN (absN a) < absN b then .stop 2 2 left out else numberN (a * b) left out := by
  have hm0 : mostN = 4503599627370496 := rfl
  unfold prodZ
  by_cases q : a = 0
  · subst q
    rw [if_neg (fun h => h.1 rfl), if_neg (fun h => h.1 rfl)]
  have ha0 : 0 < absN a := by unfold absN; split <;> omega
  by_cases q2 : b = 0
  · subst q2
    rw [if_neg (fun h => h.2.1 rfl), if_neg (fun h => ?_)]
    have h2 := h.2
    rw [Int.tdiv_eq_ediv_of_nonneg (by omega)] at h2
    have : 0 ≤ mostN / absN a := Int.ediv_nonneg (by omega) (by omega)
    have e : absN 0 = 0 := rfl
    omega
  have hb0 : 0 < absN b := by unfold absN; split <;> omega
  have e : (Int.tdiv mostN (absN b) < absN a) ↔ (Int.tdiv mostN (absN a) < absN b) := by
    rw [Int.tdiv_eq_ediv_of_nonneg (by omega), Int.tdiv_eq_ediv_of_nonneg (by omega)]
    exact div_swap ha0 hb0 (by omega)
  by_cases h : Int.tdiv mostN (absN a) < absN b
  · rw [if_pos ⟨q, q2, e.2 h⟩, if_pos ⟨q, h⟩]
    exact if_pos (.inl (by unfold mostN; omega))
  · rw [if_neg (fun hh => h (e.1 hh.2.2)), if_neg (fun hh => h hh.2)]
theorem prod_i64 {a b : Int} (ha : -mostN ≤ a ∧ a ≤ mostN) (hb : -mostN ≤ b ∧ b ≤ mostN) (hh : ¬ (a ≠ 0 ∧ Int.tdiv mostN (absN a) < absN b)) : InI64 (a * b) := by
  have hm0 : mostN = 4503599627370496 := rfl
  by_cases q : a = 0
  · subst q; exact i64 (by simp) (by simp)
  · have h1 : absN b ≤ Int.tdiv mostN (absN a) := by
      by_cases q2 : Int.tdiv mostN (absN a) < absN b
      · exact absurd ⟨q, q2⟩ hh
      · omega
    have ha0 : 0 < absN a := by unfold absN; split <;> omega
    rw [Int.tdiv_eq_ediv_of_nonneg (by omega)] at h1
    have h2 : absN b * absN a ≤ mostN := Int.le_trans (Int.mul_le_mul_of_nonneg_right h1 (by omega)) (Int.ediv_mul_le _ (by omega))
    have h3 : (a * b = absN b * absN a ∨ a * b = -(absN b * absN a)) ∧ 0 ≤ absN b * absN a := by
      have hb0 : 0 ≤ absN b := by unfold absN; split <;> omega
      refine ⟨?_, Int.mul_nonneg hb0 (by omega)⟩
      unfold absN
      split <;> split
      · left; rw [Int.zero_sub, Int.zero_sub, Int.neg_mul_neg, Int.mul_comm]
      · right; rw [Int.zero_sub, Int.neg_mul, Int.neg_neg, Int.mul_comm]
      · right; rw [Int.zero_sub, Int.mul_neg, Int.neg_neg, Int.mul_comm]
      · left; rw [Int.mul_comm]
    generalize absN b * absN a = z at h2 h3
    generalize a * b = y at h3
    exact i64 (by omega) (by omega)
theorem k82 {a b : Int} (ha : -mostN ≤ a ∧ a ≤ mostN) (hb : -mostN ≤ b ∧ b ≤ mostN) (g : G) : CallsP Tryz.prog 82 #[.int .i64 a, .int .i64 b] g fun v _ => v = .int .i64 (prodZ a b) := by
  refine call82 a b g _ ?_
  have hm0 : mostN = 4503599627370496 := rfl
  unfold F82
  intro J hJ
  refine ifEq (fun q g4 _ => ?_) (fun qa => ifEq (fun q g5 _ => ?_) (fun qb => hJ g ?_))
  · subst q; unfold prodZ; rw [if_neg (fun h => h.1 rfl), Int.zero_mul]
  · subst q; unfold prodZ; rw [if_neg (fun h => h.2.1 rfl), Int.mul_zero]
  clear hJ
  rw [absN_max, absN_max]
  have ha0 : 0 < absN a := by unfold absN; split <;> omega
  have hb0 : 0 < absN b := by unfold absN; split <;> omega
  have hd0 := Int.tdiv_eq_ediv_of_nonneg (a := mostN) (b := absN b) (by omega)
  have hd1 : 0 ≤ Int.tdiv mostN (absN b) := by rw [hd0]; exact Int.ediv_nonneg (by omega) (by omega)
  have hd2 : Int.tdiv mostN (absN b) ≤ mostN := by rw [hd0]; exact Int.ediv_le_self _ (by omega)
  rw [← hm0]
  refine ⟨i64 (by omega) (by omega), i64 (by omega) (by omega), by omega, i64 (by omega) (by omega), ifLt (fun q g2 _ => ?_) (fun q => ⟨?_, fun g3 _ => ?_⟩)⟩
  · unfold prodZ; rw [if_pos ⟨qa, qb, q⟩]
  · refine prod_i64 ha hb (fun hh => ?_)
    have h2 := hh.2
    rw [Int.tdiv_eq_ediv_of_nonneg (by omega)] at h2 q
    have h3 := (div_swap ha0 hb0 (by omega)).2 h2
    omega
  · unfold prodZ; rw [if_neg (fun h => by have := h.2.2; omega)]
/-- truth. -/
theorem k83 (p : Prop) [Decidable p] {b : Bool} (hb : b = true ↔ p) (g : G) : CallsP Tryz.prog 83 #[.bool b] g fun v g' => ∃ la, v = thZ (truthT p) la 1 1 ∧ SlE tzE g' la 1 1 (truthT p).l := by
  refine call83 b g _ ?_
  unfold F83
  have row : ∀ (g1 g2 : G), NewL g1 g2 77 (zrow unitT none 0 0) → SlE tzE g2 (some ⟨g1.w.heap.size, 0, none⟩) 1 1 [unitT] := fun g1 g2 n2 =>
    n2.sle (xs := [unitT]) (Rws.single (tz_of (t := unitT) (SlE.zero _))) (by unfold maxLen; simp)
  refine ifT (fun e g1 m1 g2 n2 g3 m3 => ⟨some ⟨g1.w.heap.size, 0, none⟩, ?_, ?_⟩) (fun e g1 m1 g2 n2 g3 m3 => ⟨some ⟨g1.w.heap.size, 0, none⟩, ?_, ?_⟩)
  · unfold truthT; rw [if_pos (hb.1 e)]; rfl
  · exact (row g1 g2 n2).exm m3
  · unfold truthT; rw [if_neg (fun hp => by rw [hb.2 hp] at e; cases e)]; rfl
  · exact (row g1 g2 n2).exm m3
/-- texts. -/
theorem k80 (n : Int) (g : G) : CallsP Tryz.prog 80 #[.int .i64 n] g fun v _ => v = .bool (tf (textual n)) := by
  refine call80 n g _ ?_
  unfold F80
  refine ifEq (fun e g1 _ => vT (.inl e)) (fun e1 => ifEq (fun e g1 _ => vT (.inr (.inl e))) (fun e2 => ifEq (fun e g1 _ => vT (.inr (.inr (.inl e)))) (fun e3 g1 _ => ?_)))
  show Value.bool (eqI _ _) = _
  rw [tf_eq]
  exact vP ⟨fun h => .inr (.inr (.inr h)), fun h => by unfold textual at h; omega⟩
/-- Show. -/
theorem ext_digit (u : Nat) (h : u < 10) : ByteArray.extract (bs [48, 49, 50, 51, 52, 53, 54, 55, 56, 57]) u (u + 1) = bstr (Lib.decDigits u) := by
  rw [Lib.decDigits_one h]
  have : u = 0 ∨ u = 1 ∨ u = 2 ∨ u = 3 ∨ u = 4 ∨ u = 5 ∨ u = 6 ∨ u = 7 ∨ u = 8 ∨ u = 9 := by omega
  rcases this with rfl | rfl | rfl | rfl | rfl | rfl | rfl | rfl | rfl | rfl <;> decide +kernel
theorem dec_len (u : Nat) (h : u ≤ 9223372036854775807) : (Lib.decDigits u).length ≤ 21 := by
  have := Lib.itoa_length_le ((u : Nat) : Int) (by omega) (by omega)
  rwa [Lib.itoa_nonneg] at this
theorem k84n (u : Nat) : ∀ (g : G), u ≤ 9007199254740992 → CallsP Tryz.prog 84 #[.int .i64 ((u : Nat) : Int)] g fun v _ => v = .string (bstr (Lib.decDigits u)) := by
  induction u using Nat.strongRecOn with
  | _ u ih =>
    intro g hu
    refine call84 _ g _ ?_
    unfold F84
    refine ifLt (fun q => by omega) (fun q0 => ifLt (fun q => ⟨i64 (by omega) (by omega), ⟨by omega, ?_⟩, ⟨by omega, by omega⟩, fun g3 _ => ?_⟩) (fun q => ⟨by omega, ?_⟩))
    · show ((u : Nat) : Int) + 1 ≤ ((10 : Nat) : Int)
      omega
    · rw [show Int.toNat (((u : Nat) : Int) + 1) = u + 1 by omega, Int.toNat_natCast, ext_digit u (by omega)]
    · have e1 : Int.tdiv ((u : Nat) : Int) 10 = ((u / 10 : Nat) : Int) := by rw [Int.tdiv_eq_ediv_of_nonneg (by omega)]; omega
      have e2 : Int.tmod ((u : Nat) : Int) 10 = ((u % 10 : Nat) : Int) := by rw [Int.tmod_eq_emod_of_nonneg (by omega)]; omega
      rw [e1, e2]
      refine ⟨i64 (by omega) (by omega), (ih (u / 10) (by omega) g (by omega)).mono ?_⟩
      rintro v g4 _ rfl
      refine ⟨_, rfl, by omega, (ih (u % 10) (by omega) g4 (by omega)).mono ?_⟩
      rintro v g5 _ rfl
      have h1 := dec_len (u / 10) (by omega)
      have h2 := dec_len (u % 10) (by omega)
      refine ⟨_, rfl, by rw [bstr_size, bstr_size]; omega, fun g6 _ => ?_⟩
      rw [bstr_cat, show Lib.decDigits u = Lib.decDigits (u / 10) ++ Lib.decDigits (u % 10) by
        rw [Lib.decDigits, dif_neg (by omega), Lib.decDigits_one (Nat.mod_lt u (by omega))]]
theorem k84 (n : Int) (h0 : -4503599627370496 ≤ n) (h1 : n ≤ 4503599627370496) (g : G) : CallsP Tryz.prog 84 #[.int .i64 n] g fun v _ => v = .string (bstr (Lib.itoa n)) := by
  by_cases q : 0 ≤ n
  · obtain ⟨u, rfl⟩ : ∃ u : Nat, n = ((u : Nat) : Int) := ⟨n.toNat, by omega⟩
    rw [Lib.itoa_nonneg]
    exact k84n u g (by omega)
  · obtain ⟨u, rfl⟩ : ∃ u : Nat, n = -((u : Nat) : Int) := ⟨(-n).toNat, by omega⟩
    rw [Lib.itoa_neg u (by omega)]
    refine call84 _ g _ ?_
    unfold F84
    refine ifLt (fun _ => ⟨i64 (by omega) (by omega), ?_⟩) (fun q => by omega)
    rw [show (0 : Int) - -((u : Nat) : Int) = ((u : Nat) : Int) by omega]
    refine (k84n u g (by omega)).mono ?_
    rintro v g1 _ rfl
    have h2 := dec_len u (by omega)
    refine ⟨_, rfl, ?_, fun g2 _ => ?_⟩
    · show 1 + _ ≤ _
      rw [bstr_size]; omega
    · rw [show bs [45] = bstr [45] from rfl, bstr_cat]; rfl
/-- with. -/
theorem k55 {t : Th} {env : List Th} {ea : Option Addr} {en ec : Nat} {la : Option Addr} {ln lc : Nat} {g : G} (hE : SlE tzE g ea en ec env) (hI : SlE tzE g la ln lc t.l) (hn : env.length ≤ 1000000) :
    CallsP Tryz.prog 55 #[.slice ea en ec, thZ t la ln lc] g fun v g' => ∃ oa on oc, v = .slice oa on oc ∧ SlE tzE g' oa on oc (env ++ [t]) := by
  refine call55 _ _ _ _ _ _ _ _ _ g _ ?_
  have hen := hE.len
  unfold F55
  have row : ∀ (g1 g2 : G), Ex g g1 → NewL g1 g2 77 (zrow t la ln lc) → SlE tzE g2 (some ⟨g1.w.heap.size, 0, none⟩) 1 1 [t] := fun g1 g2 m1 n2 =>
    n2.sle (xs := [t]) (Rws.single (tz_of (hI.exm m1))) (by unfold maxLen; simp)
  have fin : ∀ {g5 g6 : G} {a2 : Option Addr} {n2 c2 : Nat}, OwnE tzE g5 g.w.heap.size 77 a2 n2 c2 (env ++ [t]) → Ex g5 g6 → ∃ oa on oc, Value.slice a2 n2 c2 = .slice oa on oc ∧ SlE tzE g6 oa on oc (env ++ [t]) :=
    fun ho m => ⟨_, _, _, rfl, ho.sl.exm m⟩
  have small : en * 56 ≤ 140737488355328 ∧ en ≤ maxLen ∧ (en + 1) * 56 ≤ 140737488355328 ∧ en + 1 ≤ maxLen := ⟨by omega, by unfold maxLen; omega, by omega, by unfold maxLen; omega⟩
  intro g1 m1
  refine ⟨fun g2 n2 => ⟨with_first E75 m1.size (hE.exm m1) (Ex.refl _) n2 (Ex.refl _) small.1 small.2.1 ?_, fun g7 n7 => with_first E75 m1.size (hE.exm m1) (Ex.refl _) n2 n7.ex small.1 small.2.1 ?_⟩, fun g11 n11 g12 n12 => with_first E75 m1.size (hE.exm m1) n11.ex n12 (Ex.refl _) small.1 small.2.1 ?_⟩
  · rintro a' n' c' g3 rfl m3 _ ho g4 n4
    exact with_second E75 ((m1.trans m3).trans n4.ex).size (ho.exm n4.ex) (row g3 g4 (m1.trans m3) n4) small.2.2.1 small.2.2.2 (fun a2 n2 c2 g5 _ ho2 g6 m6 => fin ho2 m6)
  · rintro a' n' c' g8 rfl m8 le8 ho
    exact with_second E75 (m1.trans m8).size ho ((row g2 g7 (m1.trans n2.ex) n7).mono le8) small.2.2.1 small.2.2.2 (fun a2 n2 c2 g5 _ ho2 g6 m6 => fin ho2 m6)
  · rintro a' n' c' g13 rfl m13 le13 ho
    exact with_second E75 (m1.trans m13).size ho (((row g1 g11 m1 n11).exm n12.ex).mono le13) small.2.2.1 small.2.2.2 (fun a2 n2 c2 g5 _ ho2 g6 m6 => fin ho2 m6)
end Go.Proofs.YthlcdgpemjdgnaaGreatDoor
/- The reference's prim. -/
set_option linter.unusedVariables false
namespace Go.Proofs.YthlcdgpemjdgnaaGreatDoor
open Go Go.Vc Go.RowKit Go.Syn Go.Lam Go.Sort

theorem getT_some {l : List Th} {i : Nat} (h : i < l.length) : l[i]? = some (l.getD i unitT) := by
  rw [List.getD_eq_getElem?_getD, List.getElem?_eq_getElem h]
  rfl
theorem lastT_get {l : List Th} (h : 0 < l.length) : l[l.length - 1]? = some (lastT l) := getT_some (by omega)
theorem firstT_get {l : List Th} (h : 0 < l.length) : l[0]? = some (l.getD 0 unitT) := getT_some h
theorem primZ_num {cs : List Int} {n : Int} {l : List Th} (hl : ∀ t ∈ l, OkF cs t) (h0 : 0 < l.length) (ht : ¬ textual n) (hk : ∀ t ∈ l, t.op = 1) (left : Nat) (out : List Lab) :
    primN n l left out = numbersN n (l.getD 0 unitT).n (lastT l).n left out ∧ (-mostN ≤ (l.getD 0 unitT).n ∧ (l.getD 0 unitT).n ≤ mostN) ∧ (-mostN ≤ (lastT l).n ∧ (lastT l).n ≤ mostN) := by
  have ma := List.mem_of_getElem? (firstT_get h0)
  have mb := List.mem_of_getElem? (lastT_get h0)
  obtain ⟨a, e1, k1, k2⟩ := okF_int (hl _ ma) (hk _ ma)
  obtain ⟨b, e2, k3, k4⟩ := okF_int (hl _ mb) (hk _ mb)
  refine ⟨?_, by rw [e1]; exact ⟨k1, k2⟩, by rw [e2]; exact ⟨k3, k4⟩⟩
  unfold primN
  rw [if_neg ht, if_neg ht, if_pos hk]
theorem primZ_txt {cs : List Int} {n : Int} {l : List Th} (hl : ∀ t ∈ l, OkF cs t) (h0 : 0 < l.length) (ht : textual n) (hk : ∀ t ∈ l, t.op = 2) (left : Nat) (out : List Lab) :
    primN n l left out = textsN n (l.getD 0 unitT).s (lastT l).s left out ∧ (l.getD 0 unitT).s.length ≤ 16384 ∧ (lastT l).s.length ≤ 16384 := by
  have ma := List.mem_of_getElem? (firstT_get h0)
  have mb := List.mem_of_getElem? (lastT_get h0)
  obtain ⟨a, e1, k1⟩ := okF_text (hl _ ma) (hk _ ma)
  obtain ⟨b, e2, k2⟩ := okF_text (hl _ mb) (hk _ mb)
  refine ⟨?_, by rw [e1]; exact k1, by rw [e2]; exact k2⟩
  unfold primN
  rw [if_pos ht, if_pos ht, if_pos hk]
section
variable {fuel left : Nat} {oa : Option Addr} {on oc : Nat} {out : List Lab} {g : G}
set_option maxHeartbeats 1000000 in
/-- prim. -/
theorem k57 {cs : List Int} (hO : SlE strE g oa on oc out) (ho : out.length ≤ 1000) {n : Int} (hn : 1 ≤ n ∧ n ≤ 14) {l : List Th} (hl : ∀ t ∈ l, OkF cs t) (h0 : l ≠ []) {la : Option Addr} {ln lc : Nat} (hL : SlE tzE g la ln lc l) :
    CallsP Tryz.prog 57 #[.int .i64 n, .slice la ln lc, stZ fuel left oa on oc 0 0] g fun v g' => RefZ fuel (primN n l left out) v g' := by
  refine call57 n la ln lc _ _ _ _ _ _ _ g _ ?_
  have hlen := hL.len
  have hcap := hL.cap
  have hlc := hL.le
  have hol := hO.len
  have hp := List.length_pos_iff.2 h0
  have hm0 : mostN = 4503599627370496 := rfl
  unfold maxLen at hcap
  unfold F57
  intro J hJ
  have HJ : ∀ kind g1, Ex g g1 → kind = (if textual n then 2 else 1) → J kind g1 := by
    intro kind g1 m1 hkind
    refine hJ kind g1 ?_
    clear hJ
    refine ⟨fun m i _ _ _ _ _ _ _ _ _ _ _ _ _ g' => ∃ j : Nat, i = ((j : Nat) : Int) ∧ j + m = ln ∧ ∀ t ∈ l.take j, t.op = kind, ⟨ln, 0, rfl, by omega, by simp⟩, ?_⟩
    rintro m i x0 x1 x2 x3a x3l x3c y0 y1 y2 y3 y4a y4l y4c g2 le ⟨j, rfl, hj, hall⟩
    have le2 : Le g g2 := m1.le.trans le
    refine ifLt (fun q => ⟨⟨by omega, by omega⟩, ?_⟩) (fun q => ?_)
    · have gj := List.getElem?_eq_getElem (show j < l.length by omega)
      generalize l[j] = t at gj
      refine rdZ (hL.mono le2) j rfl gj (fun ad ta tn tc _ hlv => ⟨_, (live0 (hlv 0 _ rfl)).1, ifNe (fun q2 => relE (hO.mono le2) (by omega) ?_) (fun q2 => ⟨i64 (by omega) (by omega), m - 1, by omega, j + 1, by omega, by omega, (all_take gj (fun t => t.op = kind)).2 ⟨hall, q2⟩⟩)⟩)
      unfold primN
      rw [if_neg (fun hh => q2 (by rw [hkind]; exact hh t (List.mem_of_getElem? gj)))]
    rw [List.take_of_length_le (by omega)] at hall
    have gF := firstT_get hp
    have gL := lastT_get hp
    have num : ¬ textual n → primN n l left out = numbersN n (l.getD 0 unitT).n (lastT l).n left out ∧ (-mostN ≤ (l.getD 0 unitT).n ∧ (l.getD 0 unitT).n ≤ mostN) ∧ (-mostN ≤ (lastT l).n ∧ (lastT l).n ≤ mostN) := by
      intro ht
      rw [if_neg ht] at hkind
      subst hkind
      exact primZ_num hl hp ht hall left out
    have txt : textual n → primN n l left out = textsN n (l.getD 0 unitT).s (lastT l).s left out ∧ (l.getD 0 unitT).s.length ≤ 16384 ∧ (lastT l).s.length ≤ 16384 := by
      intro ht
      rw [if_pos ht] at hkind
      subst hkind
      exact primZ_txt hl hp ht hall left out
    generalize l.getD 0 unitT = A at gF num txt
    generalize lastT l = B at gL num txt
    intro J1 hJ1
    have main : ∀ (g5 : G), Ex g2 g5 → ∀ a3a a3l a3c b3a b3l b3c, J1 A.op A.n (bstr A.s) a3a a3l a3c B.op B.n (bstr B.s) b3a b3l b3c g5 := by
      intro g5 m5 a3a a3l a3c b3a b3l b3c
      refine hJ1 _ _ _ _ _ _ _ _ _ _ _ _ g5 ?_
      clear hJ1
      have hO5 : SlE strE g5 oa on oc out := hO.mono (le2.trans m5.le)
      have le5 : Le g g5 := le2.trans m5.le
      refine ifEq (fun e => ?_) (fun e1 => ?_)
      · obtain ⟨hq, ba, bb⟩ := num (by unfold textual; omega)
        refine ⟨i64 (by omega) (by omega), relZ (k81 hO5 _) ?_⟩
        rw [hq]; unfold numbersN; rw [if_pos e]
      refine ifEq (fun e => ?_) (fun e2 => ?_)
      · obtain ⟨hq, ba, bb⟩ := num (by unfold textual; omega)
        refine ⟨i64 (by omega) (by omega), relZ (k81 hO5 _) ?_⟩
        rw [hq]; unfold numbersN; rw [if_neg e1, if_pos e]
      refine ifEq (fun e => ?_) (fun e3 => ?_)
      · obtain ⟨hq, ba, bb⟩ := num (by unfold textual; omega)
        have hq3 : primN n l left out = if A.n ≠ 0 ∧ Int.tdiv mostN (absN A.n) < absN B.n then .stop 2 2 left out else numberN (A.n * B.n) left out := by
          rw [hq]; unfold numbersN; rw [if_neg e1, if_neg e2, if_pos e]
        refine fun g10 m10 g11 m11 => (k82 ba bb g11).mono ?_
        rintro v g12 m12 rfl
        exact ⟨_, rfl, fun g13 m13 => relZ (k81 (hO5.exm (((m10.trans m11).trans m12).trans m13)) _) (by rw [prodZ_number, hq3])⟩
      intro J3 hJ3
      have div : ∀ b, b = true → (n = 4 ∨ n = 5) → J3 b g5 := by
        intro b hb e45
        obtain ⟨hq, ba, bb⟩ := num (by unfold textual; omega)
        have hq3 : primN n l left out = if B.n = 0 then .stop 2 3 left out else if n = 4 then numberN (Int.tdiv A.n B.n) left out else numberN (Int.tmod A.n B.n) left out := by
          rw [hq]; unfold numbersN; rw [if_neg e1, if_neg e2, if_neg e3, if_neg (by omega), if_neg (by omega), if_neg (by omega), if_neg (by omega), if_neg (by omega)]
        refine hJ3 b g5 (ifT (fun _ => ?_) (fun h => by rw [hb] at h; cases h))
        refine ifEq (fun q => relE hO5 (by omega) (by rw [hq3, if_pos q])) (fun q => ifEq (fun e => ?_) (fun e => ?_))
        · have h1 : (Int.tdiv A.n B.n).natAbs ≤ A.n.natAbs := by rw [Int.natAbs_tdiv]; exact Nat.div_le_self _ _
          exact fun g21 m21 => ⟨q, i64 (by omega) (by omega), fun g22 m22 => relZ (k81 (hO5.exm (m21.trans m22)) _) (by rw [hq3, if_neg q, if_pos e])⟩
        · exact fun g25 m25 => ⟨q, fun g26 m26 => relZ (k81 (hO5.exm (m25.trans m26)) _) (by rw [hq3, if_neg q, if_neg e])⟩
      refine ifEq (fun e => div _ rfl (.inl e)) (fun e4 => ?_)
      by_cases e5 : n = 5
      · exact div _ (by simp [e5]) (.inr e5)
      clear div
      refine hJ3 _ g5 (ifT (fun h => absurd (by simpa using h) e5) (fun _ => ?_))
      clear hJ3
      have tru : ∀ (p : Prop) [Decidable p] {b : Bool} (g6 : G), Ex g5 g6 → (b = true ↔ p) → primN n l left out = .ok (truthT p) left out →
          CallsP Tryz.prog 83 #[.bool b] g6 fun v g7 => ∃ x0 : Int, ∃ x1 : Int, ∃ x2 : ByteArray, ∃ x3a : Option Addr, ∃ x3l : Nat, ∃ x3c : Nat,
            v = (.agg ⟨[(.int .i64 x0), (.int .i64 x1), (.string x2), (.slice x3a x3l x3c)]⟩) ∧ ∀ g8 : G, Ex g7 g8 →
            RefZ fuel (primN n l left out) (.tuple ⟨[(.agg ⟨[(.int .i64 x0), (.int .i64 x1), (.string x2), (.slice x3a x3l x3c)]⟩), stZ fuel left oa on oc 0 0]⟩) g8 := by
        intro p _ b g6 m6 hb hq
        refine (k83 p hb g6).mono ?_
        rintro v g7 m7 ⟨ta, rfl, hI⟩
        refine ⟨_, _, _, _, _, _, rfl, fun g8 m8 => ?_⟩
        rw [hq]
        exact refZ_ok (hO5.exm ((m6.trans m7).trans m8)) (hI.exm m8)
      refine ifEq (fun e => ?_) (fun e6 => ?_)
      · obtain ⟨hq, ba, bb⟩ := num (by unfold textual; omega)
        refine ⟨i64 (by omega) (by omega), relZ (k81 hO5 _) ?_⟩
        rw [hq]; unfold numbersN; rw [if_neg e1, if_neg e2, if_neg e3, if_pos e]
      refine ifEq (fun e => ?_) (fun e7 => ?_)
      · obtain ⟨hq, ba, bb⟩ := num (by unfold textual; omega)
        exact fun g31 m31 g32 m32 => tru (A.n < B.n) g32 (m31.trans m32) (by simp) (by rw [hq]; unfold numbersN; rw [if_neg e1, if_neg e2, if_neg e3, if_neg e6, if_pos e])
      refine ifEq (fun e => ?_) (fun e8 => ?_)
      · obtain ⟨hq, ba, bb⟩ := num (by unfold textual; omega)
        exact fun g31 m31 g32 m32 => tru (A.n ≤ B.n) g32 (m31.trans m32) (by simp) (by rw [hq]; unfold numbersN; rw [if_neg e1, if_neg e2, if_neg e3, if_neg e6, if_neg e7, if_pos e])
      refine ifEq (fun e => ?_) (fun e9 => ?_)
      · obtain ⟨hq, ba, bb⟩ := num (by unfold textual; omega)
        exact fun g31 m31 g32 m32 => tru (A.n = B.n) g32 (m31.trans m32) (by simp) (by rw [hq]; unfold numbersN; rw [if_neg e1, if_neg e2, if_neg e3, if_neg e6, if_neg e7, if_neg e8, if_pos e])
      refine ifEq (fun e => ?_) (fun e12 => ?_)
      · obtain ⟨hq, ba, bb⟩ := txt (.inr (.inr (.inl e)))
        exact fun g31 m31 g32 m32 => tru (A.s = B.s) g32 (m31.trans m32) (by rw [strEq_true]; exact ⟨fun h => bstr_inj.1 h, fun h => bstr_inj.2 h⟩) (by rw [hq]; unfold textsN; rw [if_neg (by omega), if_pos e])
      refine ifEq (fun e g45 m45 g46 m46 g47 m47 => ?_) (fun e11 => ?_)
      · obtain ⟨hq, ba, bb⟩ := txt (.inr (.inl e))
        have e' : primN n l left out = .ok (intT ((A.s.length : Nat) : Int)) left out := by
          rw [hq]; unfold textsN numberN; rw [if_pos e, if_neg (by omega)]
        rw [e', bstr_size]
        exact refZ_ok (t := intT ((A.s.length : Nat) : Int)) (hO5.exm ((m45.trans m46).trans m47)) (SlE.zero _)
      refine ifEq (fun e => ?_) (fun e13 => ?_)
      · obtain ⟨hq, ba, bb⟩ := num (by unfold textual; omega)
        intro g54 m54 g55 m55
        refine (k84 A.n (by omega) (by omega) g55).mono ?_
        rintro v g56 m56 rfl
        refine ⟨_, rfl, fun g57 m57 g58 m58 => ?_⟩
        have e : primN n l left out = .ok (textT (Lib.itoa A.n)) left out := by
          rw [hq]; unfold numbersN; rw [if_neg e1, if_neg e2, if_neg e3, if_neg e6, if_neg e7, if_neg e8, if_neg e9, if_pos e]
        rw [e]
        exact refZ_ok (t := textT (Lib.itoa A.n)) (hO5.exm ((((m54.trans m55).trans m56).trans m57).trans m58)) (SlE.zero _)
      refine ifEq (fun e => ?_) (fun e10 => ?_)
      · obtain ⟨hq, ba, bb⟩ := txt (.inl e)
        have hq3 : primN n l left out = if 16384 < A.s.length + B.s.length then .stop 2 2 left out else .ok (textT (A.s ++ B.s)) left out := by
          rw [hq]; unfold textsN; rw [if_neg (by omega), if_neg (by omega), if_pos e]
        rw [bstr_size, bstr_size]
        refine ⟨i64 (by omega) (by omega), ifLt (fun q => relE hO5 (by omega) (by rw [hq3, if_pos (by omega)])) (fun q g45 m45 => ⟨by omega, fun g46 m46 g47 m47 => ?_⟩)⟩
        rw [hq3, if_neg (by omega), bstr_cat]
        exact refZ_ok (t := textT (A.s ++ B.s)) (hO5.exm ((m45.trans m46).trans m47)) (SlE.zero _)
      obtain ⟨hq, ba, bb⟩ := txt (.inr (.inr (.inr (by omega))))
      have hq3 : primN n l left out = if 1000 ≤ out.length then .stop 2 2 left out else .ok unitT left (out ++ [A.s]) := by
        rw [hq]; unfold textsN; rw [if_neg (by omega), if_neg (by omega), if_neg (by omega)]
      refine ifLe (fun q => relE hO5 (by omega) (by rw [hq3, if_pos (by omega)])) (fun q => ?_)
      rw [if_neg (by omega)] at hq3
      intro J4 hJ4
      have fin : ∀ {g72 g73 : G} {a2 : Option Addr} {n2 c2 : Nat}, OwnE strE g72 g.w.heap.size 9 a2 n2 c2 (out ++ [A.s]) → Ex g72 g73 → J4 0 0 (((fuel : Nat) : Int) - ((left : Nat) : Int)) ((fuel : Nat) : Int) a2 n2 c2 g73 := by
        intro g72 g73 a2 n2 c2 ho2 m73
        refine hJ4 _ _ _ _ _ _ _ g73 (fun g62 m62 g63 m63 g64 m64 => ?_)
        rw [hq3]
        exact refZ_ok (t := unitT) (ho2.sl.exm (((m73.trans m62).trans m63).trans m64)) (SlE.zero _)
      clear hJ4
      have row : ∀ {g1 g2 : G}, NewL g1 g2 9 [.string (bstr A.s)] → SlE strE g2 (some ⟨g1.w.heap.size, 0, none⟩) 1 1 [A.s] := fun n2 =>
        n2.sle (xs := [A.s]) (Rws.single rfl) (by unfold maxLen; simp)
      have small : on * 16 ≤ 140737488355328 ∧ on ≤ maxLen ∧ (on + 1) * 16 ≤ 140737488355328 ∧ on + 1 ≤ maxLen := ⟨by omega, by unfold maxLen; omega, by omega, by unfold maxLen; omega⟩
      intro g65 m65
      have hz65 : g.w.heap.size ≤ g65.w.heap.size := Nat.le_trans le5.size m65.size
      have hE := hO5.exm m65
      refine ⟨fun g66 m66 g67 n67 => ⟨⟨fun g68 m68 => with_first E25 hz65 hE m66 n67 m68 small.1 small.2.1 ?_, fun g74 m74 g75 n75 g76 m76 => with_first E25 hz65 hE m66 n67 ((m74.trans n75.ex).trans m76) small.1 small.2.1 ?_⟩, fun g74 m74 g75 n75 g76 m76 => with_first E25 hz65 hE m66 n67 ((m74.trans n75.ex).trans m76) small.1 small.2.1 ?_⟩,
        ⟨⟨fun g66 m66 g67 n67 => ⟨fun g68 m68 => with_first E25 hz65 hE m66 n67 m68 small.1 small.2.1 ?_, fun g74 m74 g75 n75 g76 m76 => with_first E25 hz65 hE m66 n67 ((m74.trans n75.ex).trans m76) small.1 small.2.1 ?_⟩,
          fun g100 m100 g101 n101 g102 m102 g103 n103 g104 m104 => with_first E25 hz65 hE ((m100.trans n101.ex).trans m102) n103 m104 small.1 small.2.1 ?_⟩,
          fun g108 m108 g109 n109 => rep (fun g110 m110 g111 n111 g112 m112 => with_first E25 hz65 hE ((m108.trans n109.ex).trans m110) n111 m112 small.1 small.2.1 ?_) _⟩⟩
      · rintro a' n' c' g3 rfl m3 _ hw g70 m70 g71 n71
        exact with_second E25 (Nat.le_trans hz65 ((m3.trans m70).trans n71.ex).size) ((hw.exm m70).exm n71.ex) (row n71) small.2.2.1 small.2.2.2 (fun a2 n2 c2 g5 _ ho2 g6 m6 => fin ho2 m6)
      · rintro a' n' c' g3 rfl m3 le3 hw
        exact with_second E25 (Nat.le_trans hz65 m3.size) hw (((row n75).exm m76).mono le3) small.2.2.1 small.2.2.2 (fun a2 n2 c2 g5 _ ho2 g6 m6 => fin ho2 m6)
      · rintro a' n' c' g3 rfl m3 le3 hw
        exact with_second E25 (Nat.le_trans hz65 m3.size) hw (((row n75).exm m76).mono le3) small.2.2.1 small.2.2.2 (fun a2 n2 c2 g5 _ ho2 g6 m6 => fin ho2 m6)
      · rintro a' n' c' g3 rfl m3 _ hw g70 m70 g71 n71
        exact with_second E25 (Nat.le_trans hz65 ((m3.trans m70).trans n71.ex).size) ((hw.exm m70).exm n71.ex) (row n71) small.2.2.1 small.2.2.2 (fun a2 n2 c2 g5 _ ho2 g6 m6 => fin ho2 m6)
      · rintro a' n' c' g3 rfl m3 le3 hw
        exact with_second E25 (Nat.le_trans hz65 m3.size) hw (((row n75).exm m76).mono le3) small.2.2.1 small.2.2.2 (fun a2 n2 c2 g5 _ ho2 g6 m6 => fin ho2 m6)
      · rintro a' n' c' g3 rfl m3 le3 hw
        exact with_second E25 (Nat.le_trans hz65 m3.size) hw (((((row n101).exm m102).exm n103.ex).exm m104).mono le3) small.2.2.1 small.2.2.2 (fun a2 n2 c2 g5 _ ho2 g6 m6 => fin ho2 m6)
      · rintro a' n' c' g3 rfl m3 le3 hw
        exact with_second E25 (Nat.le_trans hz65 m3.size) hw (((((row n109).exm m110).exm n111.ex).exm m112).mono le3) small.2.2.1 small.2.2.2 (fun a2 n2 c2 g5 _ ho2 g6 m6 => fin ho2 m6)
    intro g122 m122
    refine ⟨⟨by omega, by omega⟩, rdZX ((hL.mono le2).exm m122) 0 rfl gF (fun la2 ln2 lc2 _ => ⟨i64 (by omega) (by omega), ⟨by omega, by omega⟩, rdZX ((hL.mono le2).exm m122) (l.length - 1) (by omega) gL (fun la3 ln3 lc3 _ => rep (fun g123 m123 => main g123 (m122.trans m123) _ _ _ _ _ _) _)⟩)⟩
  clear hJ
  refine fun g124 m124 => (k80 n g124).mono ?_
  rintro v g125 m125 rfl
  exact ⟨_, rfl, ifP (fun h => HJ 2 g125 (m124.trans m125) (if_pos h).symm) (fun h => HJ 1 g125 (m124.trans m125) (if_neg h).symm)⟩
end
end Go.Proofs.YthlcdgpemjdgnaaGreatDoor
/- The reference's run: the parts of a node. -/
set_option linter.unusedVariables false
namespace Go.Proofs.YthlcdgpemjdgnaaGreatDoor
open Go Go.Vc Go.RowKit Go.Syn Go.Lam Go.Sort

def K31 (cs : List Int) (fs : List FlatD) (la : Option Addr) (ll lc : Nat) (d : Nat) : Prop := ∀ (x : E) (cap k : Nat) (f : Th) (ls : List Th) (left fuel : Nat) (out : List Lab) {a : Option Addr} {n c : Nat} {fa : Option Addr} {fn fc : Nat} {ea : Option Addr} {en ec : Nat} {oa : Option Addr} {on oc : Nat} {g : G},
  goodB cs cap k x → EnvF cs cap k (f :: ls) → k + depthE x ≤ 100000 → out.length ≤ 1000 → left ≤ d → left ≤ fuel → fuel ≤ 1048576 →
  SlE expE g a n c x.kids → SlE tzE g fa fn fc f.l → SlE tzE g ea en ec ls → SlE flatE g la ll lc fs → SlE strE g oa on oc out →
  CallsP Tryz.prog 31 #[expV x a n c, thZ f fa fn fc, .slice ea en ec, .slice la ll lc, stZ fuel left oa on oc 0 0] g fun v g' => RefZ fuel (evalF fs d x (f :: ls) left out) v g'
/-- all. -/
theorem k56 {cs : List Int} {fs : List FlatD} {la : Option Addr} {ll lc d : Nat} (hP : ProgF cs fs) (H : K31 cs fs la ll lc d) {l : List E} {cap k : Nat} {f : Th} {ls : List Th} {left fuel : Nat} {out : List Lab} {xa : Option Addr} {xl xc : Nat} {fa : Option Addr} {fn fc : Nat} {ea : Option Addr} {en ec : Nat} {oa : Option Addr} {on oc : Nat} {g : G}
    (hl : ∀ y ∈ l, goodB cs cap k y ∧ k + depthE y ≤ 100000) (he : EnvF cs cap k (f :: ls)) (ho : out.length ≤ 1000) (hd : left ≤ d) (hf : left ≤ fuel) (hF : fuel ≤ 1048576) (hll : xl ≤ 1001)
    (hL : SlE expE g xa xl xc l) (hfl : SlE tzE g fa fn fc f.l) (hE : SlE tzE g ea en ec ls) (hR : SlE flatE g la ll lc fs) (hO : SlE strE g oa on oc out) :
    CallsP Tryz.prog 56 #[.slice xa xl xc, thZ f fa fn fc, .slice ea en ec, .slice la ll lc, stZ fuel left oa on oc 0 0] g fun v g' => RefLZ fuel (evL (evalF fs d) l (f :: ls) left out) v g' := by
  refine call56 _ _ _ _ _ _ _ _ _ _ _ _ _ _ _ _ _ _ _ _ _ _ g _ ?_
  have hlen := hL.len
  unfold F56
  refine ⟨fun m oa1 on1 oc1 i s0 s1 s2 s3 s4a s4l s4c g' => ∃ (j : Nat) (ts : List Th) (left1 : Nat) (out1 : List Lab), i = ((j : Nat) : Int) ∧ j + m = xl ∧ s2 = ((fuel : Nat) : Int) - ((left1 : Nat) : Int) ∧ s3 = ((fuel : Nat) : Int) ∧ ts.length = j ∧ OwnE tzE g' g.w.heap.size 77 oa1 on1 oc1 ts ∧ SlE strE g' s4a s4l s4c out1 ∧
      ((s0 = 0 ∧ s1 = 0 ∧ evL (evalF fs d) (l.take j) (f :: ls) left out = .ok ts left1 out1) ∨ (s0 ≠ 0 ∧ evL (evalF fs d) l (f :: ls) left out = .stop s0 s1 left1 out1)),
    fun g1 m1 => ⟨xl, 0, [], left, out, rfl, by omega, rfl, rfl, rfl, OwnE.nil _ _ _, hO.exm m1, .inl ⟨rfl, rfl, by rw [List.take_zero]; rfl⟩⟩, ?_⟩
  rintro m oa1 on1 oc1 i s0 s1 s2 s3 s4a s4l s4c g2 le ⟨j, ts, left1, out1, rfl, hj, rfl, rfl, htl, hown, hO1, hor⟩
  have hown1 := hown.sl.len
  have done : ∀ g' : G, Ex g2 g' → (s0 = 0 → j = xl) → RefLZ fuel (evL (evalF fs d) l (f :: ls) left out) (.tuple ⟨[.slice oa1 on1 oc1, .agg ⟨[.int .i64 s0, .int .i64 s1, .int .i64 (((fuel : Nat) : Int) - ((left1 : Nat) : Int)), .int .i64 ((fuel : Nat) : Int), .slice s4a s4l s4c]⟩]⟩) g' := by
    intro g' m' hx
    refine ⟨oa1, on1, oc1, s4a, s4l, s4c, left1, s0, s1, out1, ts, rfl, hO1.exm m', ?_⟩
    rcases hor with ⟨rfl, rfl, hev⟩ | h
    · rw [List.take_of_length_le (by have := hx rfl; omega)] at hev
      exact .inl ⟨rfl, rfl, hev, hown.sl.exm m'⟩
    · exact .inr h
  intro J hJ
  refine ifLt (fun q => ifEq (fun q0 => hJ g2 ?_) (fun q0 g10 m10 g11 m11 => done g11 (m10.trans m11) (fun h => absurd h q0))) (fun q g12 m12 g13 m13 => done g13 (m12.trans m13) (fun _ => by omega))
  clear hJ
  rcases hor with ⟨_, rfl, hev⟩ | ⟨h, _⟩
  rotate_left
  · exact absurd q0 h
  subst q0
  have hok := evL_okF (eval_okF hP d) (l.take j) (f :: ls) left out (fun y hy => (hl y (List.mem_of_mem_take hy)).1) he ho
  rw [hev] at hok
  obtain ⟨_, hn1, hle1, ho1⟩ := hok
  have gj := List.getElem?_eq_getElem (show j < l.length by omega)
  generalize l[j] = y at gj
  obtain ⟨y1, y2⟩ := hl y (List.mem_of_getElem? gj)
  have htk := evL_take (evalF fs d) gj (f :: ls) left out
  rw [hev, Res.bind_ok] at htk
  intro g4 m4
  refine ⟨⟨by omega, by omega⟩, rdEX ((hL.mono le).exm m4) j rfl gj (fun ka kn kc hk g5 m5 => ?_)⟩
  have m45 := m4.trans m5
  refine (H y cap k f ls left1 fuel out1 y1 he y2 ho1 (by omega) (by omega) hF (hk.exm m5) ((hfl.mono le).exm m45) ((hE.mono le).exm m45) ((hR.mono le).exm m45) (hO1.exm m45)).mono ?_
  rintro v g6 m6 hp
  refine hp.use (fun t la' ln' lc' oa' on' oc' left' op code out' hO' hI' hor g7 m7 g8 n8 => ?_)
  have m28 := ((m45.trans m6).trans m7)
  obtain ⟨a', c', w', hr, g9, hw, hs, ho9, _, _⟩ := (hown.exm m28).app1 E75 75 (Nat.le_trans le.size m28.size) n8 (x := t) (tz_of (hI'.exm m7)) (by omega) (by unfold maxLen; omega)
  refine ⟨a', _, c', w', hr, g9, hw, hs, i64 (by omega) (by omega), m - 1, by omega, j + 1, ts ++ [t], left', out', by omega, by omega, rfl, rfl, by simp [htl], ho9, (hO'.exm (m7.trans n8.ex)).mono hs.le, ?_⟩
  rcases hor with ⟨h1, h2, h3⟩ | ⟨h1, h2⟩
  · rw [h3, Res.bind_ok] at htk
    exact .inl ⟨h1, h2, htk⟩
  · rw [h2, Res.bind_stop] at htk
    exact .inr ⟨h1, evL_stop (evalF fs d) htk⟩
end Go.Proofs.YthlcdgpemjdgnaaGreatDoor
/- The reference's run. -/
set_option linter.unusedVariables false
namespace Go.Proofs.YthlcdgpemjdgnaaGreatDoor
open Go Go.Vc Go.RowKit Go.Syn Go.Lam Go.Sort

theorem envF_k {cs : List Int} {cap k : Nat} {f : Th} {ls : List Th} (h : EnvF cs cap k (f :: ls)) : ls.length = k ∧ f.l.length = cap ∧ OkF cs f ∧ ∀ t ∈ ls, OkF cs t :=
  ⟨by have := h.len; simp at this; omega, h.cap, h.ok f (by simp), fun t ht => h.ok t (by simp [ht])⟩
set_option maxHeartbeats 2000000 in
theorem k31 {cs : List Int} {fs : List FlatD} {la : Option Addr} {ll lc : Nat} (hP : ProgF cs fs) : ∀ d, K31 cs fs la ll lc d := by
  intro d
  induction d with
  | zero =>
    intro x cap k f ls left fuel out a n c fa fn fc ea en ec oa on oc g hx he hkd ho hld hlf hF hI hfl hE hR hO
    obtain rfl : left = 0 := by omega
    refine call31 _ _ _ _ _ _ _ _ _ _ _ _ _ _ _ _ _ _ _ _ _ _ _ _ _ g _ ?_
    unfold F31
    exact ifLe (fun q g1 m1 => relE (hO.exm m1) (by omega) rfl) (fun q => by omega)
  | succ d H =>
    intro x cap k f ls left fuel out a n c fa fn fc ea en ec oa on oc g hx he hkd ho hld hlf hF hI hfl hE hR hO
    refine call31 _ _ _ _ _ _ _ _ _ _ _ _ _ _ _ _ _ _ _ _ _ _ _ _ _ g _ ?_
    have hl := hI.len
    have hcap := hI.cap
    have hnc := hI.le
    have hel := hE.len
    have hfn := hfl.len
    obtain ⟨hlk, hfc, hokf, hokls⟩ := envF_k he
    obtain ⟨n2, n3, n25, n6, n7, n9, n12, n13, n21, n23, n24, nr, nk⟩ := fnode hx
    unfold maxLen at hcap
    unfold F31
    refine ifLe (fun q g1 m1 => ?_) (fun q => ?_)
    · obtain rfl : left = 0 := by omega
      exact relE (hO.exm m1) (by omega) (by unfold evalF; rw [if_pos rfl])
    obtain ⟨l1, rfl⟩ : ∃ l1, left = l1 + 1 := ⟨left - 1, by omega⟩
    have hst : ((fuel : Nat) : Int) - ((l1 + 1 : Nat) : Int) + 1 = ((fuel : Nat) : Int) - ((l1 : Nat) : Int) := by omega
    have hev : evalF fs (d + 1) x (f :: ls) (l1 + 1) out = stepF fs (evalF fs d) x (f :: ls) l1 out := by
      show (if l1 + 1 = 0 then _ else _) = _
      rw [if_neg (by omega)]
      rfl
    rw [hst, hev]
    clear q
    have hxd : depthE x = depthEL x.kids + 1 := by cases x; rfl
    have hkd1 : ∀ i, i < x.kids.length → k + 1 + depthE (kid x i) ≤ 100000 := fun i hi => by have := depthE_mem (List.mem_of_getElem? (kid_get hi)); omega
    refine ⟨i64 (by omega) (by omega), ifEq (fun e => ?_) (fun e21 => ?_)⟩
    · have hS : stepF fs (evalF fs d) x (f :: ls) l1 out = .ok ((f :: ls).getD (x.dat.n.toNat + 1) unitT) l1 out := by unfold stepF; simp [e]
      rw [hS]
      have h21 := n21 e
      have gt := getT_some (l := ls) (i := x.dat.n.toNat) (by omega)
      intro g4 m4
      refine ⟨⟨by omega, by omega⟩, rdZX (hE.exm m4) x.dat.n.toNat (by omega) gt (fun la ln lc hT g5 m5 => refZ_ok (hO.exm (m4.trans m5)) (hT.exm m5))⟩
    refine ifEq (fun e => ?_) (fun e23 => ?_)
    · have hS : stepF fs (evalF fs d) x (f :: ls) l1 out = .ok (f.l.getD x.dat.n.toNat unitT) l1 out := by unfold stepF; simp [e]
      rw [hS]
      have h23 := n23 e
      have gt := getT_some (l := f.l) (i := x.dat.n.toNat) (by omega)
      intro g4 m4
      refine ⟨⟨by omega, by omega⟩, rdZX (hfl.exm m4) x.dat.n.toNat (by omega) gt (fun la ln lc hT g5 m5 => refZ_ok (hO.exm (m4.trans m5)) (hT.exm m5))⟩
    refine ifEq (fun e g8 m8 g9 m9 => ?_) (fun e22 => ?_)
    · have hS : stepF fs (evalF fs d) x (f :: ls) l1 out = .ok f l1 out := by unfold stepF; simp [e]
      rw [hS]
      exact refZ_ok (hO.exm (m8.trans m9)) (hfl.exm (m8.trans m9))
    refine ifEq (fun e g6 m6 g7 m7 g8 m8 => ?_) (fun e2 => ?_)
    · have hS : stepF fs (evalF fs d) x (f :: ls) l1 out = .ok (intT x.dat.n) l1 out := by unfold stepF; simp [e]
      rw [hS]
      exact refZ_ok (t := intT x.dat.n) (hO.exm ((m6.trans m7).trans m8)) (SlE.zero _)
    refine ifEq (fun e g6 m6 g7 m7 g8 m8 => ?_) (fun e3 => ?_)
    · have hS : stepF fs (evalF fs d) x (f :: ls) l1 out = .ok (textT x.dat.s) l1 out := by unfold stepF; simp [e]
      rw [hS]
      exact refZ_ok (t := textT x.dat.s) (hO.exm ((m6.trans m7).trans m8)) (SlE.zero _)
    refine ifEq (fun e g21 m21 => ?_) (fun e13 => ?_)
    · have hS : stepF fs (evalF fs d) x (f :: ls) l1 out = .stop 2 x.dat.n l1 out := by unfold stepF; simp [e]
      rw [hS]
      exact relE (hO.exm m21) (by omega) rfl
    -- the first part
    have call0 : 0 < x.kids.length → ∀ {g33 g34 : G} {ka : Option Addr} {kn kc : Nat}, SlE expE g33 ka kn kc (kid x 0).kids → Ex g g33 → Ex g33 g34 →
        CallsP Tryz.prog 31 #[expV (kid x 0) ka kn kc, thZ f fa fn fc, .slice ea en ec, .slice la ll lc, stZ fuel l1 oa on oc 0 0] g34 fun v g' => RefZ fuel (evalF fs d (kid x 0) (f :: ls) l1 out) v g' := by
      intro h0 g33 g34 ka kn kc hkk m33 m34
      have k0 := fkid hx h0
      rw [if_neg (by unfold furP; omega)] at k0
      have m := m33.trans m34
      exact H (kid x 0) cap k f ls l1 fuel out k0 he (by have := hkd1 0 h0; omega) ho (by omega) (by omega) hF (hkk.exm m34) (hfl.exm m) (hE.exm m) (hR.exm m) (hO.exm m)
    have ok0 : 0 < x.kids.length → OkRF cs l1 (evalF fs d (kid x 0) (f :: ls) l1 out) := by
      intro h0
      have k0 := fkid hx h0
      rw [if_neg (by unfold furP; omega)] at k0
      exact eval_okF hP d _ cap k _ l1 out k0 he ho
    refine ifEq (fun e => ?_) (fun e11 => ?_)
    · have hS : stepF fs (evalF fs d) x (f :: ls) l1 out = (evalF fs d (kid x 0) (f :: ls) l1 out).bind fun t left out => evalF fs d (kid x 1) ((f :: ls) ++ [t]) left out := by unfold stepF; simp [e]
      rw [hS]
      have h2 := n25 (.inr e)
      have h0 : 0 < x.kids.length := by omega
      have f1 := ok0 h0
      have call := @call0 h0
      have k1 := fkid hx (i := 1) (by omega)
      rw [if_pos (by unfold furP; omega)] at k1
      have d1 := hkd1 1 (by omega)
      intro J hJ
      have HJ : ∀ {g11 g12 : G} (t : Th) (la' : Option Addr) (ln' lc' : Nat) (oa' : Option Addr) (on' oc' left' : Nat) (op code : Int) (out' : List Lab), Ex g g11 → Ex g11 g12 → SlE strE g11 oa' on' oc' out' → SlE tzE g11 la' ln' lc' t.l →
            ((op = 0 ∧ code = 0 ∧ evalF fs d (kid x 0) (f :: ls) l1 out = .ok t left' out') ∨ (op ≠ 0 ∧ evalF fs d (kid x 0) (f :: ls) l1 out = .stop op code left' out')) →
            J t.op t.n (bstr t.s) la' ln' lc' op code (((fuel : Nat) : Int) - ((left' : Nat) : Int)) ((fuel : Nat) : Int) oa' on' oc' g12 := by
        intro g11 g12 t la' ln' lc' oa' on' oc' left' op code out' m11 m12 hO' hT hor
        refine hJ _ _ _ _ _ _ _ _ _ _ _ _ _ g12 (ifNe (fun q0 g25 m25 g26 m26 => ?_) (fun q0 g27 m27 => ?_))
        · rcases hor with ⟨h, _⟩ | ⟨_, h⟩
          · exact absurd h q0
          · rw [h, Res.bind_stop]
            have mm := (m12.trans m25).trans m26
            exact refZ_stop (hO'.exm mm) (hT.exm mm) q0
        · rcases hor with ⟨_, hc, h⟩ | ⟨h, _⟩
          · subst q0
            subst hc
            rw [h] at f1
            rw [h, Res.bind_ok]
            have m027 := (m11.trans m12).trans m27
            refine ⟨⟨by omega, by omega⟩, rdEX (hI.exm m027) 1 rfl (kid_get (x := x) (by omega)) (fun ka kn kc hkk g28 m28 => (k55 (hE.exm (m027.trans m28)) (hT.exm ((m12.trans m27).trans m28)) (by omega)).mono ?_)⟩
            rintro v g29 m29 ⟨xa, xl, xc, rfl, hE2⟩
            refine ⟨xa, xl, xc, rfl, fun g30 m30 => relZ (H (kid x 1) cap (k + 1) f (ls ++ [t]) left' fuel out' k1 (he.more f1.1) d1 f1.2.2 (by have := f1.2.1; omega) (by have := f1.2.1; omega) hF (hkk.exm ((m28.trans m29).trans m30)) (hfl.exm (((m027.trans m28).trans m29).trans m30)) (hE2.exm m30) (hR.exm (((m027.trans m28).trans m29).trans m30)) (hO'.exm (((((m12.trans m27).trans m28).trans m29).trans m30)))) rfl⟩
          · exact absurd q0 h
      clear hJ
      intro g33 m33
      exact ⟨⟨by omega, by omega⟩, rdEX (hI.exm m33) 0 rfl (kid_get h0) (fun ka kn kc hkk => ⟨fun g34 m34 => (call hkk m33 m34).mono (fun v g35 m35 hp => hp.use (fun t la' ln' lc' oa' on' oc' left' op code out' h1 h2 h3 => rep (fun g36 m36 => HJ t la' ln' lc' oa' on' oc' left' op code out' ((m33.trans m34).trans m35) m36 h1 h2 h3) _)), rep (fun g34 m34 => (call hkk m33 m34).mono (fun v g35 m35 hp => hp.use (fun t la' ln' lc' oa' on' oc' left' op code out' h1 h2 h3 g36 m36 => HJ t la' ln' lc' oa' on' oc' left' op code out' ((m33.trans m34).trans m35) m36 h1 h2 h3))) _, rep (fun g34 m34 => (call hkk m33 m34).mono (fun v g35 m35 hp => hp.use (fun t la' ln' lc' oa' on' oc' left' op code out' h1 h2 h3 g36 m36 => HJ t la' ln' lc' oa' on' oc' left' op code out' ((m33.trans m34).trans m35) m36 h1 h2 h3))) _⟩)⟩
    refine ifEq (fun e => ?_) (fun e9 => ?_)
    · have hS : stepF fs (evalF fs d) x (f :: ls) l1 out = (evalF fs d (kid x 0) (f :: ls) l1 out).bind fun t left out => if t.op = 4 ∧ t.n + 1 < ((x.kids.length : Nat) : Int) then evalF fs d (kid x (t.n + 1).toNat) ((f :: ls) ++ [t.l.getD 0 unitT]) left out else .stop 4 0 left out := by unfold stepF; simp [e]
      rw [hS]
      have h2 := n9 e
      have h0 : 0 < x.kids.length := by omega
      have f1 := ok0 h0
      have call := @call0 h0
      intro J hJ
      have HJ : ∀ {g11 g12 : G} (t : Th) (la' : Option Addr) (ln' lc' : Nat) (oa' : Option Addr) (on' oc' left' : Nat) (op code : Int) (out' : List Lab), Ex g g11 → Ex g11 g12 → SlE strE g11 oa' on' oc' out' → SlE tzE g11 la' ln' lc' t.l →
            ((op = 0 ∧ code = 0 ∧ evalF fs d (kid x 0) (f :: ls) l1 out = .ok t left' out') ∨ (op ≠ 0 ∧ evalF fs d (kid x 0) (f :: ls) l1 out = .stop op code left' out')) →
            J t.op t.n (bstr t.s) la' ln' lc' op code (((fuel : Nat) : Int) - ((left' : Nat) : Int)) ((fuel : Nat) : Int) oa' on' oc' g12 := by
        intro g11 g12 t la' ln' lc' oa' on' oc' left' op code out' m11 m12 hO' hT hor
        refine hJ _ _ _ _ _ _ _ _ _ _ _ _ _ g12 (ifNe (fun q0 g25 m25 g26 m26 => ?_) (fun q0 => ?_))
        · rcases hor with ⟨h, _⟩ | ⟨_, h⟩
          · exact absurd h q0
          · rw [h, Res.bind_stop]
            have mm := (m12.trans m25).trans m26
            exact refZ_stop (hO'.exm mm) (hT.exm mm) q0
        · rcases hor with ⟨_, hc, h⟩ | ⟨h, _⟩
          · subst q0
            subst hc
            rw [h] at f1
            rw [h, Res.bind_ok]
            clear hJ
            intro J2 hJ2
            refine ifNe (fun q4 => relE (hO'.exm m12) (by omega) (by rw [if_neg (fun hh => q4 hh.1)])) (fun q4 => ?_)
            obtain ⟨tn, u, htt, t0, t1, hu⟩ := okF_inj f1.1 q4
            have e0 : t.n = tn := by rw [htt]; rfl
            have htl : t.l = [u] := by rw [htt]; rfl
            refine ⟨i64 (by omega) (by omega), ifLe (fun q5 => relE (hO'.exm m12) (by omega) (by rw [if_neg (by omega)])) (fun q5 => hJ2 _ _ _ _ _ _ _ _ _ _ _ _ _ g12 (fun g54 m54 => ?_))⟩
            clear hJ2
            have hj : (t.n + 1).toNat < x.kids.length := by omega
            have kj := fkid hx hj
            rw [if_pos (by unfold furP; omega)] at kj
            have dj := hkd1 _ hj
            rw [if_pos ⟨q4, by omega⟩, htl]
            have hTl := hT
            rw [htl] at hTl
            have hln := hTl.len
            have m054 := (m11.trans m12).trans m54
            refine ⟨i64 (by omega) (by omega), ⟨by omega, by omega⟩, rdEX (hI.exm m054) (t.n + 1).toNat (by omega) (kid_get hj) (fun ka kn kc hkk => ⟨⟨by omega, by simp at hln; omega⟩, rdZX (hTl.exm (m12.trans m54)) 0 rfl (t := u) rfl (fun la2 ln2 lc2 hU g55 m55 => (k55 (hE.exm (m054.trans m55)) (hU.exm m55) (by omega)).mono ?_)⟩)⟩
            rintro v g56 m56 ⟨xa, xl, xc, rfl, hE2⟩
            have mm : ∀ {g57}, Ex g56 g57 → Ex g g57 := fun m57 => ((m054.trans m55).trans m56).trans m57
            exact ⟨xa, xl, xc, rfl, fun g57 m57 => relZ (H (kid x (t.n + 1).toNat) cap (k + 1) f (ls ++ [u]) left' fuel out' kj (he.more hu) dj f1.2.2 (by have := f1.2.1; omega) (by have := f1.2.1; omega) hF (hkk.exm ((m55.trans m56).trans m57)) (hfl.exm (mm m57)) (hE2.exm m57) (hR.exm (mm m57)) (hO'.exm (((((m12.trans m54).trans m55).trans m56).trans m57)))) rfl⟩
          · exact absurd q0 h
      clear hJ
      intro g33 m33
      exact ⟨⟨by omega, by omega⟩, rdEX (hI.exm m33) 0 rfl (kid_get h0) (fun ka kn kc hkk => ⟨fun g34 m34 => (call hkk m33 m34).mono (fun v g35 m35 hp => hp.use (fun t la' ln' lc' oa' on' oc' left' op code out' h1 h2 h3 => rep (fun g36 m36 => HJ t la' ln' lc' oa' on' oc' left' op code out' ((m33.trans m34).trans m35) m36 h1 h2 h3) _)), rep (fun g34 m34 => (call hkk m33 m34).mono (fun v g35 m35 hp => hp.use (fun t la' ln' lc' oa' on' oc' left' op code out' h1 h2 h3 g36 m36 => HJ t la' ln' lc' oa' on' oc' left' op code out' ((m33.trans m34).trans m35) m36 h1 h2 h3))) _, rep (fun g34 m34 => (call hkk m33 m34).mono (fun v g35 m35 hp => hp.use (fun t la' ln' lc' oa' on' oc' left' op code out' h1 h2 h3 g36 m36 => HJ t la' ln' lc' oa' on' oc' left' op code out' ((m33.trans m34).trans m35) m36 h1 h2 h3))) _⟩)⟩
    -- the other nodes
    have hS : stepF fs (evalF fs d) x (f :: ls) l1 out = (evL (evalF fs d) x.kids (f :: ls) l1 out).bind fun ts left out => combF fs (evalF fs d) x ts left out := by
      unfold stepF
      rw [if_neg e2, if_neg e3, if_neg e21, if_neg e22, if_neg e23, if_neg e13, if_neg e11, if_neg e9]
    rw [hS]
    have hop : x.dat.op = 25 ∨ x.dat.op = 24 ∨ x.dat.op = 6 ∨ x.dat.op = 7 ∨ x.dat.op = 8 ∨ x.dat.op = 12 := by omega
    have hal : ∀ y ∈ x.kids, goodB cs cap k y ∧ k + depthE y ≤ 100000 := fun y hy => ⟨fkids hx e9 e11 y hy, by have := depthE_mem hy; omega⟩
    have f1 := evL_okF (eval_okF hP d) x.kids (f :: ls) l1 out (fun y hy => (hal y hy).1) he ho
    intro g76 m76
    refine (k56 hP H hal he ho (by omega) (by omega) hF (by omega) (hI.exm m76) (hfl.exm m76) (hE.exm m76) (hR.exm m76) (hO.exm m76)).mono ?_
    rintro v g77 m77 ⟨ta, tn, tc, oa', on', oc', left', op, code, out', ts, rfl, hO', hor⟩
    have m077 := m76.trans m77
    refine ⟨_, _, _, _, _, _, _, _, _, _, rfl, ifNe (fun q0 g83 m83 g84 m84 g85 m85 => ?_) (fun q0 => ?_)⟩
    · rcases hor with ⟨h, _⟩ | ⟨_, h⟩
      · exact absurd h q0
      · rw [h, Res.bind_stop]
        exact refZ_stop (t := zeroT) (hO'.exm ((m83.trans m84).trans m85)) (SlE.zero _) q0
    rcases hor with ⟨_, hc, h, hT⟩ | ⟨h, _⟩
    rotate_left
    · exact absurd q0 h
    subst q0
    subst hc
    rw [h] at f1
    rw [h, Res.bind_ok]
    obtain ⟨g1, g2, g3, g4⟩ := f1
    have htl := hT.len
    refine ifEq (fun e g81 m81 g82 m82 g83 m83 => ?_) (fun e24 => ?_)
    · have hC : combF fs (evalF fs d) x ts left' out' = .ok (fcT x.dat.n ts) left' out' := by unfold combF; simp [e]
      rw [hC]
      have mm := (m81.trans m82).trans m83
      exact refZ_ok (t := fcT x.dat.n ts) (hO'.exm mm) (hT.exm mm)
    refine ifEq (fun e => ?_) (fun e25 => ?_)
    · have h2 := n25 (.inl e)
      have gF := firstT_get (l := ts) (by omega)
      have gS : ts[1]? = some (ts.getD 1 unitT) := getT_some (by omega)
      have oF := g1 _ (List.mem_of_getElem? gF)
      have oS := g1 _ (List.mem_of_getElem? gS)
      have hC : combF fs (evalF fs d) x ts left' out' = if (ts.getD 0 unitT).op = 7 then evalF fs d (bodyF fs (ts.getD 0 unitT).n) [ts.getD 0 unitT, ts.getD 1 unitT] left' out' else .stop 4 0 left' out' := by unfold combF; rw [if_pos e]
      rw [hC]
      generalize ts.getD 0 unitT = w at gF oF
      generalize ts.getD 1 unitT = u at gS oS
      refine ⟨⟨by omega, by omega⟩, rdZ hT 0 rfl gF (fun ad la2 ln2 lc2 hI2 hlv g84 m84 => ⟨_, ((live0 (hlv 0 _ rfl)).ex m84).1, ifNe (fun q7 => relE (hO'.exm m84) (by omega) (by rw [if_neg q7])) (fun q7 g87 m87 => ?_)⟩)⟩
      rw [if_pos q7]
      obtain ⟨wn, wl, ew, w0, w1, w2, w3⟩ := okF_fun oF q7
      obtain ⟨ff, p1, p2, p3, p4⟩ := hP.at_ w2
      have hfslt := (List.getElem?_eq_some_iff.1 p1).1
      have m877 := m84.trans m87
      have m087 := m077.trans m877
      have hR7 := hR.exm m087
      have hrl := hR7.len
      have hT7 := hT.exm m877
      have ewn : w.n = wn := by rw [ew]; rfl
      have hwl : w.l = wl := by rw [ew]; rfl
      refine ⟨⟨by omega, by omega⟩, rdZ hT7 0 rfl gF (fun ad3 la3 ln3 lc3 hI3 hlv3 => ⟨by have := (hlv3 1 _ rfl).2.1; exact this, _, (hlv3 1 _ rfl).1, ⟨by omega, by omega⟩, rdFl (i := w.n) hR7 wn.toNat (by omega) p1 (fun ad4 ka kn kc hkk hl4 => ⟨(hl4 1 _ rfl).2.1, _, _, _, _, _, _, (hl4 1 _ rfl).1, by rw [add_add]; exact (hl4 2 _ rfl).1, by rw [add_add]; exact (hl4 3 _ rfl).1, by rw [add_add]; exact (hl4 4 _ rfl).1, ⟨by omega, by omega⟩, rdZX hT7 0 rfl gF (fun la5 ln5 lc5 hI5 => ⟨⟨by omega, by omega⟩, rdZX hT7 1 rfl gS (fun la6 ln6 lc6 hI6 g88 m88 g89 n89 g90 m90 => ?_)⟩)⟩)⟩)⟩
      have m80 := (m88.trans n89.ex).trans m90
      have row : SlE tzE g90 (some ⟨g88.w.heap.size, 0, none⟩) 1 1 [u] := (n89.sle (xs := [u]) (Rws.single (tz_of (hI6.exm m88))) (by unfold maxLen; simp)).exm m90
      have hEnv : EnvF cs wl.length 1 (w :: [u]) := ⟨rfl, by rw [← hwl]; rfl, fun t ht => by
        rcases List.mem_cons.1 ht with rfl | ht
        · exact oF
        · have : t = u := by simpa using ht
          rw [this]; exact oS⟩
      have hcall := H ff.body wl.length 1 w [u] left' fuel out' p3 hEnv (by omega) g4 (by omega) (by omega) hF (hkk.exm m80) (hI5.exm m80) row (hR7.exm m80) (hO'.exm (m877.trans m80))
      exact relZ hcall (by rw [ewn, ← p2])
    refine ifEq (fun e g100 m100 g101 m101 g102 m102 => ?_) (fun e6 => ?_)
    · have hC : combF fs (evalF fs d) x ts left' out' = .ok (recT ts) left' out' := by unfold combF; simp [e]
      rw [hC]
      have mm := (m100.trans m101).trans m102
      exact refZ_ok (t := recT ts) (hO'.exm mm) (hT.exm mm)
    refine ifEq (fun e g111 m111 g112 m112 g113 m113 => ?_) (fun e8 => ?_)
    · have hC : combF fs (evalF fs d) x ts left' out' = .ok (injT x.dat.n ts) left' out' := by unfold combF; simp [e]
      rw [hC]
      have mm := (m111.trans m112).trans m113
      exact refZ_ok (t := injT x.dat.n ts) (hO'.exm mm) (hT.exm mm)
    refine ifEq (fun e => ?_) (fun e7 g107 m107 => ?_)
    · obtain ⟨h2, x0, x1⟩ := n7 (.inl e)
      have gF := firstT_get (l := ts) (by omega)
      have hC : combF fs (evalF fs d) x ts left' out' = if (ts.getD 0 unitT).op = 3 ∧ x.dat.n < (((ts.getD 0 unitT).l.length : Nat) : Int) then .ok ((ts.getD 0 unitT).l.getD x.dat.n.toNat unitT) left' out' else .stop 4 0 left' out' := by unfold combF; rw [if_neg e25, if_neg e24, if_neg e6, if_neg e8, if_pos e]
      rw [hC]
      generalize ts.getD 0 unitT = w at gF
      intro J4 hJ4 g102 m102
      refine ⟨⟨by omega, by omega⟩, rdZ (hT.exm m102) 0 rfl gF (fun ad la2 ln2 lc2 hI2 hlv => ⟨_, (live0 (hlv 0 _ rfl)).1, ifNe (fun q3 => relE (hO'.exm m102) (by omega) (by rw [if_neg (fun hh => q3 hh.1)])) (fun q3 => ⟨⟨by omega, by omega⟩, rdZ (hT.exm m102) 0 rfl gF (fun ad3 la3 ln3 lc3 hI3 hlv3 => ⟨_, _, _, (hlv3 3 _ rfl).1, ?_⟩)⟩)⟩)⟩
      have hln := hI3.len
      refine ifLe (fun q5 => relE (hO'.exm m102) (by omega) (by rw [if_neg (by omega)])) (fun q5 => hJ4 _ _ _ _ _ _ _ _ _ _ _ _ _ g102 (fun g104 m104 => ⟨⟨by omega, by omega⟩, rdZ (hT.exm (m102.trans m104)) 0 rfl gF (fun ad4 la4 ln4 lc4 hI4 hlv4 => ⟨(hlv4 3 _ rfl).2.1, _, _, _, (hlv4 3 _ rfl).1, ⟨by omega, by have := hI4.len; omega⟩, rdZX hI4 x.dat.n.toNat (by omega) (getT_some (by omega)) (fun la5 ln5 lc5 hI5 g105 m105 => ?_)⟩)⟩))
      rw [if_pos ⟨q3, by omega⟩]
      exact refZ_ok (hO'.exm ((m102.trans m104).trans m105)) (hI5.exm m105)
    · have e12 : x.dat.op = 12 := by omega
      obtain ⟨h1, h2, h3⟩ := n12 e12
      have hC : combF fs (evalF fs d) x ts left' out' = primN x.dat.n ts left' out' := by unfold combF; rw [if_neg e25, if_neg e24, if_neg e6, if_neg e8, if_neg e7]
      rw [hC]
      have hpos : 1 ≤ arityN x.dat.n := by unfold arityN; split <;> omega
      exact relZ (k57 (hO'.exm m107) g4 ⟨h1, h2⟩ g1 (fun hh => by rw [hh] at g2; simp at g2; omega) (hT.exm m107)) rfl
end Go.Proofs.YthlcdgpemjdgnaaGreatDoor
/- The reference's observe and Run; ClosureRuns. -/
set_option linter.unusedVariables false
namespace Go.Proofs.YthlcdgpemjdgnaaGreatDoor
open Go Go.Vc Go.RowKit Go.Syn Go.Lam Go.Sort

def ObsZ (d : Nat) (t : Th) (left : Nat) (v : Value) (g : G) : Prop := ∃ (z : Sy) (na : Option Addr) (nn nc : Nat) (ka : Option Addr) (kn kc : Nat) (r : Int), v = .tuple ⟨[synV z na nn nc ka kn kc, .int .i64 r]⟩ ∧ SynI g z na nn nc ka kn kc ∧ ((∃ left' : Nat, obsN d t left = some (z, left') ∧ r = ((left' : Nat) : Int) ∧ left' ≤ left) ∨ (obsN d t left = none ∧ r = -1))
theorem obsZ_none {d : Nat} {t : Th} {left : Nat} (h : obsN d t left = none) (g : G) : ObsZ d t left (.tuple ⟨[.agg ⟨[.int .i64 0, .int .i64 0, .string (bs []), .slice none 0 0, .slice none 0 0]⟩, .int .i64 (-1)]⟩) g :=
  ⟨zeroSy, none, 0, 0, none, 0, 0, -1, rfl, ⟨SlE.zero _, SlE.zero _⟩, .inr ⟨h, rfl⟩⟩
/-- observe. -/
theorem k32 {cs : List Int} : ∀ (d : Nat) (t : Th) (left : Nat) {la : Option Addr} {ln lc : Nat} {g : G}, OkF cs t → d ≤ 400 → left ≤ 20000 → SlE tzE g la ln lc t.l →
    CallsP Tryz.prog 32 #[thZ t la ln lc, .int .i64 ((left : Nat) : Int), .int .i64 (401 - ((d : Nat) : Int))] g fun v g' => ObsZ d t left v g' := by
  intro d
  induction d with
  | zero =>
    intro t left la ln lc g hok hd hle hI
    refine call32 _ _ _ _ _ _ _ _ g _ ?_
    unfold F32
    intro J hJ
    exact ifLe (fun q g12 _ g13 _ => obsZ_none rfl g13) (fun q => ifLt (fun q2 g13 _ g14 _ => obsZ_none rfl g14) (fun q2 => by omega))
  | succ d ih =>
    intro t left la ln lc g hok hd hle hI
    refine call32 _ _ _ _ _ _ _ _ g _ ?_
    have hln := hI.len
    obtain ⟨hl0, hlo⟩ := okF_l hok
    unfold F32
    intro J hJ
    refine ifLe (fun q g12 _ g13 _ => ?_) (fun q => ifLt (fun q2 g13 _ g14 _ => by omega) (fun q2 g19 m19 => hJ _ _ _ _ _ _ _ _ _ g19 ?_))
    · obtain rfl : left = 0 := by omega
      exact obsZ_none (by unfold obsN; rw [if_pos rfl]) g13
    clear hJ
    refine ⟨i64 (by omega) (by omega), ifEq (fun e g2 m2 g3 m3 => ?_) (fun e7 => ?_)⟩
    · refine ⟨.mk ⟨7, 0, [], []⟩ [], none, 0, 0, none, 0, 0, _, rfl, ⟨SlE.zero _, SlE.zero _⟩, .inl ⟨left - 1, ?_, by omega, by omega⟩⟩
      unfold obsN
      rw [if_neg (by omega), if_pos e]
    have hN : obsN (d + 1) t left = (obsL (obsN d) t.l (left - 1)).map fun p => (.mk ⟨t.op, t.n, t.s, []⟩ p.1, p.2) := by
      unfold obsN
      rw [if_neg (by omega), if_neg e7]
    refine ⟨fun m l1 i _ _ _ _ _ _ _ _ _ v0 v1 v2 v3a v3l v3c v4a v4l v4c g' => ∃ (j k : Nat) (ys : List Sy), i = ((j : Nat) : Int) ∧ j + m = ln ∧ v0 = t.op ∧ v1 = t.n ∧ v2 = bstr t.s ∧ v3a = none ∧ v3l = 0 ∧ v3c = 0 ∧ OwnE synE g' g.w.heap.size 28 v4a v4l v4c ys ∧ v4l = j ∧
        l1 = ((k : Nat) : Int) ∧ k + 1 ≤ left ∧ obsL (obsN d) (t.l.take j) (left - 1) = some (ys, k),
      fun g4 m4 => ⟨ln, 0, left - 1, [], rfl, by omega, rfl, rfl, rfl, rfl, rfl, rfl, OwnE.nil _ _ _, rfl, by omega, by omega, by rw [List.take_zero]; rfl⟩, ?_⟩
    rintro m l1 i x0 x1 x2 x3a x3l x3c x4a x4l x4c v0 v1 v2 v3a v3l v3c v4a v4l v4c g5 le ⟨j, k, ys, rfl, hj, rfl, rfl, rfl, rfl, rfl, rfl, hown, rfl, rfl, hk, hL⟩
    have le5 : Le g g5 := m19.le.trans le
    refine ifLt (fun q => ⟨⟨by omega, by omega⟩, ?_⟩) (fun q g14 m14 => ?_)
    · have gj := List.getElem?_eq_getElem (show v4l < t.l.length by omega)
      generalize t.l[v4l] = u at gj
      have hu := hlo u (List.mem_of_getElem? gj)
      have htk := obsL_take (obsN d) gj (left - 1)
      rw [hL, Option.bind_some] at htk
      refine rdZ (hI.mono le5) v4l rfl gj (fun ad la2 ln2 lc2 hI2 hlv g6 m6 => ⟨_, _, _, _, _, _, ((live0 (hlv 0 _ rfl)).ex m6).1, ((hlv 1 _ rfl).ex m6).1, ((hlv 2 _ rfl).ex m6).1, ((hlv 3 _ rfl).ex m6).1, i64 (by omega) (by omega), ?_⟩)
      have hc := ih u k hu (by omega) (by omega) (hI2.exm m6)
      rw [show (401 : Int) - ((d : Nat) : Int) = 401 - ((d + 1 : Nat) : Int) + 1 by omega] at hc
      refine hc.mono ?_
      rintro v g7 m7 ⟨z, na, nn, nc, ka, kn, kc, r, rfl, hz, hr⟩
      refine ⟨_, _, _, _, _, _, _, _, _, _, rfl, ifLt (fun q2 g8 m8 g9 m9 => ?_) (fun q2 g10 m10 g11 n11 => ?_)⟩
      · rcases hr with ⟨left', _, rfl, _⟩ | ⟨hz', rfl⟩
        · omega
        · rw [hz'] at htk
          refine obsZ_none ?_ g9
          rw [hN, obsL_none (obsN d) htk]
          rfl
      · rcases hr with ⟨left', hz', rfl, hlt⟩ | ⟨_, rfl⟩
        rotate_left
        · omega
        have mm := (m6.trans m7).trans m10
        obtain ⟨a', c', w', hrun, g12, hw, hs12, ho12, _, _⟩ := (hown.exm mm).app1 (E := synE) E26 26 (Nat.le_trans le5.size mm.size) n11 (x := z) (hz.exm m10).rep (by omega) (by unfold maxLen; omega)
        rw [hz'] at htk
        exact ⟨a', _, c', w', hrun, g12, hw, hs12, i64 (by omega) (by omega), fun g13 m13 => ⟨m - 1, by omega, v4l + 1, left', ys ++ [z], by omega, by omega, rfl, rfl, rfl, rfl, rfl, rfl, ho12.exm m13, rfl, rfl, by omega, htk⟩⟩
    · rw [List.take_of_length_le (by omega)] at hL
      rw [hL] at hN
      exact ⟨.mk ⟨t.op, t.n, t.s, []⟩ ys, none, 0, 0, v4a, v4l, v4c, _, rfl, ⟨SlE.zero _, hown.sl.exm m14⟩, .inl ⟨k, hN, rfl, by omega⟩⟩
/-- The reference's Run. -/
theorem k12 {fs : List FlatD} {main : Int} {F : Nat} (hv : validF fs main) (hs : ∀ f ∈ fs, sizeE f.body ≤ 20000 ∧ depthE f.body ≤ 400) (hF : F ≤ 1048576) {a : Option Addr} {n c : Nat} {g : G} (hr : SlE flatE g a n c fs) :
    CallsP Tryz.prog 12 #[.slice a n c, .int .i64 main, .int .i64 ((F : Nat) : Int)] g fun v g' => OutI g' (outF fs main F) v := by
  have hP := prog_of_valid hv hs
  obtain ⟨hv1, hv2, hv3, hv4, ⟨fm, hfm, hcap⟩, _⟩ := hv
  have hcs : (capsF fs)[main.toNat]? = some 0 := by
    show (fs.map _)[main.toNat]? = some 0
    rw [List.getElem?_map, hfm]
    show some fm.cap = some 0
    rw [hcap]
  have hokm : OkF (capsF fs) (fcT main []) := .func main [] hv3 (by simp) hcs (by simp)
  obtain ⟨ff, p1, p2, p3, p4⟩ := hP.at_ (n := main) (c := 0) hcs
  have hEnv : EnvF (capsF fs) 0 1 [fcT main [], unitT] := ⟨rfl, rfl, fun t ht => by
    rcases List.mem_cons.1 ht with rfl | ht
    · exact hokm
    · have : t = unitT := by simpa using ht
      rw [this]; exact okF_unit⟩
  have hok := eval_okF hP (F + 1) (bodyF fs main) 0 1 [fcT main [], unitT] F [] (by rw [← p2]; exact p3) hEnv (by simp)
  have hrl := hr.len
  refine call12 _ _ _ _ _ g _ ?_
  unfold F12
  refine ⟨⟨by omega, by omega⟩, rdFl (i := main) hr main.toNat (by omega) p1 (fun ad ka kn kc hkk hl g1 m1 => ⟨_, _, _, _, _, _, ((hl 1 _ rfl).ex m1).1, by rw [add_add]; exact ((hl 2 _ rfl).ex m1).1, by rw [add_add]; exact ((hl 3 _ rfl).ex m1).1, by rw [add_add]; exact ((hl 4 _ rfl).ex m1).1, fun g2 n2 => ?_⟩)⟩
  have row : SlE tzE g2 (some ⟨g1.w.heap.size, 0, none⟩) 1 1 [unitT] := n2.sle (xs := [unitT]) (Rws.single (tz_of (t := unitT) (SlE.zero _))) (by unfold maxLen; simp)
  have m02 := m1.trans n2.ex
  have hc := k31 (la := a) (ll := n) (lc := c) hP (F + 1) ff.body 0 1 (fcT main []) [unitT] F F [] (g := g2) (fa := none) (fn := 0) (fc := 0) (oa := none) (on := 0) (oc := 0) p3 hEnv (by omega) (by simp) (by omega) (Nat.le_refl _) hF (hkk.exm m02) (SlE.zero _) row (hr.exm m02) (SlE.zero _)
  rw [show stZ F F none 0 0 0 0 = .agg ⟨[.int .i64 0, .int .i64 0, .int .i64 0, .int .i64 ((F : Nat) : Int), .slice none 0 0]⟩ by rw [stZ, Int.sub_self]] at hc
  refine hc.mono ?_
  have ho : outF fs main F = ⟨(finR (evalF fs (F + 1) (bodyF fs main) [fcT main [], unitT] F [])).op, (finR (evalF fs (F + 1) (bodyF fs main) [fcT main [], unitT] F [])).code, ((F : Nat) : Int) - (((finR (evalF fs (F + 1) (bodyF fs main) [fcT main [], unitT] F [])).left : Nat) : Int), (finR (evalF fs (F + 1) (bodyF fs main) [fcT main [], unitT] F [])).y, (finR (evalF fs (F + 1) (bodyF fs main) [fcT main [], unitT] F [])).out⟩ := rfl
  rw [ho, p2]
  generalize evalF fs (F + 1) (bodyF fs main) [fcT main [], unitT] F [] = r at hok
  rintro v g3 m3 ⟨t, la, ln, lc, oa, on, oc, left, op, code, out, rfl, hO, hT, hor⟩
  refine ⟨_, _, _, _, _, _, _, _, _, _, _, _, _, rfl, fun g4 m4 => ifNe (fun q g5 m5 => ?_) (fun q g6 m6 => ?_)⟩
  · rcases hor with ⟨h, _⟩ | ⟨_, rfl⟩
    · exact absurd h q
    · exact ⟨none, 0, 0, none, 0, 0, oa, on, oc, rfl, ⟨SlE.zero _, SlE.zero _⟩, hO.exm (m4.trans m5)⟩
  · rcases hor with ⟨_, rfl, rfl⟩ | ⟨h, _⟩
    · refine (k32 (cs := capsF fs) 400 t 20000 hok.1 (Nat.le_refl _) (Nat.le_refl _) (hT.exm (m4.trans m6))).mono ?_
      rintro v g7 m7 ⟨z, na, nn, nc, ka, kn, kc, r, rfl, hz, hr⟩
      refine ⟨_, _, _, _, _, _, _, _, _, _, rfl, ifLt (fun q2 g8 m8 => ?_) (fun q2 g9 m9 => ?_)⟩
      · rcases hr with ⟨left', _, rfl, _⟩ | ⟨hn, _⟩
        · omega
        · have e : finR (.ok t left out) = ⟨2, 2, left, zeroSy, out⟩ := finR_none hn
          rw [e]
          exact ⟨none, 0, 0, none, 0, 0, oa, on, oc, rfl, ⟨SlE.zero _, SlE.zero _⟩, hO.exm (((m4.trans m6).trans m7).trans m8)⟩
      · rcases hr with ⟨left', hn, rfl, _⟩ | ⟨_, hn⟩
        · have e : finR (.ok t left out) = ⟨1, 0, left, z, out⟩ := finR_some hn
          rw [e]
          exact ⟨na, nn, nc, ka, kn, kc, oa, on, oc, rfl, hz.exm m9, hO.exm (((m4.trans m6).trans m7).trans m9)⟩
        · omega
    · exact absurd q h
/-- ClosureRuns. -/
theorem law3 {fs : List FlatD} {main fuel : Int} {a : Option Addr} {n c : Nat} {g : G} (hr : SlE flatE g a n c fs) (ht : TabG g) : CallsP Tryz.prog 3 #[.slice a n c, .int .i64 main, .int .i64 fuel] g fun v _ => v = .bool true := by
  refine call3 _ _ _ _ _ g _ ?_
  unfold F3
  intro J hJ
  refine (kz6 g).mono ?_
  rintro v g17 m17 rfl
  refine ⟨_, rfl, ifF (fun e => by cases e) (fun _ => (k7 (hr.exm m17)).mono ?_)⟩
  rintro v g20 m20 ⟨b, rfl, hb⟩
  have m020 := m17.trans m20
  refine ⟨_, rfl, ifF (fun e => (kz6 g20).mono ?_) (fun e => ?_)⟩
  · rintro v g25 m25 rfl
    exact ⟨_, rfl, fun g26 _ => rfl⟩
  have hs := few_small (hb e).2
  have main' : J g20 := by
    refine hJ g20 ((k8 hs (hr.exm m020) (ht.exm m020)).mono ?_)
    clear hJ
    rintro v g2 m2 ⟨o, rfl, hO⟩
    have hO' := hO
    obtain ⟨na, nn, nc, ya, yn, yc, oa, on, oc, rfl, _, _⟩ := hO
    refine ⟨_, _, _, _, _, _, _, _, _, _, _, _, _, _, _, _, rfl, fun g3 m3 => (k9 hs ((hr.exm (m020.trans m2)).exm m3)).mono ?_⟩
    rintro v g4 m4 rfl
    have m34 := m3.trans m4
    have m04 := (m020.trans m2).trans m34
    refine ⟨_, rfl, ifPn (fun hn => (kz10 (hO'.exm m34)).mono ?_) (fun hv => ?_)⟩
    · rintro v g5 m5 rfl
      have er : runAF fs main fuel = (zeroO, 1) := by unfold runAF; rw [if_neg hn]
      rw [er]
      exact ⟨_, rfl, ifP (fun _ g6 _ => by show Value.bool (eqI 1 1) = _; rw [tf_eq, tf_of rfl]) (fun q => absurd zero_same q)⟩
    intro J1 hJ1
    have rng : ∀ b, b = true → ¬ (0 ≤ fuel ∧ fuel ≤ 1048576) → J1 b g4 := by
      intro b hb hn
      refine hJ1 b g4 (ifT (fun _ => (kz10 (hO'.exm m34)).mono ?_) (fun h => by rw [hb] at h; cases h))
      rintro v g9 m9 rfl
      have er : runAF fs main fuel = (zeroO, 2) := by unfold runAF; rw [if_pos hv, if_neg hn]
      rw [er]
      exact ⟨_, rfl, ifP (fun _ g10 _ => by show Value.bool (eqI 2 2) = _; rw [tf_eq, tf_of rfl]) (fun q => absurd zero_same q)⟩
    refine ifLt (fun q => rng _ rfl (fun h => by omega)) (fun q => ?_)
    by_cases q2 : 1048576 < fuel
    · exact rng _ (by rw [ltI_true]; exact q2) (fun h => by omega)
    refine hJ1 _ g4 (ifT (fun h => absurd (by rw [ltI_true] at h; exact h) q2) (fun _ g12 m12 => ?_))
    obtain ⟨F, rfl⟩ : ∃ F : Nat, fuel = ((F : Nat) : Int) := ⟨fuel.toNat, by omega⟩
    have er : runAF fs main ((F : Nat) : Int) = (outF fs main F, 0) := by unfold runAF; rw [if_pos hv, if_pos ⟨by omega, by omega⟩]; rfl
    refine (k12 hv hs (by omega) (hr.exm (m04.trans m12))).mono ?_
    rintro v g13 m13 hP
    have hP' := hP
    obtain ⟨pa, pn, pc, pka, pkn, pkc, qa, qn, qc, rfl, _, _⟩ := hP
    refine ⟨_, _, _, _, _, _, _, _, _, _, _, _, _, _, _, rfl, (kz11 (hO'.exm ((m34.trans m12).trans m13)) hP').mono ?_⟩
    rintro v g14 _ rfl
    rw [er]
    exact ⟨_, rfl, ifP (fun _ g15 _ => by show Value.bool (eqI 0 0) = _; rw [tf_eq, tf_of rfl]) (fun q => absurd ⟨⟨rfl, rfl, rfl, rfl⟩, rfl⟩ q)⟩
  refine ifLt (fun _ => ifLe (fun _ => (kz6 g20).mono ?_) (fun _ => main')) (fun _ => main')
  rintro v g23 m23 rfl
  exact ⟨_, rfl, fun g24 _ => rfl⟩
end Go.Proofs.YthlcdgpemjdgnaaGreatDoor
/- Closure: from the arguments. -/
set_option linter.unusedVariables false
set_option maxRecDepth 20000
namespace Go.Proofs.YthlcdgpemjdgnaaGreatDoor
open Go Go.Vc Go.RowKit Go.Syn Go.Lam Go.ChangeShapes Go.WideShapes Go.ChangeAt

theorem cells3 : Tryz.prog.cellsOf 3 = 1 := by kernel_rfl
theorem cells9 : Tryz.prog.cellsOf 9 = 1 := by kernel_rfl
theorem cells42 : Tryz.prog.cellsOf 42 = 1 := by kernel_rfl
theorem cells44 : Tryz.prog.cellsOf 44 = 4 := by kernel_rfl
/-- Expressions, all of whose numbers lie in the range of the type. -/
def expE6 : El E where
  m := 4
  rep g r t := expE.rep g r t ∧ i64E t
  len h := expE.len h.1
  mono m h := ⟨expE.mono m h.1, h.2⟩
  one h := expE.one h.1
theorem sl6 {g : G} {a : Option Addr} {n c : Nat} {l : List E} (h : SlE expE6 g a n c l) : SlE expE g a n c l ∧ ∀ y ∈ l, i64E y := by
  obtain ⟨⟨L, h1, rs, e, h2⟩, h3⟩ := h
  have key : All2 (expE.rep g) rs l ∧ ∀ y ∈ l, i64E y := by
    clear h1 h3 e
    induction h2 with
    | nil => exact ⟨.nil, by simp⟩
    | cons k1 _ ih => exact ⟨.cons k1.1 ih.1, fun y hy => (List.mem_cons.1 hy).elim (fun e => e ▸ k1.2) (ih.2 y)⟩
  exact ⟨⟨⟨L, h1, rs, e, key.1⟩, h3⟩, key.2⟩
theorem list4 {α : Type} {cs : List α} (h : cs.length = 4) : ∃ a b c d, cs = [a, b, c, d] := by
  match cs, h with
  | [a, b, c, d], _ => exact ⟨a, b, c, d, rfl⟩
section
variable {H : Type} {enc : TypeId × Value → H} {w : World} {base : Nat} {spare : Nat → Bool} {held : Bool}
theorem one_exp : ∀ (k fuel : Nat), fuel ≤ k → ∀ (cs : List Value) (y : DataW H × List MemPlace), cs.length = 4 → DataW.trod enc Tryz.prog w base spare held fuel 44 cs = some y → ∃ x, expE6.rep (G.at0 w) cs x := by
  intro k
  induction k with
  | zero =>
    intro fuel hf cs y hl h
    obtain ⟨xs, n, hn, _⟩ := DataW.trod_struct Tryz.underlying44 h
    omega
  | succ k ih =>
    intro fuel hf cs y hl h
    obtain ⟨xs, n, hn, _, _, hlen, hfs⟩ := DataW.trod_struct Tryz.underlying44 h
    obtain ⟨c0, c1, c2, c3, rfl⟩ := list4 hl
    obtain ⟨y0, y1, y2, y3, rfl⟩ := list4 hlen
    have h0 : DataW.trod enc Tryz.prog w base spare held n 3 ((([c0, c1, c2, c3] : List Value).drop 0).take (Tryz.prog.cellsOf 3)) = some y0 := hfs 0 _ rfl
    have h1 : DataW.trod enc Tryz.prog w base spare held n 3 ((([c0, c1, c2, c3] : List Value).drop 1).take (Tryz.prog.cellsOf 3)) = some y1 := hfs 1 _ rfl
    have h2 : DataW.trod enc Tryz.prog w base spare held n 9 ((([c0, c1, c2, c3] : List Value).drop 2).take (Tryz.prog.cellsOf 9)) = some y2 := hfs 2 _ rfl
    have h3 : DataW.trod enc Tryz.prog w base spare held n 42 ((([c0, c1, c2, c3] : List Value).drop 3).take (Tryz.prog.cellsOf 42)) = some y3 := hfs 3 _ rfl
    rw [cells3] at h0 h1
    rw [cells9] at h2
    rw [cells42] at h3
    obtain ⟨op, rfl, _⟩ := open_intC Tryz.underlying3 (show DataW.trod enc Tryz.prog w base spare held n 3 [c0] = some y0 from h0)
    obtain ⟨nn, rfl, hwf⟩ := open_intC Tryz.underlying3 (show DataW.trod enc Tryz.prog w base spare held n 3 [c1] = some y1 from h1)
    obtain ⟨s, rfl⟩ := open_strC Tryz.underlying9 (show DataW.trod enc Tryz.prog w base spare held n 9 [c2] = some y2 from h2)
    obtain ⟨la, ll, lc, l, rfl, hL⟩ := open_sliceN expE6 Tryz.underlying42 cells44 (fun n' hn' cs y hl h => ih n' (by omega) cs y hl h) (show DataW.trod enc Tryz.prog w base spare held n 42 [c3] = some y3 from h3)
    obtain ⟨hL1, hL2⟩ := sl6 hL
    have hnn : nn ≤ 9223372036854775807 := by
      simp only [Lit.wf, Bool.and_eq_true, IntKind.min, IntKind.max, IntKind.signed, IntKind.bits] at hwf
      simp at hwf
      omega
    refine ⟨.mk ⟨op, nn, s.data.toList⟩ l, exp_rep (t := .mk ⟨op, nn, s.data.toList⟩ l) hL1, ?_⟩
    rw [i64E, i64EL_iff]
    exact ⟨hnn, hL2⟩
theorem list5 {α : Type} {cs : List α} (h : cs.length = 5) : ∃ a b c d e, cs = [a, b, c, d, e] := by
  match cs, h with
  | [a, b, c, d, e], _ => exact ⟨a, b, c, d, e, rfl⟩
theorem list2 {α : Type} {cs : List α} (h : cs.length = 2) : ∃ a b, cs = [a, b] := by
  match cs, h with
  | [a, b], _ => exact ⟨a, b, rfl⟩
theorem one_flat : ∀ (fuel : Nat) (cs : List Value) (y : DataW H × List MemPlace), cs.length = 5 → DataW.trod enc Tryz.prog w base spare held fuel 55 cs = some y → ∃ x, flatE.rep (G.at0 w) cs x := by
  intro fuel cs y hl h
  obtain ⟨xs, n, hn, _, _, hlen, hfs⟩ := DataW.trod_struct Tryz.underlying55 h
  obtain ⟨c0, c1, c2, c3, c4, rfl⟩ := list5 hl
  obtain ⟨y0, y1, rfl⟩ := list2 hlen
  have h0 : DataW.trod enc Tryz.prog w base spare held n 3 ((([c0, c1, c2, c3, c4] : List Value).drop 0).take (Tryz.prog.cellsOf 3)) = some y0 := hfs 0 _ rfl
  have h1 : DataW.trod enc Tryz.prog w base spare held n 44 ((([c0, c1, c2, c3, c4] : List Value).drop 1).take (Tryz.prog.cellsOf 44)) = some y1 := hfs 1 _ rfl
  rw [cells3] at h0
  rw [cells44] at h1
  obtain ⟨cap, rfl, _⟩ := open_intC Tryz.underlying3 (show DataW.trod enc Tryz.prog w base spare held n 3 [c0] = some y0 from h0)
  obtain ⟨x, hx, _⟩ := one_exp n n (Nat.le_refl _) [c1, c2, c3, c4] y1 rfl h1
  obtain ⟨a, m, c, e, hI⟩ := exp_un hx
  cases e
  exact ⟨⟨cap, x⟩, a, m, c, rfl, hI⟩
theorem cells55 : Tryz.prog.cellsOf 55 = 5 := by kernel_rfl
theorem open_flats {r : Reach} {b0 : Nat} {v : Value} {d : DataW H} {ps : List MemPlace} (hval : Value.okWide Tryz.prog w r b0 22 v) (hd : DataW.Trod enc Tryz.prog w base spare held 22 v d ps) :
    ∃ fs a n c, v = .slice a n c ∧ SlE flatE (G.at0 w) a n c fs := by
  obtain ⟨a, n, c, fs, h1, h2⟩ := open_sliceV flatE Tryz.underlying22 cells55 one_flat hval hd
  exact ⟨fs, a, n, c, h1, h2⟩
end
theorem u16_of_wf {n : Int} (h : (Lit.int .u16 n).wf = true) : 0 ≤ n ∧ n ≤ 65535 := by
  simp only [Lit.wf, Bool.and_eq_true, IntKind.min, IntKind.max, IntKind.signed, IntKind.bits] at h
  simp at h
  omega
theorem laid_tab : (Rows.laid_internal_strconv_uint64pow10 : DataW Unit) = Lib.tabData .u64 Lib.pow10Tab := by kernel_rfl
theorem tabAt : ∃ i, Tryz.prog.globalNamed "internal/strconv.uint64pow10" = some i ∧ (Tryz.prog.globals[i]?).map (·.type) = some 196 := by
  first
  | exact ⟨0, by kernel_rfl, by kernel_rfl⟩
  | exact ⟨1, by kernel_rfl, by kernel_rfl⟩
  | exact ⟨2, by kernel_rfl, by kernel_rfl⟩
  | exact ⟨3, by kernel_rfl, by kernel_rfl⟩
theorem cellsU64 : Tryz.prog.cellsOf 175 = 1 := by kernel_rfl
theorem cellsTab : Tryz.prog.cellsOf 196 = 20 := by kernel_rfl
theorem tab_of {W : World} {x y : String × DataW Unit} (h : laidMet Tryz.prog [x, y, ("internal/strconv.uint64pow10", Rows.laid_internal_strconv_uint64pow10)] W) : TabG (G.at0 W) := by
  obtain ⟨g, t, cs, fuel, p, hg, ht, hv, hd⟩ := Lib.laidMet.reads h (.tail _ (.tail _ (.head _)))
  rw [laid_tab] at hd
  obtain ⟨i, hi, hi2⟩ := tabAt
  obtain rfl : i = g := Option.some.inj (hi.symm.trans hg)
  obtain rfl : 196 = t := Option.some.inj (hi2.symm.trans ht)
  have hcs := Lib.cells_of_tab Tryz.underlying196 Tryz.underlying175 cellsU64 cellsTab hd
  refine ⟨i, hg, ?_⟩
  unfold World.var? at hv
  rw [hg] at hv
  simp only [Option.bind_some] at hv
  rw [← hcs]
  split at hv
  · rename_i c e fr hc
    obtain rfl := Option.some.inj hv
    exact ⟨e, fr, hc, fun hh => hh, fun _ hh => hh⟩
  · cases hv
end Go.Proofs.YthlcdgpemjdgnaaGreatDoor
