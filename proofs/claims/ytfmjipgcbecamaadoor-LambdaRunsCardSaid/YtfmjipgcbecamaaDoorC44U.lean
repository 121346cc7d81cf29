/- Joined texts. -/
import Derived.Test.YtfmjipgcbecamaaDoorC44t
import Derived.Test.YtfmjipgcbecamaaDoorLrefr
import Derived.Test.YtfmjipgcbecamaaDoorVwith
/- The reference's operations. -/
set_option linter.unusedVariables false
namespace Go.Proofs.YtfmjipgcbecamaaDoor
open Go Go.Vc Go.RowKit Go.Syn Go.Lam Go.Sort

section
variable {fuel left : Nat} {oa : Option Addr} {on oc : Nat} {out : List Lab} {g : G}
/-- end. -/
theorem k52 (hO : SlE strE g oa on oc out) {op0 code0 op code : Int} (h : op ≠ 0) : CallsP Tryd.prog 52 #[stV fuel left oa on oc op0 code0, .int .i64 op, .int .i64 code] g fun v g' => RefP fuel (.stop op code left out) v g' := by
  refine call52 _ _ _ _ _ _ _ _ _ g _ ?_
  unfold F52
  exact fun g1 m1 g2 m2 g3 m3 => refP_stop zeroT (hO.exm ((m1.trans m2).trans m3)) h
/-- A call whose result is handed on. -/
theorem relC {k : FuncId} {args : Array Value} {r r2 : Res Th} (h : CallsP Tryd.prog k args g fun v g' => RefP fuel r v g') (e : r = r2) :
    CallsP Tryd.prog k args g fun v g1 => ∃ x00 : Int, ∃ x01 : Int, ∃ x02 : ByteArray, ∃ x03a : Option Addr, ∃ x03l : Nat, ∃ x03c : Nat, ∃ x04 : Int, ∃ x05 : Int, ∃ x06 : ByteArray, ∃ x07a : Option Addr, ∃ x07l : Nat, ∃ x07c : Nat, ∃ x08a : Option Addr, ∃ x08l : Nat, ∃ x08c : Nat, ∃ x09 : Bool, ∃ x10 : Int, ∃ x11 : Int, ∃ x12a : Option Addr, ∃ x12l : Nat, ∃ x12c : Nat, ∃ x13 : Int, ∃ x14 : Int,
      v = (.tuple ⟨[(.agg ⟨[(.int .i64 x00), (.int .i64 x01), (.string x02), (.slice x03a x03l x03c), (.int .i64 x04), (.int .i64 x05), (.string x06), (.slice x07a x07l x07c), (.slice x08a x08l x08c), (.bool x09)]⟩), (.agg ⟨[(.int .i64 x10), (.int .i64 x11), (.slice x12a x12l x12c), (.int .i64 x13), (.int .i64 x14)]⟩)]⟩) ∧ ∀ g' : G, Ex g1 g' →
      RefP fuel r2 (.tuple ⟨[(.agg ⟨[(.int .i64 x00), (.int .i64 x01), (.string x02), (.slice x03a x03l x03c), (.int .i64 x04), (.int .i64 x05), (.string x06), (.slice x07a x07l x07c), (.slice x08a x08l x08c), (.bool x09)]⟩), (.agg ⟨[(.int .i64 x10), (.int .i64 x11), (.slice x12a x12l x12c), (.int .i64 x13), (.int .i64 x14)]⟩)]⟩) g' := by
  subst e
  exact h.mono fun v g1 _ hp => relayR hp (fun _ _ h => h)
theorem ok_tri {t : Th} {g : G} (hl : t.l = []) (hb : t.body.kids = []) (he : t.env = []) : TRI g t none 0 0 none 0 0 none 0 0 := ⟨by rw [hl]; exact SlE.zero _, by rw [hb]; exact SlE.zero _, by rw [he]; exact SlE.zero _⟩
/-- number. -/
theorem k69 (hO : SlE strE g oa on oc out) (n : Int) : CallsP Tryd.prog 69 #[.int .i64 n, stV fuel left oa on oc 0 0] g fun v g' => RefP fuel (numberN n left out) v g' := by
  refine call69 n _ _ _ _ _ _ _ g _ ?_
  unfold F69
  refine ifLt (fun q g1 m1 => relC (k52 (hO.exm m1) (by omega)) (if_pos (by unfold mostN; omega)).symm) (fun q1 => ifLt (fun q g4 m4 => relC (k52 (hO.exm m4) (by omega)) (if_pos (by unfold mostN; omega)).symm) (fun q2 g7 m7 g8 m8 g9 m9 => ?_))
  unfold numberN
  rw [if_neg (by unfold mostN; omega)]
  exact refP_ok (t := intT n) (hO.exm ((m7.trans m8).trans m9)) (ok_tri rfl rfl rfl)
end
theorem k70 (n : Int) (h0 : -9223372036854775808 < n) (h1 : n ≤ 9223372036854775807) (g : G) : CallsP Tryd.prog 70 #[.int .i64 n] g fun v _ => v = .int .i64 (absN n) := by
  refine call70 n g _ ?_
  unfold F70 absN
  exact ifLt (fun q => ⟨i64 (by omega) (by omega), fun g1 _ => by rw [if_pos q]⟩) (fun q g2 _ => by rw [if_neg (by omega)])
/-- truth. -/
theorem k71 (p : Prop) [Decidable p] {b : Bool} (hb : b = true ↔ p) (g : G) : CallsP Tryd.prog 71 #[.bool b] g fun v g' => ∃ la, v = .agg ⟨trow (truthT p) la 1 1 none 0 0 none 0 0⟩ ∧ TRI g' (truthT p) la 1 1 none 0 0 none 0 0 := by
  refine call71 b g _ ?_
  unfold F71
  have row : ∀ (g1 g2 : G), NewL g1 g2 63 (trow unitT none 0 0 none 0 0 none 0 0) → SlE thE g2 (some ⟨g1.w.heap.size, 0, none⟩) 1 1 [unitT] := fun g1 g2 n2 =>
    n2.sle (xs := [unitT]) (Rws.single (tr_of (t := unitT) (ok_tri rfl rfl rfl))) (by unfold maxLen; simp)
  refine ifT (fun e g1 m1 g2 n2 g3 m3 => ⟨some ⟨g1.w.heap.size, 0, none⟩, ?_, ?_⟩) (fun e g1 m1 g2 n2 g3 m3 => ⟨some ⟨g1.w.heap.size, 0, none⟩, ?_, ?_⟩)
  · unfold truthT; rw [if_pos (hb.1 e)]; rfl
  · exact ⟨(row g1 g2 n2).exm m3, SlE.zero _, SlE.zero _⟩
  · unfold truthT; rw [if_neg (fun hp => by rw [hb.2 hp] at e; cases e)]; rfl
  · exact ⟨(row g1 g2 n2).exm m3, SlE.zero _, SlE.zero _⟩
/-- Show. -/
theorem ext_digit (u : Nat) (h : u < 10) : ByteArray.extract (bs [48, 49, 50, 51, 52, 53, 54, 55, 56, 57]) u (u + 1) = bstr (Lib.decDigits u) := by
  rw [Lib.decDigits_one h]
  have : u = 0 ∨ u = 1 ∨ u = 2 ∨ u = 3 ∨ u = 4 ∨ u = 5 ∨ u = 6 ∨ u = 7 ∨ u = 8 ∨ u = 9 := by omega
  rcases this with rfl | rfl | rfl | rfl | rfl | rfl | rfl | rfl | rfl | rfl <;> decide +kernel
theorem dec_len (u : Nat) (h : u ≤ 9223372036854775807) : (Lib.decDigits u).length ≤ 21 := by
  have := Lib.itoa_length_le ((u : Nat) : Int) (by omega) (by omega)
  rwa [Lib.itoa_nonneg] at this
theorem k72n (u : Nat) : ∀ (g : G), u ≤ 9007199254740992 → CallsP Tryd.prog 72 #[.int .i64 ((u : Nat) : Int)] g fun v _ => v = .string (bstr (Lib.decDigits u)) := by
  induction u using Nat.strongRecOn with
  | _ u ih =>
    intro g hu
    refine call72 _ g _ ?_
    unfold F72
    refine ifLt (fun q => by omega) (fun q0 => ifLt (fun q => ⟨i64 (by omega) (by omega), ⟨by omega, ?_⟩, ⟨by omega, by omega⟩, fun g3 _ => ?_⟩) (fun q => ⟨by omega, ?_⟩))
    · show ((u : Nat) : Int) + 1 ≤ ((10 : Nat) : Int)
      omega
    · rw [show Int.toNat (((u : Nat) : Int) + 1) = u + 1 by omega, Int.toNat_natCast, ext_digit u (by omega)]
    · have e1 : Int.tdiv ((u : Nat) : Int) 10 = ((u / 10 : Nat) : Int) := by rw [Int.tdiv_eq_ediv_of_nonneg (by omega)]; omega
      have e2 : Int.tmod ((u : Nat) : Int) 10 = ((u % 10 : Nat) : Int) := by rw [Int.tmod_eq_emod_of_nonneg (by omega)]; omega
      rw [e1, e2]
      refine ⟨i64 (by omega) (by omega), (ih (u / 10) (by omega) g (by omega)).mono ?_⟩
      rintro v g4 _ rfl
      refine ⟨_, rfl, by omega, (ih (u % 10) (by omega) g4 (by omega)).mono ?_⟩
      rintro v g5 _ rfl
      have h1 := dec_len (u / 10) (by omega)
      have h2 := dec_len (u % 10) (by omega)
      refine ⟨_, rfl, by rw [bstr_size, bstr_size]; omega, fun g6 _ => ?_⟩
      rw [bstr_cat, show Lib.decDigits u = Lib.decDigits (u / 10) ++ Lib.decDigits (u % 10) by
        rw [Lib.decDigits, dif_neg (by omega), Lib.decDigits_one (Nat.mod_lt u (by omega))]]
theorem k72 (n : Int) (h0 : -4503599627370496 ≤ n) (h1 : n ≤ 4503599627370496) (g : G) : CallsP Tryd.prog 72 #[.int .i64 n] g fun v _ => v = .string (bstr (Lib.itoa n)) := by
  by_cases q : 0 ≤ n
  · obtain ⟨u, rfl⟩ : ∃ u : Nat, n = ((u : Nat) : Int) := ⟨n.toNat, by omega⟩
    rw [Lib.itoa_nonneg]
    exact k72n u g (by omega)
  · obtain ⟨u, rfl⟩ : ∃ u : Nat, n = -((u : Nat) : Int) := ⟨(-n).toNat, by omega⟩
    rw [Lib.itoa_neg u (by omega)]
    refine call72 _ g _ ?_
    unfold F72
    refine ifLt (fun _ => ⟨i64 (by omega) (by omega), ?_⟩) (fun q => by omega)
    rw [show (0 : Int) - -((u : Nat) : Int) = ((u : Nat) : Int) by omega]
    refine (k72n u g (by omega)).mono ?_
    rintro v g1 _ rfl
    have h2 := dec_len u (by omega)
    refine ⟨_, rfl, ?_, fun g2 _ => ?_⟩
    · show 1 + _ ≤ _
      rw [bstr_size]; omega
    · rw [show bs [45] = bstr [45] from rfl, bstr_cat]; rfl
/-- with. -/
theorem E61 : Elem Tryd.prog 61 63 10 144 := ⟨Tryd.underlying61, by kernel_rfl⟩
theorem k53 {t : Th} {env : List Th} {ea : Option Addr} {en ec : Nat} {la : Option Addr} {ln lc : Nat} {ba : Option Addr} {bn bc : Nat} {fa : Option Addr} {fn fc : Nat} {g : G} (hE : SlE thE g ea en ec env.reverse) (hI : TRI g t la ln lc ba bn bc fa fn fc) (hn : env.length ≤ 1000) :
    CallsP Tryd.prog 53 #[.slice ea en ec, .agg ⟨trow t la ln lc ba bn bc fa fn fc⟩] g fun v g' => ∃ oa on oc, v = .slice oa on oc ∧ SlE thE g' oa on oc (t :: env).reverse := by
  refine call53 _ _ _ _ _ _ _ _ _ _ _ _ _ _ _ _ _ _ _ g _ ?_
  have hen := hE.len
  rw [List.length_reverse] at hen
  unfold F53
  have row : ∀ (g1 g2 : G), Ex g g1 → NewL g1 g2 63 (trow t la ln lc ba bn bc fa fn fc) → SlE thE g2 (some ⟨g1.w.heap.size, 0, none⟩) 1 1 [t] := fun g1 g2 m1 n2 =>
    n2.sle (xs := [t]) (Rws.single (tr_of (hI.exm m1))) (by unfold maxLen; simp)
  have fin : ∀ {g5 g6 : G} {a2 : Option Addr} {n2 c2 : Nat}, OwnE thE g5 g.w.heap.size 63 a2 n2 c2 (env.reverse ++ [t]) → Ex g5 g6 → ∃ oa on oc, Value.slice a2 n2 c2 = .slice oa on oc ∧ SlE thE g6 oa on oc (t :: env).reverse :=
    fun ho m => ⟨_, _, _, rfl, by rw [List.reverse_cons]; exact ho.sl.exm m⟩
  have small : en * 144 ≤ 140737488355328 ∧ en ≤ maxLen ∧ (en + 1) * 144 ≤ 140737488355328 ∧ en + 1 ≤ maxLen := ⟨by omega, by unfold maxLen; omega, by omega, by unfold maxLen; omega⟩
  intro g1 m1
  refine ⟨fun g2 n2 => ⟨with_first E61 m1.size (hE.exm m1) (Ex.refl _) n2 (Ex.refl _) small.1 small.2.1 ?_, fun g7 n7 => with_first E61 m1.size (hE.exm m1) (Ex.refl _) n2 n7.ex small.1 small.2.1 ?_⟩, fun g11 n11 g12 n12 => with_first E61 m1.size (hE.exm m1) n11.ex n12 (Ex.refl _) small.1 small.2.1 ?_⟩
  · rintro a' n' c' g3 rfl m3 _ ho g4 n4
    exact with_second E61 ((m1.trans m3).trans n4.ex).size (ho.exm n4.ex) (row g3 g4 (m1.trans m3) n4) small.2.2.1 small.2.2.2 (fun a2 n2 c2 g5 _ ho2 g6 m6 => fin ho2 m6)
  · rintro a' n' c' g8 rfl m8 le8 ho
    exact with_second E61 (m1.trans m8).size ho ((row g2 g7 (m1.trans n2.ex) n7).mono le8) small.2.2.1 small.2.2.2 (fun a2 n2 c2 g5 _ ho2 g6 m6 => fin ho2 m6)
  · rintro a' n' c' g13 rfl m13 le13 ho
    exact with_second E61 (m1.trans m13).size ho (((row g1 g11 m1 n11).exm n12.ex).mono le13) small.2.2.1 small.2.2.2 (fun a2 n2 c2 g5 _ ho2 g6 m6 => fin ho2 m6)
end Go.Proofs.YtfmjipgcbecamaaDoor
/- The reference's prim. -/
set_option linter.unusedVariables false
namespace Go.Proofs.YtfmjipgcbecamaaDoor
open Go Go.Vc Go.RowKit Go.Syn Go.Lam Go.Sort

theorem prod_i64 {a b : Int} (ha : -mostN ≤ a ∧ a ≤ mostN) (hb : -mostN ≤ b ∧ b ≤ mostN) (hh : ¬ (a ≠ 0 ∧ Int.tdiv mostN (absN a) < absN b)) : InI64 (a * b) := by
  have hm0 : mostN = 4503599627370496 := rfl
  by_cases q : a = 0
  · subst q; exact i64 (by simp) (by simp)
  · have h1 : absN b ≤ Int.tdiv mostN (absN a) := by
      by_cases q2 : Int.tdiv mostN (absN a) < absN b
      · exact absurd ⟨q, q2⟩ hh
      · omega
    have ha0 : 0 < absN a := by unfold absN; split <;> omega
    rw [Int.tdiv_eq_ediv_of_nonneg (by omega)] at h1
    have h2 : absN b * absN a ≤ mostN := Int.le_trans (Int.mul_le_mul_of_nonneg_right h1 (by omega)) (Int.ediv_mul_le _ (by omega))
    have h3 : (a * b = absN b * absN a ∨ a * b = -(absN b * absN a)) ∧ 0 ≤ absN b * absN a := by
      have hb0 : 0 ≤ absN b := by unfold absN; split <;> omega
      refine ⟨?_, Int.mul_nonneg hb0 (by omega)⟩
      unfold absN
      split <;> split
      · left; rw [Int.zero_sub, Int.zero_sub, Int.neg_mul_neg, Int.mul_comm]
      · right; rw [Int.zero_sub, Int.neg_mul, Int.neg_neg, Int.mul_comm]
      · right; rw [Int.zero_sub, Int.mul_neg, Int.neg_neg, Int.mul_comm]
      · left; rw [Int.mul_comm]
    generalize absN b * absN a = z at h2 h3
    generalize a * b = y at h3
    exact i64 (by omega) (by omega)
theorem lastT_get {l : List Th} (h : 0 < l.length) : l[l.length - 1]? = some (lastT l) := by
  unfold lastT
  rw [List.getD_eq_getElem?_getD, List.getElem?_eq_getElem (show l.length - 1 < l.length by omega)]
  rfl
theorem firstT_get {l : List Th} (h : 0 < l.length) : l[0]? = some (l.getD 0 unitT) := by
  rw [List.getD_eq_getElem?_getD, List.getElem?_eq_getElem (show 0 < l.length by omega)]
  rfl
/-- What prim does, by the sort of its operands. -/
theorem prim_num {n : Int} {l : List Th} (hl : ∀ t ∈ l, OkT t) (h0 : 0 < l.length) (ht : ¬ textual n) (hk : ∀ t ∈ l, t.op = 1) (left : Nat) (out : List Lab) :
    primN n l left out = numbersN n (l.getD 0 unitT).n (lastT l).n left out ∧ (-mostN ≤ (l.getD 0 unitT).n ∧ (l.getD 0 unitT).n ≤ mostN) ∧ (-mostN ≤ (lastT l).n ∧ (lastT l).n ≤ mostN) := by
  have ma := List.mem_of_getElem? (firstT_get h0)
  have mb := List.mem_of_getElem? (lastT_get h0)
  obtain ⟨a, e1, k1, k2⟩ := ok_int (hl _ ma) (hk _ ma)
  obtain ⟨b, e2, k3, k4⟩ := ok_int (hl _ mb) (hk _ mb)
  refine ⟨?_, by rw [e1]; exact ⟨k1, k2⟩, by rw [e2]; exact ⟨k3, k4⟩⟩
  unfold primN
  rw [if_neg ht, if_neg ht, if_pos hk]
theorem prim_txt {n : Int} {l : List Th} (hl : ∀ t ∈ l, OkT t) (h0 : 0 < l.length) (ht : textual n) (hk : ∀ t ∈ l, t.op = 2) (left : Nat) (out : List Lab) :
    primN n l left out = textsN n (l.getD 0 unitT).s (lastT l).s left out ∧ (l.getD 0 unitT).s.length ≤ 16384 ∧ (lastT l).s.length ≤ 16384 := by
  have ma := List.mem_of_getElem? (firstT_get h0)
  have mb := List.mem_of_getElem? (lastT_get h0)
  obtain ⟨a, e1, k1⟩ := ok_text (hl _ ma) (hk _ ma)
  obtain ⟨b, e2, k2⟩ := ok_text (hl _ mb) (hk _ mb)
  refine ⟨?_, by rw [e1]; exact k1, by rw [e2]; exact k2⟩
  unfold primN
  rw [if_pos ht, if_pos ht, if_pos hk]
section
variable {fuel left : Nat} {oa : Option Addr} {on oc : Nat} {out : List Lab} {g : G}
/-- prim. -/
theorem k55 (hO : SlE strE g oa on oc out) (ho : out.length ≤ 1000) {n : Int} (hn : 1 ≤ n ∧ n ≤ 14) {l : List Th} (hl : ∀ t ∈ l, OkT t) (h0 : l ≠ []) {la : Option Addr} {ln lc : Nat} (hL : SlE thE g la ln lc l) :
    CallsP Tryd.prog 55 #[.int .i64 n, .slice la ln lc, stV fuel left oa on oc 0 0] g fun v g' => RefP fuel (primN n l left out) v g' := by
  refine call55 n la ln lc _ _ _ _ _ _ _ g _ ?_
  have hlen := hL.len
  have hcap := hL.cap
  have hlc := hL.le
  have hol := hO.len
  have hp := List.length_pos_iff.2 h0
  have hm0 : mostN = 4503599627370496 := rfl
  unfold maxLen at hcap
  unfold F55
  intro J hJ
  have HJ : ∀ kind g1, Ex g g1 → kind = (if textual n then 2 else 1) → J kind g1 := by
    intro kind g1 m1 hkind
    refine hJ kind g1 ?_
    clear hJ
    refine ⟨fun m i _ _ _ _ _ _ _ _ _ _ _ _ _ _ _ _ _ _ _ _ _ _ _ g' => ∃ j : Nat, i = ((j : Nat) : Int) ∧ j + m = ln ∧ ∀ t ∈ l.take j, t.op = kind, ⟨ln, 0, rfl, by omega, by simp⟩, ?_⟩
    rintro m i x0 x1 x2 x3a x3l x3c x4 x5 x6 x7a x7l x7c x8a x8l x8c x9 y0 y1 y2a y2l y2c y3 y4 g2 le ⟨j, rfl, hj, hall⟩
    have le2 : Le g g2 := m1.le.trans le
    refine ifLt (fun q => ⟨⟨by omega, by omega⟩, ?_⟩) (fun q => ?_)
    · have gj := List.getElem?_eq_getElem (show j < l.length by omega)
      generalize l[j] = t at gj
      refine rdTh (hL.mono le2) j rfl gj (fun ad ta tn tc ba bn bc ea en ec _ hlv => ⟨_, (live0 (hlv 0 _ rfl)).1, ifNe (fun q2 => relC (k52 (hO.mono le2) (by omega)) ?_) (fun q2 => ⟨i64 (by omega) (by omega), m - 1, by omega, j + 1, by omega, by omega, (all_take gj (fun t => t.op = kind)).2 ⟨hall, q2⟩⟩)⟩)
      unfold primN
      rw [if_neg (fun hh => q2 (by rw [hkind]; exact hh t (List.mem_of_getElem? gj)))]
    rw [List.take_of_length_le (by omega)] at hall
    have gF := firstT_get hp
    have gL := lastT_get hp
    have num : ¬ textual n → primN n l left out = numbersN n (l.getD 0 unitT).n (lastT l).n left out ∧ (-mostN ≤ (l.getD 0 unitT).n ∧ (l.getD 0 unitT).n ≤ mostN) ∧ (-mostN ≤ (lastT l).n ∧ (lastT l).n ≤ mostN) := by
      intro ht
      rw [if_neg ht] at hkind
      subst hkind
      exact prim_num hl hp ht hall left out
    have txt : textual n → primN n l left out = textsN n (l.getD 0 unitT).s (lastT l).s left out ∧ (l.getD 0 unitT).s.length ≤ 16384 ∧ (lastT l).s.length ≤ 16384 := by
      intro ht
      rw [if_pos ht] at hkind
      subst hkind
      exact prim_txt hl hp ht hall left out
    generalize l.getD 0 unitT = A at gF num txt
    generalize lastT l = B at gL num txt
    intro J1 hJ1
    have main : ∀ (g5 : G), Ex g2 g5 → ∀ a3a a3l a3c a4 a5 a6 a7a a7l a7c a8a a8l a8c a9 b3a b3l b3c b4 b5 b6 b7a b7l b7c b8a b8l b8c b9, J1 A.op A.n (bstr A.s) a3a a3l a3c a4 a5 a6 a7a a7l a7c a8a a8l a8c a9 B.op B.n (bstr B.s) b3a b3l b3c b4 b5 b6 b7a b7l b7c b8a b8l b8c b9 g5 := by
      intro g5 m5 a3a a3l a3c a4 a5 a6 a7a a7l a7c a8a a8l a8c a9 b3a b3l b3c b4 b5 b6 b7a b7l b7c b8a b8l b8c b9
      refine hJ1 _ _ _ _ _ _ _ _ _ _ _ _ _ _ _ _ _ _ _ _ _ _ _ _ _ _ _ _ _ _ _ _ g5 ?_
      clear hJ1
      have hO5 : SlE strE g5 oa on oc out := hO.mono (le2.trans m5.le)
      have le5 : Le g g5 := le2.trans m5.le
      refine ifEq (fun e => ?_) (fun e1 => ?_)
      · obtain ⟨hq, ba, bb⟩ := num (by unfold textual; omega)
        refine ⟨i64 (by omega) (by omega), relC (k69 hO5 _) ?_⟩
        rw [hq]; unfold numbersN; rw [if_pos e]
      refine ifEq (fun e => ?_) (fun e2 => ?_)
      · obtain ⟨hq, ba, bb⟩ := num (by unfold textual; omega)
        refine ⟨i64 (by omega) (by omega), relC (k69 hO5 _) ?_⟩
        rw [hq]; unfold numbersN; rw [if_neg e1, if_pos e]
      refine ifEq (fun e => ?_) (fun e3 => ?_)
      · obtain ⟨hq, ba, bb⟩ := num (by unfold textual; omega)
        have hq3 : primN n l left out = if A.n ≠ 0 ∧ Int.tdiv mostN (absN A.n) < absN B.n then .stop 2 2 left out else numberN (A.n * B.n) left out := by
          rw [hq]; unfold numbersN; rw [if_neg e1, if_neg e2, if_pos e]
        intro J2 hJ2
        have fin : ∀ (g10 : G), Ex g5 g10 → ¬ (A.n ≠ 0 ∧ Int.tdiv mostN (absN A.n) < absN B.n) → ∀ z0 z1 z2 z3a z3l z3c z4 z5 z6 z7a z7l z7c z8a z8l z8c z9 w0 w1 w2a w2l w2c w3 w4, J2 z0 z1 z2 z3a z3l z3c z4 z5 z6 z7a z7l z7c z8a z8l z8c z9 w0 w1 w2a w2l w2c w3 w4 g10 := by
          intro g10 m10 hh z0 z1 z2 z3a z3l z3c z4 z5 z6 z7a z7l z7c z8a z8l z8c z9 w0 w1 w2a w2l w2c w3 w4
          refine hJ2 _ _ _ _ _ _ _ _ _ _ _ _ _ _ _ _ _ _ _ _ _ _ _ g10 ⟨prod_i64 ba bb hh, relC (k69 (hO5.exm m10) _) ?_⟩
          rw [hq3, if_neg hh]
        clear hJ2
        intro g13 m13
        refine ifNe (fun q0 => (k70 B.n (by omega) (by omega) g13).mono ?_) (fun q0 => fin g13 m13 (fun hh => hh.1 q0) _ _ _ _ _ _ _ _ _ _ _ _ _ _ _ _ _ _ _ _ _ _ _)
        rintro v g14 m14 rfl
        refine ⟨_, rfl, (k70 A.n (by omega) (by omega) g14).mono ?_⟩
        rintro v g15 m15 rfl
        have ha0 : 0 < absN A.n := by unfold absN; split <;> omega
        have hd0 := Int.tdiv_eq_ediv_of_nonneg (a := mostN) (b := absN A.n) (by omega)
        have hd1 : 0 ≤ Int.tdiv mostN (absN A.n) := by rw [hd0]; exact Int.ediv_nonneg (by omega) (by omega)
        have hd2 : Int.tdiv mostN (absN A.n) ≤ mostN := by rw [hd0]; exact Int.ediv_le_self _ (by omega)
        have m515 := (m13.trans m14).trans m15
        refine ⟨_, rfl, by omega, i64 (by rw [← hm0]; omega) (by rw [← hm0]; omega), ifLt (fun q2 => relC (k52 (hO5.exm m515) (by omega)) ?_) (fun q2 => fin g15 m515 (fun hh => by have := hh.2; rw [hm0] at this; omega) _ _ _ _ _ _ _ _ _ _ _ _ _ _ _ _ _ _ _ _ _ _ _)⟩
        rw [hq3, if_pos ⟨q0, by rw [hm0]; exact q2⟩]
      intro J3 hJ3
      have div : ∀ b, b = true → (n = 4 ∨ n = 5) → J3 b g5 := by
        intro b hb e45
        obtain ⟨hq, ba, bb⟩ := num (by unfold textual; omega)
        have hq3 : primN n l left out = if B.n = 0 then .stop 2 3 left out else if n = 4 then numberN (Int.tdiv A.n B.n) left out else numberN (Int.tmod A.n B.n) left out := by
          rw [hq]; unfold numbersN; rw [if_neg e1, if_neg e2, if_neg e3, if_neg (by omega), if_neg (by omega), if_neg (by omega), if_neg (by omega), if_neg (by omega)]
        refine hJ3 b g5 (ifT (fun _ => ?_) (fun h => by rw [hb] at h; cases h))
        refine ifEq (fun q => relC (k52 hO5 (by omega)) (by rw [hq3, if_pos q])) (fun q => ifEq (fun e => ?_) (fun e => ?_))
        · have h1 : (Int.tdiv A.n B.n).natAbs ≤ A.n.natAbs := by rw [Int.natAbs_tdiv]; exact Nat.div_le_self _ _
          exact fun g21 m21 => ⟨q, i64 (by omega) (by omega), fun g22 m22 => relC (k69 (hO5.exm (m21.trans m22)) _) (by rw [hq3, if_neg q, if_pos e])⟩
        · exact fun g25 m25 => ⟨q, fun g26 m26 => relC (k69 (hO5.exm (m25.trans m26)) _) (by rw [hq3, if_neg q, if_neg e])⟩
      refine ifEq (fun e => div _ rfl (.inl e)) (fun e4 => ?_)
      by_cases e5 : n = 5
      · exact div _ (by simp [e5]) (.inr e5)
      clear div
      refine hJ3 _ g5 (ifT (fun h => absurd (by simpa using h) e5) (fun _ => ?_))
      clear hJ3
      have tru : ∀ (p : Prop) [Decidable p] {b : Bool} (g6 : G), Ex g5 g6 → (b = true ↔ p) → primN n l left out = .ok (truthT p) left out →
          CallsP Tryd.prog 71 #[.bool b] g6 fun v g7 => ∃ x0 : Int, ∃ x1 : Int, ∃ x2 : ByteArray, ∃ x3a : Option Addr, ∃ x3l : Nat, ∃ x3c : Nat, ∃ x4 : Int, ∃ x5 : Int, ∃ x6 : ByteArray, ∃ x7a : Option Addr, ∃ x7l : Nat, ∃ x7c : Nat, ∃ x8a : Option Addr, ∃ x8l : Nat, ∃ x8c : Nat, ∃ x9 : Bool,
            v = (.agg ⟨[(.int .i64 x0), (.int .i64 x1), (.string x2), (.slice x3a x3l x3c), (.int .i64 x4), (.int .i64 x5), (.string x6), (.slice x7a x7l x7c), (.slice x8a x8l x8c), (.bool x9)]⟩) ∧ ∀ g8 : G, Ex g7 g8 →
            RefP fuel (primN n l left out) (.tuple ⟨[(.agg ⟨[(.int .i64 x0), (.int .i64 x1), (.string x2), (.slice x3a x3l x3c), (.int .i64 x4), (.int .i64 x5), (.string x6), (.slice x7a x7l x7c), (.slice x8a x8l x8c), (.bool x9)]⟩), stV fuel left oa on oc 0 0]⟩) g8 := by
        intro p _ b g6 m6 hb hq
        refine (k71 p hb g6).mono ?_
        rintro v g7 m7 ⟨ta, rfl, hI⟩
        refine ⟨_, _, _, _, _, _, _, _, _, _, _, _, _, _, _, _, rfl, fun g8 m8 => ?_⟩
        rw [hq]
        exact refP_ok (hO5.exm ((m6.trans m7).trans m8)) (hI.exm m8)
      refine ifEq (fun e => ?_) (fun e6 => ?_)
      · obtain ⟨hq, ba, bb⟩ := num (by unfold textual; omega)
        refine ⟨i64 (by omega) (by omega), relC (k69 hO5 _) ?_⟩
        rw [hq]; unfold numbersN; rw [if_neg e1, if_neg e2, if_neg e3, if_pos e]
      refine ifEq (fun e => ?_) (fun e7 => ?_)
      · obtain ⟨hq, ba, bb⟩ := num (by unfold textual; omega)
        exact fun g31 m31 g32 m32 => tru (A.n < B.n) g32 (m31.trans m32) (by simp) (by rw [hq]; unfold numbersN; rw [if_neg e1, if_neg e2, if_neg e3, if_neg e6, if_pos e])
      refine ifEq (fun e => ?_) (fun e8 => ?_)
      · obtain ⟨hq, ba, bb⟩ := num (by unfold textual; omega)
        exact fun g31 m31 g32 m32 => tru (A.n ≤ B.n) g32 (m31.trans m32) (by simp) (by rw [hq]; unfold numbersN; rw [if_neg e1, if_neg e2, if_neg e3, if_neg e6, if_neg e7, if_pos e])
      refine ifEq (fun e => ?_) (fun e9 => ?_)
      · obtain ⟨hq, ba, bb⟩ := num (by unfold textual; omega)
        exact fun g31 m31 g32 m32 => tru (A.n = B.n) g32 (m31.trans m32) (by simp) (by rw [hq]; unfold numbersN; rw [if_neg e1, if_neg e2, if_neg e3, if_neg e6, if_neg e7, if_neg e8, if_pos e])
      refine ifEq (fun e => ?_) (fun e10 => ?_)
      · obtain ⟨hq, ba, bb⟩ := txt (.inl e)
        have hq3 : primN n l left out = if 16384 < A.s.length + B.s.length then .stop 2 2 left out else .ok (textT (A.s ++ B.s)) left out := by
          rw [hq]; unfold textsN; rw [if_neg (by omega), if_neg (by omega), if_pos e]
        rw [bstr_size, bstr_size]
        refine ⟨i64 (by omega) (by omega), ifLt (fun q => relC (k52 hO5 (by omega)) (by rw [hq3, if_pos (by omega)])) (fun q g45 m45 => ⟨by omega, fun g46 m46 g47 m47 => ?_⟩)⟩
        rw [hq3, if_neg (by omega), bstr_cat]
        exact refP_ok (t := textT (A.s ++ B.s)) (hO5.exm ((m45.trans m46).trans m47)) (ok_tri rfl rfl rfl)
      refine ifEq (fun e => ?_) (fun e11 => ?_)
      · obtain ⟨hq, ba, bb⟩ := txt (.inr (.inl e))
        rw [bstr_size]
        exact relC (k69 hO5 _) (by rw [hq]; unfold textsN; rw [if_pos e])
      refine ifEq (fun e => ?_) (fun e12 => ?_)
      · obtain ⟨hq, ba, bb⟩ := txt (.inr (.inr (.inl e)))
        exact fun g31 m31 g32 m32 => tru (A.s = B.s) g32 (m31.trans m32) (by rw [strEq_true]; exact ⟨fun h => bstr_inj.1 h, fun h => bstr_inj.2 h⟩) (by rw [hq]; unfold textsN; rw [if_neg e11, if_pos e])
      refine ifEq (fun e => ?_) (fun e13 => ?_)
      · obtain ⟨hq, ba, bb⟩ := num (by unfold textual; omega)
        intro g54 m54 g55 m55
        refine (k72 A.n (by omega) (by omega) g55).mono ?_
        rintro v g56 m56 rfl
        refine ⟨_, rfl, fun g57 m57 g58 m58 => ?_⟩
        have e : primN n l left out = .ok (textT (Lib.itoa A.n)) left out := by
          rw [hq]; unfold numbersN; rw [if_neg e1, if_neg e2, if_neg e3, if_neg e6, if_neg e7, if_neg e8, if_neg e9, if_pos e]
        rw [e]
        exact refP_ok (t := textT (Lib.itoa A.n)) (hO5.exm ((((m54.trans m55).trans m56).trans m57).trans m58)) (ok_tri rfl rfl rfl)
      obtain ⟨hq, ba, bb⟩ := txt (.inr (.inr (.inr (by omega))))
      have hq3 : primN n l left out = if 1000 ≤ out.length then .stop 2 2 left out else .ok unitT left (out ++ [A.s]) := by
        rw [hq]; unfold textsN; rw [if_neg (by omega), if_neg (by omega), if_neg (by omega)]
      refine ifLe (fun q => relC (k52 hO5 (by omega)) (by rw [hq3, if_pos (by omega)])) (fun q => ?_)
      rw [if_neg (by omega)] at hq3
      intro J4 hJ4
      have fin : ∀ {g72 g73 : G} {a2 : Option Addr} {n2 c2 : Nat}, OwnE strE g72 g.w.heap.size 9 a2 n2 c2 (out ++ [A.s]) → Ex g72 g73 → J4 ((fuel : Nat) : Int) (((fuel : Nat) : Int) - ((left : Nat) : Int)) a2 n2 c2 0 0 g73 := by
        intro g72 g73 a2 n2 c2 ho2 m73
        refine hJ4 _ _ _ _ _ _ _ g73 (fun g62 m62 g63 m63 g64 m64 => ?_)
        rw [hq3]
        exact refP_ok (t := unitT) (ho2.sl.exm (((m73.trans m62).trans m63).trans m64)) (ok_tri rfl rfl rfl)
      clear hJ4
      have row : ∀ {g1 g2 : G}, NewL g1 g2 9 [.string (bstr A.s)] → SlE strE g2 (some ⟨g1.w.heap.size, 0, none⟩) 1 1 [A.s] := fun n2 =>
        n2.sle (xs := [A.s]) (Rws.single rfl) (by unfold maxLen; simp)
      have small : on * 16 ≤ 140737488355328 ∧ on ≤ maxLen ∧ (on + 1) * 16 ≤ 140737488355328 ∧ on + 1 ≤ maxLen := ⟨by omega, by unfold maxLen; omega, by omega, by unfold maxLen; omega⟩
      intro g65 m65
      have hz65 : g.w.heap.size ≤ g65.w.heap.size := Nat.le_trans le5.size m65.size
      have hE := hO5.exm m65
      refine ⟨fun g66 m66 g67 n67 => ⟨⟨fun g68 m68 => with_first E27 hz65 hE m66 n67 m68 small.1 small.2.1 ?_, fun g74 m74 g75 n75 g76 m76 => with_first E27 hz65 hE m66 n67 ((m74.trans n75.ex).trans m76) small.1 small.2.1 ?_⟩, fun g74 m74 g75 n75 g76 m76 => with_first E27 hz65 hE m66 n67 ((m74.trans n75.ex).trans m76) small.1 small.2.1 ?_⟩,
        ⟨⟨fun g66 m66 g67 n67 => ⟨fun g68 m68 => with_first E27 hz65 hE m66 n67 m68 small.1 small.2.1 ?_, fun g74 m74 g75 n75 g76 m76 => with_first E27 hz65 hE m66 n67 ((m74.trans n75.ex).trans m76) small.1 small.2.1 ?_⟩,
          fun g100 m100 g101 n101 g102 m102 g103 n103 g104 m104 => with_first E27 hz65 hE ((m100.trans n101.ex).trans m102) n103 m104 small.1 small.2.1 ?_⟩,
          fun g108 m108 g109 n109 => rep (fun g110 m110 g111 n111 g112 m112 => with_first E27 hz65 hE ((m108.trans n109.ex).trans m110) n111 m112 small.1 small.2.1 ?_) _⟩⟩
      · rintro a' n' c' g3 rfl m3 _ hw g70 m70 g71 n71
        exact with_second E27 (Nat.le_trans hz65 ((m3.trans m70).trans n71.ex).size) ((hw.exm m70).exm n71.ex) (row n71) small.2.2.1 small.2.2.2 (fun a2 n2 c2 g5 _ ho2 g6 m6 => fin ho2 m6)
      · rintro a' n' c' g3 rfl m3 le3 hw
        exact with_second E27 (Nat.le_trans hz65 m3.size) hw (((row n75).exm m76).mono le3) small.2.2.1 small.2.2.2 (fun a2 n2 c2 g5 _ ho2 g6 m6 => fin ho2 m6)
      · rintro a' n' c' g3 rfl m3 le3 hw
        exact with_second E27 (Nat.le_trans hz65 m3.size) hw (((row n75).exm m76).mono le3) small.2.2.1 small.2.2.2 (fun a2 n2 c2 g5 _ ho2 g6 m6 => fin ho2 m6)
      · rintro a' n' c' g3 rfl m3 _ hw g70 m70 g71 n71
        exact with_second E27 (Nat.le_trans hz65 ((m3.trans m70).trans n71.ex).size) ((hw.exm m70).exm n71.ex) (row n71) small.2.2.1 small.2.2.2 (fun a2 n2 c2 g5 _ ho2 g6 m6 => fin ho2 m6)
      · rintro a' n' c' g3 rfl m3 le3 hw
        exact with_second E27 (Nat.le_trans hz65 m3.size) hw (((row n75).exm m76).mono le3) small.2.2.1 small.2.2.2 (fun a2 n2 c2 g5 _ ho2 g6 m6 => fin ho2 m6)
      · rintro a' n' c' g3 rfl m3 le3 hw
        exact with_second E27 (Nat.le_trans hz65 m3.size) hw (((((row n101).exm m102).exm n103.ex).exm m104).mono le3) small.2.2.1 small.2.2.2 (fun a2 n2 c2 g5 _ ho2 g6 m6 => fin ho2 m6)
      · rintro a' n' c' g3 rfl m3 le3 hw
        exact with_second E27 (Nat.le_trans hz65 m3.size) hw (((((row n109).exm m110).exm n111.ex).exm m112).mono le3) small.2.2.1 small.2.2.2 (fun a2 n2 c2 g5 _ ho2 g6 m6 => fin ho2 m6)
    intro g122 m122
    refine ⟨⟨by omega, by omega⟩, rdThX ((hL.mono le2).exm m122) 0 rfl gF (fun la2 ln2 lc2 ba2 bn2 bc2 ea2 en2 ec2 _ => ⟨i64 (by omega) (by omega), ⟨by omega, by omega⟩, rdThX ((hL.mono le2).exm m122) (l.length - 1) (by omega) gL (fun la3 ln3 lc3 ba3 bn3 bc3 ea3 en3 ec3 _ => rep (fun g123 m123 => main g123 (m122.trans m123) _ _ _ _ _ _ _ _ _ _ _ _ _ _ _ _ _ _ _ _ _ _ _ _ _ _) _)⟩)⟩
  clear hJ
  have yes : ∀ g1, Ex g g1 → textual n → J 2 g1 := fun g1 m1 h => HJ 2 g1 m1 (if_pos h).symm
  exact ifEq (fun e g1 m1 => yes g1 m1 (.inl e)) (fun e10 => ifEq (fun e g1 m1 => yes g1 m1 (.inr (.inl e))) (fun e11 => ifEq (fun e g1 m1 => yes g1 m1 (.inr (.inr (.inl e)))) (fun e12 => ifEq (fun e g1 m1 => yes g1 m1 (.inr (.inr (.inr e)))) (fun e14 g1 m1 => HJ 1 g1 m1 (if_neg (by unfold textual; omega)).symm))))
end
end Go.Proofs.YtfmjipgcbecamaaDoor
/- The reference's run. -/
set_option linter.unusedVariables false
namespace Go.Proofs.YtfmjipgcbecamaaDoor
open Go Go.Vc Go.RowKit Go.Syn Go.Lam Go.Sort

def K37 (d : Nat) : Prop := ∀ (x : E) (env : List Th) (left fuel : Nat) (out : List Lab) {a : Option Addr} {n c : Nat} {ea : Option Addr} {en ec : Nat} {oa : Option Addr} {on oc : Nat} {g : G},
  formE x → scopedE env.length x → env.length + depthE x ≤ 900 → (∀ t ∈ env, OkT t) → (∀ t ∈ env, OkB 900 t) → out.length ≤ 1000 → left ≤ d → left ≤ fuel → fuel ≤ 1048576 →
  SlE expE g a n c x.kids → SlE thE g ea en ec env.reverse → SlE strE g oa on oc out →
  CallsP Tryd.prog 37 #[expV x a n c, .slice ea en ec, stV fuel left oa on oc 0 0] g fun v g' => RefP fuel (evalN d x env left out) v g'
/-- all. -/
theorem k54 {d : Nat} (H : K37 d) {l : List E} {env : List Th} {left fuel : Nat} {out : List Lab} {la : Option Addr} {ll lc : Nat} {ea : Option Addr} {en ec : Nat} {oa : Option Addr} {on oc : Nat} {g : G}
    (hl : ∀ y ∈ l, formE y ∧ scopedE env.length y ∧ env.length + depthE y ≤ 900) (he : ∀ t ∈ env, OkT t) (hb : ∀ t ∈ env, OkB 900 t) (ho : out.length ≤ 1000) (hd : left ≤ d) (hf : left ≤ fuel) (hF : fuel ≤ 1048576) (hll : ll ≤ 1001)
    (hL : SlE expE g la ll lc l) (hE : SlE thE g ea en ec env.reverse) (hO : SlE strE g oa on oc out) :
    CallsP Tryd.prog 54 #[.slice la ll lc, .slice ea en ec, stV fuel left oa on oc 0 0] g fun v g' => RefL fuel (evL (evalN d) l env left out) v g' := by
  refine call54 la ll lc ea en ec _ _ _ _ _ _ _ g _ ?_
  have hlen := hL.len
  unfold F54
  refine ⟨fun m oa1 on1 oc1 i s0 s1 s2a s2l s2c s3 s4 _ _ _ _ _ _ _ g' => ∃ (j : Nat) (ts : List Th) (left1 : Nat) (out1 : List Lab), i = ((j : Nat) : Int) ∧ j + m = ll ∧ s0 = ((fuel : Nat) : Int) ∧ s1 = ((fuel : Nat) : Int) - ((left1 : Nat) : Int) ∧ s3 = 0 ∧ s4 = 0 ∧
      evL (evalN d) (l.take j) env left out = .ok ts left1 out1 ∧ OwnE thE g' g.w.heap.size 63 oa1 on1 oc1 ts ∧ SlE strE g' s2a s2l s2c out1,
    fun g1 m1 => ⟨ll, 0, [], left, out, rfl, by omega, rfl, rfl, rfl, rfl, by rw [List.take_zero]; rfl, OwnE.nil _ _ _, hO.exm m1⟩, ?_⟩
  rintro m oa1 on1 oc1 i s0 s1 s2a s2l s2c s3 s4 y0 y1 y2a y2l y2c y3 y4 g2 le ⟨j, ts, left1, out1, rfl, hj, rfl, rfl, rfl, rfl, hev, hown, hO1⟩
  have hok := evL_ok (eval_ok d) (l.take j) env left out (fun y hy => ⟨(hl y (List.mem_of_mem_take hy)).1, (hl y (List.mem_of_mem_take hy)).2.1⟩) he ho
  rw [hev] at hok
  obtain ⟨_, hn1, hle1, ho1⟩ := hok
  have hown1 := hown.sl.len
  rw [List.length_take] at hn1
  refine ifLt (fun q => ?_) (fun q g26 m26 g27 m27 => ?_)
  · intro J hJ
    have gj := List.getElem?_eq_getElem (show j < l.length by omega)
    generalize l[j] = y at gj
    obtain ⟨y1, y2, y3⟩ := hl y (List.mem_of_getElem? gj)
    have htk := evL_take (evalN d) gj env left out
    rw [hev, Res.bind_ok] at htk
    have HJ : ∀ {g11 g12 : G} (t : Th) (la' : Option Addr) (ln' lc' : Nat) (ba : Option Addr) (bn bc : Nat) (ea' : Option Addr) (en' ec' : Nat) (oa' : Option Addr) (on' oc' left' : Nat) (op code : Int) (out' : List Lab), Ex g2 g11 → Ex g11 g12 → SlE strE g11 oa' on' oc' out' →
        ((op = 0 ∧ code = 0 ∧ evalN d y env left1 out1 = .ok t left' out' ∧ TRI g11 t la' ln' lc' ba bn bc ea' en' ec') ∨ (op ≠ 0 ∧ evalN d y env left1 out1 = .stop op code left' out')) →
        J t.op t.n (bstr t.s) la' ln' lc' t.body.dat.op t.body.dat.n (bstr t.body.dat.s) ba bn bc ea' en' ec' t.self ((fuel : Nat) : Int) (((fuel : Nat) : Int) - ((left' : Nat) : Int)) oa' on' oc' op code g12 := by
      intro g11 g12 t la' ln' lc' ba bn bc ea' en' ec' oa' on' oc' left' op code out' m11 m12 hO' hor
      refine hJ _ _ _ _ _ _ _ _ _ _ _ _ _ _ _ _ _ _ _ _ _ _ _ g12 (ifNe (fun q0 g4 m4 g5 m5 => ?_) (fun q0 g6 m6 g7 n7 => ?_))
      · rcases hor with ⟨h, _⟩ | ⟨_, h⟩
        · exact absurd h q0
        · rw [h, Res.bind_stop] at htk
          exact ⟨none, 0, 0, oa', on', oc', left', op, code, out', [], rfl, hO'.exm ((m12.trans m4).trans m5), .inr ⟨q0, evL_stop (evalN d) htk⟩⟩
      · rcases hor with ⟨_, hc, h, hI⟩ | ⟨h, _⟩
        · rw [h, Res.bind_ok] at htk
          have m27 := ((m11.trans m12).trans m6)
          obtain ⟨a', c', w', hr, g8, hw, hs, ho8, _, _⟩ := (hown.exm m27).app1 E61 61 (Nat.le_trans le.size m27.size) n7 (x := t) (tr_of (hI.exm (m12.trans m6))) (by omega) (by unfold maxLen; omega)
          exact ⟨a', _, c', w', hr, g8, hw, hs, i64 (by omega) (by omega), m - 1, by omega, j + 1, ts ++ [t], left', out', by omega, by omega, rfl, rfl, q0, hc, htk, ho8, (hO'.exm ((m12.trans m6).trans n7.ex)).mono hs.le⟩
        · exact absurd q0 h
    clear hJ
    intro g9 m9
    have call : ∀ {ka : Option Addr} {kn kc : Nat} (hk : SlE expE g9 ka kn kc y.kids) (g10 : G), Ex g9 g10 → CallsP Tryd.prog 37 #[expV y ka kn kc, .slice ea en ec, stV fuel left1 s2a s2l s2c 0 0] g10 fun v g' => RefP fuel (evalN d y env left1 out1) v g' :=
      fun hk g10 m10 => H y env left1 fuel out1 y1 y2 y3 he hb ho1 (by omega) (by omega) hF (hk.exm m10) (((hE.mono le).exm m9).exm m10) ((hO1.exm m9).exm m10)
    refine ⟨⟨by omega, by omega⟩, rdEX ((hL.mono le).exm m9) j rfl gj (fun ka kn kc hk => ⟨fun g10 m10 => (call hk g10 m10).mono (fun v g11 m11 hp => hp.use (fun t la' ln' lc' ba bn bc ea' en' ec' oa' on' oc' left' op code out' h1 h2 => rep (fun g12 m12 => HJ t la' ln' lc' ba bn bc ea' en' ec' oa' on' oc' left' op code out' ((m9.trans m10).trans m11) m12 h1 h2) _)), rep (fun g10 m10 => (call hk g10 m10).mono (fun v g11 m11 hp => hp.use (fun t la' ln' lc' ba bn bc ea' en' ec' oa' on' oc' left' op code out' h1 h2 g12 m12 => HJ t la' ln' lc' ba bn bc ea' en' ec' oa' on' oc' left' op code out' ((m9.trans m10).trans m11) m12 h1 h2))) _, rep (fun g10 m10 => (call hk g10 m10).mono (fun v g11 m11 hp => hp.use (fun t la' ln' lc' ba bn bc ea' en' ec' oa' on' oc' left' op code out' h1 h2 g12 m12 => HJ t la' ln' lc' ba bn bc ea' en' ec' oa' on' oc' left' op code out' ((m9.trans m10).trans m11) m12 h1 h2))) _⟩)⟩
  · rw [List.take_of_length_le (by omega)] at hev
    exact ⟨oa1, on1, oc1, s2a, s2l, s2c, left1, 0, 0, out1, ts, rfl, hO1.exm (m26.trans m27), .inl ⟨rfl, rfl, hev, hown.sl.exm (m26.trans m27)⟩⟩
end Go.Proofs.YtfmjipgcbecamaaDoor
/- The reference's run, by its steps. -/
set_option linter.unusedVariables false
namespace Go.Proofs.YtfmjipgcbecamaaDoor
open Go Go.Vc Go.RowKit Go.Syn Go.Lam Go.Sort

theorem rev_get {α : Type} {l : List α} {i : Nat} {x : α} (h : l[i]? = some x) : l.reverse[l.length - 1 - i]? = some x := by
  have hi := (List.getElem?_eq_some_iff.1 h).1
  rw [List.getElem?_reverse (by omega), show l.length - 1 - (l.length - 1 - i) = i by omega]
  exact h
theorem getD_some {l : List Th} {i : Nat} (h : i < l.length) : l[i]? = some (l.getD i unitT) := by
  rw [List.getD_eq_getElem?_getD, List.getElem?_eq_getElem h]
  rfl
theorem depth_kid {x : E} {i : Nat} (hi : i < x.kids.length) : depthE (kid x i) + 1 ≤ depthE x := by
  have := depthE_mem (List.mem_of_getElem? (kid_get hi))
  have e : depthE x = depthEL x.kids + 1 := by cases x; rfl
  omega
theorem eval_zero (d : Nat) (x : E) (env : List Th) (out : List Lab) : evalN d x env 0 out = .stop 3 0 0 out := by
  cases d with
  | zero => rfl
  | succ d => simp [evalN]
theorem k37 : ∀ d, K37 d := by
  intro d
  induction d with
  | zero =>
    intro x env left fuel out a n c ea en ec oa on oc g hx hs hd he hb ho hld hlf hF hI hE hO
    obtain rfl : left = 0 := by omega
    refine call37 _ _ _ _ _ _ _ _ _ _ _ _ _ _ _ _ g _ ?_
    unfold F37
    exact ifLe (fun q g1 m1 => relC (k52 (hO.exm m1) (by omega)) (eval_zero _ _ _ _).symm) (fun q => by omega)
  | succ d H =>
    intro x env left fuel out a n c ea en ec oa on oc g hx hs hd he hb ho hld hlf hF hI hE hO
    refine call37 _ _ _ _ _ _ _ _ _ _ _ _ _ _ _ _ g _ ?_
    have hl := hI.len
    have hcap := hI.cap
    have hnc := hI.le
    have hel := hE.len
    rw [List.length_reverse] at hel
    obtain ⟨n4, n5, n7, n9, n10, n12, n6, n1, n2, n3, nr, nk⟩ := node_len hx
    unfold maxLen at hcap
    unfold F37
    refine ifLe (fun q g1 m1 => ?_) (fun q => ?_)
    · obtain rfl : left = 0 := by omega
      exact relC (k52 (hO.exm m1) (by omega)) (eval_zero _ _ _ _).symm
    obtain ⟨l1, rfl⟩ : ∃ l1, left = l1 + 1 := ⟨left - 1, by omega⟩
    have hst : ((fuel : Nat) : Int) - ((l1 + 1 : Nat) : Int) + 1 = ((fuel : Nat) : Int) - ((l1 : Nat) : Int) := by omega
    have hev : evalN (d + 1) x env (l1 + 1) out = stepN (evalN d) x env l1 out := by
      show (if l1 + 1 = 0 then _ else _) = _
      rw [if_neg (by omega)]
      rfl
    rw [hst, hev]
    clear q
    have hk := fun {i : Nat} (hi : i < x.kids.length) => And.intro (kid_form hx hi) (scoped_kid hs (kid_get hi))
    have cons : ∀ {t : Th}, OkT t → ∀ u ∈ t :: env, OkT u := fun ht u hu => (List.mem_cons.1 hu).elim (fun e => e ▸ ht) (he u)
    have consB : ∀ {t : Th}, OkB 900 t → ∀ u ∈ t :: env, OkB 900 u := fun ht u hu => (List.mem_cons.1 hu).elim (fun e => e ▸ ht) (hb u)
    refine ⟨i64 (by omega) (by omega), ifEq (fun e => ?_) (fun e1 => ?_)⟩
    · have hS : stepN (evalN d) x env l1 out = .ok (env.getD x.dat.n.toNat unitT) l1 out := by unfold stepN; rw [if_pos e]
      have hsc := scoped_var hs e (n1 e).1
      have gt := rev_get (getD_some hsc)
      rw [hS]
      intro g4 m4
      refine ⟨i64 (by omega) (by omega), i64 (by omega) (by omega), ⟨by omega, by omega⟩, rdThX (hE.exm m4) (env.length - 1 - x.dat.n.toNat) (by omega) gt (fun la ln lc ba bn bc ea' en' ec' hT g5 m5 => refP_ok (hO.exm (m4.trans m5)) (hT.exm m5))⟩
    refine ifEq (fun e g6 m6 g7 m7 g8 m8 => ?_) (fun e2 => ?_)
    · have hS : stepN (evalN d) x env l1 out = .ok (intT x.dat.n) l1 out := by unfold stepN; rw [if_neg e1, if_pos e]
      rw [hS]
      exact refP_ok (t := intT x.dat.n) (hO.exm ((m6.trans m7).trans m8)) (ok_tri rfl rfl rfl)
    refine ifEq (fun e g6 m6 g7 m7 g8 m8 => ?_) (fun e3 => ?_)
    · have hS : stepN (evalN d) x env l1 out = .ok (textT x.dat.s) l1 out := by unfold stepN; rw [if_neg e1, if_neg e2, if_pos e]
      rw [hS]
      exact refP_ok (t := textT x.dat.s) (hO.exm ((m6.trans m7).trans m8)) (ok_tri rfl rfl rfl)
    refine ifEq (fun e g12 m12 => ?_) (fun e4 => ?_)
    · have hS : stepN (evalN d) x env l1 out = .ok (funT (kid x 0) false env) l1 out := by unfold stepN; rw [if_neg e1, if_neg e2, if_neg e3, if_pos e]
      rw [hS]
      have h4 := n4 e
      refine ⟨⟨by omega, by omega⟩, rdEX (hI.exm m12) 0 rfl (kid_get (x := x) (by omega)) (fun ka kn kc hkk g13 m13 g14 m14 => refP_ok (t := funT (kid x 0) false env) (hO.exm ((m12.trans m13).trans m14)) ⟨SlE.zero _, hkk.exm (m13.trans m14), hE.exm ((m12.trans m13).trans m14)⟩)⟩
    refine ifEq (fun e => ?_) (fun e10 => ?_)
    · have hS : stepN (evalN d) x env l1 out = if l1 = 0 then .stop 3 0 0 out else .ok (funT (kid (kid x 0) 0) true env) (l1 - 1) out := by unfold stepN; rw [if_neg e1, if_neg e2, if_neg e3, if_neg e4, if_pos e]
      rw [hS]
      obtain ⟨h10, h4⟩ := n10 e
      have hk0 := hk (i := 0) (by omega)
      have hk1 := (node_len hk0.1).1 h4
      refine ifLe (fun q g15 m15 => ?_) (fun q => ?_)
      · obtain rfl : l1 = 0 := by omega
        rw [if_pos rfl]
        exact relC (k52 (hO.exm m15) (by omega)) rfl
      · obtain ⟨l2, rfl⟩ : ∃ l2, l1 = l2 + 1 := ⟨l1 - 1, by omega⟩
        have hst2 : ((fuel : Nat) : Int) - ((l2 + 1 : Nat) : Int) + 1 = ((fuel : Nat) : Int) - ((l2 : Nat) : Int) := by omega
        rw [if_neg (by omega), hst2, show l2 + 1 - 1 = l2 by omega]
        refine ⟨i64 (by omega) (by omega), fun g18 m18 => ⟨⟨by omega, by omega⟩, rdEL (hI.exm m18) 0 rfl (kid_get (x := x) (by omega)) (fun ad ka kn kc _ hkk hlv => ⟨(hlv 3 _ rfl).2.1, _, _, _, (hlv 3 _ rfl).1, ⟨by omega, by have := hkk.len; omega⟩, rdEX hkk 0 rfl (kid_get (x := kid x 0) (by omega)) (fun pa pn pc hpp g19 m19 g20 m20 => refP_ok (t := funT (kid (kid x 0) 0) true env) (hO.exm ((m18.trans m19).trans m20)) ⟨SlE.zero _, hpp.exm (m19.trans m20), hE.exm ((m18.trans m19).trans m20)⟩)⟩)⟩⟩
    refine ifEq (fun e g21 m21 => ?_) (fun e13 => ?_)
    · have hS : stepN (evalN d) x env l1 out = .stop 2 x.dat.n l1 out := by unfold stepN; rw [if_neg e1, if_neg e2, if_neg e3, if_neg e4, if_neg e10, if_pos e]
      rw [hS]
      exact relC (k52 (hO.exm m21) (by omega)) rfl
    -- the first part
    have facts : 0 < x.kids.length → (x.dat.op ≠ 4 ∧ x.dat.op ≠ 10) → OkRes l1 (evalN d (kid x 0) env l1 out) ∧ B1 900 (evalN d (kid x 0) env l1 out) ∧ formE (kid x 0) ∧ scopedE env.length (kid x 0) ∧ env.length + depthE (kid x 0) ≤ 900 := by
      intro h0 hop
      have k0 := hk h0
      have d0 := depth_kid h0
      rw [bnd_first hop] at k0
      exact ⟨eval_ok d _ env l1 out k0.1 k0.2 he ho, eval_okB 900 d _ env l1 out k0.1 k0.2 (by omega) he hb ho, k0.1, k0.2, by omega⟩
    have call0 : 0 < x.kids.length → (x.dat.op ≠ 4 ∧ x.dat.op ≠ 10) → ∀ {g33 g34 : G} {ka : Option Addr} {kn kc : Nat}, SlE expE g33 ka kn kc (kid x 0).kids → Ex g g33 → Ex g33 g34 →
        CallsP Tryd.prog 37 #[expV (kid x 0) ka kn kc, .slice ea en ec, stV fuel l1 oa on oc 0 0] g34 fun v g' => RefP fuel (evalN d (kid x 0) env l1 out) v g' := by
      intro h0 hop g33 g34 ka kn kc hkk m33 m34
      obtain ⟨_, _, f1, f2, f3⟩ := facts h0 hop
      exact H (kid x 0) env l1 fuel out f1 f2 f3 he hb ho (by omega) (by omega) hF (hkk.exm m34) (hE.exm (m33.trans m34)) (hO.exm (m33.trans m34))
    refine ifEq (fun e => ?_) (fun e11 => ?_)
    · have hS : stepN (evalN d) x env l1 out = (evalN d (kid x 0) env l1 out).bind fun t left out => evalN d (kid x 1) (t :: env) left out := by unfold stepN; rw [if_neg e1, if_neg e2, if_neg e3, if_neg e4, if_neg e10, if_neg e13, if_pos e]
      rw [hS]
      have h2 := n5 (.inr e)
      have h0 : 0 < x.kids.length := by omega
      obtain ⟨f1, f2, f3, f4, f5⟩ := facts h0 (by omega)
      have call := @call0 h0 (by omega)
      have k1 := hk (i := 1) (by omega)
      have d1 := depth_kid (x := x) (i := 1) (by omega)
      rw [bnd_more (.inl e) (by omega)] at k1
      intro J hJ
      have HJ : ∀ {g11 g12 : G} (t : Th) (la' : Option Addr) (ln' lc' : Nat) (ba : Option Addr) (bn bc : Nat) (ea' : Option Addr) (en' ec' : Nat) (oa' : Option Addr) (on' oc' left' : Nat) (op code : Int) (out' : List Lab), Ex g g11 → Ex g11 g12 → SlE strE g11 oa' on' oc' out' →
            ((op = 0 ∧ code = 0 ∧ evalN d (kid x 0) env l1 out = .ok t left' out' ∧ TRI g11 t la' ln' lc' ba bn bc ea' en' ec') ∨ (op ≠ 0 ∧ evalN d (kid x 0) env l1 out = .stop op code left' out')) →
            J t.op t.n (bstr t.s) la' ln' lc' t.body.dat.op t.body.dat.n (bstr t.body.dat.s) ba bn bc ea' en' ec' t.self ((fuel : Nat) : Int) (((fuel : Nat) : Int) - ((left' : Nat) : Int)) oa' on' oc' op code g12 := by
        intro g11 g12 t la' ln' lc' ba bn bc ea' en' ec' oa' on' oc' left' op code out' m11 m12 hO' hor
        refine hJ _ _ _ _ _ _ _ _ _ _ _ _ _ _ _ _ _ _ _ _ _ _ _ g12 (ifNe (fun q0 g25 m25 g26 m26 => ?_) (fun q0 g27 m27 => ?_))
        · rcases hor with ⟨h, _⟩ | ⟨_, h⟩
          · exact absurd h q0
          · rw [h, Res.bind_stop]
            exact refP_stop t (hO'.exm ((m12.trans m25).trans m26)) q0
        · rcases hor with ⟨_, hc, h, hT⟩ | ⟨h, _⟩
          · subst q0
            subst hc
            rw [h] at f1 f2
            rw [h, Res.bind_ok]
            have m027 := (m11.trans m12).trans m27
            refine ⟨⟨by omega, by omega⟩, rdEX (hI.exm m027) 1 rfl (kid_get (x := x) (by omega)) (fun ka kn kc hkk g28 m28 => (k53 (hE.exm (m027.trans m28)) (hT.exm ((m12.trans m27).trans m28)) (by omega)).mono ?_)⟩
            rintro v g29 m29 ⟨xa, xl, xc, rfl, hE2⟩
            exact ⟨xa, xl, xc, rfl, fun g30 m30 => relC (H (kid x 1) (t :: env) left' fuel out' k1.1 (by simpa using k1.2) (by rw [List.length_cons]; omega) (cons f1.1) (consB f2) f1.2.2 (by have := f1.2.1; omega) (by have := f1.2.1; omega) hF (hkk.exm ((m28.trans m29).trans m30)) (hE2.exm m30) (hO'.exm (((((m12.trans m27).trans m28).trans m29).trans m30)))) rfl⟩
          · exact absurd q0 h
      clear hJ
      intro g33 m33
      exact ⟨⟨by omega, by omega⟩, rdEX (hI.exm m33) 0 rfl (kid_get h0) (fun ka kn kc hkk => ⟨fun g34 m34 => (call hkk m33 m34).mono (fun v g35 m35 hp => hp.use (fun t la' ln' lc' ba bn bc ea' en' ec' oa' on' oc' left' op code out' h1 h2 => rep (fun g36 m36 => HJ t la' ln' lc' ba bn bc ea' en' ec' oa' on' oc' left' op code out' ((m33.trans m34).trans m35) m36 h1 h2) _)), rep (fun g34 m34 => (call hkk m33 m34).mono (fun v g35 m35 hp => hp.use (fun t la' ln' lc' ba bn bc ea' en' ec' oa' on' oc' left' op code out' h1 h2 g36 m36 => HJ t la' ln' lc' ba bn bc ea' en' ec' oa' on' oc' left' op code out' ((m33.trans m34).trans m35) m36 h1 h2))) _, rep (fun g34 m34 => (call hkk m33 m34).mono (fun v g35 m35 hp => hp.use (fun t la' ln' lc' ba bn bc ea' en' ec' oa' on' oc' left' op code out' h1 h2 g36 m36 => HJ t la' ln' lc' ba bn bc ea' en' ec' oa' on' oc' left' op code out' ((m33.trans m34).trans m35) m36 h1 h2))) _⟩)⟩
    refine ifEq (fun e => ?_) (fun e9 => ?_)
    · have hS : stepN (evalN d) x env l1 out = (evalN d (kid x 0) env l1 out).bind fun t left out => if t.op = 4 ∧ t.n + 1 < ((x.kids.length : Nat) : Int) then evalN d (kid x (t.n + 1).toNat) (t.l.getD 0 unitT :: env) left out else .stop 4 0 left out := by unfold stepN; rw [if_neg e1, if_neg e2, if_neg e3, if_neg e4, if_neg e10, if_neg e13, if_neg e11, if_pos e]
      rw [hS]
      have h2 := n9 e
      have h0 : 0 < x.kids.length := by omega
      obtain ⟨f1, f2, f3, f4, f5⟩ := facts h0 (by omega)
      have call := @call0 h0 (by omega)
      intro J hJ
      have HJ : ∀ {g11 g12 : G} (t : Th) (la' : Option Addr) (ln' lc' : Nat) (ba : Option Addr) (bn bc : Nat) (ea' : Option Addr) (en' ec' : Nat) (oa' : Option Addr) (on' oc' left' : Nat) (op code : Int) (out' : List Lab), Ex g g11 → Ex g11 g12 → SlE strE g11 oa' on' oc' out' →
            ((op = 0 ∧ code = 0 ∧ evalN d (kid x 0) env l1 out = .ok t left' out' ∧ TRI g11 t la' ln' lc' ba bn bc ea' en' ec') ∨ (op ≠ 0 ∧ evalN d (kid x 0) env l1 out = .stop op code left' out')) →
            J t.op t.n (bstr t.s) la' ln' lc' t.body.dat.op t.body.dat.n (bstr t.body.dat.s) ba bn bc ea' en' ec' t.self ((fuel : Nat) : Int) (((fuel : Nat) : Int) - ((left' : Nat) : Int)) oa' on' oc' op code g12 := by
        intro g11 g12 t la' ln' lc' ba bn bc ea' en' ec' oa' on' oc' left' op code out' m11 m12 hO' hor
        refine hJ _ _ _ _ _ _ _ _ _ _ _ _ _ _ _ _ _ _ _ _ _ _ _ g12 (ifNe (fun q0 g25 m25 g26 m26 => ?_) (fun q0 => ?_))
        · rcases hor with ⟨h, _⟩ | ⟨_, h⟩
          · exact absurd h q0
          · rw [h, Res.bind_stop]
            exact refP_stop t (hO'.exm ((m12.trans m25).trans m26)) q0
        · rcases hor with ⟨_, hc, h, hT⟩ | ⟨h, _⟩
          · subst q0
            subst hc
            rw [h] at f1 f2
            rw [h, Res.bind_ok]
            clear hJ
            intro J2 hJ2
            refine ifNe (fun q4 => relC (k52 (hO'.exm m12) (by omega)) (by rw [if_neg (fun hh => q4 hh.1)])) (fun q4 => ⟨i64 (by omega) (by omega), ifLe (fun q5 => relC (k52 (hO'.exm m12) (by omega)) (by rw [if_neg (by omega)])) (fun q5 => hJ2 _ _ _ _ _ _ _ _ _ _ _ _ _ _ _ _ _ _ _ _ _ _ _ g12 (fun g54 m54 => ?_))⟩)
            clear hJ2
            have htu : ∃ u, t.l = [u] ∧ 0 ≤ t.n ∧ t.n ≤ 999 ∧ OkT u ∧ OkB 900 u := by
              obtain ⟨k, u, rfl, k1, k2, k3⟩ := ok_inj f1.1 q4
              exact ⟨u, rfl, k1, k2, k3, okB_l f2 u (by simp [injT, Th.l])⟩
            obtain ⟨u, htl, t0, t1, hu, hub⟩ := htu
            have hj : (t.n + 1).toNat < x.kids.length := by omega
            have kj := hk hj
            have dj := depth_kid hj
            rw [bnd_more (.inr e) (by omega)] at kj
            rw [if_pos ⟨q4, by omega⟩, htl]
            have hTl := hT.l
            rw [htl] at hTl
            have hln := hTl.len
            have m054 := (m11.trans m12).trans m54
            refine ⟨i64 (by omega) (by omega), ⟨by omega, by omega⟩, rdEX (hI.exm m054) (t.n + 1).toNat (by omega) (kid_get hj) (fun ka kn kc hkk => ⟨⟨by omega, by simp at hln; omega⟩, rdThX (hTl.exm (m12.trans m54)) 0 rfl (t := u) rfl (fun la2 ln2 lc2 ba2 bn2 bc2 ea2 en2 ec2 hU g55 m55 => (k53 (hE.exm (m054.trans m55)) (hU.exm m55) (by omega)).mono ?_)⟩)⟩
            rintro v g56 m56 ⟨xa, xl, xc, rfl, hE2⟩
            exact ⟨xa, xl, xc, rfl, fun g57 m57 => relC (H (kid x (t.n + 1).toNat) (u :: env) left' fuel out' kj.1 (by simpa using kj.2) (by rw [List.length_cons]; omega) (cons hu) (consB hub) f1.2.2 (by have := f1.2.1; omega) (by have := f1.2.1; omega) hF (hkk.exm ((m55.trans m56).trans m57)) (hE2.exm m57) (hO'.exm (((((m12.trans m54).trans m55).trans m56).trans m57)))) rfl⟩
          · exact absurd q0 h
      clear hJ
      intro g33 m33
      exact ⟨⟨by omega, by omega⟩, rdEX (hI.exm m33) 0 rfl (kid_get h0) (fun ka kn kc hkk => ⟨fun g34 m34 => (call hkk m33 m34).mono (fun v g35 m35 hp => hp.use (fun t la' ln' lc' ba bn bc ea' en' ec' oa' on' oc' left' op code out' h1 h2 => rep (fun g36 m36 => HJ t la' ln' lc' ba bn bc ea' en' ec' oa' on' oc' left' op code out' ((m33.trans m34).trans m35) m36 h1 h2) _)), rep (fun g34 m34 => (call hkk m33 m34).mono (fun v g35 m35 hp => hp.use (fun t la' ln' lc' ba bn bc ea' en' ec' oa' on' oc' left' op code out' h1 h2 g36 m36 => HJ t la' ln' lc' ba bn bc ea' en' ec' oa' on' oc' left' op code out' ((m33.trans m34).trans m35) m36 h1 h2))) _, rep (fun g34 m34 => (call hkk m33 m34).mono (fun v g35 m35 hp => hp.use (fun t la' ln' lc' ba bn bc ea' en' ec' oa' on' oc' left' op code out' h1 h2 g36 m36 => HJ t la' ln' lc' ba bn bc ea' en' ec' oa' on' oc' left' op code out' ((m33.trans m34).trans m35) m36 h1 h2))) _⟩)⟩
    -- the other nodes
    have hS : stepN (evalN d) x env l1 out = (evL (evalN d) x.kids env l1 out).bind fun ts left out => combN (evalN d) x ts left out := by unfold stepN; rw [if_neg e1, if_neg e2, if_neg e3, if_neg e4, if_neg e10, if_neg e13, if_neg e11, if_neg e9]
    rw [hS]
    have hop : x.dat.op = 5 ∨ x.dat.op = 6 ∨ x.dat.op = 7 ∨ x.dat.op = 8 ∨ x.dat.op = 12 := by omega
    have hbn : ∀ j, bndN x.dat.op j = 0 := bnd_none (by omega)
    have hal : ∀ y ∈ x.kids, formE y ∧ scopedE env.length y ∧ env.length + depthE y ≤ 900 := by
      intro y hy
      obtain ⟨j, hj, rfl⟩ := List.mem_iff_getElem.1 hy
      have h1 := scoped_kid hs (List.getElem?_eq_getElem hj)
      have h2 := depthE_mem (List.getElem_mem hj)
      have h3 : depthE x = depthEL x.kids + 1 := by cases x; rfl
      rw [hbn] at h1
      exact ⟨(formE_un hx).2 _ hy, h1, by omega⟩
    have f1 := evL_ok (eval_ok d) x.kids env l1 out (fun y hy => ⟨(hal y hy).1, (hal y hy).2.1⟩) he ho
    have f2 := evLB (eval_ok d) (eval_okB 900 d) x.kids env l1 out hal he hb ho
    intro g81 m81
    refine (k54 H hal he hb ho (by omega) (by omega) hF (by omega) (hI.exm m81) (hE.exm m81) (hO.exm m81)).mono ?_
    rintro v g82 m82 ⟨ta, tn, tc, oa', on', oc', left', op, code, out', ts, rfl, hO', hor⟩
    have m082 := m81.trans m82
    refine ⟨_, _, _, _, _, _, _, _, _, _, rfl, ifNe (fun q0 g83 m83 g84 m84 g85 m85 => ?_) (fun q0 => ?_)⟩
    · rcases hor with ⟨h, _⟩ | ⟨_, h⟩
      · exact absurd h q0
      · rw [h, Res.bind_stop]
        exact refP_stop zeroT (hO'.exm ((m83.trans m84).trans m85)) q0
    rcases hor with ⟨_, hc, h, hT⟩ | ⟨h, _⟩
    rotate_left
    · exact absurd q0 h
    subst q0
    subst hc
    rw [h] at f1 f2
    rw [h, Res.bind_ok]
    obtain ⟨g1, g2, g3, g4⟩ := f1
    have f2 : ∀ t ∈ ts, OkB 900 t := f2
    have htl := hT.len
    refine ifEq (fun e => ?_) (fun e5 => ?_)
    · have h2 := n5 (.inl e)
      have gF := firstT_get (l := ts) (by omega)
      have gS : ts[1]? = some (ts.getD 1 unitT) := getD_some (by omega)
      have oF := g1 _ (List.mem_of_getElem? gF)
      have oS := g1 _ (List.mem_of_getElem? gS)
      have bF := f2 _ (List.mem_of_getElem? gF)
      have bS := f2 _ (List.mem_of_getElem? gS)
      have hC : combN (evalN d) x ts left' out' = if (ts.getD 0 unitT).op = 7 then evalN d (ts.getD 0 unitT).body (ts.getD 1 unitT :: inner (ts.getD 0 unitT)) left' out' else .stop 4 0 left' out' := by unfold combN; rw [if_pos e]
      rw [hC]
      generalize ts.getD 0 unitT = f at gF oF bF
      generalize ts.getD 1 unitT = u at gS oS bS
      refine ⟨⟨by omega, by omega⟩, rdTh hT 0 rfl gF (fun ad la2 ln2 lc2 ba2 bn2 bc2 ea2 en2 ec2 hI2 hlv g86 m86 => ⟨_, _, _, _, _, _, _, _, _, _, _, _, _, _, _, _, ((live0 (hlv 0 _ rfl)).ex m86).1, ((hlv 1 _ rfl).ex m86).1, ((hlv 2 _ rfl).ex m86).1, ((hlv 3 _ rfl).ex m86).1, ((hlv 4 _ rfl).ex m86).1, ((hlv 5 _ rfl).ex m86).1, ((hlv 6 _ rfl).ex m86).1, ((hlv 7 _ rfl).ex m86).1, ((hlv 8 _ rfl).ex m86).1, ((hlv 9 _ rfl).ex m86).1,
        ifNe (fun q7 g87 m87 => relC (k52 (hO'.exm (m86.trans m87)) (by omega)) (by rw [if_neg q7])) (fun q7 => ?_)⟩)⟩
      rw [if_pos q7]
      intro J3 hJ3
      have hfb : formE f.body ∧ scopedE ((inner f).length + 1) f.body ∧ (inner f).length + 1 + depthE f.body ≤ 900 ∧ (∀ w ∈ inner f, OkT w) ∧ (∀ w ∈ inner f, OkB 900 w) := by
        have hin := ok_inner oF
        obtain ⟨body, self, fenv, rfl, hbo, hsc, hen⟩ := ok_fun oF q7
        obtain ⟨b1, b2⟩ := okB_fun bF
        have hil := inner_len (body := body) (self := self) (env := fenv)
        refine ⟨hbo, by rw [hil]; exact hsc, by rw [hil]; exact b1, hin, fun w hw => ?_⟩
        cases self with
        | false => exact b2 w hw
        | true =>
          rcases List.mem_cons.1 hw with rfl | hw
          · exact bF
          · exact b2 w hw
      obtain ⟨p1, p2, p3, p4, p5⟩ := hfb
      have HJ3 : ∀ (xa : Option Addr) (xl xc : Nat) (g90 : G), Ex g86 g90 → SlE thE g90 xa xl xc (inner f).reverse → J3 xa xl xc g90 := by
        intro xa xl xc g90 m90 hin
        refine hJ3 _ _ _ g90 (fun g91 m91 => ⟨⟨by omega, by omega⟩, rdThX (hT.exm ((m86.trans m90).trans m91)) 1 rfl gS (fun la3 ln3 lc3 ba3 bn3 bc3 ea3 en3 ec3 hU g92 m92 => (k53 (hin.exm (m91.trans m92)) (hU.exm m92) (by omega)).mono ?_)⟩)
        rintro v g93 m93 ⟨ya, yl, yc, rfl, hE2⟩
        have mm := (((m90.trans m91).trans m92).trans m93)
        exact ⟨ya, yl, yc, rfl, fun g94 m94 => relC (H f.body (u :: inner f) left' fuel out' p1 p2 (by rw [List.length_cons]; omega) (fun w hw => (List.mem_cons.1 hw).elim (fun e => e ▸ oS) (p4 w)) (fun w hw => (List.mem_cons.1 hw).elim (fun e => e ▸ bS) (p5 w)) g4 (by omega) (by omega) hF ((hI2.b.exm m86).exm (mm.trans m94)) (hE2.exm m94) (hO'.exm ((m86.trans mm).trans m94))) rfl⟩
      clear hJ3
      refine ifT (fun hs1 g97 m97 => (k53 (env := f.env) (t := f) ((hI2.e.exm m86).exm m97) ((hI2.exm m86).exm m97) ?_).mono ?_) (fun hs1 g99 m99 => HJ3 _ _ _ g99 m99 ?_)
      · have hil : (inner f).length = f.env.length + 1 := by unfold inner; rw [if_pos hs1]; rfl
        omega
      · rintro v g98 m98 ⟨xa, xl, xc, rfl, hE2⟩
        refine ⟨xa, xl, xc, rfl, HJ3 xa xl xc g98 (m97.trans m98) ?_⟩
        have hil : inner f = f :: f.env := by unfold inner; rw [if_pos hs1]
        rw [hil]
        exact hE2
      · have hil : inner f = f.env := by unfold inner; rw [if_neg (by rw [hs1]; simp)]
        rw [hil]
        exact (hI2.e.exm m86).exm m99
    refine ifEq (fun e g100 m100 g101 m101 g102 m102 => ?_) (fun e6 => ?_)
    · have hC : combN (evalN d) x ts left' out' = .ok (recT ts) left' out' := by unfold combN; rw [if_neg e5, if_pos e]
      rw [hC]
      have mm := (m100.trans m101).trans m102
      exact refP_ok (t := recT ts) (hO'.exm mm) ⟨hT.exm mm, SlE.zero _, SlE.zero _⟩
    refine ifEq (fun e => ?_) (fun e7 => ?_)
    · obtain ⟨h2, x0, x1⟩ := n7 (.inl e)
      have gF := firstT_get (l := ts) (by omega)
      have oF := g1 _ (List.mem_of_getElem? gF)
      have hC : combN (evalN d) x ts left' out' = if (ts.getD 0 unitT).op = 3 ∧ x.dat.n < (((ts.getD 0 unitT).l.length : Nat) : Int) then .ok ((ts.getD 0 unitT).l.getD x.dat.n.toNat unitT) left' out' else .stop 4 0 left' out' := by unfold combN; rw [if_neg e5, if_neg e6, if_neg (by omega), if_pos e]
      rw [hC]
      generalize ts.getD 0 unitT = f at gF oF
      intro J4 hJ4 g106 m106
      refine ⟨⟨by omega, by omega⟩, rdTh (hT.exm m106) 0 rfl gF (fun ad la2 ln2 lc2 ba2 bn2 bc2 ea2 en2 ec2 hI2 hlv => ⟨_, (live0 (hlv 0 _ rfl)).1, ifNe (fun q3 => relC (k52 (hO'.exm m106) (by omega)) (by rw [if_neg (fun hh => q3 hh.1)])) (fun q3 => ⟨⟨by omega, by omega⟩, rdTh (hT.exm m106) 0 rfl gF (fun ad3 la3 ln3 lc3 ba3 bn3 bc3 ea3 en3 ec3 hI3 hlv3 => ⟨_, _, _, (hlv3 3 _ rfl).1, ?_⟩)⟩)⟩)⟩
      have hln := hI3.l.len
      refine ifLe (fun q5 => relC (k52 (hO'.exm m106) (by omega)) (by rw [if_neg (by omega)])) (fun q5 => hJ4 _ _ _ _ _ _ _ _ _ _ _ _ _ _ _ _ _ _ _ _ _ _ _ g106 (fun g104 m104 => ⟨⟨by omega, by omega⟩, rdTh (hT.exm (m106.trans m104)) 0 rfl gF (fun ad4 la4 ln4 lc4 ba4 bn4 bc4 ea4 en4 ec4 hI4 hlv4 => ⟨(hlv4 3 _ rfl).2.1, _, _, _, (hlv4 3 _ rfl).1, ⟨by omega, by have := hI4.l.len; omega⟩, rdThX hI4.l x.dat.n.toNat (by omega) (getD_some (by omega)) (fun la5 ln5 lc5 ba5 bn5 bc5 ea5 en5 ec5 hI5 g105 m105 => ?_)⟩)⟩))
      rw [if_pos ⟨q3, by omega⟩]
      exact refP_ok (hO'.exm ((m106.trans m104).trans m105)) (hI5.exm m105)
    refine ifEq (fun e g111 m111 g112 m112 g113 m113 => ?_) (fun e8 g114 m114 => ?_)
    · have hC : combN (evalN d) x ts left' out' = .ok (injT x.dat.n ts) left' out' := by unfold combN; rw [if_neg e5, if_neg e6, if_pos e]
      rw [hC]
      have mm := (m111.trans m112).trans m113
      exact refP_ok (t := injT x.dat.n ts) (hO'.exm mm) ⟨hT.exm mm, SlE.zero _, SlE.zero _⟩
    · have e12 : x.dat.op = 12 := by omega
      obtain ⟨h1, h2, h3⟩ := n12 e12
      have hC : combN (evalN d) x ts left' out' = primN x.dat.n ts left' out' := by unfold combN; rw [if_neg e5, if_neg e6, if_neg e8, if_neg e7]
      rw [hC]
      have hpos := arityN_pos x.dat.n
      exact relC (k55 (hO'.exm m114) g4 ⟨h1, h2⟩ g1 (fun hh => by rw [hh] at g2; simp at g2; omega) (hT.exm m114)) rfl
end Go.Proofs.YtfmjipgcbecamaaDoor
/- The reference's observe, Run; LambdaRuns. -/
set_option linter.unusedVariables false
namespace Go.Proofs.YtfmjipgcbecamaaDoor
open Go Go.Vc Go.RowKit Go.Syn Go.Lam Go.Sort

theorem obsN_ok {t : Th} (h : OkT t) (d left : Nat) : obsN (d + 1) t left = if left = 0 then none else (obsL (obsN d) t.l (left - 1)).map fun p => (.mk ⟨t.op, t.n, t.s, []⟩ p.1, p.2) := by
  show (if left = 0 then none else if t.op = 7 then _ else _) = _
  by_cases q : left = 0
  · rw [if_pos q, if_pos q]
  · rw [if_neg q, if_neg q]
    by_cases e : t.op = 7
    · obtain ⟨body, self, env, rfl, _⟩ := ok_fun h e
      rw [if_pos e]
      rfl
    · rw [if_neg e]
def ObsSay (d : Nat) (t : Th) (left : Nat) (v : Value) (g : G) : Prop := ∃ (z : Sy) (na : Option Addr) (nn nc : Nat) (ka : Option Addr) (kn kc : Nat) (r : Int), v = .tuple ⟨[synV z na nn nc ka kn kc, .int .i64 r]⟩ ∧ SynI g z na nn nc ka kn kc ∧ ((∃ left' : Nat, obsN d t left = some (z, left') ∧ r = ((left' : Nat) : Int) ∧ left' ≤ left) ∨ (obsN d t left = none ∧ r = -1))
/-- observe. -/
theorem k38 : ∀ (d : Nat) (t : Th) (left : Nat) {la : Option Addr} {ln lc : Nat} {ba : Option Addr} {bn bc : Nat} {ea : Option Addr} {en ec : Nat} {g : G}, OkT t → d ≤ 400 → left ≤ 20000 → TRI g t la ln lc ba bn bc ea en ec →
    CallsP Tryd.prog 38 #[.agg ⟨trow t la ln lc ba bn bc ea en ec⟩, .int .i64 ((left : Nat) : Int), .int .i64 ((d : Nat) : Int)] g fun v g' => ObsSay d t left v g' := by
  intro d
  induction d with
  | zero =>
    intro t left la ln lc ba bn bc ea en ec g hok hd hle hI
    refine call38 _ _ _ _ _ _ _ _ _ _ _ _ _ _ _ _ _ _ g _ ?_
    unfold F38
    have no : ∀ g' : G, ObsSay 0 t left (.tuple ⟨[.agg ⟨[.int .i64 t.op, .int .i64 t.n, .string (bstr t.s), .slice none 0 0, .slice none 0 0]⟩, .int .i64 (-1)]⟩) g' := fun g' => ⟨.mk ⟨t.op, t.n, t.s, []⟩ [], none, 0, 0, none, 0, 0, -1, rfl, ⟨SlE.zero _, SlE.zero _⟩, .inr ⟨rfl, rfl⟩⟩
    intro g1 m1 J hJ
    exact ifLt (fun q g12 _ => no g12) (fun q => ifLt (fun q2 g13 _ => no g13) (fun q2 => by omega))
  | succ d ih =>
    intro t left la ln lc ba bn bc ea en ec g hok hd hle hI
    refine call38 _ _ _ _ _ _ _ _ _ _ _ _ _ _ _ _ _ _ g _ ?_
    have hln := hI.l.len
    obtain ⟨hl0, hlo⟩ := ok_l hok
    have hN := obsN_ok hok d left
    unfold F38
    intro g1 m1 J hJ
    refine ifLt (fun q g12 _ => ?_) (fun q => ifLt (fun q2 g13 _ => by omega) (fun q2 g14 m14 => hJ _ _ _ _ _ _ _ _ _ g14 ?_))
    · obtain rfl : left = 0 := by omega
      exact ⟨.mk ⟨t.op, t.n, t.s, []⟩ [], none, 0, 0, none, 0, 0, -1, rfl, ⟨SlE.zero _, SlE.zero _⟩, .inr ⟨rfl, rfl⟩⟩
    clear hJ
    rw [if_neg (by omega)] at hN
    refine ⟨i64 (by omega) (by omega), fun m l1 i v0 v1 v2 v3a v3l v3c v4a v4l v4c g' => ∃ (j : Nat) (ys : List Sy), i = ((j : Nat) : Int) ∧ j + m = ln ∧ v0 = t.op ∧ v1 = t.n ∧ v2 = bstr t.s ∧ v3a = none ∧ v3l = 0 ∧ v3c = 0 ∧ OwnE synE g' g.w.heap.size 30 v4a v4l v4c ys ∧ v4l = j ∧
        ((∃ k : Nat, l1 = ((k : Nat) : Int) ∧ k + 1 ≤ left ∧ obsL (obsN d) (t.l.take j) (left - 1) = some (ys, k)) ∨ (l1 = -1 ∧ obsN (d + 1) t left = none)),
      ⟨ln, 0, [], rfl, by omega, rfl, rfl, rfl, rfl, rfl, rfl, OwnE.nil _ _ _, rfl, .inl ⟨left - 1, by omega, by omega, by rw [List.take_zero]; rfl⟩⟩, ?_⟩
    rintro m l1 i v0 v1 v2 v3a v3l v3c v4a v4l v4c g3 le ⟨j, ys, rfl, hj, rfl, rfl, rfl, rfl, rfl, rfl, hown, rfl, hor⟩
    have le3 : Le g g3 := (m1.le.trans m14.le).trans le
    have res : ∀ g' : G, Ex g3 g' → (∀ k : Nat, l1 = ((k : Nat) : Int) → v4l = t.l.length) → ObsSay (d + 1) t left (.tuple ⟨[.agg ⟨[.int .i64 t.op, .int .i64 t.n, .string (bstr t.s), .slice none 0 0, .slice v4a v4l v4c]⟩, .int .i64 l1]⟩) g' := by
      intro g' m' hall
      refine ⟨.mk ⟨t.op, t.n, t.s, []⟩ ys, none, 0, 0, v4a, v4l, v4c, l1, rfl, ⟨SlE.zero _, hown.sl.exm m'⟩, ?_⟩
      rcases hor with ⟨k, rfl, hk, hL⟩ | ⟨rfl, hn⟩
      · rw [hall k rfl, List.take_length] at hL
        rw [hL] at hN
        exact .inl ⟨k, hN, rfl, by omega⟩
      · exact .inr ⟨hn, rfl⟩
    intro J1 hJ1
    refine ifLt (fun q => ifLe (fun q0 => hJ1 g3 ⟨⟨by omega, by omega⟩, ?_⟩) (fun q0 g10 m10 => res g10 m10 (fun k hk => by omega))) (fun q g11 m11 => res g11 m11 (fun k hk => by omega))
    obtain ⟨k, rfl, hk, hL⟩ : ∃ k : Nat, l1 = ((k : Nat) : Int) ∧ k + 1 ≤ left ∧ obsL (obsN d) (t.l.take v4l) (left - 1) = some (ys, k) := by
      rcases hor with h | ⟨h, _⟩
      · exact h
      · omega
    have gj := List.getElem?_eq_getElem (show v4l < t.l.length by omega)
    generalize t.l[v4l] = u at gj
    have hu := hlo u (List.mem_of_getElem? gj)
    refine rdThC (hI.l.mono le3) v4l rfl gj (fun la2 ln2 lc2 ba2 bn2 bc2 ea2 en2 ec2 hI2 => ⟨i64 (by omega) (by omega), ?_⟩)
    have hc := ih u k hu (by omega) (by omega) hI2
    rw [show ((d : Nat) : Int) = ((d + 1 : Nat) : Int) - 1 by omega] at hc
    refine hc.mono ?_
    rintro v g5 m5 ⟨z, na, nn, nc, ka, kn, kc, r, rfl, hz, hr⟩
    refine ⟨_, _, _, _, _, _, _, _, _, _, rfl, fun g6 m6 g7 n7 => ?_⟩
    have mm := m5.trans m6
    obtain ⟨a', c', w', hrun, g8, hw, hs8, ho8, _, _⟩ := (hown.exm mm).app1 (E := synE) E28 28 (Nat.le_trans le3.size mm.size) n7 (x := z) (hz.exm m6).rep (by omega) (by unfold maxLen; omega)
    refine ⟨a', _, c', w', hrun, g8, hw, hs8, i64 (by omega) (by omega), fun g9 m9 => ⟨m - 1, by omega, v4l + 1, ys ++ [z], by omega, by omega, rfl, rfl, rfl, rfl, rfl, rfl, ho8.exm m9, rfl, ?_⟩⟩
    have htk := obsL_take (obsN d) gj (left - 1)
    rw [hL, Option.bind_some] at htk
    rcases hr with ⟨left', hz', rfl, hlt⟩ | ⟨hz', rfl⟩
    · rw [hz'] at htk
      exact .inl ⟨left', rfl, by omega, htk⟩
    · rw [hz'] at htk
      have hnone := obsL_none (obsN d) htk
      rw [hnone] at hN
      exact .inr ⟨rfl, hN⟩
/-- The reference's Run. -/
theorem k16 {x : E} (hx : formE x) (hs : scopedE 0 x) (hd : depthE x ≤ 400) {fuel : Nat} (hF : fuel ≤ 1048576) {a : Option Addr} {n c : Nat} {g : G} (hI : SlE expE g a n c x.kids) :
    CallsP Tryd.prog 16 #[expV x a n c, .int .i64 ((fuel : Nat) : Int)] g fun v g' => OutI g' (outO x fuel) v := by
  refine call16 _ _ _ _ _ _ _ g _ ?_
  unfold F16
  intro g1 m1
  have hok := eval_ok fuel x [] fuel [] hx hs (by simp) (by simp)
  have hc := k37 fuel x [] fuel fuel [] (g := g1) (ea := none) (en := 0) (ec := 0) (oa := none) (on := 0) (oc := 0) hx hs (by simp; omega) (by simp) (by simp) (by simp) (Nat.le_refl _) (Nat.le_refl _) hF (hI.exm m1) (SlE.zero _) (SlE.zero _)
  rw [show stV fuel fuel none 0 0 0 0 = .agg ⟨[.int .i64 ((fuel : Nat) : Int), .int .i64 0, .slice none 0 0, .int .i64 0, .int .i64 0]⟩ by rw [stV, Int.sub_self]] at hc
  refine hc.mono ?_
  have ho : outO x fuel = ⟨(finR (evalN fuel x [] fuel [])).op, (finR (evalN fuel x [] fuel [])).code, ((fuel : Nat) : Int) - (((finR (evalN fuel x [] fuel [])).left : Nat) : Int), (finR (evalN fuel x [] fuel [])).y, (finR (evalN fuel x [] fuel [])).out⟩ := rfl
  rw [ho]
  generalize evalN fuel x [] fuel [] = r at hok
  rintro v g2 m2 ⟨t, la, ln, lc, ba, bn, bc, ea, en, ec, oa, on, oc, left, op, code, out, rfl, hO, hor⟩
  refine ⟨_, _, _, _, _, _, _, _, _, _, _, _, _, _, _, _, _, _, _, _, _, _, _, rfl, fun g3 m3 => ifNe (fun q g4 m4 g5 m5 => ?_) (fun q g6 m6 => ?_)⟩
  · rcases hor with ⟨h, _⟩ | ⟨_, rfl⟩
    · exact absurd h q
    · exact ⟨none, 0, 0, none, 0, 0, oa, on, oc, rfl, ⟨SlE.zero _, SlE.zero _⟩, hO.exm ((m3.trans m4).trans m5)⟩
  · rcases hor with ⟨_, rfl, rfl, hT⟩ | ⟨h, _⟩
    · refine (k38 400 t 20000 hok.1 (Nat.le_refl _) (Nat.le_refl _) (hT.exm (m3.trans m6))).mono ?_
      rintro v g7 m7 ⟨z, na, nn, nc, ka, kn, kc, r, rfl, hz, hr⟩
      refine ⟨_, _, _, _, _, _, _, _, _, _, rfl, ifLt (fun q2 g8 m8 => ?_) (fun q2 g9 m9 => ?_)⟩
      · rcases hr with ⟨left', _, rfl, _⟩ | ⟨hn, _⟩
        · omega
        · have e : finR (.ok t left out) = ⟨2, 2, left, zeroSy, out⟩ := finR_none hn
          rw [e]
          exact ⟨none, 0, 0, none, 0, 0, oa, on, oc, rfl, ⟨SlE.zero _, SlE.zero _⟩, hO.exm (((m3.trans m6).trans m7).trans m8)⟩
      · rcases hr with ⟨left', hn, rfl, _⟩ | ⟨_, hn⟩
        · have e : finR (.ok t left out) = ⟨1, 0, left, z, out⟩ := finR_some hn
          rw [e]
          exact ⟨na, nn, nc, ka, kn, kc, oa, on, oc, rfl, hz.exm m9, hO.exm (((m3.trans m6).trans m7).trans m9)⟩
        · omega
    · exact absurd q h
/-- LambdaRuns. -/
theorem law3 {x : E} (hx : i64E x) (fuel : Int) {a : Option Addr} {n c : Nat} {g : G} (ht : TabG g) (hI : SlE expE g a n c x.kids) : CallsP Tryd.prog 3 #[expV x a n c, .int .i64 fuel] g fun v _ => v = .bool true := by
  refine call3 _ _ _ _ _ _ _ g _ ?_
  unfold F3
  refine fun g1 m1 => (k9 g1 (ht.exm m1)).mono ?_
  rintro v g2 m2 rfl
  refine ⟨_, rfl, ifF (fun e => by cases e) (fun _ => ?_)⟩
  intro J hJ
  have m02 := m1.trans m2
  have main : ∀ g4, Ex g g4 → J g4 := by
    intro g4 m4
    refine hJ g4 ((k11 hx fuel (hI.exm m4) (ht.exm m4)).mono ?_)
    clear hJ
    rintro v g5 m5 ⟨o, rfl, hO⟩
    have hO' := hO
    obtain ⟨na, nn, nc, ka, kn, kc, oa, on, oc, rfl, _, _⟩ := hO
    refine ⟨_, _, _, _, _, _, _, _, _, _, _, _, _, _, _, _, rfl, ?_⟩
    have m05 := m4.trans m5
    intro J1 hJ1
    have bad : ∀ b g6, Ex g5 g6 → b = true → ¬ closedE x → J1 b g6 := by
      intro b g6 m6 hb hn
      have e : runA x fuel = (zeroO, 1) := by unfold runA; rw [if_neg hn]
      refine hJ1 b g6 (ifT (fun _ => ifEq (fun _ => (k14 (hO'.exm m6)).mono ?_) (fun h => absurd (by rw [e]) h)) (fun h => by rw [hb] at h; cases h))
      rintro v g7 _ rfl
      refine ⟨_, rfl, fun g8 _ => ?_⟩
      rw [e, tf_of zero_same]
    have good : ∀ b g6, Ex g5 g6 → b = false → closedE x → J1 b g6 := by
      intro b g6 m6 hb hc
      refine hJ1 b g6 (ifT (fun h => by rw [hb] at h; cases h) (fun _ => ?_))
      clear hJ1
      intro J2 hJ2
      have rng : ∀ b g10, Ex g5 g10 → b = true → ¬ (0 ≤ fuel ∧ fuel ≤ 1048576) → J2 b g10 := by
        intro b g10 m10 hb hn
        have e : runA x fuel = (zeroO, 2) := by unfold runA; rw [if_pos hc, if_neg hn]
        refine hJ2 b g10 (ifT (fun _ => ifEq (fun _ => (k14 (hO'.exm m10)).mono ?_) (fun h => absurd (by rw [e]) h)) (fun h => by rw [hb] at h; cases h))
        rintro v g11 _ rfl
        refine ⟨_, rfl, fun g12 _ => ?_⟩
        rw [e, tf_of zero_same]
      refine ifLt (fun q => rng _ g6 m6 rfl (fun h => by omega)) (fun q => ?_)
      by_cases q2 : 1048576 < fuel
      · exact rng _ g6 m6 (by rw [ltI_true]; exact q2) (fun h => by omega)
      refine hJ2 _ g6 (ifT (fun h => absurd (by rw [ltI_true] at h; exact h) q2) (fun _ g14 m14 => ?_))
      obtain ⟨F, rfl⟩ : ∃ F : Nat, fuel = ((F : Nat) : Int) := ⟨fuel.toNat, by omega⟩
      have e : runA x ((F : Nat) : Int) = (outO x F, 0) := by unfold runA; rw [if_pos hc, if_pos ⟨by omega, by omega⟩]; rfl
      have m014 := (m05.trans m6).trans m14
      refine ifEq (fun _ => (k16 hc.1.1 hc.2 hc.1.2.2 (by omega) (hI.exm m014)).mono ?_) (fun h => absurd (by rw [e]) h)
      rintro v g15 m15 hP
      have hP' := hP
      obtain ⟨pa, pn, pc, pka, pkn, pkc, qa, qn, qc, rfl, _, _⟩ := hP
      refine ⟨_, _, _, _, _, _, _, _, _, _, _, _, _, _, _, rfl, (k15 (hO'.exm ((m6.trans m14).trans m15)) hP').mono ?_⟩
      rintro v g16 _ rfl
      refine ⟨_, rfl, fun g17 _ => ?_⟩
      rw [e, tf_of ⟨⟨rfl, rfl, rfl, rfl⟩, rfl⟩]
    clear hJ1
    refine fun g19 m19 => (k12 hx (hI.exm (m05.trans m19))).mono ?_
    rintro v g20 m20 rfl
    have m520 := m19.trans m20
    refine ⟨_, rfl, ifPn (fun hn => bad _ g20 m520 rfl (fun h => hn h.1)) (fun hv => (k13 hx hv (hI.exm (m05.trans m520))).mono ?_)⟩
    rintro v g21 m21 ⟨fa, fn, fc, F, rfl, hF, hA⟩
    have hlen := hF.len
    have h0 := asc_nil hA
    refine ⟨_, _, _, rfl, ?_⟩
    by_cases q : F = []
    · rw [q] at hlen
      exact good _ g21 (m520.trans m21) (by rw [ltI_false]; simp at hlen; omega) ⟨hv, h0.1 q⟩
    · have := List.length_pos_iff.2 q
      exact bad _ g21 (m520.trans m21) (by rw [ltI_true]; omega) (fun h => q (h0.2 h.2))
  clear hJ
  refine (k10 x (hI.exm m02)).mono ?_
  rintro v g22 m22 ⟨b, rfl, _⟩
  have m022 := m02.trans m22
  exact ⟨_, rfl, ifT (fun _ g23 _ => rfl) (fun _ => ifLt (fun _ => ifLe (fun _ g24 _ => rfl) (fun _ => main g22 m022)) (fun _ => main g22 m022))⟩
end Go.Proofs.YtfmjipgcbecamaaDoor
