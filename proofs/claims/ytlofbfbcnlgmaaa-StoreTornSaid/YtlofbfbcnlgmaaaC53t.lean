/- The store: what the law on crashes says. -/
import Derived.Test.YtlofbfbcnlgmaaaC53s
set_option linter.unusedVariables false
namespace Go.Proofs.Ytlofbfbcnlgmaaa
open Go Go.Vc Go.RowKit

def kindE (e : Edit) : Nat := if e.del = true then 2 else 1
def dataE (e : Edit) : List UInt8 := if e.del = true then [] else e.data
def recE (e : Edit) : List UInt8 := recB (kindE e) e.key (dataE e)
theorem kindE_lt (e : Edit) : kindE e < 256 := by unfold kindE; split <;> omega
theorem kind_ok (e : Edit) : kindE e = 1 ∨ kindE e = 2 ∧ dataE e = [] := by unfold kindE dataE; split <;> simp
theorem recE_len (e : Edit) : (recE e).length = 11 + e.key.length + (dataE e).length := recB_len _ _ _
theorem dataE_le (e : Edit) : (dataE e).length ≤ e.data.length := by unfold dataE; split <;> simp
noncomputable def codeE (b : List UInt8) (e : Edit) : Int := if tf (okK e.key.length) = false then 2 else if e.del = true ∧ mpF (recsL b) e.key = none then 8 else 0
theorem app_eq (b : List UInt8) (d a : Int) (e : Edit) (hs : okS b.length d a) (hd : e.data.length ≤ 1048576) :
    appR b d a e = if codeE b e = 0 then writeR b (endR b) d a (recE e) else ⟨[], 0, 0, codeE b e⟩ := by
  unfold appR codeE recE kindE dataE
  cases hdel : e.del with
  | true =>
    simp only [if_true, true_and]
    unfold delR
    rw [if_neg (by rw [tf_of hs]; simp)]
    cases hk : tf (okK e.key.length) with
    | true => by_cases hm : mpF (recsL b) e.key = none <;> simp [hm]
    | false => simp
  | false =>
    simp only [Bool.false_eq_true, if_false, false_and]
    unfold putR
    rw [if_neg (by rw [tf_of hs]; simp)]
    cases hk : tf (okK e.key.length) with
    | true => simp; omega
    | false => simp
theorem code_zero {b : List UInt8} {e : Edit} (h : codeE b e = 0) : okK e.key.length := by
  unfold codeE at h
  by_cases hk : okK e.key.length
  · exact hk
  · rw [if_pos (tf_no hk)] at h; cases h
theorem recE_recs (e : Edit) (hk : okK e.key.length) (hd : e.data.length ≤ 1048576) : recsL (recE e) = [⟨kindE e, e.key, dataE e, 11 + e.key.length + (dataE e).length⟩] :=
  recs_one _ _ _ (kind_ok e) hk (Nat.le_trans (dataE_le e) hd)
theorem mp_snoc (rs : List Rec) (r : Rec) (k : List UInt8) : mpF (rs ++ [r]) k = if k = r.key then (if r.kind = 1 then some r.data else none) else mpF rs k := by
  unfold mpF
  rw [List.foldl_append]
  rfl
/-- The store behind a write that did not crash. -/
theorem next_recs (b : List UInt8) (e : Edit) (hk : okK e.key.length) (hd : e.data.length ≤ 1048576) :
    recsL (b.take (endR b) ++ recE e) = recsL b ++ [⟨kindE e, e.key, dataE e, 11 + e.key.length + (dataE e).length⟩] ∧ endR (b.take (endR b) ++ recE e) = (b.take (endR b) ++ recE e).length ∧
    mpF (recsL (b.take (endR b) ++ recE e)) e.key = if e.del = true then none else some e.data := by
  obtain ⟨h1, h2⟩ := take_full b
  have hr : recsL (b.take (endR b) ++ recE e) = recsL b ++ [⟨kindE e, e.key, dataE e, 11 + e.key.length + (dataE e).length⟩] := by
    rw [recs_full _ _ h2, h1, recE_recs e hk hd]
  refine ⟨hr, ?_, ?_⟩
  · have h3 := endR_recs h1
    show ((recsL (b.take (endR b) ++ recE e)).map Rec.len).sum = _
    rw [hr, List.map_append, List.sum_append_nat, List.length_append, recE_len, ← h2, h3]
    rfl
  · rw [hr, mp_snoc, if_pos rfl]
    unfold kindE dataE
    cases e.del <;> simp
theorem full_take {b : List UInt8} (h : endR b = b.length) : b.take (endR b) = b := by rw [h]; exact List.take_length

set_option maxHeartbeats 400000 in
theorem k8 (l : List Edit) (more : Edit) {la ma : Option Addr} {ll lc ml mc : Nat} {g : G} (h : SlE editE g la ll lc l) (hm : SlB g ma ml mc more.data) (after keep : Int) (ha : 0 ≤ after ∧ after ≤ 65535) (hk : 0 ≤ keep ∧ keep ≤ 255) :
    CallsP Try.prog 8 #[.slice la ll lc, .int .u16 after, .int .u8 keep, .agg ⟨[.string (bstr more.key), .slice ma ml mc, .bool more.del]⟩] g fun v _ => v = .bool true := by
  refine call8 la ll lc after keep (bstr more.key) ma ml mc more.del g _ ?_
  have hll := h.len
  unfold F8
  intro J hJ
  suffices main : (l.length ≤ 30 ∧ ∀ e ∈ l, small e) → small more → ∀ g1, Ex g g1 → J g1 by
    refine fun g33 m33 => (k10 g33).mono ?_
    rintro v g34 m34 rfl
    refine ⟨_, rfl, (k30 l (h.exm (m33.trans m34))).mono ?_⟩
    rintro v g37 m37 rfl
    refine ⟨_, rfl, ifPn (fun _ => (k10 g37).mono ?_) (fun hs g52 n52 => ?_)⟩
    · rintro v g38 m38 rfl
      exact ⟨_, rfl, fun g39 m39 => rfl⟩
    have hone : SlE editE g52 (some ⟨g37.w.heap.size, 0, none⟩) 1 1 [more] :=
      n52.sle (xs := [more]) (Rws.single (E := editE) (g := g37) ⟨ma, ml, mc, rfl, hm.ex ((m33.trans m34).trans m37)⟩) (by unfold maxLen; simp)
    refine (k30 [more] hone).mono ?_
    rintro v g53 m53 rfl
    refine ⟨_, rfl, ifPn (fun _ => (k10 g53).mono ?_) (fun hs2 => main hs (hs2.2 more (by simp)) _ ((((m33.trans m34).trans m37).trans n52.ex).trans m53))⟩
    rintro v g38 m38 rfl
    exact ⟨_, rfl, fun g39 m39 => rfl⟩
  rintro ⟨hlen, hsm⟩ hmore g1 m1
  have kk : ∀ (g : G) (a : Int), -1 ≤ a → a ≤ 1048576 → CallsP Try.prog 22 #[.int .i64 a] g fun v _ => v = resV none 0 0 0 a 0 := by
    intro g a h1 h2
    refine (k22 a g).mono ?_
    rintro v g' _ rfl
    rw [if_pos ⟨h1, h2⟩]
  refine hJ g1 ⟨i64 (by omega) (by omega), (kk g1 after (by omega) (by omega)).mono ?_⟩
  rintro v g2 m2 rfl
  refine ⟨_, _, _, _, _, _, rfl, fun g3 m3 => (kk g3 (-1) (by omega) (by omega)).mono ?_⟩
  rintro v g4 m4 rfl
  refine ⟨_, _, _, _, _, _, rfl, ?_⟩
  intro J1 hJ1
  have hm4 := hm.ex (((m1.trans m2).trans m3).trans m4)
  have h4 := h.exm (((m1.trans m2).trans m3).trans m4)
  suffices main1 : ∀ g5, Ex g4 g5 → J1 g5 by
    exact ifNe (fun hh => absurd rfl hh) (fun _ => ifNe (fun hh => absurd rfl hh) (fun _ g44 m44 => main1 g44 m44))
  intro g5 m5
  refine hJ1 g5 ?_
  have hm5 := hm4.ex m5
  have h5 := h4.exm m5
  intro J2 hJ2
  -- the end: a crash, and one more edit
  have last : ∀ (b t : List UInt8) (W : List Ent) (oa : Option Addr) (on oc : Nat) (wa : Option Addr) (wn wc : Nat) (sa : Option Addr) (sn sc : Nat) (s2 : Int) (g6 : G), Le g5 g6 →
      b.length + t.length ≤ 100000 → (-1 ≤ s2 ∧ s2 ≤ 1048576) → SlB g6 sa sn sc (b ++ t) → SlE entE g6 oa on oc (enL (recsL b)) → SlE entE g6 wa wn wc W →
      (∀ q, enL (recsL (b ++ t.take q)) = enL (recsL b) ∨ enL (recsL (b ++ t.take q)) = W) → J2 oa on oc wa wn wc sa sn sc (b.length : Nat) s2 g6 := by
    intro b t W oa on oc wa wn wc sa sn sc s2 g6 le6 hsz hs2 hb ho hw hq
    have hbl := SlB.length hb
    rw [List.length_append] at hbl
    refine hJ2 _ _ _ _ _ _ _ _ _ _ _ _ ⟨i64 (by omega) (by omega), (k23 _ hb _ _ keep (i64 (by omega) (by omega))).mono ?_⟩
    have hmin : 0 ≤ minI keep ((sn : Int) - (b.length : Nat)) ∧ minI keep ((sn : Int) - (b.length : Nat)) ≤ t.length := by unfold minI; split <;> omega
    obtain ⟨x, hx⟩ : ∃ x : Nat, minI keep ((sn : Int) - (b.length : Nat)) = x := ⟨(minI keep ((sn : Int) - (b.length : Nat))).toNat, by omega⟩
    have hxt : x ≤ t.length := by omega
    have ec : crashR (b ++ t) (b.length : Nat) s2 keep = ⟨b ++ t.take x, (b.length : Nat) + (x : Int), -1, 0⟩ := by
      unfold crashR
      rw [List.length_append, hbl, if_neg (by rw [tf_of (by unfold okS; omega)]; simp), if_neg (by omega), hx]
      congr 1
      rw [show ((b.length : Nat) : Int) + (x : Int) = ((b.length + x : Nat) : Int) by omega, Int.toNat_natCast, List.take_length_add_append]
    rw [ec]
    rintro v g7 m7 ⟨ca, cn, cc, rfl, hc⟩
    have hcl := SlB.length hc
    rw [List.length_append, List.length_take, Nat.min_eq_left hxt] at hcl
    have hcs : okS (b ++ t.take x).length ((b.length : Nat) + (x : Int)) (-1) := by
      rw [List.length_append, List.length_take, Nat.min_eq_left hxt]; unfold okS; omega
    refine ⟨_, _, _, _, _, _, rfl, fun g8 m8 => (k27 _ (hc.ex m8) _ _).mono ?_⟩
    rintro v g9 m9 (⟨hn, _⟩ | ⟨_, pa, pl, pc, rfl, hp⟩)
    · exact absurd hcs hn
    refine ⟨_, _, _, _, rfl, ?_⟩
    intro J3 hJ3
    have fin : ∀ g10, Ex g9 g10 → J3 g10 := by
      intro g10 m10
      have hc10 := hc.ex ((m8.trans m9).trans m10)
      have hm10 := (((hm5.mono le6).ex m7).ex (m8.trans m9)).ex m10
      refine hJ3 g10 ((k31 _ more hc10 hm10 _ _).mono ?_)
      have hmd : more.data.length ≤ 1048576 := by have := hmore.2; omega
      have eapp := app_eq _ _ _ more hcs hmd
      rintro v g11 m11 ⟨ra, rn, rc, rfl, hr⟩
      have hrl := SlB.length hr
      refine ⟨_, _, _, _, _, _, rfl, ?_⟩
      by_cases hcode : codeE (b ++ t.take x) more = 0
      · rw [if_pos hcode] at eapp
        have hkey := code_zero hcode
        obtain ⟨n1, n2, n3⟩ := next_recs (b ++ t.take x) more hkey hmd
        have hel := endR_le (b ++ t.take x)
        have hrel := recE_len more
        have hdle := dataE_le more
        have hsmall := hmore
        unfold small at hsmall
        have ew : writeR (b ++ t.take x) (endR (b ++ t.take x)) ((b.length : Nat) + (x : Int)) (-1) (recE more) = ⟨(b ++ t.take x).take (endR (b ++ t.take x)) ++ recE more, ((endR (b ++ t.take x) + (recE more).length : Nat) : Int), -1, 0⟩ := by
          unfold writeR
          rw [List.length_append, List.length_take, Nat.min_eq_left hxt] at hel
          rw [if_neg (by omega), if_pos (by omega)]
        rw [ew] at eapp
        rw [eapp] at hr hrl ⊢
        have hlen2 : ((b ++ t.take x).take (endR (b ++ t.take x)) ++ recE more).length = endR (b ++ t.take x) + (recE more).length := by
          rw [List.length_append, List.length_take, Nat.min_eq_left hel]
        rw [hlen2] at hrl
        have hrs : okS ((b ++ t.take x).take (endR (b ++ t.take x)) ++ recE more).length ((endR (b ++ t.take x) + (recE more).length : Nat) : Int) (-1) := by
          rw [hlen2]
          rw [List.length_append, List.length_take, Nat.min_eq_left hxt] at hel
          unfold okS; omega
        refine ifNe (fun hh => absurd rfl hh) (fun _ g13 m13 => (k35 _ more.key (hr.ex m13) _ _).mono ?_)
        intro v g14 m14 hget
        rcases hget with ⟨hh, _⟩ | ⟨_, hh, _⟩ | ⟨_, _, hnone, rfl⟩ | ⟨_, _, y, ya, yn, yc, hsome, rfl, hy⟩
        · exact absurd hrs hh
        · exact absurd hkey hh
        · rw [n3] at hnone
          cases hdel : more.del with
          | true => exact ⟨_, _, _, _, rfl, ifT (fun _ g15 m15 => congrArg Value.bool (eqI_true.mpr rfl)) (fun hh => by cases hh)⟩
          | false => rw [hdel] at hnone; cases hnone
        · rw [n3] at hsome
          cases hdel : more.del with
          | true => rw [hdel] at hsome; cases hsome
          | false =>
            rw [hdel] at hsome
            cases hsome
            refine ⟨_, _, _, _, rfl, ifT (fun hh => by cases hh) (fun _ => ifEq (fun _ => (k38 _ _ hy (hm10.ex ((m11.trans m13).trans m14))).mono ?_) (fun hh => absurd rfl hh))⟩
            rintro v g16 m16 rfl
            refine ⟨_, rfl, ifP (fun _ g17 m17 => congrArg Value.bool (eqI_true.mpr ?_)) (fun hh => absurd rfl hh)⟩
            show ((endR (b ++ t.take x) + (recE more).length : Nat) : Int) = (rn : Nat)
            omega
      · rw [if_neg hcode] at eapp
        rw [eapp] at hrl ⊢
        refine ifNe (fun _ g12 m12 => congrArg Value.bool (eqI_true.mpr ?_)) (fun hh => absurd hh hcode)
        have : rn = 0 := hrl.symm
        omega
    have ho9 := ho.exm ((m7.trans m8).trans m9)
    have hw9 := hw.exm ((m7.trans m8).trans m9)
    refine ifNe (fun hh => absurd rfl hh) (fun _ => ifNe (fun hh => absurd rfl hh) (fun _ => (k28 _ _ hp ho9).mono ?_))
    rintro v g22 m22 rfl
    refine ⟨_, rfl, ifPn (fun hne => (k28 _ _ (hp.exm m22) (hw9.exm m22)).mono ?_) (fun _ => fin g22 m22)⟩
    rintro v g23 m23 rfl
    refine ⟨_, rfl, ifPn (fun hne2 => ?_) (fun _ => fin g23 (m22.trans m23))⟩
    rcases hq x with h | h
    · exact absurd h hne
    · exact absurd h hne2
  refine ⟨fun m oa on oc wa wn wc i sa sn sc s1 s2 xa xn xc x1 x2 g25 => ∃ (j : Nat) (b : List UInt8), i = j ∧ j + m = ll ∧ endR b = b.length ∧ b.length ≤ 300 * j ∧ s1 = (b.length : Nat) ∧ x1 = (b.length : Nat) ∧ x2 = -1 ∧ 0 ≤ s2 ∧ s2 ≤ 65535 ∧
      SlB g25 sa sn sc b ∧ SlB g25 xa xn xc b ∧ SlE entE g25 oa on oc (enL (recsL b)) ∧ SlE entE g25 wa wn wc (enL (recsL b)),
    ⟨ll, 0, [], rfl, by omega, rfl, by simp, rfl, rfl, rfl, ha.1, ha.2, Sl.zero _ _, Sl.zero _ _, SlE.zero _, SlE.zero _⟩, ?_⟩
  rintro m oa on oc wa wn wc i sa sn sc s1 s2 xa xn xc x1 x2 g25 le25 ⟨j, b, rfl, hjm, hfull, hbl, rfl, rfl, rfl, hs20, hs21, hs, hx, ho, hw⟩
  have hl25 := h5.mono le25
  refine ifLt (fun hlt => ⟨⟨by omega, by omega⟩, ?_⟩) (fun hge => ?_)
  · have hj : j < l.length := by omega
    have gj := List.getElem?_eq_getElem hj
    have hmem := List.mem_of_getElem? gj
    have hse := hsm _ hmem
    generalize l[j] = e at gj hmem hse
    refine hl25.rd (i := j) gj ?_
    rintro r ad ⟨ea, en, ec, rfl, hd⟩ hr
    rw [Int.toNat_natCast]
    refine ⟨bstr e.key, ea, en, ec, e.del, ?_, (hr 1 _ rfl).1, (hr 2 _ rfl).1, fun g26 m26 => (k31 b e (hs.ex m26) (hd.ex m26) _ _).mono ?_⟩
    · have := (hr 0 _ rfl).1
      rwa [Addr.add_zero'] at this
    rintro v g27 m27 ⟨ya, yn, yc, rfl, hy⟩
    refine ⟨_, _, _, _, _, _, rfl, fun g28 m28 => (k31 b e (hx.ex ((m26.trans m27).trans m28)) (hd.ex ((m26.trans m27).trans m28)) _ _).mono ?_⟩
    rintro v g29 m29 ⟨za, zn, zc, rfl, hz⟩
    refine ⟨_, _, _, _, _, _, rfl, ?_⟩
    have m' := ((m26.trans m27).trans m28).trans m29
    unfold small at hse
    have hdl : e.data.length ≤ 1048576 := by omega
    have e1 := app_eq b (b.length : Nat) s2 e (by unfold okS; omega) hdl
    have e2 := app_eq b (b.length : Nat) (-1) e (by unfold okS; omega) hdl
    have hy29 := hy.ex (m28.trans m29)
    by_cases hcode : codeE b e = 0
    · rw [if_pos hcode] at e1 e2
      have hkey := code_zero hcode
      obtain ⟨n1, n2, n3⟩ := next_recs b e hkey hdl
      rw [full_take hfull] at n1 n2 n3
      have hrel := recE_len e
      have hdle := dataE_le e
      have ew2 : writeR b (endR b) (b.length : Nat) (-1) (recE e) = ⟨b ++ recE e, ((b ++ recE e).length : Nat), -1, 0⟩ := by
        unfold writeR
        rw [full_take hfull, hfull, if_neg (by omega), if_pos (by omega), List.length_append]
      rw [ew2] at e2
      rw [e2] at hz ⊢
      have hzl := SlB.length hz
      have hzs : okS (b ++ recE e).length ((b ++ recE e).length : Nat) (-1) := by unfold okS; rw [List.length_append]; omega
      have ew1 : (writeR b (endR b) (b.length : Nat) s2 (recE e) = ⟨b ++ (recE e).take s2.toNat, (b.length : Nat), 0, 30⟩ ∧ s2 ≤ (recE e).length) ∨
          (writeR b (endR b) (b.length : Nat) s2 (recE e) = ⟨b ++ recE e, ((b ++ recE e).length : Nat), s2 - (recE e).length, 0⟩ ∧ (recE e).length < s2) := by
        unfold writeR
        rw [full_take hfull, hfull, if_neg (by omega), if_neg (by omega)]
        by_cases hc : s2 ≤ (recE e).length
        · refine .inl ⟨?_, hc⟩
          rw [if_pos hc]
          congr 1
          unfold minI; split <;> omega
        · refine .inr ⟨?_, by omega⟩
          rw [if_neg hc, List.length_append]
      -- what stands behind the calls
      have ents : ∀ g30, Ex g29 g30 → ∀ (Q : Value → G → Prop), (∀ pa pl pc g33, Ex g30 g33 → SlE entE g33 pa pl pc (enL (recsL (b ++ recE e))) → Q (rsV pa pl pc 0) g33) → CallsP Try.prog 27 #[stV za zn zc ((b ++ recE e).length : Nat) (-1)] g30 Q := by
        intro g30 m30 Q hQ
        refine (k27 _ (hz.ex m30) _ _).mono ?_
        rintro v g33 m33 (⟨hn, _⟩ | ⟨_, pa, pl, pc, rfl, hp⟩)
        · exact absurd hzs hn
        · exact hQ pa pl pc g33 m33 hp
      rcases ew1 with ⟨ew, hcr⟩ | ⟨ew, hcr⟩
      · -- the crash
        rw [ew] at e1
        rw [e1] at hy29 ⊢
        intro J4 hJ4
        refine ifNe (fun _ => ifNe (fun hh => absurd rfl hh) (fun _ g40 m40 => hJ4 _ (ifNe (fun hh => absurd rfl hh) (fun _ g32 m32 => ents g32 (m40.trans m32) _ ?_)))) (fun hh => by cases hh)
        intro pa pl pc g33 m33 hp
        have mm := (m40.trans m32).trans m33
        refine ⟨_, _, _, _, rfl, ifNe (fun hh => absurd rfl hh) (fun _ => ifEq (fun _ => last b ((recE e).take s2.toNat) (enL (recsL (b ++ recE e))) oa on oc pa pl pc ya yn yc 0 g33 ?_ ?_ (by omega) (hy29.ex mm) (ho.exm (m'.trans mm)) hp ?_) (fun hh => absurd rfl hh))⟩
        · exact le25.trans (m'.trans mm).le
        · rw [List.length_take]; omega
        · intro q
          rw [List.take_take]
          by_cases hq : min q s2.toNat < 11 + e.key.length + (dataE e).length
          · refine .inl ?_
            rw [recs_full _ _ hfull, recsL_none (show firstR (List.take (min q s2.toNat) (recE e)) = none from first_short (kindE e) e.key (dataE e) hkey.2 (by omega) hq), List.append_nil]
          · refine .inr ?_
            rw [List.take_of_length_le (by rw [hrel]; omega)]
      · rw [ew] at e1
        rw [e1] at hy29 ⊢
        intro J4 hJ4
        have hyl := SlB.length hy29
        refine ifNe (fun hh => absurd rfl hh) (fun _ g41 m41 => hJ4 _ (ifNe (fun hh => absurd rfl hh) (fun _ g32 m32 => ents g32 (m41.trans m32) _ ?_)))
        intro pa pl pc g33 m33 hp
        have mm := (m41.trans m32).trans m33
        refine ⟨_, _, _, _, rfl, ifNe (fun hh => absurd rfl hh) (fun _ => ifEq (fun hh => by cases hh) (fun _ => ifNe (fun hh => absurd (by rw [hyl]) hh) (fun _ g36 m36 => ⟨i64 (by omega) (by omega), fun g37 m37 => ⟨m - 1, by omega, j + 1, b ++ recE e, by omega, by omega, n2, ?_, rfl, rfl, rfl, by show 0 ≤ s2 - (((recE e).length : Nat) : Int); omega, by show s2 - (((recE e).length : Nat) : Int) ≤ 65535; omega, ?_, ?_, ?_, ?_⟩⟩)))⟩
        · rw [List.length_append]; omega
        · exact hy29.ex ((mm.trans m36).trans m37)
        · exact hz.ex ((mm.trans m36).trans m37)
        · exact hp.exm (m36.trans m37)
        · exact hp.exm (m36.trans m37)
    · rw [if_neg hcode] at e1 e2
      rw [e1, e2]
      intro J4 hJ4
      have h30 : codeE b e ≠ 30 := by
        unfold codeE
        split
        · omega
        · split <;> omega
      refine ifNe (fun _ => ifNe (fun _ => ifNe (fun hh => absurd rfl hh) (fun _ => ⟨i64 (by omega) (by omega), fun g39 m39 => ⟨m - 1, by omega, j + 1, b, by omega, by omega, hfull, by omega, rfl, rfl, rfl, hs20, hs21, ?_, ?_, ?_, ?_⟩⟩)) (fun hh => absurd hh h30)) (fun hh => absurd hh hcode)
      · exact hs.ex (m'.trans m39)
      · exact hx.ex (m'.trans m39)
      · exact ho.exm (m'.trans m39)
      · exact hw.exm (m'.trans m39)
  · refine last b [] (enL (recsL b)) oa on oc wa wn wc sa sn sc s2 g25 le25 (by simp; omega) (by omega) (by rw [List.append_nil]; exact hs) ho hw (fun q => .inl (by simp))
end Go.Proofs.Ytlofbfbcnlgmaaa
