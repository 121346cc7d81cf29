/- The store: the law on a torn store. -/
import Derived.Test.YtlofbfbcnlgmaaaC53x
import Derived.Test.YtlofbfbcnlgmaaaVfa
set_option linter.unusedVariables false
namespace Go.Proofs.Ytlofbfbcnlgmaaa
open Go Go.Vc Go.RowKit

def newE : Edit := ⟨[122], [110, 101, 119], false⟩
theorem code_nil' {b : List UInt8} {e : Edit} (h : okK e.key.length) (h1 : ¬ (e.del = true ∧ mpF (recsL b) e.key = none)) : codeE b e = 0 := by unfold codeE; rw [if_neg (by rw [tf_of h]; simp), if_neg h1]
theorem vs_set (b : List UInt8) (k : Nat) (y : UInt8) : (vs .u8 (nums b)).set k (.int .u8 ((y.toNat : Nat) : Int)) = vs .u8 (nums (b.set k y)) := by
  unfold vs nums
  rw [List.map_set, List.map_set]
theorem vs_at (b : List UInt8) (k : Nat) (h : k < b.length) : (vs .u8 (nums b))[k]? = some (.int .u8 ((b[k].toNat : Nat) : Int)) := by
  unfold vs nums
  simp [h]

set_option maxHeartbeats 1000000 in
theorem k6 (l : List Edit) {la : Option Addr} {ll lc : Nat} {g : G} (h : SlE editE g la ll lc l) (at0 bit : Int) (ha : 0 ≤ at0 ∧ at0 ≤ 65535) (hb : 0 ≤ bit ∧ bit ≤ 255) :
    CallsP Try.prog 6 #[.slice la ll lc, .int .u16 at0, .int .u8 bit] g fun v _ => v = .bool true := by
  refine Torn.call6 la ll lc at0 bit g _ ?_
  have hll := h.len
  unfold Torn.F6
  intro J hJ
  suffices main : (l.length ≤ 30 ∧ ∀ e ∈ l, small e) → ∀ g1, Ex g g1 → J g1 by
    refine (k10 g).mono ?_
    rintro v g34 m34 rfl
    refine ⟨_, rfl, (k30 l (h.exm m34)).mono ?_⟩
    rintro v g37 m37 rfl
    refine ⟨_, rfl, ifPn (fun _ => (k10 g37).mono ?_) (fun hs => main hs _ (m34.trans m37))⟩
    rintro v g38 m38 rfl
    exact ⟨_, rfl, fun g39 m39 => rfl⟩
  rintro ⟨hlen, hsm⟩ g1 m1
  refine hJ g1 ((k22 (-1) g1).mono ?_)
  rintro v g2 m2 rfl
  have h2 := h.exm (m1.trans m2)
  have hg2 : g.w.heap.size ≤ g2.w.heap.size := (m1.trans m2).size
  refine ⟨none, 0, 0, 0, -1, 0, by rw [if_pos (by decide)]; rfl, ifNe (fun hh => absurd rfl hh) (fun _ => ?_)⟩
  refine ⟨fun m ba bn bc ea en ec i sa sn sc s1 s2 g5 => ∃ (j : Nat) (b : List UInt8) (B : List (List Ent)) (Es : List Nat), i = j ∧ j + m = ll ∧ b.length ≤ 300 * j ∧ s1 = (b.length : Nat) ∧ s2 = -1 ∧ SlB g5 sa sn sc b ∧ Torn B Es b ∧
      OwnE listE g5 g2.w.heap.size 36 ba bn bc B ∧ OwnE intE g5 g2.w.heap.size 3 ea en ec Es ∧ (∀ x, blkOf ba x → ¬ blkOf ea x) ∧ g2.w.heap.size ≤ g5.w.heap.size ∧ Es.length ≤ j,
    fun g4 m4 => ⟨ll, 0, [], [], [], rfl, by omega, by simp, rfl, rfl, Sl.zero _ _, ⟨rfl, by simp, by simp, rfl, by simp, by simp, by simp⟩, OwnE.nil _ _ _, OwnE.nil _ _ _, fun x hx => by (obtain ⟨_, e, _⟩ := hx; cases e), m4.size, Nat.le_refl _⟩, ?_⟩
  rintro m ba bn bc ea en ec i sa sn sc s1 s2 g5 le5 ⟨j, b, B, Es, rfl, hjm, hbl, rfl, rfl, hs, ht, hob, hoe, hdis, hsz5, hej⟩
  have hok5 : okS b.length (b.length : Nat) (-1) := by
    unfold okS
    have : j ≤ 30 := by omega
    omega
  have hl5 := h2.mono le5
  have hbn := hob.sl.len
  have hen := hoe.sl.len
  have htl := ht.len
  have hsn := SlB.length hs
  refine ifLt (fun hlt => ⟨⟨by omega, by omega⟩, ?_⟩) (fun hge => ?_)
  · have hj : j < l.length := by omega
    have gj := List.getElem?_eq_getElem hj
    have hmem := List.mem_of_getElem? gj
    have hse := hsm _ hmem
    generalize l[j] = e at gj hmem hse
    refine hl5.rd (i := j) gj ?_
    rintro r ad ⟨da, dn, dc, rfl, hd⟩ hr
    unfold small at hse
    have hdl : e.data.length ≤ 1048576 := by omega
    rw [Int.toNat_natCast]
    refine ⟨bstr e.key, da, dn, dc, e.del, ?_, (hr 1 _ rfl).1, (hr 2 _ rfl).1, fun g6 m6 => (k31 b e (hs.ex m6) (hd.ex m6) _ _).mono ?_⟩
    · have := (hr 0 _ rfl).1
      rwa [Addr.add_zero'] at this
    rintro v g7 m7 ⟨ya, yn, yc, rfl, hy⟩
    have e1 := app_eq b (b.length : Nat) (-1) e hok5 hdl
    refine ⟨_, _, _, _, _, _, rfl, ?_⟩
    have hj30 : j ≤ 30 := by omega
    by_cases hcode : codeE b e = 0
    · rw [if_pos hcode] at e1
      have hkey := code_zero hcode
      obtain ⟨n1, n2, n3⟩ := next_recs b e hkey hdl
      rw [full_take ht.full] at n1 n2 n3
      have hrel := recE_len e
      have hdle := dataE_le e
      have hfull := ht.full
      have ew : writeR b (endR b) (b.length : Nat) (-1) (recE e) = ⟨b ++ recE e, ((b ++ recE e).length : Nat), -1, 0⟩ := by
        unfold writeR
        rw [full_take hfull, hfull, if_neg (by omega), if_pos (by omega), List.length_append]
      rw [ew] at e1
      rw [e1] at hy ⊢
      have hyl := SlB.length hy
      have hbl2 : (b ++ recE e).length ≤ 300 * (j + 1) := by rw [List.length_append]; omega
      refine ifNe (fun hh => absurd rfl hh) (fun _ g9 m9 => (k27 b (hs.ex ((m6.trans m7).trans m9)) _ _).mono ?_)
      rintro v g10 m10 (⟨hn, _⟩ | ⟨_, pa, pl, pc, rfl, hp⟩)
      · exact absurd hok5 hn
      refine ⟨_, _, _, _, rfl, ifNe (fun hh => absurd rfl hh) (fun _ g12 m12 => ?_)⟩
      have mm := ((((m6.trans m7).trans m9).trans m10).trans m12)
      have hob12 := hob.exm mm
      have hoe12 := hoe.exm mm
      have hp12 := hp.exm m12
      have hy12 := hy.ex ((m9.trans m10).trans m12)
      have hsz12 : g2.w.heap.size ≤ g12.w.heap.size := Nat.le_trans hsz5 mm.size
      have next : ∀ (gx : G) (a' : Option Addr) (c' : Nat) (e' : Option Addr) (d' : Nat), Le g12 gx → OwnE listE gx g2.w.heap.size 36 a' (bn + 1) c' (B ++ [enL (recsL b)]) → OwnE intE gx g2.w.heap.size 3 e' (en + 1) d' (Es ++ [yn]) → (∀ x, blkOf a' x → ¬ blkOf e' x) → g2.w.heap.size ≤ gx.w.heap.size →
          ∃ m_1, m_1 < m ∧ ∃ (j' : Nat) (b' : List UInt8) (B' : List (List Ent)) (Es' : List Nat), ((j : Nat) : Int) + 1 = (j' : Nat) ∧ j' + m_1 = ll ∧ b'.length ≤ 300 * j' ∧ (((b ++ recE e).length : Nat) : Int) = (b'.length : Nat) ∧ (-1 : Int) = -1 ∧ SlB gx ya yn yc b' ∧ Torn B' Es' b' ∧
            OwnE listE gx g2.w.heap.size 36 a' (bn + 1) c' B' ∧ OwnE intE gx g2.w.heap.size 3 e' (en + 1) d' Es' ∧ (∀ x, blkOf a' x → ¬ blkOf e' x) ∧ g2.w.heap.size ≤ gx.w.heap.size ∧ Es'.length ≤ j' := by
        intro gx a' c' e' d' hle h1 h2 h3 h4
        rw [← hyl] at h2
        exact ⟨m - 1, by omega, j + 1, b ++ recE e, B ++ [enL (recsL b)], Es ++ [(b ++ recE e).length], by omega, by omega, hbl2, rfl, rfl, hy12.mono hle, ht.snoc n2, h1, h2, h3, h4, by simp; omega⟩
      have hrepL : ∀ gx, Le g12 gx → listE.rep gx [.slice pa pl pc] (enL (recsL b)) := fun gx hle => ⟨pa, pl, pc, rfl, hp12.mono hle⟩
      refine ⟨blkOf ba, fun z hz hx => ?_, fun g13 n13 => ⟨?_, fun g17 n17 => ?_⟩, fun g20 n20 g21 n21 => ?_⟩
      · obtain ⟨ad, rfl, rfl⟩ := hz
        obtain ⟨L, ho, _⟩ := hob12.ex
        rcases ho.row with ⟨h0, _⟩ | ⟨x, cur, h1, _, _, _, _, _, _, h8, _⟩
        · cases h0
        · cases h1; exact h8 hx
      · have hN : SlE listE g13 (some ⟨g12.w.heap.size, 0, none⟩) 1 1 [enL (recsL b)] := n13.sle (xs := [enL (recsL b)]) (Rws.single (hrepL g12 (Le.refl _))) (by unfold maxLen; simp)
        obtain ⟨a', c', w', hr1, g14, hw14, hst14, hsame, hk⟩ := two (y := yn) (Nat.le_trans hsz12 n13.ex.size) (hob12.exm n13.ex) (hoe12.exm n13.ex) hdis hN (by omega) (by omega)
        refine ⟨a', _, c', w', hr1, g14, hw14, hst14.mono hg2 (fun _ _ h => h.elim), fun z hz hx hne => (hsame z (Nat.lt_of_lt_of_le hz n13.ex.size) hne).trans (n13.ex.same z hz hx), fun g15 n15 => ?_⟩
        obtain ⟨e', d', w2, hr2, g16, hw16, hst16, h1, h2, h3, h4, h5⟩ := hk g15 _ n15.ex (n15.sle (xs := [yn]) (Rws.single (E := intE) rfl) (by unfold maxLen; simp))
        exact ⟨e', _, d', w2, hr2, g16, hw16, hst16.mono hg2 (fun _ _ h => h.elim), i64 (by omega) (by omega), next g16 a' c' e' d' (n13.ex.le.trans h4) h1 h2 h3 h5⟩
      · have hN : SlE listE g17 (some ⟨g12.w.heap.size, 0, none⟩) 1 1 [enL (recsL b)] := (n13.sle (xs := [enL (recsL b)]) (Rws.single (hrepL g12 (Le.refl _))) (by unfold maxLen; simp)).exm n17.ex
        have hM : SlE intE g17 (some ⟨g13.w.heap.size, 0, none⟩) 1 1 [yn] := n17.sle (xs := [yn]) (Rws.single (E := intE) rfl) (by unfold maxLen; simp)
        have m17 := n13.ex.trans n17.ex
        obtain ⟨a', c', w', hr1, g18, hw18, hst18, hsame, hk⟩ := two (y := yn) (Nat.le_trans hsz12 m17.size) (hob12.exm m17) (hoe12.exm m17) hdis hN (by omega) (by omega)
        obtain ⟨e', d', w2, hr2, g19, hw19, hst19, h1, h2, h3, h4, h5⟩ := hk g18 _ (Ex.refl _) (hM.mono hst18.le)
        exact ⟨a', _, c', w', hr1, g18, hw18, hst18.mono hg2 (fun _ _ h => h.elim), fun z hz hx hne => (hsame z (Nat.lt_of_lt_of_le hz m17.size) hne).trans (m17.same z hz hx), e', _, d', w2, hr2, g19, hw19, hst19.mono hg2 (fun _ _ h => h.elim), i64 (by omega) (by omega), next g19 a' c' e' d' (m17.le.trans h4) h1 h2 h3 h5⟩
      · have hM : SlE intE g21 (some ⟨g12.w.heap.size, 0, none⟩) 1 1 [yn] := (n20.sle (xs := [yn]) (Rws.single (E := intE) rfl) (by unfold maxLen; simp)).exm n21.ex
        have hN : SlE listE g21 (some ⟨g20.w.heap.size, 0, none⟩) 1 1 [enL (recsL b)] := n21.sle (xs := [enL (recsL b)]) (Rws.single (hrepL g20 n20.ex.le)) (by unfold maxLen; simp)
        have m21 := n20.ex.trans n21.ex
        obtain ⟨a', c', w', hr1, g22, hw22, hst22, hsame, hk⟩ := two (y := yn) (Nat.le_trans hsz12 m21.size) (hob12.exm m21) (hoe12.exm m21) hdis hN (by omega) (by omega)
        obtain ⟨e', d', w2, hr2, g23, hw23, hst23, h1, h2, h3, h4, h5⟩ := hk g22 _ (Ex.refl _) (hM.mono hst22.le)
        exact ⟨a', _, c', w', hr1, g22, hw22, hst22.mono hg2 (fun _ _ h => h.elim), fun z hz hx hne => (hsame z (Nat.lt_of_lt_of_le hz m21.size) hne).trans (m21.same z hz hx), e', _, d', w2, hr2, g23, hw23, hst23.mono hg2 (fun _ _ h => h.elim), i64 (by omega) (by omega), next g23 a' c' e' d' (m21.le.trans h4) h1 h2 h3 h5⟩
    · rw [if_neg hcode] at e1
      rw [e1]
      refine ifNe (fun _ => ⟨i64 (by omega) (by omega), fun g8 m8 => ⟨m - 1, by omega, j + 1, b, B, Es, by omega, by omega, by omega, rfl, rfl, hs.ex ((m6.trans m7).trans m8), ht, hob.exm ((m6.trans m7).trans m8), hoe.exm ((m6.trans m7).trans m8), hdis, Nat.le_trans hsz5 ((m6.trans m7).trans m8).size, by omega⟩⟩) (fun hh => absurd hh hcode)
  refine ifEq (fun _ g24 m24 => rfl) (fun hne => ⟨i64 (by omega) (by omega), hne, fun g25 n25 => ?_⟩)
  have hsn0 : 0 < sn := by omega
  obtain ⟨κ, hκ, hκlt⟩ : ∃ κ : Nat, Int.tmod at0 ((sn : Nat) : Int) = κ ∧ κ < sn := by
    have h1 : 0 ≤ Int.tmod at0 ((sn : Nat) : Int) := Int.tmod_nonneg _ ha.1
    have h2 : Int.tmod at0 ((sn : Nat) : Int) < sn := Int.tmod_lt_of_pos _ (by omega)
    exact ⟨(Int.tmod at0 ((sn : Nat) : Int)).toNat, by omega, by omega⟩
  rw [hκ]
  have mv := n25.mut
  have hv5 : g.w.heap.size ≤ g5.w.heap.size := Nat.le_trans hg2 hsz5
  refine ⟨mv.ok0 (by simp), mv.nx, mv.mut0 _, fun hh => absurd hh (by show ¬ g5.w.heap.size < g.w.heap.size; omega), fun g26 k26' => ?_⟩
  obtain ⟨hvar, hbut⟩ := mv.pub1 k26'
  have m26 : Ex g5 g26 := ((n25.ex.but _).trans hbut).ex (fun z hz _ e => by omega)
  refine (CallsP.ghost (Q' := fun v g' => ∃ bb cur cc, v = .slice (some ⟨bb, 0, none⟩) sn cc ∧ MutB g' bb 5 cur ∧ cur.take (sn * 1) = vs .u8 (nums b) ∧ cur.length = cc * 1 ∧ sn ≤ cc ∧ cc ≤ maxLen ∧ g26.size ≤ bb) (k32 b (hs.ex m26) (by omega)) ?_).mono ?_
  · rintro v ga hst ⟨a', c', rfl, ho⟩
    obtain ⟨bb, cur, g', rfl, hw, hst', hm, h1, h2, h3, h4, h5⟩ := own_melt hst ho (by omega)
    exact ⟨g', hw, hst', bb, cur, c', rfl, hm, h1, h2, h3, h4, h5⟩
  rintro v g27 m27 ⟨bb, cur, cc, rfl, hm27, hcur, hcl, hncc, hccm, hbb⟩
  have hbb' : g26.w.heap.size ≤ bb := hbb
  refine ⟨_, _, _, rfl, fun g28 m28 => ?_⟩
  have hm28 := hm27.ex m28
  have hvar28 := (hvar.ex m27).ex m28
  have mm28 := (m26.trans m27).trans m28
  have hb28 := hob.exm mm28
  have he28 := hoe.exm mm28
  simp only [derefP_of_some, -eq_self]
  have hcκ : cur[κ]? = some (.int .u8 (((b[κ]'(by omega)).toNat : Nat) : Int)) := by
    have := vs_at b κ (by omega)
    rw [← hcur, List.getElem?_take] at this
    split at this
    · exact this
    · cases this
  rw [Nat.mul_one] at hcur hcl
  refine ⟨(κ : Nat), hvar28.cell, ⟨by omega, by omega⟩, (((b[κ]'(by omega)).toNat : Nat) : Int), ?_, by omega, Int.tmod_nonneg _ hb.1, ⟨by omega, by omega⟩, ?_⟩
  · rw [Int.toNat_natCast, Nat.mul_one]
    exact hm28.rd hcκ
  rw [Int.toNat_natCast, Nat.mul_one]
  refine ⟨hm28.ok (by omega), hm28.nxA _, hm28.mutA _ _, fun hh => ?_, fun g29 k29' => ?_⟩
  · rw [add_block] at hh
    have : bb < g.w.heap.size := hh
    have := m26.size
    omega
  obtain ⟨hm29, hbut29⟩ := hm28.st k29'
  obtain ⟨y, hy⟩ := xor_u8 (((b[κ]'(by omega)).toNat : Nat) : Int) (shlI IntKind.u8 (1 : Int) (Int.tmod bit (8 : Int)))
  rw [hy, setsAt_one] at hm29
  have le29 : Le g28 g29 := hbut29.le (fun z e i => by rw [e]; exact hm28.d i)
  have hF := le29.trans (froz_le g29 bb)
  -- the bytes with the bit turned
  have hb'l : (b.set κ y).length = b.length := List.length_set
  have hs29 : SlB (g29.froz bb) (some ⟨bb, 0, none⟩) sn cc (b.set κ y) := by
    refine hm29.froz_sl ?_ (by simp [hsn]) hncc hccm
    rw [← vs_set, List.take_set, hcur]
  have hbe29 := hb28.sl.mono hF
  have hen29 := he28.sl.mono hF
  have hvar29 := hvar28.mono hF
  have hbb29 : bb < g29.w.heap.size := hm29.lt
  clear hvar hbut hvar28 hb28 he28 hm27 hm28 k29' hbut29 hcκ
  refine CallsP.thaw hbb29 (k33 Es hen29 hvar29) ?_
  rintro v ga g30 ⟨i, rfl, hi⟩ m30 _
  have hs30 := hs29.ex (m30.froz bb)
  have hbe30 := hbe29.exm (m30.froz bb)
  have hen30 := hen29.exm (m30.froz bb)
  have hbb30 : bb < g30.w.heap.size := Nat.lt_of_lt_of_le hbb29 m30.size
  have hbne : b ≠ [] := fun e => by rw [e] at hsn; simp at hsn; omega
  rcases hi with ⟨_, hi⟩ | ⟨q, x, rfl, hqx, hκx, hq⟩
  · exact absurd (by omega) (hi _ (ht.last hbne))
  obtain ⟨st, hst, hstb, hstf, hBq⟩ := ht.at_ q x hqx
  have hql := (List.getElem?_eq_some_iff.1 hqx).1
  have hstκ : st ≤ κ := by
    rcases hst with ⟨_, h0⟩ | ⟨hq0, h0⟩
    · omega
    · have hmem : st ∈ Es.take q := by
        have : (Es.take q)[q - 1]? = some st := by rw [List.getElem?_take, if_pos (by omega)]; exact h0
        exact List.mem_of_getElem? this
      have := hq st hmem
      omega
  refine ⟨_, rfl, ?_⟩
  intro J1 hJ1
  -- the records before the torn one
  have htake : (b.set κ y).take st = b.take st := List.take_set_of_le hstκ
  have hrecs : endR ((b.set κ y).drop st) ≤ 0 → recsL (b.set κ y) = recsL (b.take st) := by
    intro h0
    have e1 : b.set κ y = b.take st ++ (b.set κ y).drop st := by rw [← htake, List.take_append_drop]
    rw [e1, recs_full _ _ (by rw [hstf, List.length_take]; omega), end_zero h0, List.append_nil]
  have hok' : okS (b.set κ y).length (b.length : Nat) (-1) := by rw [hb'l]; exact hok5
  have body : J1 ((st : Nat) : Int) g30 := by
    refine hJ1 _ _ ⟨⟨by omega, by omega⟩, ?_⟩
    rw [Int.toNat_natCast]
    refine CallsP.thaw hbb30 (k29 _ (SlB.drop hs30 (lo := st) (by omega)) (by omega)) ?_
    rintro v gb g32 rfl m32 _
    refine ⟨_, rfl, ifLt (fun _ g33 m33 => rfl) (fun hz => ?_)⟩
    have hs32 := hs30.ex (m32.froz bb)
    have hbe32 := hbe30.exm (m32.froz bb)
    have hbb32 : bb < g32.w.heap.size := Nat.lt_of_lt_of_le hbb30 m32.size
    refine CallsP.thaw hbb32 (k27 _ hs32 _ _) ?_
    rintro v gc g34 hsay m34 mf34
    rcases hsay with ⟨hn, _⟩ | ⟨_, pa, pl, pc, rfl, hp⟩
    · exact absurd hok' hn
    have hs34 := hs32.ex (m34.froz bb)
    have hbe34 := hbe32.exm (m34.froz bb)
    have hp34 := hp.exm mf34
    have hbb34 : bb < g34.w.heap.size := Nat.lt_of_lt_of_le hbb32 m34.size
    refine ⟨_, _, _, _, rfl, ?_⟩
    intro J2 hJ2
    have fin : ∀ g35, Ex g34 g35 → J2 g35 := by
      intro g35 m35
      have hs35 := hs34.ex (m35.froz bb)
      have hbb35 : bb < g35.w.heap.size := Nat.lt_of_lt_of_le hbb34 m35.size
      refine hJ2 g35 (fun g36 n36 => ?_)
      have hB35 : g.w.heap.size ≤ g35.w.heap.size := by
        have := m26.size
        have := m27.size
        have := m28.size
        have := le29.size
        have := m30.size
        have := m32.size
        have := m34.size
        have := m35.size
        omega
      obtain ⟨w7, r7, g37, hw37, st37, s37, e37⟩ := conv_bytes n36 22 3 3 (B := g.w.heap.size) hB35 Try.underlying22 Try.underlying5 rfl (by unfold maxLen; omega)
      · refine ⟨_, _, _, _, r7, g37, hw37, st37, ?_⟩
        have hnew : SlB g37 (some ⟨g35.w.heap.size, 0, none⟩) 3 3 [110, 101, 119] := s37 (Nat.le_refl _) (by unfold maxLen; omega)
        have hs37 := hs35.ex (e37.froz bb)
        have hbb37 : bb < g37.w.heap.size := Nat.lt_of_lt_of_le hbb35 e37.size
        have hkn : okK newE.key.length := by unfold okK newE; simp
        have hcode : codeE (b.set κ y) newE = 0 := code_nil' hkn (by unfold newE; simp)
        have eapp := app_eq (b.set κ y) (b.length : Nat) (-1) newE hok' (by unfold newE; simp)
        rw [if_pos hcode] at eapp
        obtain ⟨n1, n2, n3⟩ := next_recs (b.set κ y) newE hkn (by unfold newE; simp)
        have hel := endR_le (b.set κ y)
        have hrl : (recE newE).length = 15 := by rw [recE_len]; rfl
        have ew : writeR (b.set κ y) (endR (b.set κ y)) (b.length : Nat) (-1) (recE newE) = ⟨(b.set κ y).take (endR (b.set κ y)) ++ recE newE, ((endR (b.set κ y) + (recE newE).length : Nat) : Int), -1, 0⟩ := by
          unfold writeR
          rw [if_neg (by omega), if_pos (by omega)]
        rw [ew] at eapp
        have eput : putR (b.set κ y) (b.length : Nat) (-1) [122] [110, 101, 119] = _ := eapp
        refine CallsP.thaw hbb37 (k12 _ [122] [110, 101, 119] hs37 (hnew.mono (froz_le _ _)) _ _) ?_
        rintro v gd g38 ⟨ra, rn, rc, rfl, hr⟩ m38 mf38
        rw [eput] at hr ⊢
        have hr38 := hr.ex mf38
        have hbb38 : bb < g38.w.heap.size := Nat.lt_of_lt_of_le hbb37 m38.size
        have hrs : okS ((b.set κ y).take (endR (b.set κ y)) ++ recE newE).length ((endR (b.set κ y) + (recE newE).length : Nat) : Int) (-1) := by
          rw [List.length_append, List.length_take, Nat.min_eq_left hel]
          unfold okS
          omega
        refine ⟨_, _, _, _, _, _, rfl, fun g39 m39 => ?_⟩
        refine CallsP.thaw (Nat.lt_of_lt_of_le hbb38 m39.size) (k35 _ [122] (hr38.ex (m39.froz bb)) _ _) ?_
        rintro v ge g40 hget m40 mf40
        rcases hget with ⟨hh, _⟩ | ⟨_, hh, _⟩ | ⟨_, _, hh, _⟩ | ⟨_, _, z, za, zn, zc, hz1, rfl, hz⟩
        · exact absurd hrs hh
        · exact absurd hkn hh
        · exact absurd (hh.symm.trans n3) (by unfold newE; simp)
        have hzd : z = [110, 101, 119] := by
          have := hz1.symm.trans n3
          unfold newE at this
          simpa using this
        subst hzd
        have hz40 := hz.ex mf40
        refine ⟨_, _, _, _, rfl, ifEq (fun _ => ifEq (fun _ => ⟨_, _, SlB.str (P := Try.prog) hz40 Try.underlying22 Try.underlying5 Try.underlying9, g40, rfl, Stp.refl _ _ _, fun g42 m42 => ?_⟩) (fun hh => absurd rfl hh)) (fun hh => absurd rfl hh)⟩
        exact congrArg Value.bool (tf_of rfl)
    have hBl := (List.getElem?_eq_some_iff.1 hBq).1
    refine ifNe (fun hh => absurd rfl hh) (fun _ => ifLt (fun hh => by omega) (fun _ => ⟨⟨by omega, by omega⟩, ?_⟩))
    refine hbe34.rd (i := q) hBq ?_
    rintro r ad ⟨fa, fn, fc, rfl, hfe⟩ hr
    refine ⟨fa, fn, fc, ?_, ?_⟩
    · rw [Int.toNat_natCast]
      have := (hr 0 _ rfl).1
      rwa [Addr.add_zero'] at this
    refine CallsP.thaw hbb34 (k28 _ _ hp34 hfe) ?_
    rintro v gd g47 rfl m47 _
    refine ⟨_, rfl, ifPn (fun hne2 => absurd ?_ hne2) (fun _ => fin g47 m47)⟩
    rw [hrecs (by omega)]
  refine ifLt (fun hq0 => ?_) (fun hq0 => ?_)
  · rcases hst with ⟨h0, _⟩ | ⟨_, h0⟩
    · omega
    · refine ⟨i64 (by omega) (by omega), ⟨by omega, by omega⟩, ?_⟩
      refine hen30.rd (i := q - 1) h0 ?_
      rintro r ad rfl hr
      refine ⟨((st : Nat) : Int), ?_, body⟩
      rw [show ((q : Nat) : Int) - 1 = ((q - 1 : Nat) : Int) by omega, Int.toNat_natCast]
      have := (hr 0 _ rfl).1
      rwa [Addr.add_zero'] at this
  · rcases hst with ⟨_, h0⟩ | ⟨h1, _⟩
    · rw [h0] at body
      exact body
    · omega
end Go.Proofs.Ytlofbfbcnlgmaaa
