/- What the sum of bytes returns. -/
import Derived.Test.YtmkcffflebdheaaDoorC39d
import Derived.Test.YtmkcffflebdheaaDoorC39b
set_option linter.unusedVariables false
namespace Go.Proofs.YtmkcffflebdheaaDoor
open Go Go.Vc Go.RowKit

theorem and15 (x : Int) : 0 ≤ bits .and .u32 x 15 ∧ bits .and .u32 x 15 < 16 := by
  have h : (BitVec.ofInt 32 x &&& BitVec.ofInt 32 15).toNat < 16 := by
    rw [BitVec.toNat_and]
    have : (BitVec.ofInt 32 15).toNat = 15 := by decide
    rw [this]
    exact Nat.lt_of_le_of_lt Nat.and_le_right (by omega)
  change 0 ≤ IntKind.u32.wrap ((BitVec.ofInt 32 x &&& BitVec.ofInt 32 15).toNat : Int) ∧ IntKind.u32.wrap ((BitVec.ofInt 32 x &&& BitVec.ofInt 32 15).toNat : Int) < 16
  generalize (BitVec.ofInt 32 x &&& BitVec.ofInt 32 15).toNat = n at *
  simp [IntKind.wrap, IntKind.bits, IntKind.signed]
  omega

theorem digits_get (n : Nat) (h : n < 16) : (bs [48, 49, 50, 51, 52, 53, 54, 55, 56, 57, 97, 98, 99, 100, 101, 102])[n]? = some (digits.getD n 0) := by
  have : ∀ n : Fin 16, (bs [48, 49, 50, 51, 52, 53, 54, 55, 56, 57, 97, 98, 99, 100, 101, 102])[n.val]? = some (digits.getD n.val 0) := by decide
  exact this ⟨n, h⟩

theorem c10_any (B : List Int) (ba : Option Addr) (bc : Nat) (w : World) (hB : SlV w ba B.length (vs .u8 B)) (hc : B.length ≤ bc) (hT : Tab w) :
    Calls Tryd.prog 10 #[(.slice ba B.length bc)] w fun e w' => e = .returned (.string ⟨(sumL B).toArray⟩) ∧ Below w.heap.size w w' := by
  refine fin (call10 ba B.length bc w _ ?_)
  unfold F10
  intro w1 hw1
  have s1 : w1.heap.size = w.heap.size + 1 := by rw [hw1]; simp
  have b1 : Blk w1 w.heap.size 46 (vs .u32 [0, 0, 0, 0, 0, 0, 0, 0]) := by rw [hw1]; exact Blk.new _ _ _
  have f1 : Below w.heap.size w w1 := by rw [hw1]; exact (Below.refl _ _).alloc (by simp) _
  clear hw1
  refine ⟨rfl, b1.ok (by decide), vs_one .u32 H0, ?_⟩
  intro w2 hw2
  replace hw2 : w2 = stL ⟨w.heap.size, 0, none⟩ 0 (vs .u32 H0) w1 := hw2
  have s2 : w2.heap.size = w.heap.size + 1 := by rw [hw2, size_stL, s1]
  replace b1 := b1.stLE (vs := vs .u32 H0) rfl
  replace f1 := below_stL (vs .u32 H0) (p := ⟨w.heap.size, 0, none⟩) 0 f1 (Nat.le_refl _)
  rw [← hw2] at b1 f1
  clear hw2
  refine ⟨fun a l c x => ∃ j : Nat, 64 * j ≤ B.length ∧ l = B.length - 64 * j ∧ l ≤ c ∧ SlV w a l (vs .u8 (B.drop (64 * j))) ∧ Blk x w.heap.size 46 (vs .u32 (hj B j)) ∧ Below w.heap.size w x, fun _ l _ _ => l, ⟨0, by omega, rfl, hc, hB, b1, f1⟩, ?_⟩
  clear b1 f1
  rintro a l c w3 ⟨j, hj1, rfl, hc3, hS, b1, f1⟩
  have hlj := hj_length B j
  rw [ifB_iff]
  simp only [leI_true, leI_false]
  constructor
  · rintro hle w4 rfl
    obtain ⟨ad, rfl, hcell⟩ := hS.on (by omega)
    refine ⟨vs .u32 (hj B j), by rw [vs_length, hlj], b1.drew.on, by omega, by omega, ?_⟩
    rw [slAddr_zero]
    show ∃ x : List Value, _
    have hc2 : cellsOn w3.drew ad (vs .u8 ((B.drop (64 * j)).take 64)) := by
      have := (hcell.below f1.drew (Nat.le_refl _)).take 64
      simpa [vs, List.map_take] using this
    have hl2 : ((B.drop (64 * j)).take 64).length = 64 := by rw [List.length_take, List.length_drop]; omega
    refine ⟨vs .u8 ((B.drop (64 * j)).take 64), by rw [vs_length, hl2], hc2, ?_⟩
    refine (c24_any (hj B j) _ hlj hl2 w3.drew (hT.below f1.drew hT.lt)).mono ?_
    rintro _ w5 ⟨rfl, f5⟩
    have hl5 := hj_length B (j + 1)
    have b5 := b1.drew.below f5 b1.drew.lt
    refine ⟨vs .u32 (hj B (j + 1)), by rw [vs_length, hl5], rfl, by rw [vs_length, hl5], b5.ok (by rw [vs_length, hlj]; omega), vs_one _ _, ?_⟩
    rintro w6 rfl
    refine ⟨by omega, ⟨j + 1, by omega, ?_, ?_, ?_, b5.stLE (by rw [vs_length, vs_length, hl5, hlj]), below_stL _ _ (f1.drew.trans (f5.mono (by simpa using f1.size))) (Nat.le_refl _)⟩, ?_⟩
    · show B.length - 64 * j - 64 = _; omega
    · show B.length - 64 * j - 64 ≤ c - 64; omega
    · have := hS.dropS (d := 64) (c := c) (by omega) (by omega)
      show SlV w _ _ _
      have e : vs .u8 (B.drop (64 * (j + 1))) = (vs .u8 (B.drop (64 * j))).drop 64 := by
        simp [vs, Nat.mul_add, Nat.add_comm]
      rw [e]
      exact this
    · show B.length - 64 * j - 64 < _; omega
  · rintro hlt w7 hw7
    have hj2 : j = B.length / 64 := by omega
    have er : B.drop (64 * j) = restOf B := by rw [restOf, hj2]
    have hlr := restOf_length B
    have hwords : wordsOf B = finalW (hj B j) (lenA (lastA (restOf B)) (sizeOfLast (restOf B)) B.length 8) (sizeOfLast (restOf B)) := by rw [wordsOf, hj2]
    have hn : B.length - 64 * j = (restOf B).length := by omega
    rw [er, hn] at hS
    rw [hn] at hlt
    rw [hn]
    have hsum : sumL B = outN (finalW (hj B j) (lenA (lastA (restOf B)) (sizeOfLast (restOf B)) B.length 8) (sizeOfLast (restOf B))) 8 := by rw [sumL, hwords]
    rw [hsum]
    generalize hj B j = Hm at *
    generalize restOf B = r at *
    have s3 := f1.size
    have b2 : Blk w7 w3.heap.size 50 (vs .u8 (List.replicate 128 0)) := by rw [hw7]; exact Blk.new _ _ _
    have s7 : w7.heap.size = w3.heap.size + 1 := by rw [hw7]; simp
    have lt1 := b1.lt
    replace b1 := b1.alloc (.cells ⟨z50⟩ 50)
    replace f1 := f1.alloc (by omega) (.cells ⟨z50⟩ 50)
    rw [← hw7] at b1 f1
    clear hw7
    generalize w3.heap.size = p3 at *
    obtain ⟨w8, hrun, h8, b2'⟩ := copy_row (P := Tryd.prog) (ty := 3) (dT := 22) (sT := 22) (dLen := 128) (dCap := 128) (sCap := c) Tryd.underlying22 (by kernel_rfl) (hS.below f1 (Nat.le_refl _)) b2 (by simp) (by omega) (vs_one _ _)
    refine ⟨(r.length : Nat), w8, ?_, ⟨by omega, by omega⟩, ?_⟩
    · rw [slAddr_zero]; exact hrun
    replace b1 := b1.stLO (vs .u8 r) 0 (a := ⟨p3, 0, none⟩) (by show w.heap.size ≠ p3; omega)
    replace f1 := below_stL (vs .u8 r) (p := ⟨p3, 0, none⟩) 0 f1 (by show w.heap.size ≤ p3; omega)
    rw [← h8] at b1 f1
    clear h8 hrun b2
    have b2 : Blk w8 p3 50 (vs .u8 (r ++ List.replicate (128 - r.length) 0)) := by
      have e : vs .u8 (r ++ List.replicate (128 - r.length) 0) = vs .u8 r ++ (vs .u8 (List.replicate 128 0)).drop r.length := by simp only [vs, List.map_append, List.map_replicate, List.drop_replicate]
      rw [e]; exact b2'
    refine ⟨b2.okI (by simp; omega), ?_⟩
    rintro w9 rfl
    replace b1 := b1.putO (b2 := p3) (by omega) 0 (Int.toNat (r.length : Int) * 1) (.int .u8 128)
    replace f1 := below_put f1 (b := p3) (by omega) 0 (Int.toNat (r.length : Int) * 1) (.int .u8 128)
    replace b2 := b2.putI (r.length : Int) 128
    have eA : (r ++ List.replicate (128 - r.length) 0).set (Int.toNat (r.length : Int)) 128 = lastA r := rfl
    rw [eA] at b2
    clear b2' eA
    generalize w8.setCell _ _ = w9 at *
    intro J hJ
    have hlA : (lastA r).length = 128 := lastA_length r (by omega)
    have key : ∀ sz : Nat, (sz = 64 ∨ sz = 128) → sz = sizeOfLast r → J (sz : Int) w9 := by
      intro sz hsz hszr
      apply hJ
      rw [← hszr]
      clear hszr hJ
      generalize lastA r = A at *
      refine ⟨fun v x => ∃ i : Nat, v = i ∧ i ≤ 8 ∧ Blk x w.heap.size 46 (vs .u32 Hm) ∧ Blk x p3 50 (vs .u8 (lenA A sz B.length i)) ∧ Below w.heap.size w x, fun v _ => (8 - v).toNat, ⟨0, rfl, by omega, b1, b2, f1⟩, ?_⟩
      clear b1 b2 f1
      rintro v w11 ⟨i, rfl, hi, b1, b2, f1⟩
      have hlL : (lenA A sz B.length i).length = 128 := by rw [lenA_length, hlA]
      rw [ifB_iff]
      simp only [ltI_true, ltI_false]
      constructor
      · intro hlt
        refine ⟨by unfold InI64; omega, by unfold InI64; omega, by unfold InI64; omega, by omega, ⟨by omega, by omega⟩, b2.okI (by rw [vs_length, hlL]; omega), ?_⟩
        rintro w12 rfl
        refine ⟨by unfold InI64; omega, ⟨i + 1, by simp, by omega, b1.putO (by omega) _ _ _, ?_, below_put f1 (by omega) _ _ _⟩, by omega⟩
        have := b2.putI ((sz : Int) - 1 - (i : Int)) (IntKind.u8.wrap (shrI .u64 (IntKind.u64.wrap (IntKind.u64.wrap ((B.length : Nat) : Int) * 8)) (8 * (i : Int))))
        rw [show Int.toNat ((sz : Int) - 1 - (i : Int)) = sz - 1 - i by omega] at this ⊢
        rw [lenA]
        exact this
      · rintro hge w13 rfl
        have : i = 8 := by omega
        subst this
        have hlH : Hm.length = 8 := hlj
        have hlX : (finalW Hm (lenA A sz B.length 8) sz).length = 8 := by
          unfold finalW
          split
          · exact blockW_length _ _ (blockW_length _ _ hlH)
          · exact blockW_length _ _ hlH
        have eX : finalW Hm (lenA A sz B.length 8) sz = finalW Hm (lenA A sz B.length 8) sz := rfl
        generalize lenA A sz B.length 8 = L at *
        refine ⟨vs .u32 Hm, by rw [vs_length, hlH], b1.drew.on, by omega, by omega, ?_⟩
        rw [slAddr_zero]
        show ∃ x : List Value, _
        have hc1 : cellsOn w11.drew ⟨p3, 0, none⟩ (vs .u8 (L.take 64)) := by
          have := b2.drew.on.take 64
          simpa [vs, List.map_take] using this
        have hl1 : (L.take 64).length = 64 := by rw [List.length_take]; omega
        refine ⟨vs .u8 (L.take 64), by rw [vs_length, hl1], hc1, ?_⟩
        refine (c24_any Hm _ hlH hl1 w11.drew (hT.below f1.drew hT.lt)).mono ?_
        rintro _ w14 ⟨rfl, f14⟩
        have hlX1 := blockW_length Hm (L.take 64) hlH
        have b14 := b1.drew.below f14 b1.drew.lt
        have b24 := b2.drew.below f14 b2.drew.lt
        have f4 : Below w.heap.size w w14 := f1.drew.trans (f14.mono (by simpa using f1.size))
        clear f14
        refine ⟨vs .u32 (blockW Hm (L.take 64)), by rw [vs_length, hlX1], rfl, by rw [vs_length, hlX1], b14.ok (by rw [vs_length, hlH]; omega), vs_one _ _, ?_⟩
        rintro w15 rfl
        replace b14 := b14.stLE (vs := vs .u32 (blockW Hm (L.take 64))) (by rw [vs_length, vs_length, hlX1, hlH])
        replace b24 := b24.stLO (vs .u32 (blockW Hm (L.take 64))) 0 (a := ⟨w.heap.size, 0, none⟩) (by show p3 ≠ w.heap.size; omega)
        replace f4 := below_stL (vs .u32 (blockW Hm (L.take 64))) (p := ⟨w.heap.size, 0, none⟩) 0 f4 (Nat.le_refl _)
        generalize stL _ _ _ _ = w15 at *
        intro J1 hJ1
        have key2 : ∀ w16, Blk w16 w.heap.size 46 (vs .u32 (finalW Hm L sz)) → Below w.heap.size w w16 → J1 w16 := by
          intro w16 b16 f16
          apply hJ1
          generalize finalW Hm L sz = X at *
          rintro w17 hw17
          have hib : Lib.IsBuilder 53 5 w16.heap.size w16.heap.size [] w17 := by rw [hw17]; exact Lib.fresh_isBuilder 53 5 w16
          have s17 : w16.heap.size ≤ w17.heap.size := by rw [hw17]; simp
          have s16 := f16.size
          replace b16 := b16.alloc (.cells ⟨[(.pointer none), (.slice none 0 0)]⟩ 53)
          replace f16 := f16.alloc (by omega) (.cells ⟨[(.pointer none), (.slice none 0 0)]⟩ 53)
          rw [← hw17] at b16 f16
          clear hw17
          generalize w16.heap.size = p16 at *
          refine ⟨vs .u32 X, by rw [vs_length, hlX], b16.on, ?_⟩
          refine ⟨fun v x => ∃ i : Nat, v = i ∧ i ≤ 8 ∧ Lib.IsBuilder 53 5 p16 p16 (Lib.byteCells (outN X i)) x ∧ p16 ≤ x.heap.size ∧ Below w.heap.size w x, fun v _ => (8 - v).toNat, ⟨0, rfl, by omega, hib, s17, f16⟩, ?_⟩
          clear b16 f16 hib s17
          rintro v w18 ⟨i, rfl, hi, hib, s18, f18⟩
          rw [ifB_iff]
          simp only [ltI_true, ltI_false]
          constructor
          · intro hlt
            refine ⟨X.getD i 0, by omega, ?_, ?_⟩
            · show (vs IntKind.u32 X).toArray[Int.toNat (i : Int)]? = _
              rw [Int.toNat_natCast, List.getElem?_toArray]
              exact vs_get (by omega)
            refine ⟨fun v x => ∃ k : Nat, v = 28 - 4 * (k : Int) ∧ k ≤ 8 ∧ Lib.IsBuilder 53 5 p16 p16 (Lib.byteCells (outN X i ++ hexN (X.getD i 0) k)) x ∧ p16 ≤ x.heap.size ∧ Below w.heap.size w x, fun v _ => (v + 4).toNat, ⟨0, rfl, by omega, by rw [hexN, List.append_nil]; exact hib, s18, f18⟩, ?_⟩
            clear f18 hib s18
            rintro v w19 ⟨k, rfl, hk, hib, s19, f19⟩
            rw [ifB_iff]
            simp only [leI_true, leI_false]
            constructor
            · intro hge
              have h15 := and15 (shrI .u32 (X.getD i 0) (28 - 4 * (k : Int)))
              refine ⟨by omega, _, ⟨h15.1, digits_get _ (by omega)⟩, ?_⟩
              refine (writeByte p16 p16 _ _ w19 hib s19 (by rw [Lib.byteCells_length, List.length_append, outN_length, hexN_length]; omega)).mono ?_
              rintro _ w20 ⟨rfl, hib20, f20⟩
              refine ⟨_, rfl, by unfold InI64; omega, ⟨k + 1, by omega, by omega, ?_, by have := f20.size; omega, f19.trans (f20.mono s16)⟩, by omega⟩
              have e : Lib.byteCells (outN X i ++ hexN (X.getD i 0) (k + 1)) = Lib.byteCells (outN X i ++ hexN (X.getD i 0) k) ++ [.int .u8 (((dig (X.getD i 0) (28 - 4 * k)).toNat : Nat) : Int)] := by
                simp [Lib.byteCells, hexN]
              rw [e]
              have e2 : dig (X.getD i 0) (28 - 4 * k) = digits.getD (bits .and .u32 (shrI .u32 (X.getD i 0) (28 - 4 * (k : Int))) 15).toNat 0 := by
                unfold dig
                rw [show ((28 - 4 * k : Nat) : Int) = 28 - 4 * (k : Int) by omega]
              rw [e2]
              exact hib20
            · intro hlt2
              have : k = 8 := by omega
              subst this
              exact ⟨by unfold InI64; omega, ⟨i + 1, by simp, by omega, hib, s19, f19⟩, by omega⟩
          · intro hge
            have : i = 8 := by omega
            subst this
            refine (Tryd.Builder_String_any p16 p16 _ w18 hib s18).mono ?_
            rintro _ w21 ⟨rfl, f21⟩
            exact ⟨_, rfl, rfl, f18.trans (f21.mono s16)⟩
        rw [ifB_iff]
        simp only [eqI_true, eqI_false]
        constructor
        · rintro h128 w22 rfl
          have h128 : sz = 128 := by omega
          refine ⟨vs .u32 (blockW Hm (L.take 64)), by rw [vs_length, hlX1], b14.drew.on, by omega, by show 64 ≤ 128 - 64; omega, ?_⟩
          have eS : slAddr (some ⟨p3, 0, none⟩) 128 (Int.toNat (64 : Int)) 1 = some (Addr.add ⟨p3, 0, none⟩ 64) := rfl
          rw [eS]
          show ∃ x : List Value, _
          have hc3 : cellsOn w15.drew (Addr.add ⟨p3, 0, none⟩ 64) (vs .u8 (L.drop 64)) := by
            have := b24.drew.on.drop 64
            simpa [vs] using this
          have hl3 : (L.drop 64).length = 64 := by rw [List.length_drop]; omega
          refine ⟨vs .u8 (L.drop 64), by rw [vs_length, hl3], hc3, ?_⟩
          refine (c24_any _ _ hlX1 hl3 w15.drew (hT.below f4.drew hT.lt)).mono ?_
          rintro _ w23 ⟨rfl, f23⟩
          have hlX2 := blockW_length (blockW Hm (L.take 64)) (L.drop 64) hlX1
          have b23 := b14.drew.below f23 b14.drew.lt
          have f5 : Below w.heap.size w w23 := f4.drew.trans (f23.mono (by simpa using f4.size))
          refine ⟨_, by rw [vs_length, hlX2], rfl, by rw [vs_length, hlX2], b23.ok (by rw [vs_length, hlX1]; omega), vs_one _ _, ?_⟩
          rintro w24 rfl
          apply key2
          · have e : finalW Hm L sz = blockW (blockW Hm (L.take 64)) (L.drop 64) := by rw [finalW, if_pos h128]
            rw [e]
            exact b23.stLE (by rw [vs_length, vs_length, hlX1, hlX2])
          · exact below_stL _ _ f5 (Nat.le_refl _)
        · intro hne
          have h64 : sz = 64 := by omega
          apply key2 _ _ f4
          have e : finalW Hm L sz = blockW Hm (L.take 64) := by rw [finalW, if_neg (by omega)]
          rw [e]
          exact b14
    rw [ifB_iff]
    simp only [ltI_true, ltI_false]
    constructor
    · intro h
      exact key 128 (Or.inr rfl) (by rw [sizeOfLast, if_pos (by omega)])
    · intro h
      exact key 64 (Or.inl rfl) (by rw [sizeOfLast, if_neg (by omega)])
end Go.Proofs.YtmkcffflebdheaaDoor
