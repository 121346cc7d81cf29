/- What the reference's sum of bytes returns. -/
import Derived.Test.YtmkcffflebdheaaDoorC39p
import Derived.Test.YtmkcffflebdheaaDoorC39e
set_option linter.unusedVariables false
namespace Go.Proofs.YtmkcffflebdheaaDoor
open Go Go.Vc Go.RowKit

theorem extract_digit (d : Nat) (h : d < 16) : ByteArray.extract (bs [48, 49, 50, 51, 52, 53, 54, 55, 56, 57, 97, 98, 99, 100, 101, 102]) d (d + 1) = ⟨[digits.getD d 0].toArray⟩ := by
  have : ∀ d : Fin 16, (ByteArray.extract (bs [48, 49, 50, 51, 52, 53, 54, 55, 56, 57, 97, 98, 99, 100, 101, 102]) d.val (d.val + 1)).data.toList = [digits.getD d.val 0] := by decide
  have h1 := this ⟨d, h⟩
  apply ByteArray.ext
  apply Array.ext'
  simpa using h1
theorem push_digit (l : List UInt8) (b : UInt8) : (⟨l.toArray⟩ : ByteArray) ++ ⟨[b].toArray⟩ = ⟨(l ++ [b]).toArray⟩ := by
  apply ByteArray.ext
  simp [ByteArray.data_append]

def refWords (B : List Int) : List Int := hj (padL B) ((padL B).length / 64)
def refL (B : List Int) : List UInt8 := outN (refWords B) 8

theorem padL_mod (B : List Int) : (padL B).length % 64 = 0 := by
  rw [padL_length]
  unfold zeros
  omega

theorem c9_any (B : List Int) (ba : Option Addr) (bc : Nat) (hnil : ba = none → bc = 0) (w : World) (hB : SlV w ba B.length (vs .u8 B)) (hbig : B.length ≤ 17592186044416) :
    Calls Tryd.prog 9 #[(.slice ba B.length bc)] w fun e w' => e = .returned (.string ⟨(refL B).toArray⟩) ∧ Below w.heap.size w w' := by
  refine fin (call9 ba B.length bc w _ ?_)
  unfold F9
  intro w1 hw1
  have b1 : Blk w1 w.heap.size 41 (vs .u32 H0) := by rw [hw1]; exact Blk.new _ _ _
  have f1 : Below w.heap.size w w1 := by rw [hw1]; exact (Below.refl _ _).alloc (Nat.le_refl _) _
  clear hw1
  have s1 := b1.lt
  refine (c22_any B ba bc hnil w1 (hB.below f1 (Nat.le_refl _)) hbig).mono ?_
  rintro _ w2 ⟨pa, pl, pc, rfl, hpl, hpc, hP, f2⟩
  refine ⟨pa, pl, pc, rfl, ?_⟩
  have hmod := padL_mod B
  have hlen := padL_length B
  have hz : zeros B.length < 64 := by unfold zeros; omega
  have eR : refL B = outN (hj (padL B) ((padL B).length / 64)) 8 := rfl
  rw [eR]
  generalize padL B = P at *
  have f12 : Below w.heap.size w w2 := f1.trans (f2.mono (by omega))
  have hH : SlV w2 (some ⟨w.heap.size, 0, none⟩) 8 (vs .u32 (hj P 0)) := ⟨rfl, Or.inr ⟨_, rfl, (b1.below f2 s1).on⟩⟩
  clear b1 f1 f2 s1
  have s2 := f12.size
  refine ⟨fun a l c v x => ∃ j : Nat, v = ((64 * j : Nat) : Int) ∧ 64 * j ≤ P.length ∧ l = 8 ∧ SlV x a 8 (vs .u32 (hj P j)) ∧ Below w2.heap.size w2 x, fun _ _ _ v _ => (P.length - v).toNat, ⟨0, rfl, by omega, rfl, hH, Below.refl _ _⟩, ?_⟩
  clear hH
  rintro ha l c v w3 ⟨j, rfl, hj1, rfl, hH, f3⟩
  have hlj := hj_length P j
  rw [ifB_iff]
  simp only [ltI_true, ltI_false]
  constructor
  · intro hlt
    have hj2 : 64 * j + 64 ≤ P.length := by omega
    refine ⟨by unfold InI64; omega, ⟨by omega, by omega⟩, ⟨by omega, by omega⟩, ?_⟩
    obtain ⟨had, rfl, hcell⟩ := hH.on (by omega)
    have e1 : Int.toNat ((64 * j : Nat) : Int) = 64 * j := by omega
    have e2 : Int.toNat (((64 * j : Nat) : Int) + 64) = 64 * j + 64 := by omega
    rw [e1, e2]
    have hsl := ((hP.below f3 (Nat.le_refl _)).dropS (d := 64 * j) (c := pc) (by omega) hpc).takeS (d := 64) (by omega)
    obtain ⟨bad, hbad, hbc⟩ := hsl.on (by omega)
    rw [hbad, show 64 * j + 64 - 64 * j = 64 by omega]
    have eb : vs .u8 ((P.drop (64 * j)).take 64) = ((vs .u8 P).drop (64 * j)).take 64 := by simp [vs]
    rw [← eb] at hbc
    refine (c23_any (hj P j) ((P.drop (64 * j)).take 64) hlj (by rw [List.length_take, List.length_drop]; omega) had bad c _ w3 hcell hbc).mono ?_
    rintro _ w4 ⟨a', c', rfl, hS', f4⟩
    refine ⟨a', 8, c', rfl, by unfold InI64; omega, ⟨j + 1, by omega, by omega, rfl, hS', f3.trans (f4.mono f3.size)⟩, by omega⟩
  · intro hge
    have hj2 : j = P.length / 64 := by omega
    rw [← hj2]
    generalize hj P j = X at *
    obtain ⟨had, rfl, hcell⟩ := hH.on (by omega)
    refine ⟨fun s v x => ∃ i : Nat, v = i ∧ i ≤ 8 ∧ s = ⟨(outN X i).toArray⟩ ∧ x = w3, fun _ v _ => (8 - v).toNat, ⟨0, rfl, by omega, rfl, rfl⟩, ?_⟩
    rintro s v w5 ⟨i, rfl, hi, rfl, h5⟩
    rw [ifB_iff]
    simp only [ltI_true, ltI_false]
    constructor
    · intro hlt
      refine ⟨fun s v x => ∃ k : Nat, v = 28 - 4 * (k : Int) ∧ k ≤ 8 ∧ s = ⟨(outN X i ++ hexN (X.getD i 0) k).toArray⟩ ∧ x = w3, fun _ v _ => (v + 4).toNat, ⟨0, rfl, by omega, by rw [hexN, List.append_nil], h5⟩, ?_⟩
      rintro s v w6 ⟨k, rfl, hk, rfl, h6⟩
      rw [ifB_iff]
      simp only [leI_true, leI_false]
      constructor
      · intro hge
        refine ⟨⟨by omega, by omega⟩, ?_⟩
        show ∃ x : Int, _
        have h15 := and15 (shrI .u32 (X.getD i 0) (28 - 4 * (k : Int)))
        refine ⟨X.getD i 0, by rw [h6]; exact sl_get hcell (v := (i : Int)) (by omega), by omega, ?_⟩
        have eD : dig (X.getD i 0) (28 - 4 * k) = digits.getD (bits .and .u32 (shrI .u32 (X.getD i 0) (28 - 4 * (k : Int))) 15).toNat 0 := by
          unfold dig
          rw [show ((28 - 4 * k : Nat) : Int) = 28 - 4 * (k : Int) by omega]
        have hsz : ((bs [48, 49, 50, 51, 52, 53, 54, 55, 56, 57, 97, 98, 99, 100, 101, 102]).size : Int) = 16 := by decide
        rw [hsz]
        generalize bits .and .u32 (shrI .u32 (X.getD i 0) (28 - 4 * (k : Int))) 15 = d at *
        have e3 : Int.toNat (d + 1) = d.toNat + 1 := by omega
        rw [e3, extract_digit _ (by omega), ← eD, push_digit]
        have hl : ((⟨(outN X i ++ hexN (X.getD i 0) k).toArray⟩ : ByteArray)).size = 8 * i + k := by
          show (outN X i ++ hexN (X.getD i 0) k).toArray.size = _
          simp [outN_length, hexN_length]
        refine ⟨by unfold InI64; omega, by unfold InI64; omega, ⟨by omega, by omega⟩, ⟨by omega, by omega⟩, ?_, by unfold InI64; omega, ⟨k + 1, by omega, by omega, ?_, h6⟩, by omega⟩
        · rw [hl]
          show 8 * i + k + 1 ≤ _
          omega
        · rw [hexN, List.append_assoc]
      · intro hlt2
        have : k = 8 := by omega
        subst this
        exact ⟨by unfold InI64; omega, ⟨i + 1, by simp, by omega, by rw [outN], h6⟩, by omega⟩
    · intro hge
      have : i = 8 := by omega
      subst this
      refine ⟨rfl, ?_⟩
      rw [h5]
      exact f12.trans (f3.mono s2)
end Go.Proofs.YtmkcffflebdheaaDoor
