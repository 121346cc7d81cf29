/- The law DigestValid. -/
import Derived.Test.YtmkcffflebdheaaDoorC39i
import Derived.Test.YtmkcffflebdheaaDoorC39a
set_option linter.unusedVariables false
namespace Go.Proofs.YtmkcffflebdheaaDoor
open Go Go.Vc Go.RowKit

theorem dig_hex (x : Int) (i : Nat) : isHex (dig x i) := by
  have h15 := and15 (shrI .u32 x (i : Int))
  unfold dig
  have : ∀ d : Fin 16, (48 ≤ (digits.getD d.val 0).toNat ∧ (digits.getD d.val 0).toNat ≤ 57) ∨ (97 ≤ (digits.getD d.val 0).toNat ∧ (digits.getD d.val 0).toNat ≤ 102) := by decide
  generalize bits .and .u32 (shrI .u32 x (i : Int)) 15 = d at *
  have hd : d.toNat < 16 := by omega
  exact this ⟨_, hd⟩
theorem hexN_hex (x : Int) : ∀ j, ∀ b ∈ hexN x j, isHex b
  | 0, b, hb => by simp [hexN] at hb
  | j + 1, b, hb => by
    rw [hexN, List.mem_append] at hb
    rcases hb with hb | hb
    · exact hexN_hex x j b hb
    · simp only [List.mem_cons, List.not_mem_nil, or_false] at hb
      subst hb
      exact dig_hex _ _
theorem outN_hex (X : List Int) : ∀ j, ∀ b ∈ outN X j, isHex b
  | 0, b, hb => by simp [outN] at hb
  | j + 1, b, hb => by
    rw [outN, List.mem_append] at hb
    rcases hb with hb | hb
    · exact outN_hex X j b hb
    · exact hexN_hex _ 8 b hb
theorem sumL_valid (B : List Int) : validP ⟨(sumL B).toArray⟩ := by
  refine ⟨fun j b hj => outN_hex (wordsOf B) 8 b ?_, ?_⟩
  · have hlt : j < (⟨(sumL B).toArray⟩ : ByteArray).size := by
      by_cases h : j < (⟨(sumL B).toArray⟩ : ByteArray).size
      · exact h
      · simp [h] at hj
    have e : (⟨(sumL B).toArray⟩ : ByteArray)[j]? = some ((⟨(sumL B).toArray⟩ : ByteArray)[j]) := by simp [hlt]
    rw [e] at hj
    cases hj
    show (sumL B).toArray[j] ∈ outN (wordsOf B) 8
    simp [sumL]
  · show (sumL B).toArray.size = 64
    simp [sumL, outN_length]

theorem toList_app (a b : ByteArray) : (a ++ b).data.toList = a.data.toList ++ b.data.toList := by simp [ByteArray.data_append]
theorem size_app (a b : ByteArray) : (a ++ b).size = a.size + b.size := by simp [ByteArray.size_append]
theorem size_mk (l : List UInt8) : (⟨l.toArray⟩ : ByteArray).size = l.length := by
  show l.toArray.size = _
  simp

theorem len_data (s : ByteArray) : s.data.toList.length = s.size := by simp

theorem strEq_true_iff {a b : ByteArray} : strEq a b = true ↔ a = b := by simp [strEq]

theorem c6_any (a b : ByteArray) (w : World) (hT : Tab w) (hP : PTab w) :
    Calls Tryd.prog 6 #[(.string a), (.string b)] w fun e w' => e = .returned (.bool true) ∧ Below w.heap.size w w' := by
  refine fin (call6 a b w _ ?_)
  unfold F6
  refine (c8_any w hT).mono ?_
  rintro _ w1 ⟨rfl, f1⟩
  refine ⟨_, rfl, ?_⟩
  rw [ifB_iff]
  refine ⟨fun h => (by cases h), fun _ => ?_⟩
  intro J hJ
  simp only [ifB_iff, ltI_true, ltI_false]
  refine ⟨fun _ => ⟨trivial, f1⟩, fun ha => ⟨fun _ => ⟨trivial, f1⟩, fun hb => ?_⟩⟩
  apply hJ
  clear hJ J
  rintro w3 rfl
  have s1 := f1.size
  have f2 := f1.alloc s1 (.cells ⟨[(.string a)]⟩ 9)
  have hS1 : SlV (w1.alloc (.cells ⟨[(.string a)]⟩ 9)) (some ⟨w1.heap.size, 0, none⟩) [a].length ([a].map Value.string) := ⟨rfl, Or.inr ⟨_, rfl, (Blk.new w1 _ 9).on⟩⟩
  refine (c16_any [a] _ 1 _ hS1 (by simp; omega) (hT.below f2 hT.lt) (hP.below f2 hP.lt)).mono ?_
  rintro en w4 ⟨_, h4, f4⟩
  replace f4 := f2.trans (f4.mono f2.size)
  have n4 : ¬ tooGreat [a] := by unfold tooGreat; simp [total]; omega
  refine ⟨_, _, h4 n4, ?_⟩
  rintro w5 rfl
  have s4 := f4.size
  have f5 := f4.alloc s4 (.cells ⟨[(.string a), (.string b)]⟩ 9)
  have hS2 : SlV (w4.alloc (.cells ⟨[(.string a), (.string b)]⟩ 9)) (some ⟨w4.heap.size, 0, none⟩) [a, b].length ([a, b].map Value.string) := ⟨rfl, Or.inr ⟨_, rfl, (Blk.new w4 _ 9).on⟩⟩
  refine (c16_any [a, b] _ 2 _ hS2 (by simp; omega) (hT.below f5 hT.lt) (hP.below f5 hP.lt)).mono ?_
  rintro en w6 ⟨_, h6, f6⟩
  replace f6 := f5.trans (f6.mono f5.size)
  have n6 : ¬ tooGreat [a, b] := by unfold tooGreat; simp [total]; omega
  refine ⟨_, _, h6 n6, ?_⟩
  have ia := itoa_le a.size
  have ib := itoa_le b.size
  have e58 : (bs [58]).size = 1 := rfl
  have d58 : (bs [58]).data.toList = [58] := rfl
  have L1 : ((⟨(Lib.itoa (a.size : Int)).toArray⟩ : ByteArray) ++ bs [58] ++ a).data.toList = listBytes [a] := by
    simp [d58, listBytes, partOf]
  have L2 : ((⟨(Lib.itoa (a.size : Int)).toArray⟩ : ByteArray) ++ bs [58] ++ a ++ ⟨(Lib.itoa (b.size : Int)).toArray⟩ ++ bs [58] ++ b).data.toList = listBytes [a, b] := by
    simp [d58, listBytes, partOf]
  intro J hJ
  simp only [ifB_iff, Bool.not_eq_true', Bool.not_eq_false', eqI_true, eqI_false]
  refine ⟨fun h => absurd rfl h, fun _ => ⟨fun h => absurd rfl h, fun _ => ?_⟩⟩
  refine (c13_any _ (by rw [size_mk, sumL, outN_length]; omega) w6).mono ?_
  rintro _ w6 ⟨x7, rfl, hx7, rfl⟩
  rw [hx7.2 (sumL_valid _)]
  refine ⟨true, rfl, fun h => (by cases h), fun _ => ?_⟩
  refine (c13_any _ (by rw [size_mk, sumL, outN_length]; omega) w6).mono ?_
  rintro _ w6 ⟨x8, rfl, hx8, rfl⟩
  rw [hx8.2 (sumL_valid _)]
  refine ⟨true, rfl, fun h => (by cases h), fun _ => ?_⟩
  refine (c11_any a w6 (hT.below f6 hT.lt)).mono ?_
  rintro _ w17 ⟨rfl, f17⟩
  replace f17 := f6.trans (f17.mono f6.size)
  refine ⟨_, rfl, ?_⟩
  refine (c13_any _ (by rw [size_mk, sumL, outN_length]; omega) w17).mono ?_
  rintro _ w17 ⟨x10, rfl, hx10, rfl⟩
  rw [hx10.2 (sumL_valid _)]
  refine ⟨true, rfl, fun h => (by cases h), fun _ => ?_⟩
  refine (c17_any a.size (by omega) w17 (hP.below f17 hP.lt)).mono ?_
  rintro _ w19 ⟨rfl, f19⟩
  replace f19 := f17.trans (f19.mono f17.size)
  refine ⟨_, rfl, by rw [size_mk, e58]; omega, by rw [size_app, size_mk, e58]; omega, ?_⟩
  refine (c11_any _ w19 (hT.below f19 hT.lt)).mono ?_
  rintro _ w20 ⟨rfl, f20⟩
  replace f20 := f19.trans (f20.mono f19.size)
  refine ⟨_, rfl, ?_⟩
  rw [L1, strEq_self]
  refine ⟨fun h => (by cases h), fun _ => ?_⟩
  apply hJ
  clear hJ J
  refine (c17_any a.size (by omega) w20 (hP.below f20 hP.lt)).mono ?_
  rintro _ w8 ⟨rfl, f8⟩
  replace f8 := f20.trans (f8.mono f20.size)
  refine ⟨_, rfl, by rw [size_mk, e58]; omega, by rw [size_app, size_mk, e58]; omega, ?_⟩
  refine (c17_any b.size (by omega) w8 (hP.below f8 hP.lt)).mono ?_
  rintro _ w9 ⟨rfl, f9⟩
  replace f9 := f8.trans (f9.mono f8.size)
  refine ⟨_, rfl, by simp only [size_app, size_mk, e58]; omega, by simp only [size_app, size_mk, e58]; omega, by simp only [size_app, size_mk, e58]; omega, ?_⟩
  refine (c11_any _ w9 (hT.below f9 hT.lt)).mono ?_
  rintro _ w10 ⟨rfl, f10⟩
  replace f10 := f9.trans (f10.mono f9.size)
  refine ⟨_, rfl, ?_⟩
  rw [L2, strEq_self, ifB_iff]
  refine ⟨fun _ => ?_, fun h => (by cases h)⟩
  obtain ⟨xa, xc, w11, hrun, hS, hc, f11⟩ := bytes_of (P := Tryd.prog) (w := w10) (src := 9) (dst := 22) (s := (⟨(Lib.itoa (a.size : Int)).toArray⟩ : ByteArray) ++ bs [58] ++ a ++ ⟨(Lib.itoa (b.size : Int)).toArray⟩ ++ bs [58] ++ b) Tryd.underlying9 Tryd.underlying22 Tryd.underlying5
  replace f11 := f10.trans (f11.mono f10.size)
  refine ⟨xa, _, xc, w11, hrun, ?_⟩
  have hl : (nums ((⟨(Lib.itoa (a.size : Int)).toArray⟩ : ByteArray) ++ bs [58] ++ a ++ ⟨(Lib.itoa (b.size : Int)).toArray⟩ ++ bs [58] ++ b).data.toList).length = ((⟨(Lib.itoa (a.size : Int)).toArray⟩ : ByteArray) ++ bs [58] ++ a ++ ⟨(Lib.itoa (b.size : Int)).toArray⟩ ++ bs [58] ++ b).size := by
    rw [nums_length]
    exact len_data _
  have h10 := c10_any _ xa xc w11 (by rw [hl]; exact hS) (by rw [hl]; exact hc) (hT.below f11 hT.lt)
  rw [hl] at h10
  refine h10.mono ?_
  rintro _ w12 ⟨rfl, f12⟩
  replace f12 := f11.trans (f12.mono f11.size)
  refine ⟨_, rfl, ?_⟩
  rw [L2, strEq_self, ifB_iff]
  simp only [ifB_iff, Bool.not_eq_true', Bool.not_eq_false']
  refine ⟨fun _ => ⟨fun _ => ⟨trivial, f12⟩, fun hab => ?_⟩, fun h => (by cases h)⟩
  have hab : a = b := strEq_true_iff.1 hab
  subst hab
  refine (c11_any a w12 (hT.below f12 hT.lt)).mono ?_
  rintro _ w13 ⟨rfl, f13⟩
  replace f13 := f12.trans (f13.mono f12.size)
  refine ⟨_, rfl, ?_⟩
  refine (c11_any a w13 (hT.below f13 hT.lt)).mono ?_
  rintro _ w14 ⟨rfl, f14⟩
  replace f14 := f13.trans (f14.mono f13.size)
  refine ⟨_, rfl, ?_, f14⟩
  rw [strEq_self]
end Go.Proofs.YtmkcffflebdheaaDoor
