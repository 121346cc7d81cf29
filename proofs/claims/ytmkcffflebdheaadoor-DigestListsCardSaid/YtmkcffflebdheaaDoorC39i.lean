/- Numbers in decimal, and the digest of a list. -/
import Derived.Test.YtmkcffflebdheaaDoorC39v
import Derived.Test.YtmkcffflebdheaaDoorC39r
import Derived.Test.YtmkcffflebdheaaDoorVw6
set_option linter.unusedVariables false
namespace Go.Proofs.YtmkcffflebdheaaDoor
open Go Go.Vc Go.RowKit

theorem below_grow (w : World) (k : Nat) (os : Array Obj) : Below w.heap.size w (Go.Sort.grow (w.drewN k) os) := by
  refine ⟨rfl, rfl, rfl, ?_, fun j hj => ?_⟩
  · show w.heap.size ≤ (w.heap ++ os).size
    simp
  · show (w.heap ++ os)[j]? = _
    rw [Array.getElem?_append_left hj]

/-- The table of powers of ten lies at its place. -/
def PTab (w : World) : Prop := Lib.TabIs Tryd.prog w "internal/strconv.uint64pow10" .u64 Lib.pow10Tab
theorem gPow : Tryd.prog.globalNamed "internal/strconv.uint64pow10" = some 1 := by kernel_rfl
theorem PTab.below {w w' : World} (h : PTab w) {B : Nat} (hw : Below B w w') (hB : 1 < B) : PTab w' := by
  unfold PTab Lib.TabIs at *
  rw [← h]
  simp only [World.var?, gPow, Option.bind_some, hw.block 1 hB]
theorem PTab.lt {w : World} (h : PTab w) : 1 < w.heap.size := by
  unfold PTab Lib.TabIs World.var? at h
  rw [gPow] at h
  simp only [Option.bind_some] at h
  by_cases hl : 1 < w.heap.size
  · exact hl
  · rw [Array.getElem?_eq_none (by omega)] at h
    cases h

theorem c17_any (n : Nat) (hn : n ≤ 9223372036854775807) (w : World) (hP : PTab w) :
    Calls Tryd.prog 17 #[(.int .i64 (n : Int))] w fun e w' => e = .returned (.string ⟨(Lib.itoa n).toArray⟩) ∧ Below w.heap.size w w' := by
  refine (Tryd.strconv_Itoa n (by omega) (by omega) w hP).mono ?_
  rintro e w' ⟨rfl, k, os, rfl⟩
  exact ⟨rfl, below_grow w k os⟩

theorem decDigits_le (u : Nat) : (Lib.decDigits u).length ≤ u + 1 := by
  induction u using Nat.strongRecOn with
  | ind u ih =>
    rw [Lib.decDigits]
    split
    · simp
    · have := ih (u / 10) (by omega)
      rw [List.length_append]
      simp only [List.length_cons, List.length_nil]
      omega
theorem itoa_le (u : Nat) : (Lib.itoa (u : Int)).length ≤ u + 1 := by
  unfold Lib.itoa
  rw [if_neg (by omega)]
  exact decDigits_le u

theorem nums_append (l m : List UInt8) : nums (l ++ m) = nums l ++ nums m := by simp [nums]

def partOf (s : ByteArray) : List UInt8 := Lib.itoa (s.size : Int) ++ ([58] ++ s.data.toList)
def listBytes : List ByteArray → List UInt8
  | [] => []
  | s :: r => partOf s ++ listBytes r
theorem listBytes_append (l m : List ByteArray) : listBytes (l ++ m) = listBytes l ++ listBytes m := by
  induction l with
  | nil => rfl
  | cons s r ih => rw [List.cons_append, listBytes, listBytes, ih, List.append_assoc]
theorem listBytes_le (l : List ByteArray) (h : ∀ s ∈ l, s.size ≤ 1048676) : (listBytes l).length ≤ l.length * 2097400 := by
  induction l with
  | nil => simp [listBytes]
  | cons s r ih =>
    have h1 := ih (fun x hx => h x (by simp [hx]))
    have h2 := h s (by simp)
    have h3 := itoa_le s.size
    have h4 : s.data.toList.length = s.size := by simp
    rw [listBytes, partOf, List.length_append, List.length_append, List.length_append, List.length_cons, List.length_cons, List.length_nil]
    omega
def total : List ByteArray → Nat
  | [] => 0
  | s :: r => s.size + total r
theorem total_append (l m : List ByteArray) : total (l ++ m) = total l + total m := by
  induction l with
  | nil => simp [total]
  | cons s r ih => rw [List.cons_append, total, total, ih, Nat.add_assoc]
theorem total_le (l : List ByteArray) (h : ∀ s ∈ l, s.size ≤ 1048676) : total l ≤ l.length * 1048676 := by
  induction l with
  | nil => simp [total]
  | cons s r ih =>
    have h1 := ih (fun x hx => h x (by simp [hx]))
    have h2 := h s (by simp)
    rw [total, List.length_cons]
    omega
theorem take_succ_one {α : Type} (l : List α) (i : Nat) (x : α) (h : l[i]? = some x) : l.take (i + 1) = l.take i ++ [x] := by
  rw [List.take_add_one, h]
  rfl

def tooGreat (ss : List ByteArray) : Prop := 1000 < ss.length ∨ 1048576 < total ss

theorem zero5 : (Tryd.prog.info? 5).bind (·.zero) = some (.int .u8 0) := by kernel_rfl

theorem c16_any (ss : List ByteArray) (la : Option Addr) (lc : Nat) (w : World) (hS : SlV w la ss.length (ss.map Value.string)) (hsz : ∀ s ∈ ss, s.size ≤ 1048676) (hT : Tab w) (hP : PTab w) :
    Calls Tryd.prog 16 #[(.slice la ss.length lc)] w fun e w' =>
      (tooGreat ss → e = .returned (.tuple ⟨[(.string (bs [])), (.int .i64 5)]⟩)) ∧ (¬ tooGreat ss → e = .returned (.tuple ⟨[(.string ⟨(sumL (nums (listBytes ss))).toArray⟩), (.int .i64 0)]⟩)) ∧ Below w.heap.size w w' := by
  refine (call16 la ss.length lc w (fun v w' => (tooGreat ss → v = (.tuple ⟨[(.string (bs [])), (.int .i64 5)]⟩)) ∧ (¬ tooGreat ss → v = (.tuple ⟨[(.string ⟨(sumL (nums (listBytes ss))).toArray⟩), (.int .i64 0)]⟩)) ∧ Below w.heap.size w w') ?_).mono
    (by rintro e w' ⟨v, rfl, h1, h2, h3⟩; exact ⟨fun h => by rw [h1 h], fun h => by rw [h2 h], h3⟩)
  unfold F16
  rw [ifB_iff]
  simp only [ltI_true, ltI_false]
  refine ⟨fun h => ⟨fun _ => trivial, fun hn => absurd (Or.inl (by omega)) hn, Below.refl _ _⟩, fun hlen => ?_⟩
  have get : ∀ (w' : World) (i : Nat) (hi : i < ss.length), Below w.heap.size w w' → ∃ ad, la = some ad ∧ w'.cell? (Addr.add ad (Int.toNat (i : Int) * 1)) = some (.string ss[i]) := by
    intro w' i hi hw
    obtain ⟨ad, hla, hc⟩ := (hS.below hw (Nat.le_refl _)).on (by omega)
    refine ⟨ad, hla, ?_⟩
    rw [Int.toNat_natCast, Nat.mul_one]
    exact hc i _ (by simp [hi])
  refine ⟨fun n v x => ∃ i : Nat, v = i ∧ i ≤ ss.length ∧ n = (total (ss.take i) : Nat) ∧ x = w, fun _ v _ => (ss.length - v).toNat, ⟨0, rfl, by omega, rfl, rfl⟩, ?_⟩
  rintro n v w1 ⟨i, rfl, hi, rfl, hw⟩
  rw [ifB_iff]
  simp only [ltI_true, ltI_false]
  constructor
  · intro hlt
    obtain ⟨ad, rfl, hc⟩ := get w1 i (by omega) (by rw [hw]; exact Below.refl _ _)
    refine ⟨⟨by omega, by omega⟩, ?_⟩
    show ∃ s : ByteArray, _
    have e : total (ss.take (i + 1)) = total (ss.take i) + ss[i].size := by
      rw [take_succ_one ss i ss[i] (by simp), total_append]
      simp [total]
    have hb := total_le (ss.take (i + 1)) (fun s hs => hsz s (List.mem_of_mem_take hs))
    rw [List.length_take, e] at hb
    exact ⟨ss[i], hc, by unfold InI64; omega, by unfold InI64; omega, ⟨i + 1, by simp, by omega, by rw [e]; simp, hw⟩, by omega⟩
  · intro hge
    have : i = ss.length := by omega
    subst this
    rw [List.take_of_length_le (Nat.le_refl _)]
    rw [ifB_iff]
    simp only [ltI_true, ltI_false]
    refine ⟨fun h => ⟨fun _ => trivial, fun hn => absurd (Or.inr (by omega)) hn, by rw [hw]; exact Below.refl _ _⟩, fun htot => ?_⟩
    have hok : ¬ tooGreat ss := by unfold tooGreat; omega
    refine ⟨fun a l c v x => ∃ i : Nat, v = i ∧ i ≤ ss.length ∧ Own x w.heap.size 5 1 a l c (vs .u8 (nums (listBytes (ss.take i)))) ∧ Below w.heap.size w x, fun _ _ _ v _ => (ss.length - v).toNat, ⟨0, rfl, by omega, by rw [hw]; exact Own.nil (Nat.le_refl _) _ _, by rw [hw]; exact Below.refl _ _⟩, ?_⟩
    clear hw
    rintro a l c v w2 ⟨i, rfl, hi, ow, f2⟩
    have hl := ow.length
    simp only [vs_length, nums_length, Nat.mul_one] at hl
    have hbl := listBytes_le (ss.take i) (fun s hs => hsz s (List.mem_of_mem_take hs))
    rw [List.length_take] at hbl
    rw [ifB_iff]
    simp only [ltI_true, ltI_false]
    constructor
    · intro hlt
      have hi2 : i < ss.length := by omega
      obtain ⟨ad, rfl, hc⟩ := get w2 i hi2 f2
      refine ⟨⟨by omega, by omega⟩, ?_⟩
      show ∃ s : ByteArray, _
      refine ⟨ss[i], hc, ?_⟩
      have hz := hsz ss[i] (by simp)
      refine (c17_any ss[i].size (by omega) w2 (hP.below f2 hP.lt)).mono ?_
      rintro _ w3 ⟨rfl, f3⟩
      refine ⟨_, rfl, ?_⟩
      have hit := itoa_le ss[i].size
      have hisz : (⟨(Lib.itoa (ss[i].size : Int)).toArray⟩ : ByteArray).size = (Lib.itoa (ss[i].size : Int)).length := by
        show (Lib.itoa (ss[i].size : Int)).toArray.size = _
        simp
      obtain ⟨a4, l4, c4, w4, hr4, rfl, o4, f4⟩ := (ow.below f3).appStr E22 zero5 Tryd.underlying9 22 ⟨(Lib.itoa (ss[i].size : Int)).toArray⟩ (by omega)
      refine ⟨a4, _, c4, w4, hr4, ?_⟩
      rintro w5 rfl
      obtain ⟨a5, l5, c5, w6, hr5, rfl, o5, f5⟩ := o4.app1 E22 22 (N := [(.int .u8 (58 : Int))]) rfl (vs_one .u8 [58]) (by omega) (by unfold maxLen; omega)
      refine ⟨a5, _, c5, w6, hr5, ?_⟩
      obtain ⟨a6, l6, c6, w7, hr6, rfl, o6, f6⟩ := o5.appStr E22 zero5 Tryd.underlying9 22 ss[i] (by omega)
      refine ⟨a6, _, c6, w7, hr6, by unfold InI64; omega, ⟨i + 1, by simp, by omega, ?_, ?_⟩, by omega⟩
      · have e : vs .u8 (nums (listBytes (ss.take (i + 1)))) = vs .u8 (nums (listBytes (ss.take i))) ++ vs .u8 (nums (⟨(Lib.itoa (ss[i].size : Int)).toArray⟩ : ByteArray).data.toList) ++ [(.int .u8 (58 : Int))] ++ vs .u8 (nums ss[i].data.toList) := by
          rw [take_succ_one ss i ss[i] (by simp), listBytes_append]
          simp [listBytes, partOf, nums, vs]
        rw [e]
        exact o6
      · exact (((f2.trans (f3.mono f2.size)).trans f4).trans f5).trans f6
    · intro hge
      have : i = ss.length := by omega
      subst this
      rw [List.take_of_length_le (Nat.le_refl _)] at ow hl
      have ho : SlV w2 a (nums (listBytes ss)).length (vs .u8 (nums (listBytes ss))) := by rw [nums_length, hl]; exact ow.sl1
      have hle := ow.le
      have := c10_any (nums (listBytes ss)) a c w2 ho (by rw [nums_length]; omega) (hT.below f2 hT.lt)
      rw [nums_length, hl] at this
      refine this.mono ?_
      rintro _ w8 ⟨rfl, f8⟩
      exact ⟨_, rfl, fun h => absurd h hok, fun _ => rfl, f2.trans (f8.mono f2.size)⟩
end Go.Proofs.YtmkcffflebdheaaDoor
