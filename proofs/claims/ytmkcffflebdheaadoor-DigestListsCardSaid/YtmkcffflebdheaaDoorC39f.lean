/- The reference's decimal numbers, and its digest of a list. -/
import Derived.Test.YtmkcffflebdheaaDoorFl39
import Derived.Test.YtmkcffflebdheaaDoorC39i
import Derived.Test.YtmkcffflebdheaaDoorC39l
set_option linter.unusedVariables false
namespace Go.Proofs.YtmkcffflebdheaaDoor
open Go Go.Vc Go.RowKit

theorem digit_byte (n : Nat) : nums [UInt8.ofNat (48 + n % 10)] = [IntKind.u8.wrap (48 + Int.tmod (n : Int) 10)] := by
  have e : Int.tmod (n : Int) 10 = ((n % 10 : Nat) : Int) := by rw [Int.tmod_eq_emod_of_nonneg (by omega)]; omega
  rw [e]
  simp only [nums, List.map_cons, List.map_nil]
  rw [UInt8.toNat_ofNat_of_lt' (by show 48 + n % 10 < 256; omega)]
  congr 1
  simp [IntKind.wrap, IntKind.bits, IntKind.signed]
  omega

theorem c29_any (n : Nat) : ∀ (_ : n ≤ 9223372036854775807) (w : World),
    Calls Tryd.prog 29 #[(.int .i64 (n : Int))] w fun e w' => e = .returned (.string ⟨(Lib.decDigits n).toArray⟩) ∧ Below w.heap.size w w' := by
  induction n using Nat.strongRecOn with
  | ind n ih =>
    intro hn w
    refine fin (Fl.call29 n w _ ?_)
    unfold Fl.F29
    have em : Int.tmod (n : Int) 10 = ((n % 10 : Nat) : Int) := by rw [Int.tmod_eq_emod_of_nonneg (by omega)]; omega
    have ed : Int.tdiv (n : Int) 10 = ((n / 10 : Nat) : Int) := by rw [Int.tdiv_eq_ediv_of_nonneg (by omega)]; omega
    refine ⟨by omega, by rw [em]; unfold InI64; omega, ?_⟩
    intro w1 hw1
    have b1 : Blk w1 w.heap.size 5 (vs .u8 (nums [UInt8.ofNat (48 + n % 10)])) := by rw [hw1, digit_byte]; exact Blk.new _ _ _
    have f1 : Below w.heap.size w w1 := by rw [hw1]; exact (Below.refl _ _).alloc (Nat.le_refl _) _
    refine ⟨_, w1, string_of (n := 1) Tryd.underlying22 Tryd.underlying5 Tryd.underlying9 ⟨by simp, Or.inr ⟨_, rfl, b1.on⟩⟩, ?_⟩
    simp only [ifB_iff, leI_true, leI_false]
    rw [Lib.decDigits]
    constructor
    · intro hge
      have hn10 : ¬ n < 10 := by omega
      rw [dif_neg hn10, ed]
      refine ⟨by omega, by unfold InI64; omega, ?_⟩
      refine (ih (n / 10) (by omega) (by omega) w1).mono ?_
      rintro _ w3 ⟨rfl, f3⟩
      refine ⟨_, rfl, ?_, ?_, f1.trans (f3.mono f1.size)⟩
      · have h := decDigits_le (n / 10)
        show (Lib.decDigits (n / 10)).toArray.size + 1 ≤ _
        simp only [List.size_toArray]
        omega
      · rw [push_digit]
    · intro hlt
      have hn10 : n < 10 := by omega
      rw [dif_pos hn10]
      rw [show n % 10 = n by omega]
      exact ⟨rfl, f1⟩

theorem c20_any (ss : List ByteArray) (la : Option Addr) (lc : Nat) (w : World) (hS : SlV w la ss.length (ss.map Value.string)) (hsz : ∀ s ∈ ss, s.size ≤ 1048676) :
    Calls Tryd.prog 20 #[(.slice la ss.length lc)] w fun e w' =>
      (tooGreat ss → e = .returned (.tuple ⟨[(.string (bs [])), (.int .i64 5)]⟩)) ∧ (¬ tooGreat ss → e = .returned (.tuple ⟨[(.string ⟨(refL (nums (listBytes ss))).toArray⟩), (.int .i64 0)]⟩)) ∧ Below w.heap.size w w' := by
  refine (Fl.call20 la ss.length lc w (fun v w' => (tooGreat ss → v = (.tuple ⟨[(.string (bs [])), (.int .i64 5)]⟩)) ∧ (¬ tooGreat ss → v = (.tuple ⟨[(.string ⟨(refL (nums (listBytes ss))).toArray⟩), (.int .i64 0)]⟩)) ∧ Below w.heap.size w w') ?_).mono
    (by rintro e w' ⟨v, rfl, h1, h2, h3⟩; exact ⟨fun h => by rw [h1 h], fun h => by rw [h2 h], h3⟩)
  unfold Fl.F20
  rw [ifB_iff]
  simp only [ltI_true, ltI_false]
  refine ⟨fun h => ⟨fun _ => trivial, fun hn => absurd (Or.inl (by omega)) hn, Below.refl _ _⟩, fun hlen => ?_⟩
  have get : ∀ (w' : World) (i : Nat) (hi : i < ss.length), Below w.heap.size w w' → ∃ ad, la = some ad ∧ w'.cell? (Addr.add ad (Int.toNat (i : Int) * 1)) = some (.string ss[i]) ∧ (Addr.add ad (Int.toNat (i : Int) * 1)).block < w.heap.size := by
    intro w' i hi hw
    obtain ⟨ad, hla, hc⟩ := hS.on (by omega)
    have h1 := hc i (.string ss[i]) (by simp [hi])
    have hlt := World.block_lt_of_cell? w _ h1
    refine ⟨ad, hla, ?_, ?_⟩
    · rw [Int.toNat_natCast, Nat.mul_one, hw.cell hlt]
      exact h1
    · rw [Int.toNat_natCast, Nat.mul_one]
      exact hlt
  refine ⟨fun n v x => ∃ i : Nat, v = i ∧ i ≤ ss.length ∧ n = (total (ss.take i) : Nat) ∧ x = w, fun _ v _ => (ss.length - v).toNat, ⟨0, rfl, by omega, rfl, rfl⟩, ?_⟩
  rintro n v w1 ⟨i, rfl, hi, rfl, hw⟩
  rw [ifB_iff]
  simp only [ltI_true, ltI_false]
  constructor
  · intro hlt
    obtain ⟨ad, rfl, hc, _⟩ := get w1 i (by omega) (by rw [hw]; exact Below.refl _ _)
    refine ⟨⟨by omega, by omega⟩, ?_⟩
    show ∃ s : ByteArray, _
    have e : total (ss.take (i + 1)) = total (ss.take i) + ss[i].size := by
      rw [take_succ_one ss i ss[i] (by simp), total_append]
      simp [total]
    have hb := total_le (ss.take (i + 1)) (fun s hs => hsz s (List.mem_of_mem_take hs))
    rw [List.length_take, e] at hb
    exact ⟨ss[i], hc, by unfold InI64; omega, by unfold InI64; omega, ⟨i + 1, by simp, by omega, by rw [e]; simp, hw⟩, by omega⟩
  · intro hge
    have : i = ss.length := by omega
    subst this
    rw [List.take_of_length_le (Nat.le_refl _)]
    rw [ifB_iff]
    simp only [ltI_true, ltI_false]
    refine ⟨fun h => ⟨fun _ => trivial, fun hn => absurd (Or.inr (by omega)) hn, by rw [hw]; exact Below.refl _ _⟩, fun htot => ?_⟩
    have hok : ¬ tooGreat ss := by unfold tooGreat; omega
    refine ⟨fun a l c v x => ∃ i : Nat, v = i ∧ i ≤ ss.length ∧ Own x w.heap.size 5 1 a l c (vs .u8 (nums (listBytes (ss.take i)))) ∧ Below w.heap.size w x, fun _ _ _ v _ => (ss.length - v).toNat, ⟨0, rfl, by omega, by rw [hw]; exact Own.nil (Nat.le_refl _) _ _, by rw [hw]; exact Below.refl _ _⟩, ?_⟩
    clear hw
    rintro a l c v w2 ⟨i, rfl, hi, ow, f2⟩
    have hl := ow.length
    simp only [vs_length, nums_length, Nat.mul_one] at hl
    have hbl := listBytes_le (ss.take i) (fun s hs => hsz s (List.mem_of_mem_take hs))
    rw [List.length_take] at hbl
    rw [ifB_iff]
    simp only [ltI_true, ltI_false]
    constructor
    · rintro hlt w3 rfl
      have hi2 : i < ss.length := by omega
      obtain ⟨ad, rfl, hc, hblk⟩ := get w2.drew i hi2 f2.drew
      refine ⟨w.heap.size, ⟨by omega, by omega⟩, ?_⟩
      show _ < _ ∧ ∃ s : ByteArray, _
      refine ⟨hblk, ss[i], hc, ⟨by omega, by omega⟩, ?_⟩
      show _ < _ ∧ ∃ s : ByteArray, _
      refine ⟨hblk, ss[i], hc, ?_⟩
      have hz := hsz ss[i] (by simp)
      refine (c29_any ss[i].size (by omega) w2.drew).mono ?_
      rintro _ w4 ⟨rfl, f4⟩
      have s2 := f2.size
      have f4' : Below w.heap.size w2.drew w4 := f4.mono s2
      have hit := decDigits_le ss[i].size
      have e58 : (bs [58]).size = 1 := rfl
      have d58 : (bs [58]).data.toList = [58] := rfl
      have hisz : (⟨(Lib.decDigits ss[i].size).toArray⟩ : ByteArray).size = (Lib.decDigits ss[i].size).length := by
        show (Lib.decDigits ss[i].size).toArray.size = _
        simp
      have hcat : ((⟨(Lib.decDigits ss[i].size).toArray⟩ : ByteArray) ++ bs [58]).size = (Lib.decDigits ss[i].size).length + 1 := by
        rw [ByteArray.size_append, hisz, e58]
      refine ⟨_, rfl, f4', by rw [hisz, e58]; omega, ?_⟩
      obtain ⟨a4, l4, c4, w5, hr4, rfl, o4, f5⟩ := (ow.drew.below f4).appStr E22 zero5 Tryd.underlying9 22 ((⟨(Lib.decDigits ss[i].size).toArray⟩ : ByteArray) ++ bs [58]) (by omega)
      refine ⟨a4, _, c4, w5, hr4, f4'.trans f5, ?_⟩
      obtain ⟨a6, l6, c6, w7, hr6, rfl, o6, f6⟩ := o4.appStr E22 zero5 Tryd.underlying9 22 ss[i] (by omega)
      refine ⟨a6, _, c6, w7, hr6, by unfold InI64; omega, ⟨i + 1, by simp, by omega, ?_, ?_⟩, by omega⟩
      · have e : vs .u8 (nums (listBytes (ss.take (i + 1)))) = vs .u8 (nums (listBytes (ss.take i))) ++ vs .u8 (nums ((⟨(Lib.decDigits ss[i].size).toArray⟩ : ByteArray) ++ bs [58]).data.toList) ++ vs .u8 (nums ss[i].data.toList) := by
          have hi0 : Lib.itoa (ss[i].size : Int) = Lib.decDigits ss[i].size := by
            unfold Lib.itoa
            rw [if_neg (by omega)]
            simp
          rw [take_succ_one ss i ss[i] (by simp), listBytes_append]
          simp [listBytes, partOf, nums, vs, hi0, d58]
        rw [e]
        exact o6
      · exact ((f2.drew.trans f4').trans f5).trans f6
    · intro hge
      have : i = ss.length := by omega
      subst this
      rw [List.take_of_length_le (Nat.le_refl _)] at ow hl
      have ho : SlV w2 a (nums (listBytes ss)).length (vs .u8 (nums (listBytes ss))) := by rw [nums_length, hl]; exact ow.sl1
      have hle := ow.le
      have hnil : a = none → c = 0 := by
        intro ha
        subst ha
        rcases ow.2.2 with ⟨h, _⟩ | ⟨g, cap, cur, h1, _⟩
        · cases h; rfl
        · cases h1
      have hsmall := listBytes_le ss hsz
      have := c9_any (nums (listBytes ss)) a c hnil w2 ho (by rw [nums_length]; omega)
      rw [nums_length, hl] at this
      refine this.mono ?_
      rintro _ w8 ⟨rfl, f8⟩
      exact ⟨_, rfl, fun h => absurd h hok, fun _ => rfl, f2.trans (f8.mono f2.size)⟩
end Go.Proofs.YtmkcffflebdheaaDoor
