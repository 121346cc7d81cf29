/- The store: check sums, numbers in bytes, validity. -/
import Derived.Test.YtlofbfbcnlgmaaaFn53
import Derived.Test.YtlofbfbcnlgmaaaVf2
import Derived.Test.YtlofbfbcnlgmaaaVbits
set_option linter.unusedVariables false
namespace Go.Proofs.Ytlofbfbcnlgmaaa
open Go Go.Vc Go.RowKit

/-! ### Check sums -/
def stepN (c : Nat) : Nat := if c % 2 = 1 then (c / 2) ^^^ 3988292384 else c / 2
def crcN (c : Nat) : Nat → Nat
  | 0 => c
  | k + 1 => stepN (crcN c k)
def crcNTo (l : List UInt8) : Nat → Nat
  | 0 => 4294967295
  | i + 1 => crcN (crcNTo l i ^^^ (l.getD i 0).toNat) 8
def sumN (l : List UInt8) : Nat := crcNTo l l.length ^^^ 4294967295

theorem stepN_lt (c : Nat) (h : c < 2 ^ 32) : stepN c < 2 ^ 32 := by
  unfold stepN
  split
  · exact Nat.xor_lt_two_pow (by omega) (by omega)
  · omega
theorem crcN_lt (c : Nat) (h : c < 2 ^ 32) : ∀ k, crcN c k < 2 ^ 32
  | 0 => h
  | k + 1 => stepN_lt _ (crcN_lt c h k)
theorem byte_lt (b : UInt8) : b.toNat < 2 ^ 32 := by
  have := b.toNat_lt
  omega
theorem crcNTo_lt (l : List UInt8) : ∀ i, crcNTo l i < 2 ^ 32
  | 0 => by show (4294967295 : Nat) < 2 ^ 32; omega
  | i + 1 => crcN_lt _ (Nat.xor_lt_two_pow (crcNTo_lt l i) (byte_lt _)) 8
theorem sumN_lt (l : List UInt8) : sumN l < 2 ^ 32 := Nat.xor_lt_two_pow (crcNTo_lt l _) (by decide)
theorem not32 : (if IntKind.u32.signed = true then (-1 : Int) else IntKind.u32.max) = 4294967295 := by decide

theorem k62 (l : List UInt8) {a : Option Addr} {n c : Nat} {g : G} (h : SlB g a n c l) : CallsP Try.prog 62 #[.slice a n c] g fun v _ => v = .int .u32 ((sumN l : Nat) : Int) := by
  refine call62 a n c g _ ?_
  have hl := SlB.length h
  have hc := h.cap
  have hle := h.le
  unfold maxLen at hc
  unfold F62
  refine ⟨fun m c v g' => ∃ i : Nat, v = i ∧ i + m = n ∧ c = ((crcNTo l i : Nat) : Int), ⟨n, 0, rfl, by omega, rfl⟩, ?_⟩
  rintro m c v g1 le ⟨i, rfl, him, rfl⟩
  refine ifLt (fun hlt => ?_) (fun hge => ?_)
  · refine ⟨⟨by omega, by omega⟩, SlB.rdN (h.mono le) i rfl (by omega) ?_⟩
    rw [wrap_u32_nat _ (byte_lt _), xor_u32 _ _ (crcNTo_lt l i) (byte_lt _)]
    have hlt0 := Nat.xor_lt_two_pow (crcNTo_lt l i) (byte_lt (l.getD i 0))
    refine ⟨fun m c v g' => ∃ k : Nat, v = k ∧ k + m = 8 ∧ c = ((crcN (crcNTo l i ^^^ (l.getD i 0).toNat) k : Nat) : Int), ⟨8, 0, rfl, rfl, rfl⟩, ?_⟩
    rintro m2 c v g2 le2 ⟨k, rfl, hk, rfl⟩
    have hck := crcN_lt _ hlt0 k
    refine ifLt (fun hlt2 => ⟨by omega, ?_⟩) (fun hge2 => ?_)
    · rw [and_u32_one _ hck, shr_u32_one]
      refine ifEq (fun h1 => ?_) (fun h1 => ?_)
      · rw [show (3988292384 : Int) = ((3988292384 : Nat) : Int) from rfl, xor_u32 _ _ (by omega) (by decide)]
        exact ⟨i64 (by omega) (by omega), m2 - 1, by omega, k + 1, by omega, by omega, by rw [crcN, stepN, if_pos (by omega)]⟩
      · exact ⟨i64 (by omega) (by omega), m2 - 1, by omega, k + 1, by omega, by omega, by rw [crcN, stepN, if_neg (by omega)]⟩
    · have : k = 8 := by omega
      subst this
      exact ⟨i64 (by omega) (by omega), m - 1, by omega, i + 1, by omega, by omega, by rw [crcNTo]⟩
  · intro g3 _
    have : i = l.length := by omega
    subst this
    rw [not32, sumN, Nat.xor_comm]
    exact congrArg _ (xor_u32 4294967295 _ (by decide) (crcNTo_lt l _))

theorem k42 (l : List UInt8) {a : Option Addr} {n c : Nat} {g : G} (h : SlB g a n c l) : CallsP Try.prog 42 #[.slice a n c] g fun v _ => v = .int .i64 ((sumN l : Nat) : Int) := by
  refine call42 a n c g _ ?_
  have hl := SlB.length h
  have hc := h.cap
  have hle := h.le
  unfold maxLen at hc
  unfold F42
  refine ⟨fun m c v g' => ∃ i : Nat, v = i ∧ i + m = n ∧ c = ((crcNTo l i : Nat) : Int), ⟨n, 0, rfl, by omega, rfl⟩, ?_⟩
  rintro m c v g1 le ⟨i, rfl, him, rfl⟩
  refine ifLt (fun hlt => ?_) (fun hge => ?_)
  · refine ⟨⟨by omega, by omega⟩, SlB.rdN (h.mono le) i rfl (by omega) ?_⟩
    have hb := byte_lt (l.getD i 0)
    rw [xor_i64 _ _ (crcNTo_lt l i) hb]
    have hlt0 := Nat.xor_lt_two_pow (crcNTo_lt l i) hb
    refine ⟨i64 (by omega) (by omega), fun m c v g' => ∃ k : Nat, v = k ∧ k + m = 8 ∧ c = ((crcN (crcNTo l i ^^^ (l.getD i 0).toNat) k : Nat) : Int), ⟨8, 0, rfl, rfl, rfl⟩, ?_⟩
    rintro m2 c v g2 le2 ⟨k, rfl, hk, rfl⟩
    have hck := crcN_lt _ hlt0 k
    have em : Int.tmod ((crcN (crcNTo l i ^^^ (l.getD i 0).toNat) k : Nat) : Int) 2 = ((crcN (crcNTo l i ^^^ (l.getD i 0).toNat) k % 2 : Nat) : Int) := by rw [Int.tmod_eq_emod_of_nonneg (by omega)]; omega
    have ed : Int.tdiv ((crcN (crcNTo l i ^^^ (l.getD i 0).toNat) k : Nat) : Int) 2 = ((crcN (crcNTo l i ^^^ (l.getD i 0).toNat) k / 2 : Nat) : Int) := by rw [Int.tdiv_eq_ediv_of_nonneg (by omega)]; omega
    refine ifLt (fun hlt2 => ⟨by omega, ?_⟩) (fun hge2 => ?_)
    · rw [em, ed]
      refine ifEq (fun h1 => ?_) (fun h1 => ?_)
      · rw [show (3988292384 : Int) = ((3988292384 : Nat) : Int) from rfl, xor_i64 _ _ (by omega) (by decide)]
        exact ⟨by omega, i64 (by omega) (by omega), i64 (by omega) (by omega), m2 - 1, by omega, k + 1, by omega, by omega, by rw [crcN, stepN, if_pos (by omega)]⟩
      · exact ⟨by omega, i64 (by omega) (by omega), i64 (by omega) (by omega), m2 - 1, by omega, k + 1, by omega, by omega, by rw [crcN, stepN, if_neg (by omega)]⟩
    · have : k = 8 := by omega
      subst this
      exact ⟨i64 (by omega) (by omega), m - 1, by omega, i + 1, by omega, by omega, by rw [crcNTo]⟩
  · intro g3 _
    have : i = l.length := by omega
    subst this
    rw [sumN]
    exact congrArg _ (xor_i64 _ 4294967295 (crcNTo_lt l _) (by decide))

/-! ### Numbers in bytes -/
def fourB (n : Nat) : List UInt8 := [UInt8.ofNat (n / 16777216), UInt8.ofNat (n / 65536), UInt8.ofNat (n / 256), UInt8.ofNat n]
def numB (l : List UInt8) : Nat := l.foldl (fun n b => n * 256 + b.toNat) 0
theorem nums_four (n : Nat) (h : n < 2 ^ 32) : vs .u8 (nums (fourB n)) = [.int .u8 ((n / 16777216 : Nat) : Int), .int .u8 ((n / 65536 % 256 : Nat) : Int), .int .u8 ((n / 256 % 256 : Nat) : Int), .int .u8 ((n % 256 : Nat) : Int)] := by
  simp only [vs, nums, fourB, List.map_cons, List.map_nil, UInt8.toNat_ofNat']
  have : n / 16777216 % 2 ^ 8 = n / 16777216 := by omega
  rw [this]
theorem wrap_u8_nat (n : Nat) : IntKind.u8.wrap (n : Int) = ((n % 256 : Nat) : Int) := by
  simp [IntKind.wrap, IntKind.bits, IntKind.signed]
theorem shr_u32_nat (n k : Nat) (hk : k ≤ 32) : shrI .u32 (n : Int) (k : Int) = ((n / 2 ^ k : Nat) : Int) := by
  unfold shrI
  rw [show min (Int.toNat (k : Int)) IntKind.u32.bits = k by simp [IntKind.bits]; omega, Int.fdiv_eq_ediv_of_nonneg _ (by exact Int.le_of_lt (Int.pow_pos (by omega)))]
  simp

theorem k61 (n : Nat) (hn : n < 2 ^ 32) (g : G) : CallsP Try.prog 61 #[.int .u32 (n : Int)] g fun v g' => ∃ a c, v = .slice a 4 c ∧ OwnB g' g.size 5 a 4 c (fourB n) := by
  refine call61 n g _ ?_
  unfold F61
  refine ⟨by omega, by omega, by omega, fun g1 h1 g2 h2 => ⟨_, _, rfl, ?_⟩⟩
  have s1 := shr_u32_nat n 24 (by omega)
  have s2 := shr_u32_nat n 16 (by omega)
  have s3 := shr_u32_nat n 8 (by omega)
  simp only [Int.cast_ofNat_Int] at s1 s2 s3
  rw [s1, s2, s3, wrap_u8_nat, wrap_u8_nat, wrap_u8_nat, wrap_u8_nat] at h1
  have e : n / 2 ^ 24 % 256 = n / 16777216 := by omega
  rw [e] at h1
  have h1' : NewL g g1 5 (vs .u8 (nums (fourB n))) := by rw [nums_four n hn]; exact h1
  exact (OwnG.lit h1' (Nat.le_refl _) (by simp [fourB]) (by unfold maxLen; omega)).ex h2
theorem k47 (n : Nat) (hn : n < 2 ^ 32) (g : G) : CallsP Try.prog 47 #[.int .i64 (n : Int)] g fun v g' => ∃ a c, v = .slice a 4 c ∧ OwnB g' g.size 5 a 4 c (fourB n) := by
  refine call47 n g _ ?_
  unfold F47
  have d : ∀ k : Nat, 0 < k → Int.tdiv (n : Int) (k : Int) = ((n / k : Nat) : Int) := fun k hk => by rw [Int.tdiv_eq_ediv_of_nonneg (by omega)]; simp
  have m : ∀ j : Nat, Int.tmod (j : Int) 256 = ((j % 256 : Nat) : Int) := fun j => by rw [Int.tmod_eq_emod_of_nonneg (by omega)]; omega
  have d1 := d 16777216 (by omega)
  have d2 := d 65536 (by omega)
  have d3 := d 256 (by omega)
  simp only [Int.cast_ofNat_Int] at d1 d2 d3
  rw [d1, d2, d3, m, m, m, wrap_u8_nat, wrap_u8_nat, wrap_u8_nat, wrap_u8_nat]
  refine ⟨by omega, i64 (by omega) (by omega), by omega, i64 (by omega) (by omega), by omega, by omega, i64 (by omega) (by omega), by omega, by omega, fun g1 h1 g2 h2 => ⟨_, _, rfl, ?_⟩⟩
  have h1' : NewL g g1 5 (vs .u8 (nums (fourB n))) := by
    rw [nums_four n hn]
    rw [show n / 16777216 % 256 = n / 16777216 by omega, show n / 65536 % 256 % 256 = n / 65536 % 256 by omega, show n / 256 % 256 % 256 = n / 256 % 256 by omega, show n % 256 % 256 = n % 256 by omega] at h1
    exact h1
  exact (OwnG.lit h1' (Nat.le_refl _) (by simp [fourB]) (by unfold maxLen; omega)).ex h2

theorem numB_lt (l : List UInt8) : numB l < 256 ^ l.length := by
  have key : ∀ (l : List UInt8) (k a : Nat), a < 256 ^ k → l.foldl (fun n b => n * 256 + b.toNat) a < 256 ^ (k + l.length) := by
    intro l
    induction l with
    | nil => intro k a h; simpa using h
    | cons b r ih =>
      intro k a h
      have hb := b.toNat_lt
      have := ih (k + 1) (a * 256 + b.toNat) (by rw [Nat.pow_succ]; omega)
      rw [List.foldl_cons, List.length_cons]
      rw [show k + (r.length + 1) = k + 1 + r.length by omega]
      exact this
  have := key l 0 0 (by simp)
  rw [Nat.zero_add] at this
  exact this
theorem numB_take (l : List UInt8) (i : Nat) (h : i < l.length) : numB (l.take (i + 1)) = numB (l.take i) * 256 + (l.getD i 0).toNat := by
  unfold numB
  rw [List.take_add_one, List.getElem?_eq_getElem h, Option.toList_some, List.foldl_append]
  simp only [List.foldl_cons, List.foldl_nil, List.getD_eq_getElem?_getD, List.getElem?_eq_getElem h, Option.getD_some]

theorem shl8_or (n : Nat) (b : Nat) (hn : n < 256 ^ 6) (hb : b < 256) : bits .or .i64 (shlI .i64 (n : Int) 8) (b : Int) = ((n * 256 + b : Nat) : Int) := by
  have e1 : shlI .i64 (n : Int) 8 = ((n * 256 : Nat) : Int) := by
    unfold shlI
    rw [show min (Int.toNat (8 : Int)) IntKind.i64.bits = 8 by simp [IntKind.bits], wrap_inI64 (i64 (by omega) (by omega))]
    omega
  rw [e1]
  show IntKind.i64.wrap ((BitVec.ofInt 64 ((n * 256 : Nat) : Int) ||| BitVec.ofInt 64 ((b : Nat) : Int)).toNat : Int) = _
  have o : ∀ m : Nat, m < 2 ^ 63 → (BitVec.ofInt 64 ((m : Nat) : Int)).toNat = m := fun m hm => by rw [BitVec.toNat_ofInt]; omega
  rw [BitVec.toNat_or, o _ (by omega), o _ (by omega)]
  have : n * 256 ||| b = n * 256 + b := by
    have := Nat.two_pow_add_eq_or_of_lt (i := 8) (b := b) (by omega) n
    rw [show 2 ^ 8 * n = n * 256 by omega] at this
    exact this.symm
  rw [this, wrap_inI64 (i64 (by omega) (by omega))]

theorem k57 (l : List UInt8) {a : Option Addr} {n c : Nat} {g : G} (h : SlB g a n c l) (h7 : n ≤ 6) : CallsP Try.prog 57 #[.slice a n c] g fun v _ => v = .int .i64 ((numB l : Nat) : Int) := by
  refine call57 a n c g _ ?_
  have hl := SlB.length h
  unfold F57
  refine ⟨fun m x v g' => ∃ i : Nat, v = i ∧ i + m = n ∧ x = ((numB (l.take i) : Nat) : Int), ⟨n, 0, rfl, by omega, rfl⟩, ?_⟩
  rintro m x v g1 le ⟨i, rfl, him, rfl⟩
  refine ifLt (fun hlt => ?_) (fun hge => ?_)
  · refine ⟨⟨by omega, by omega⟩, SlB.rdN (h.mono le) i rfl (by omega) ?_⟩
    have hb := (l.getD i 0).toNat_lt
    have hk := numB_lt (l.take i)
    have hk2 : numB (l.take i) < 256 ^ 6 := Nat.lt_of_lt_of_le hk (Nat.pow_le_pow_right (by omega) (by rw [List.length_take]; omega))
    refine ⟨by omega, i64 (by omega) (by omega), i64 (by omega) (by omega), m - 1, by omega, i + 1, by omega, by omega, ?_⟩
    rw [shl8_or _ _ hk2 (by omega), numB_take l i (by omega)]
  · intro g2 _
    rw [List.take_of_length_le (by omega)]

theorem k63 (l : List UInt8) {a : Option Addr} {n c : Nat} {g : G} (h : SlB g a n c l) (h4 : 4 ≤ n) : CallsP Try.prog 63 #[.slice a n c] g fun v _ => v = .int .i64 ((numB (l.take 4) : Nat) : Int) := by
  refine call63 a n c g _ ?_
  have hl := SlB.length h
  unfold F63
  intro g1 m1
  have h := h.ex m1
  have b0 := nums_lt l 0
  have b1 := nums_lt l 1
  have b2 := nums_lt l 2
  have b3 := nums_lt l 3
  refine ⟨⟨by omega, by omega⟩, SlB.rdN h 0 rfl (by omega) ?_⟩
  refine ⟨i64 (by omega) (by omega), i64 (by omega) (by omega), ⟨by omega, by omega⟩, SlB.rdN h 1 rfl (by omega) ?_⟩
  refine ⟨i64 (by omega) (by omega), i64 (by omega) (by omega), i64 (by omega) (by omega), ⟨by omega, by omega⟩, SlB.rdN h 2 rfl (by omega) ?_⟩
  refine ⟨i64 (by omega) (by omega), i64 (by omega) (by omega), i64 (by omega) (by omega), ⟨by omega, by omega⟩, SlB.rdN h 3 rfl (by omega) ?_⟩
  refine ⟨i64 (by omega) (by omega), i64 (by omega) (by omega), fun g2 m2 => ?_⟩
  have e : numB (l.take 4) = (((l.getD 0 0).toNat * 256 + (l.getD 1 0).toNat) * 256 + (l.getD 2 0).toNat) * 256 + (l.getD 3 0).toNat := by
    rw [numB_take l 3 (by omega), numB_take l 2 (by omega), numB_take l 1 (by omega), numB_take l 0 (by omega)]
    simp [numB]
  rw [e]
  congr 1

/-! ### Validity -/
/-- What makes a store valid. -/
def okS (l : Nat) (d a : Int) : Prop := (l : Int) ≤ 1048576 ∧ 0 ≤ d ∧ d ≤ l ∧ -1 ≤ a ∧ a ≤ 1048576

theorem k24 (s0a : Option Addr) (s0l s0c : Nat) (s1 s2 : Int) (g : G) :
    CallsP Try.prog 24 #[(.agg ⟨[(.slice s0a s0l s0c), (.int .i64 s1), (.int .i64 s2)]⟩)] g fun v _ => v = .bool (tf (okS s0l s1 s2)) := by
  refine call24 s0a s0l s0c s1 s2 g _ ?_
  unfold F24
  refine ifLe (fun h1 => ifLe (fun h2 => ifLe (fun h3 => ifLe (fun h4 g1 _ => vP ?_) fun h4 g1 _ => vF ?_) fun h3 g1 _ => vF ?_) fun h2 g1 _ => vF ?_) fun h1 g1 _ => vF ?_
  all_goals unfold okS; omega
theorem k14 (s0a : Option Addr) (s0l s0c : Nat) (s1 s2 : Int) (g : G) :
    CallsP Try.prog 14 #[(.agg ⟨[(.slice s0a s0l s0c), (.int .i64 s1), (.int .i64 s2)]⟩)] g fun v _ => v = .bool (tf (okS s0l s1 s2)) := by
  refine call14 s0a s0l s0c s1 s2 g _ ?_
  unfold F14
  refine ifLe (fun h1 => ifLe (fun h2 => ifLe (fun h3 => ifLe (fun h4 g1 _ => vP ?_) fun h4 g1 _ => vF ?_) fun h3 g1 _ => vF ?_) fun h2 g1 _ => vF ?_) fun h1 g1 _ => vF ?_
  all_goals unfold okS; omega
/-- What makes a key. -/
def okK (n : Nat) : Prop := 1 ≤ n ∧ n ≤ 100
theorem k43 (k : ByteArray) (g : G) : CallsP Try.prog 43 #[(.string k)] g fun v _ => v = .bool (tf (okK k.size)) := by
  refine call43 k g _ ?_
  unfold F43
  refine ifLe (fun h1 g1 _ => vP ?_) (fun h1 g1 _ => vF ?_)
  all_goals unfold okK; omega
theorem k16 (k : ByteArray) (g : G) : CallsP Try.prog 16 #[(.string k)] g fun v _ => v = .bool (tf (okK k.size)) := by
  refine call16 k g _ ?_
  unfold F16
  refine ifLe (fun h1 g1 _ => vP ?_) (fun h1 g1 _ => vF ?_)
  all_goals unfold okK; omega
end Go.Proofs.Ytlofbfbcnlgmaaa
