/- Joined texts. -/
import Derived.Test.YtlofbfbcnlgmaaaFn53
import Derived.Test.YtlofbfbcnlgmaaaVfa
import Derived.Test.YtlofbfbcnlgmaaaVbits
import Derived.Lib.AppendZeros
/- The store: check sums, numbers in bytes, validity. -/
set_option linter.unusedVariables false
namespace Go.Proofs.Ytlofbfbcnlgmaaa
open Go Go.Vc Go.RowKit

/-! ### Check sums -/
def stepN (c : Nat) : Nat := if c % 2 = 1 then (c / 2) ^^^ 3988292384 else c / 2
def crcN (c : Nat) : Nat → Nat
  | 0 => c
  | k + 1 => stepN (crcN c k)
def crcNTo (l : List UInt8) : Nat → Nat
  | 0 => 4294967295
  | i + 1 => crcN (crcNTo l i ^^^ (l.getD i 0).toNat) 8
def sumN (l : List UInt8) : Nat := crcNTo l l.length ^^^ 4294967295

theorem stepN_lt (c : Nat) (h : c < 2 ^ 32) : stepN c < 2 ^ 32 := by
  unfold stepN
  split
  · exact Nat.xor_lt_two_pow (by omega) (by omega)
  · omega
theorem crcN_lt (c : Nat) (h : c < 2 ^ 32) : ∀ k, crcN c k < 2 ^ 32
  | 0 => h
  | k + 1 => stepN_lt _ (crcN_lt c h k)
theorem byte_lt (b : UInt8) : b.toNat < 2 ^ 32 := by
  have := b.toNat_lt
  omega
theorem crcNTo_lt (l : List UInt8) : ∀ i, crcNTo l i < 2 ^ 32
  | 0 => by show (4294967295 : Nat) < 2 ^ 32; omega
  | i + 1 => crcN_lt _ (Nat.xor_lt_two_pow (crcNTo_lt l i) (byte_lt _)) 8
theorem sumN_lt (l : List UInt8) : sumN l < 2 ^ 32 := Nat.xor_lt_two_pow (crcNTo_lt l _) (by decide)
theorem not32 : (if IntKind.u32.signed = true then (-1 : Int) else IntKind.u32.max) = 4294967295 := by decide

theorem k62 (l : List UInt8) {a : Option Addr} {n c : Nat} {g : G} (h : SlB g a n c l) : CallsP Try.prog 62 #[.slice a n c] g fun v _ => v = .int .u32 ((sumN l : Nat) : Int) := by
  refine call62 a n c g _ ?_
  have hl := SlB.length h
  have hc := h.cap
  have hle := h.le
  unfold maxLen at hc
  unfold F62
  refine ⟨fun m c v g' => ∃ i : Nat, v = i ∧ i + m = n ∧ c = ((crcNTo l i : Nat) : Int), ⟨n, 0, rfl, by omega, rfl⟩, ?_⟩
  rintro m c v g1 le ⟨i, rfl, him, rfl⟩
  refine ifLt (fun hlt => ?_) (fun hge => ?_)
  · refine ⟨⟨by omega, by omega⟩, SlB.rdN (h.mono le) i rfl (by omega) ?_⟩
    rw [wrap_u32_nat _ (byte_lt _), xor_u32 _ _ (crcNTo_lt l i) (byte_lt _)]
    have hlt0 := Nat.xor_lt_two_pow (crcNTo_lt l i) (byte_lt (l.getD i 0))
    refine ⟨fun m c v g' => ∃ k : Nat, v = k ∧ k + m = 8 ∧ c = ((crcN (crcNTo l i ^^^ (l.getD i 0).toNat) k : Nat) : Int), ⟨8, 0, rfl, rfl, rfl⟩, ?_⟩
    rintro m2 c v g2 le2 ⟨k, rfl, hk, rfl⟩
    have hck := crcN_lt _ hlt0 k
    refine ifLt (fun hlt2 => ⟨by omega, ?_⟩) (fun hge2 => ?_)
    · rw [and_u32_one _ hck, shr_u32_one]
      refine ifEq (fun h1 => ?_) (fun h1 => ?_)
      · rw [show (3988292384 : Int) = ((3988292384 : Nat) : Int) from rfl, xor_u32 _ _ (by omega) (by decide)]
        exact ⟨i64 (by omega) (by omega), m2 - 1, by omega, k + 1, by omega, by omega, by rw [crcN, stepN, if_pos (by omega)]⟩
      · exact ⟨i64 (by omega) (by omega), m2 - 1, by omega, k + 1, by omega, by omega, by rw [crcN, stepN, if_neg (by omega)]⟩
    · have : k = 8 := by omega
      subst this
      exact ⟨i64 (by omega) (by omega), m - 1, by omega, i + 1, by omega, by omega, by rw [crcNTo]⟩
  · intro g3 _
    have : i = l.length := by omega
    subst this
    rw [not32, sumN, Nat.xor_comm]
    exact congrArg _ (xor_u32 4294967295 _ (by decide) (crcNTo_lt l _))

theorem k42 (l : List UInt8) {a : Option Addr} {n c : Nat} {g : G} (h : SlB g a n c l) : CallsP Try.prog 42 #[.slice a n c] g fun v _ => v = .int .i64 ((sumN l : Nat) : Int) := by
  refine call42 a n c g _ ?_
  have hl := SlB.length h
  have hc := h.cap
  have hle := h.le
  unfold maxLen at hc
  unfold F42
  refine ⟨fun m c v g' => ∃ i : Nat, v = i ∧ i + m = n ∧ c = ((crcNTo l i : Nat) : Int), ⟨n, 0, rfl, by omega, rfl⟩, ?_⟩
  rintro m c v g1 le ⟨i, rfl, him, rfl⟩
  refine ifLt (fun hlt => ?_) (fun hge => ?_)
  · refine ⟨⟨by omega, by omega⟩, SlB.rdN (h.mono le) i rfl (by omega) ?_⟩
    have hb := byte_lt (l.getD i 0)
    rw [xor_i64 _ _ (crcNTo_lt l i) hb]
    have hlt0 := Nat.xor_lt_two_pow (crcNTo_lt l i) hb
    refine ⟨i64 (by omega) (by omega), fun m c v g' => ∃ k : Nat, v = k ∧ k + m = 8 ∧ c = ((crcN (crcNTo l i ^^^ (l.getD i 0).toNat) k : Nat) : Int), ⟨8, 0, rfl, rfl, rfl⟩, ?_⟩
    rintro m2 c v g2 le2 ⟨k, rfl, hk, rfl⟩
    have hck := crcN_lt _ hlt0 k
    have em : Int.tmod ((crcN (crcNTo l i ^^^ (l.getD i 0).toNat) k : Nat) : Int) 2 = ((crcN (crcNTo l i ^^^ (l.getD i 0).toNat) k % 2 : Nat) : Int) := by rw [Int.tmod_eq_emod_of_nonneg (by omega)]; omega
    have ed : Int.tdiv ((crcN (crcNTo l i ^^^ (l.getD i 0).toNat) k : Nat) : Int) 2 = ((crcN (crcNTo l i ^^^ (l.getD i 0).toNat) k / 2 : Nat) : Int) := by rw [Int.tdiv_eq_ediv_of_nonneg (by omega)]; omega
    refine ifLt (fun hlt2 => ⟨by omega, ?_⟩) (fun hge2 => ?_)
    · rw [em, ed]
      refine ifEq (fun h1 => ?_) (fun h1 => ?_)
      · rw [show (3988292384 : Int) = ((3988292384 : Nat) : Int) from rfl, xor_i64 _ _ (by omega) (by decide)]
        exact ⟨by omega, i64 (by omega) (by omega), i64 (by omega) (by omega), m2 - 1, by omega, k + 1, by omega, by omega, by rw [crcN, stepN, if_pos (by omega)]⟩
      · exact ⟨by omega, i64 (by omega) (by omega), i64 (by omega) (by omega), m2 - 1, by omega, k + 1, by omega, by omega, by rw [crcN, stepN, if_neg (by omega)]⟩
    · have : k = 8 := by omega
      subst this
      exact ⟨i64 (by omega) (by omega), m - 1, by omega, i + 1, by omega, by omega, by rw [crcNTo]⟩
  · intro g3 _
    have : i = l.length := by omega
    subst this
    rw [sumN]
    exact congrArg _ (xor_i64 _ 4294967295 (crcNTo_lt l _) (by decide))

/-! ### Numbers in bytes -/
def fourB (n : Nat) : List UInt8 := [UInt8.ofNat (n / 16777216), UInt8.ofNat (n / 65536), UInt8.ofNat (n / 256), UInt8.ofNat n]
def numB (l : List UInt8) : Nat := l.foldl (fun n b => n * 256 + b.toNat) 0
theorem nums_four (n : Nat) (h : n < 2 ^ 32) : vs .u8 (nums (fourB n)) = [.int .u8 ((n / 16777216 : Nat) : Int), .int .u8 ((n / 65536 % 256 : Nat) : Int), .int .u8 ((n / 256 % 256 : Nat) : Int), .int .u8 ((n % 256 : Nat) : Int)] := by
  simp only [vs, nums, fourB, List.map_cons, List.map_nil, UInt8.toNat_ofNat']
  have : n / 16777216 % 2 ^ 8 = n / 16777216 := by omega
  rw [this]
theorem wrap_u8_nat (n : Nat) : IntKind.u8.wrap (n : Int) = ((n % 256 : Nat) : Int) := by
  simp [IntKind.wrap, IntKind.bits, IntKind.signed]
theorem shr_u32_nat (n k : Nat) (hk : k ≤ 32) : shrI .u32 (n : Int) (k : Int) = ((n / 2 ^ k : Nat) : Int) := by
  unfold shrI
  rw [show min (Int.toNat (k : Int)) IntKind.u32.bits = k by simp [IntKind.bits]; omega, Int.fdiv_eq_ediv_of_nonneg _ (by exact Int.le_of_lt (Int.pow_pos (by omega)))]
  simp

theorem k61 (n : Nat) (hn : n < 2 ^ 32) (g : G) : CallsP Try.prog 61 #[.int .u32 (n : Int)] g fun v g' => ∃ a c, v = .slice a 4 c ∧ OwnB g' g.size 5 a 4 c (fourB n) := by
  refine call61 n g _ ?_
  unfold F61
  refine ⟨by omega, by omega, by omega, fun g1 h1 g2 h2 => ⟨_, _, rfl, ?_⟩⟩
  have s1 := shr_u32_nat n 24 (by omega)
  have s2 := shr_u32_nat n 16 (by omega)
  have s3 := shr_u32_nat n 8 (by omega)
  simp only [Int.cast_ofNat_Int] at s1 s2 s3
  rw [s1, s2, s3, wrap_u8_nat, wrap_u8_nat, wrap_u8_nat, wrap_u8_nat] at h1
  have e : n / 2 ^ 24 % 256 = n / 16777216 := by omega
  rw [e] at h1
  have h1' : NewL g g1 5 (vs .u8 (nums (fourB n))) := by rw [nums_four n hn]; exact h1
  exact (OwnG.lit h1' (Nat.le_refl _) (by simp [fourB]) (by unfold maxLen; omega)).ex h2
theorem k47 (n : Nat) (hn : n < 2 ^ 32) (g : G) : CallsP Try.prog 47 #[.int .i64 (n : Int)] g fun v g' => ∃ a c, v = .slice a 4 c ∧ OwnB g' g.size 5 a 4 c (fourB n) := by
  refine call47 n g _ ?_
  unfold F47
  have d : ∀ k : Nat, 0 < k → Int.tdiv (n : Int) (k : Int) = ((n / k : Nat) : Int) := fun k hk => by rw [Int.tdiv_eq_ediv_of_nonneg (by omega)]; simp
  have m : ∀ j : Nat, Int.tmod (j : Int) 256 = ((j % 256 : Nat) : Int) := fun j => by rw [Int.tmod_eq_emod_of_nonneg (by omega)]; omega
  have d1 := d 16777216 (by omega)
  have d2 := d 65536 (by omega)
  have d3 := d 256 (by omega)
  simp only [Int.cast_ofNat_Int] at d1 d2 d3
  rw [d1, d2, d3, m, m, m, wrap_u8_nat, wrap_u8_nat, wrap_u8_nat, wrap_u8_nat]
  refine ⟨by omega, i64 (by omega) (by omega), by omega, i64 (by omega) (by omega), by omega, by omega, i64 (by omega) (by omega), by omega, by omega, fun g1 h1 g2 h2 => ⟨_, _, rfl, ?_⟩⟩
  have h1' : NewL g g1 5 (vs .u8 (nums (fourB n))) := by
    rw [nums_four n hn]
    rw [show n / 16777216 % 256 = n / 16777216 by omega, show n / 65536 % 256 % 256 = n / 65536 % 256 by omega, show n / 256 % 256 % 256 = n / 256 % 256 by omega, show n % 256 % 256 = n % 256 by omega] at h1
    exact h1
  exact (OwnG.lit h1' (Nat.le_refl _) (by simp [fourB]) (by unfold maxLen; omega)).ex h2

theorem numB_lt (l : List UInt8) : numB l < 256 ^ l.length := by
  have key : ∀ (l : List UInt8) (k a : Nat), a < 256 ^ k → l.foldl (fun n b => n * 256 + b.toNat) a < 256 ^ (k + l.length) := by
    intro l
    induction l with
    | nil => intro k a h; simpa using h
    | cons b r ih =>
      intro k a h
      have hb := b.toNat_lt
      have := ih (k + 1) (a * 256 + b.toNat) (by rw [Nat.pow_succ]; omega)
      rw [List.foldl_cons, List.length_cons]
      rw [show k + (r.length + 1) = k + 1 + r.length by omega]
      exact this
  have := key l 0 0 (by simp)
  rw [Nat.zero_add] at this
  exact this
theorem numB_take (l : List UInt8) (i : Nat) (h : i < l.length) : numB (l.take (i + 1)) = numB (l.take i) * 256 + (l.getD i 0).toNat := by
  unfold numB
  rw [List.take_add_one, List.getElem?_eq_getElem h, Option.toList_some, List.foldl_append]
  simp only [List.foldl_cons, List.foldl_nil, List.getD_eq_getElem?_getD, List.getElem?_eq_getElem h, Option.getD_some]

theorem shl8_or (n : Nat) (b : Nat) (hn : n < 256 ^ 6) (hb : b < 256) : bits .or .i64 (shlI .i64 (n : Int) 8) (b : Int) = ((n * 256 + b : Nat) : Int) := by
  have e1 : shlI .i64 (n : Int) 8 = ((n * 256 : Nat) : Int) := by
    unfold shlI
    rw [show min (Int.toNat (8 : Int)) IntKind.i64.bits = 8 by simp [IntKind.bits], wrap_inI64 (i64 (by omega) (by omega))]
    omega
  rw [e1]
  show IntKind.i64.wrap ((BitVec.ofInt 64 ((n * 256 : Nat) : Int) ||| BitVec.ofInt 64 ((b : Nat) : Int)).toNat : Int) = _
  have o : ∀ m : Nat, m < 2 ^ 63 → (BitVec.ofInt 64 ((m : Nat) : Int)).toNat = m := fun m hm => by rw [BitVec.toNat_ofInt]; omega
  rw [BitVec.toNat_or, o _ (by omega), o _ (by omega)]
  have : n * 256 ||| b = n * 256 + b := by
    have := Nat.two_pow_add_eq_or_of_lt (i := 8) (b := b) (by omega) n
    rw [show 2 ^ 8 * n = n * 256 by omega] at this
    exact this.symm
  rw [this, wrap_inI64 (i64 (by omega) (by omega))]

theorem k57 (l : List UInt8) {a : Option Addr} {n c : Nat} {g : G} (h : SlB g a n c l) (h7 : n ≤ 6) : CallsP Try.prog 57 #[.slice a n c] g fun v _ => v = .int .i64 ((numB l : Nat) : Int) := by
  refine call57 a n c g _ ?_
  have hl := SlB.length h
  unfold F57
  refine ⟨fun m x v g' => ∃ i : Nat, v = i ∧ i + m = n ∧ x = ((numB (l.take i) : Nat) : Int), ⟨n, 0, rfl, by omega, rfl⟩, ?_⟩
  rintro m x v g1 le ⟨i, rfl, him, rfl⟩
  refine ifLt (fun hlt => ?_) (fun hge => ?_)
  · refine ⟨⟨by omega, by omega⟩, SlB.rdN (h.mono le) i rfl (by omega) ?_⟩
    have hb := (l.getD i 0).toNat_lt
    have hk := numB_lt (l.take i)
    have hk2 : numB (l.take i) < 256 ^ 6 := Nat.lt_of_lt_of_le hk (Nat.pow_le_pow_right (by omega) (by rw [List.length_take]; omega))
    refine ⟨by omega, i64 (by omega) (by omega), i64 (by omega) (by omega), m - 1, by omega, i + 1, by omega, by omega, ?_⟩
    rw [shl8_or _ _ hk2 (by omega), numB_take l i (by omega)]
  · intro g2 _
    rw [List.take_of_length_le (by omega)]

theorem k63 (l : List UInt8) {a : Option Addr} {n c : Nat} {g : G} (h : SlB g a n c l) (h4 : 4 ≤ n) : CallsP Try.prog 63 #[.slice a n c] g fun v _ => v = .int .i64 ((numB (l.take 4) : Nat) : Int) := by
  refine call63 a n c g _ ?_
  have hl := SlB.length h
  unfold F63
  intro g1 m1
  have h := h.ex m1
  have b0 := nums_lt l 0
  have b1 := nums_lt l 1
  have b2 := nums_lt l 2
  have b3 := nums_lt l 3
  refine ⟨⟨by omega, by omega⟩, SlB.rdN h 0 rfl (by omega) ?_⟩
  refine ⟨i64 (by omega) (by omega), i64 (by omega) (by omega), ⟨by omega, by omega⟩, SlB.rdN h 1 rfl (by omega) ?_⟩
  refine ⟨i64 (by omega) (by omega), i64 (by omega) (by omega), i64 (by omega) (by omega), ⟨by omega, by omega⟩, SlB.rdN h 2 rfl (by omega) ?_⟩
  refine ⟨i64 (by omega) (by omega), i64 (by omega) (by omega), i64 (by omega) (by omega), ⟨by omega, by omega⟩, SlB.rdN h 3 rfl (by omega) ?_⟩
  refine ⟨i64 (by omega) (by omega), i64 (by omega) (by omega), fun g2 m2 => ?_⟩
  have e : numB (l.take 4) = (((l.getD 0 0).toNat * 256 + (l.getD 1 0).toNat) * 256 + (l.getD 2 0).toNat) * 256 + (l.getD 3 0).toNat := by
    rw [numB_take l 3 (by omega), numB_take l 2 (by omega), numB_take l 1 (by omega), numB_take l 0 (by omega)]
    simp [numB]
  rw [e]
  congr 1

/-! ### Validity -/
/-- What makes a store valid. -/
def okS (l : Nat) (d a : Int) : Prop := (l : Int) ≤ 1048576 ∧ 0 ≤ d ∧ d ≤ l ∧ -1 ≤ a ∧ a ≤ 1048576

theorem k24 (s0a : Option Addr) (s0l s0c : Nat) (s1 s2 : Int) (g : G) :
    CallsP Try.prog 24 #[(.agg ⟨[(.slice s0a s0l s0c), (.int .i64 s1), (.int .i64 s2)]⟩)] g fun v _ => v = .bool (tf (okS s0l s1 s2)) := by
  refine call24 s0a s0l s0c s1 s2 g _ ?_
  unfold F24
  refine ifLe (fun h1 => ifLe (fun h2 => ifLe (fun h3 => ifLe (fun h4 g1 _ => vP ?_) fun h4 g1 _ => vF ?_) fun h3 g1 _ => vF ?_) fun h2 g1 _ => vF ?_) fun h1 g1 _ => vF ?_
  all_goals unfold okS; omega
theorem k14 (s0a : Option Addr) (s0l s0c : Nat) (s1 s2 : Int) (g : G) :
    CallsP Try.prog 14 #[(.agg ⟨[(.slice s0a s0l s0c), (.int .i64 s1), (.int .i64 s2)]⟩)] g fun v _ => v = .bool (tf (okS s0l s1 s2)) := by
  refine call14 s0a s0l s0c s1 s2 g _ ?_
  unfold F14
  refine ifLe (fun h1 => ifLe (fun h2 => ifLe (fun h3 => ifLe (fun h4 g1 _ => vP ?_) fun h4 g1 _ => vF ?_) fun h3 g1 _ => vF ?_) fun h2 g1 _ => vF ?_) fun h1 g1 _ => vF ?_
  all_goals unfold okS; omega
/-- What makes a key. -/
def okK (n : Nat) : Prop := 1 ≤ n ∧ n ≤ 100
theorem k43 (k : ByteArray) (g : G) : CallsP Try.prog 43 #[(.string k)] g fun v _ => v = .bool (tf (okK k.size)) := by
  refine call43 k g _ ?_
  unfold F43
  refine ifLe (fun h1 g1 _ => vP ?_) (fun h1 g1 _ => vF ?_)
  all_goals unfold okK; omega
theorem k16 (k : ByteArray) (g : G) : CallsP Try.prog 16 #[(.string k)] g fun v _ => v = .bool (tf (okK k.size)) := by
  refine call16 k g _ ?_
  unfold F16
  refine ifLe (fun h1 g1 _ => vP ?_) (fun h1 g1 _ => vF ?_)
  all_goals unfold okK; omega
end Go.Proofs.Ytlofbfbcnlgmaaa
/- The store: equality, new stores, slices that are cloned and joined, records. -/
set_option linter.unusedVariables false
namespace Go.Proofs.Ytlofbfbcnlgmaaa
open Go Go.Vc Go.RowKit

theorem E22 : Elem Try.prog 22 5 1 1 := ⟨Try.underlying22, by kernel_rfl⟩
def bstr (l : List UInt8) : ByteArray := ⟨l.toArray⟩
theorem bstr_inj {a b : List UInt8} : bstr a = bstr b ↔ a = b := by
  constructor
  · intro h
    have := congrArg (fun x => x.data.toList) h
    simpa [bstr] using this
  · rintro rfl; rfl
theorem bstr_data (s : ByteArray) : bstr s.data.toList = s := rfl
theorem bstr_size (l : List UInt8) : (bstr l).size = l.length := by simp [bstr, ByteArray.size]

theorem k38 (x y : List UInt8) {a : Option Addr} {l c : Nat} {b : Option Addr} {m d : Nat} {g : G} (hx : SlB g a l c x) (hy : SlB g b m d y) :
    CallsP Try.prog 38 #[.slice a l c, .slice b m d] g fun v _ => v = .bool (tf (x = y)) := by
  refine call38 a l c b m d g _ ?_
  unfold F38
  refine ⟨_, _, SlB.str hx Try.underlying22 Try.underlying5 Try.underlying9, g, rfl, Stp.refl _ _ _, _, _, SlB.str hy Try.underlying22 Try.underlying5 Try.underlying9, g, rfl, Stp.refl _ _ _, fun g3 m3 => ?_⟩
  rw [tf_str]
  exact vP bstr_inj

theorem k19 (x y : List UInt8) {a : Option Addr} {l c : Nat} {b : Option Addr} {m d : Nat} {g : G} (hx : SlB g a l c x) (hy : SlB g b m d y) (x1 x2 y1 y2 : Int) :
    CallsP Try.prog 19 #[(.agg ⟨[(.slice a l c), (.int .i64 x1), (.int .i64 x2)]⟩), (.agg ⟨[(.slice b m d), (.int .i64 y1), (.int .i64 y2)]⟩)] g fun v _ => v = .bool (tf (x = y ∧ x1 = y1 ∧ x2 = y2)) := by
  refine call19 a l c x1 x2 b m d y1 y2 g _ ?_
  unfold F19
  refine fun g1 m1 => (k38 x y (hx.ex m1) (hy.ex m1)).mono ?_
  rintro v g2 m2 rfl
  refine ⟨_, rfl, ifP (fun h1 => ifEq (fun h2 g3 m3 => vP ?_) (fun h2 g3 m3 => vF ?_)) (fun h1 g3 m3 => vF ?_)⟩
  · exact ⟨fun h => ⟨h1, h2, h⟩, fun h => h.2.2⟩
  · exact fun h => h2 h.2.1
  · exact fun h => h1 h.1

theorem k15 (x : List UInt8) {a : Option Addr} {l c : Nat} {g : G} (hx : SlB g a l c x) (x1 x2 : Int) :
    CallsP Try.prog 15 #[(.agg ⟨[(.slice a l c), (.int .i64 x1), (.int .i64 x2)]⟩)] g fun v _ => v = .bool (tf (x = [] ∧ x1 = 0 ∧ x2 = 0)) := by
  refine call15 a l c x1 x2 g _ ?_
  unfold F15
  refine fun g1 m1 => (k19 x [] (hx.ex m1) (Sl.zero _ _) x1 x2 0 0).mono ?_
  rintro v g2 m2 rfl
  exact ⟨_, rfl, fun g3 m3 => rfl⟩

theorem k11 (a : Option Addr) (l c : Nat) (x1 x2 : Int) (g : G) :
    CallsP Try.prog 11 #[(.agg ⟨[(.slice a l c), (.int .i64 x1), (.int .i64 x2)]⟩)] g fun v _ => v = .bool (tf (l ≤ 3000 ∨ 1048576 < l ∧ l < 1048676)) := by
  refine call11 a l c x1 x2 g _ ?_
  unfold F11
  refine ifLe (fun h1 g1 m1 => vT (.inl (by omega))) (fun h1 => ifLt (fun h2 g2 m2 => vP ?_) (fun h2 g2 m2 => vF (by omega)))
  omega

/-- The value of a store. -/
def stV (a : Option Addr) (l c : Nat) (x1 x2 : Int) : Value := .agg ⟨[(.slice a l c), (.int .i64 x1), (.int .i64 x2)]⟩
def resV (a : Option Addr) (l c : Nat) (x1 x2 e : Int) : Value := .tuple ⟨[stV a l c x1 x2, .int .i64 e]⟩

theorem k22 (after : Int) (g : G) : CallsP Try.prog 22 #[.int .i64 after] g fun v _ => v = if -1 ≤ after ∧ after ≤ 1048576 then resV none 0 0 0 after 0 else resV none 0 0 0 0 2 := by
  refine call22 after g _ ?_
  unfold F22
  refine ifLt (fun h1 g1 m1 g2 m2 => ?_) (fun h1 => ifLt (fun h2 g1 m1 g2 m2 => ?_) (fun h2 g1 m1 g2 m2 => ?_))
  · rw [if_neg (by omega)]; rfl
  · rw [if_neg (by omega)]; rfl
  · rw [if_pos (by omega)]; rfl

/-- slices.Clone. -/
theorem k32 (x : List UInt8) {a : Option Addr} {l c : Nat} {g : G} (hx : SlB g a l c x) (hl : l ≤ 70368744177664) :
    CallsP Try.prog 32 #[.slice a l c] g fun v g' => ∃ a' c', v = .slice a' l c' ∧ OwnB g' g.size 5 a' l c' x := by
  refine call32 a l c g _ ?_
  unfold F32
  refine ifT (fun hn g1 m1 => ?_) (fun hn g2 n2 => ?_)
  · have ha : a = none := by cases a <;> first | rfl | cases hn
    have hc := hx.nil ha
    have hle := hx.le
    have h0 : l = 0 := by omega
    subst h0
    have : x = [] := List.eq_nil_of_length_eq_zero (SlB.length hx)
    subst this
    exact ⟨none, 0, rfl, OwnG.nil _ _ _ _⟩
  · have o := OwnG.lit (B := g.size) (m := 1) n2 (n := 0) (Nat.le_refl _) rfl (by unfold maxLen; omega)
    obtain ⟨a', c', w', hr, g3, hw, hs, ho, _, _⟩ := OwnB.app (s := []) E22 22 (B := g.size) n2.ex.size o (hx.ex n2.ex) (by omega) (by unfold maxLen; omega)
    rw [Nat.zero_add] at hr ho
    exact ⟨a', l, c', w', hr, g3, hw, hs, fun g4 m4 => ⟨a', c', rfl, ho.ex m4⟩⟩

/-- slices.Grow of nil. -/
theorem k69 (n : Nat) (hn : n ≤ 70368744177664) (g : G) : CallsP Try.prog 69 #[(.slice none 0 0), (.int .i64 (n : Int))] g fun v g' => ∃ a c, v = .slice a 0 c ∧ OwnB g' g.size 5 a 0 c [] := by
  refine call69 none 0 0 n g _ ?_
  unfold F69
  intro J hJ
  refine ifLt (fun h => by omega) (fun _ => hJ g ⟨i64 (by omega) (by omega), i64 (by omega) (by omega), ifLt (fun h => ?_) (fun h g4 m4 => ⟨none, 0, rfl, OwnG.nil _ _ _ _⟩)⟩)
  obtain ⟨i, z, hi, hz, hs, hby, hzs, hm0⟩ := E22.info
  have e2 : ((n : Int) - (((0 : Nat) : Int) - ((0 : Nat) : Int))) = (n : Int) := by omega
  have hr := Lib.run_append_nil_zeros (P := Try.prog) g.w 22 3 22 5 i z .i64 .i64 Try.underlying22 Try.underlying3 hi hz n (by omega) (by omega) (by omega) (by rw [hby]; omega)
  have e1 : slAddr none 0 0 1 = none := rfl
  have hge := grownCap_ge g.w n 0 5
  have hcm := grownCap_le_maxLen g.w n 0 5 (by unfold maxLen; omega)
  refine ⟨⟨by omega, by omega⟩, _, _, _, _, by rw [e1, e2]; exact hr, ?_⟩
  have hsz : g.w.heap.size < (g.w.drew.alloc (.cells (Builtin.zeroCells z.cells n ++ Builtin.zeroCells z.cells (grownCap g.w n 0 5 - n)) 5)).heap.size := by simp
  obtain ⟨s1, s2⟩ := row_stp (hs := hsz) (k := 0) (M := nobody) (B := g.w.heap.size) (Nat.le_refl _) ⟨rfl, rfl, rfl⟩ (fun b hb => Below.heap_alloc g.w.drew _ b hb)
  refine ⟨_, rfl, s1, ⟨by omega, by omega⟩, fun g3 m3 => ?_⟩
  rw [slAddr_zero]
  refine ⟨some ⟨g.w.heap.size, 0, none⟩, _, rfl, OwnG.ex ⟨by simp [nums, vs], Or.inr ⟨_, Builtin.zeroCells z.cells n ++ Builtin.zeroCells z.cells (grownCap g.w n 0 5 - n), rfl, Nat.le_refl _, ?_, by omega, ?_, ?_, by simp [nums, vs], ?_, by omega, ?_⟩⟩ m3⟩
  · show (g.w.heap.push _)[g.w.heap.size]? = _
    simp
  · simpa using hcm
  · have : z.cells.size = 1 := hzs
    simp [Builtin.zeroCells, this]
    omega
  · intro hx
    exact absurd (g.hX _ hx) (by simp)
  · intro j _ _
    exact Or.inr ⟨rfl, Nat.zero_le _⟩

theorem sum3 (a b c : Nat) : ([a, b, c] : List Nat).sum = a + b + c := by simp; omega
/-- slices.Concat of three. -/
theorem k60 (x y z : List UInt8) {a : Option Addr} {xa ya za : Option Addr} {xl xc yl yc zl zc : Nat} {g : G} (h : Sl g 1 a 3 3 [.slice xa xl xc, .slice ya yl yc, .slice za zl zc]) (hx : SlB g xa xl xc x) (hy : SlB g ya yl yc y) (hz : SlB g za zl zc z)
    (hl : xl + yl + zl ≤ 70368744177664) : CallsP Try.prog 60 #[.slice a 3 3] g fun v g' => ∃ a' c', v = .slice a' (xl + yl + zl) c' ∧ OwnB g' g.size 5 a' (xl + yl + zl) c' (x ++ y ++ z) := by
  refine call60 a 3 3 g _ ?_
  have hlx := SlB.length hx
  have hly := SlB.length hy
  have hlz := SlB.length hz
  unfold F60
  refine ⟨fun m s v g' => ∃ i : Nat, v = i ∧ i + m = 3 ∧ s = ((([xl, yl, zl].take i).sum : Nat) : Int), ⟨3, 0, rfl, rfl, rfl⟩, ?_⟩
  rintro m s v g1 le ⟨i, rfl, him, rfl⟩
  have h1 := h.mono le
  have pick : ∀ {K : Option Addr → Nat → Nat → Prop} {g1 : G}, Sl g1 1 a 3 3 [.slice xa xl xc, .slice ya yl yc, .slice za zl zc] → i < 3 → (i = 0 → K xa xl xc) → (i = 1 → K ya yl yc) → (i = 2 → K za zl zc) →
      derefP a fun ad => ∃ sa : Option Addr, ∃ sl : Nat, ∃ sc : Nat, g1.w.cell? (Addr.add ad (Int.toNat (i : Int) * 1)) = some (.slice sa sl sc) ∧ K sa sl sc := by
    intro K g1 h hi k0 k1 k2
    rw [Int.toNat_natCast, Nat.mul_one]
    rcases (by omega : i = 0 ∨ i = 1 ∨ i = 2) with rfl | rfl | rfl
    · exact h.rd (k := 0) rfl fun ad _ hc => ⟨_, _, _, hc.1, k0 rfl⟩
    · exact h.rd (k := 1) rfl fun ad _ hc => ⟨_, _, _, hc.1, k1 rfl⟩
    · exact h.rd (k := 2) rfl fun ad _ hc => ⟨_, _, _, hc.1, k2 rfl⟩
  refine ifLt (fun hlt => ⟨⟨by omega, by omega⟩, pick h1 (by omega) ?_ ?_ ?_⟩) (fun hge => ?_)
  · rintro rfl
    exact ⟨i64 (by simp) (by simp; omega), ifLt (fun h => by simp at h; omega) fun _ => ⟨i64 (by omega) (by omega), m - 1, by omega, 1, by omega, by omega, by simp⟩⟩
  · rintro rfl
    exact ⟨i64 (by simp; omega) (by simp; omega), ifLt (fun h => by simp at h; omega) fun _ => ⟨i64 (by omega) (by omega), m - 1, by omega, 2, by omega, by omega, by simp⟩⟩
  · rintro rfl
    exact ⟨i64 (by simp; omega) (by simp; omega), ifLt (fun h => by simp at h; omega) fun _ => ⟨i64 (by omega) (by omega), m - 1, by omega, 3, by omega, by omega, by simp; omega⟩⟩
  · have : i = 3 := by omega
    subst this
    rw [show (([xl, yl, zl].take 3).sum : Nat) = xl + yl + zl by simp; omega]
    refine (k69 (xl + yl + zl) hl g1).mono ?_
    rintro v g2 m2 ⟨na, nc, rfl, ho⟩
    have hgs := le.size
    refine ⟨_, _, _, rfl, fun m na l nc v g3 => ∃ i : Nat, v = i ∧ i + m = 3 ∧ l = ([xl, yl, zl].take i).sum ∧ g.size ≤ g3.size ∧ OwnB g3 g.size 5 na l nc (([x, y, z].take i).flatten), ⟨3, 0, rfl, rfl, rfl, Nat.le_trans hgs m2.size, ho.base hgs⟩, ?_⟩
    rintro m na l nc v g3 le3 ⟨i, rfl, him, rfl, hsz, ho⟩
    have hm : Le g g3 := (le.trans m2.le).trans le3
    have h3 := h.mono hm
    have hsum : ([xl, yl, zl].take i).sum ≤ xl + yl + zl := by
      rcases (by omega : i = 0 ∨ i = 1 ∨ i = 2 ∨ i = 3) with rfl | rfl | rfl | rfl <;> simp <;> omega
    have pick : ∀ {K : Option Addr → Nat → Nat → Prop}, i < 3 → (i = 0 → K xa xl xc) → (i = 1 → K ya yl yc) → (i = 2 → K za zl zc) →
        derefP a fun ad => ∃ sa : Option Addr, ∃ sl : Nat, ∃ sc : Nat, g3.w.cell? (Addr.add ad (Int.toNat (i : Int) * 1)) = some (.slice sa sl sc) ∧ K sa sl sc := by
      intro K hi k0 k1 k2
      rw [Int.toNat_natCast, Nat.mul_one]
      rcases (by omega : i = 0 ∨ i = 1 ∨ i = 2) with rfl | rfl | rfl
      · exact h3.rd (k := 0) rfl fun ad _ hc => ⟨_, _, _, hc.1, k0 rfl⟩
      · exact h3.rd (k := 1) rfl fun ad _ hc => ⟨_, _, _, hc.1, k1 rfl⟩
      · exact h3.rd (k := 2) rfl fun ad _ hc => ⟨_, _, _, hc.1, k2 rfl⟩
    refine ifLt (fun hlt => ⟨⟨by omega, by omega⟩, pick (by omega) ?_ ?_ ?_⟩) (fun hge g5 m5 => ?_)
    · rintro rfl
      obtain ⟨a', c', w', hr, g4, hw, hs, ho', _, _⟩ := OwnB.app E22 22 hsz ho (hx.mono hm) (by simp; omega) (by simp; unfold maxLen; omega)
      exact ⟨a', _, c', w', hr, g4, hw, hs, i64 (by omega) (by omega), m - 1, by omega, 1, by omega, by omega, by simp, Nat.le_trans hsz hs.le.size, by simpa using ho'⟩
    · rintro rfl
      obtain ⟨a', c', w', hr, g4, hw, hs, ho', _, _⟩ := OwnB.app E22 22 hsz ho (hy.mono hm) (by simp; omega) (by simp; unfold maxLen; omega)
      exact ⟨a', _, c', w', hr, g4, hw, hs, i64 (by omega) (by omega), m - 1, by omega, 2, by omega, by omega, by simp, Nat.le_trans hsz hs.le.size, by simpa using ho'⟩
    · rintro rfl
      obtain ⟨a', c', w', hr, g4, hw, hs, ho', _, _⟩ := OwnB.app E22 22 hsz ho (hz.mono hm) (by simp; omega) (by simp; unfold maxLen; omega)
      exact ⟨a', _, c', w', hr, g4, hw, hs, i64 (by omega) (by omega), m - 1, by omega, 3, by omega, by omega, by simp; omega, Nat.le_trans hsz hs.le.size, by simpa [Nat.add_assoc] using ho'⟩
    · have : i = 3 := by omega
      subst this
      refine ⟨na, nc, by simp; omega, ?_⟩
      have := ho.ex m5
      simpa [Nat.add_assoc] using this
end Go.Proofs.Ytlofbfbcnlgmaaa
/- The store: records. -/
set_option linter.unusedVariables false
namespace Go.Proofs.Ytlofbfbcnlgmaaa
open Go Go.Vc Go.RowKit

def contB (kind : Nat) (key data : List UInt8) : List UInt8 := [UInt8.ofNat kind, UInt8.ofNat (key.length / 256), UInt8.ofNat key.length] ++ key ++ data
def sumd (o : List UInt8) : List UInt8 := o ++ fourB (sumN o)
def recB (kind : Nat) (key data : List UInt8) : List UInt8 := sumd (fourB (contB kind key data).length ++ contB kind key data)
theorem contB_len (kind : Nat) (key data : List UInt8) : (contB kind key data).length = 3 + key.length + data.length := by simp [contB]; omega
theorem fourB_len (n : Nat) : (fourB n).length = 4 := rfl
theorem recB_len (kind : Nat) (key data : List UInt8) : (recB kind key data).length = 11 + key.length + data.length := by
  simp only [recB, sumd, List.length_append, fourB_len, contB_len]
  omega
theorem nums3 (kind : Nat) (hk : kind < 256) (n : Nat) : vs .u8 (nums [UInt8.ofNat kind, UInt8.ofNat (n / 256), UInt8.ofNat n]) = [.int .u8 (kind : Int), .int .u8 ((n / 256 % 256 : Nat) : Int), .int .u8 ((n % 256 : Nat) : Int)] := by
  simp only [vs, nums, List.map_cons, List.map_nil, UInt8.toNat_ofNat']
  have : kind % 2 ^ 8 = kind := by omega
  rw [this]
theorem shr_i64_8 (n : Nat) : shrI .i64 (n : Int) 8 = ((n / 256 : Nat) : Int) := by
  unfold shrI
  rw [show min (Int.toNat (8 : Int)) IntKind.i64.bits = 8 by simp [IntKind.bits], Int.fdiv_eq_ediv_of_nonneg _ (by omega)]
  omega

theorem k46 (kind : Nat) (hk : kind < 256) (key data : List UInt8) {a : Option Addr} {l c : Nat} {g : G} (hd : SlB g a l c data) (h1 : key.length ≤ 100) (h2 : l ≤ 1048776) :
    CallsP Try.prog 46 #[(.int .u8 (kind : Int)), (.string (bstr key)), (.slice a l c)] g fun v g' => ∃ a' c', v = .slice a' (11 + key.length + l) c' ∧ OwnB g' g.size 5 a' (11 + key.length + l) c' (recB kind key data) := by
  refine call46 kind (bstr key) a l c g _ ?_
  have hld := SlB.length hd
  unfold F46
  refine ⟨by omega, fun g1 n1 => ?_⟩
  rw [bstr_size, shr_i64_8, wrap_u8_nat, wrap_u8_nat, ← nums3 kind hk] at n1
  have s1 : SlB g1 (some ⟨g.w.heap.size, 0, none⟩) 3 3 _ := n1.sl (m := 1) (n := 3) rfl (by unfold maxLen; omega)
  obtain ⟨ka, kc, w1, hr1, g2, hw1, hs1, sk, m2⟩ := bytesG (P := Try.prog) (g := g1) (B := g.size) (bstr key) Try.underlying9 Try.underlying22 Try.underlying5 n1.ex.size (by rw [bstr_size]; unfold maxLen; omega)
  rw [bstr_size] at hr1 sk
  refine ⟨ka, _, kc, w1, hr1, g2, hw1, hs1, fun g3 n3 => ?_⟩
  have hL : Sl g3 1 (some ⟨g2.w.heap.size, 0, none⟩) 3 3 _ := n3.sl (m := 1) (n := 3) rfl (by unfold maxLen; omega)
  have sk3 : SlB g3 ka key.length kc key := by simpa [bstr] using sk.ex n3.ex
  refine (k60 _ _ _ hL ((s1.ex m2).ex n3.ex) sk3 (((hd.ex n1.ex).ex m2).ex n3.ex) (by omega)).mono ?_
  rintro v g4 m4 ⟨ca, cc, rfl, oc⟩
  refine ⟨_, _, _, rfl, ?_⟩
  rw [wrap_u32_nat _ (by omega)]
  have hc : (contB kind key data).length = 3 + key.length + l := by rw [contB_len, hld]
  refine (k61 (3 + key.length + l) (by omega) g4).mono ?_
  rintro v g5 m5 ⟨fa, fc, rfl, of5⟩
  have hsz5 : g.size ≤ g5.w.heap.size := Nat.le_trans (Nat.le_trans (Nat.le_trans n1.ex.size m2.size) n3.ex.size) (Nat.le_trans m4.size m5.size)
  have h45 : g.w.heap.size ≤ g4.size := Nat.le_trans (Nat.le_trans (Nat.le_trans n1.ex.size m2.size) n3.ex.size) m4.size
  obtain ⟨oa, oc', w2, hr2, g6, hw2, hs2, o6, b6, _⟩ := OwnB.app E22 22 (B := g.size) hsz5 (of5.base h45) ((oc.ex m5).sl) (by omega) (by unfold maxLen; omega)
  refine ⟨_, _, _, rfl, oa, _, oc', w2, hr2, g6, hw2, hs2, ?_⟩
  refine (k62 _ o6.sl).mono ?_
  rintro v g7 m7 rfl
  refine ⟨_, rfl, (k61 _ (sumN_lt _) g7).mono ?_⟩
  rintro v g8 m8 ⟨sa, sc, rfl, o8⟩
  have hsz8 : g.size ≤ g8.w.heap.size := Nat.le_trans hsz5 (Nat.le_trans hs2.le.size (Nat.le_trans m7.size m8.size))
  obtain ⟨ra, rc, w3, hr3, g9, hw3, hs3, o9, _, _⟩ := OwnB.app E22 22 (B := g.size) hsz8 ((o6.ex m7).ex m8) o8.sl (by omega) (by unfold maxLen; omega)
  refine ⟨_, _, _, rfl, ra, _, rc, w3, hr3, g9, hw3, hs3, fun g10 m10 => ⟨ra, rc, by rw [show 4 + (3 + key.length + l) + 4 = 11 + key.length + l by omega], ?_⟩⟩
  have := o9.ex m10
  rw [show 4 + (3 + key.length + l) + 4 = 11 + key.length + l by omega] at this
  unfold recB sumd
  rw [hc]
  exact this

theorem k18 (kind : Nat) (hk : kind < 256) (key data : List UInt8) {a : Option Addr} {l c : Nat} {g : G} (hd : SlB g a l c data) (h1 : key.length ≤ 100) (h2 : l ≤ 1048776) :
    CallsP Try.prog 18 #[(.int .i64 (kind : Int)), (.string (bstr key)), (.slice a l c)] g fun v g' => ∃ a' c', v = .slice a' (11 + key.length + l) c' ∧ OwnB g' g.size 5 a' (11 + key.length + l) c' (recB kind key data) := by
  refine call18 kind (bstr key) a l c g _ ?_
  have hld := SlB.length hd
  unfold F18
  intro g1 n1
  have e0 : ([(.int .u8 (IntKind.u8.wrap (kind : Int))), (.int .u8 (0 : Int)), (.int .u8 (IntKind.u8.wrap (((bstr key).size : Nat) : Int)))] : List Value) = vs .u8 (nums [UInt8.ofNat kind, UInt8.ofNat (key.length / 256), UInt8.ofNat key.length]) := by
    rw [nums3 kind hk, bstr_size, wrap_u8_nat, wrap_u8_nat, show kind % 256 = kind by omega, show key.length / 256 % 256 = 0 by omega]
    rfl
  rw [e0] at n1
  obtain ⟨ka, kc, w1, hr1, g2, hw1, hs1, sk, m2⟩ := bytesG (P := Try.prog) (g := g1) (B := g.size) (bstr key) Try.underlying9 Try.underlying22 Try.underlying5 n1.ex.size (by rw [bstr_size]; unfold maxLen; omega)
  rw [bstr_size] at hr1 sk
  refine ⟨ka, _, kc, w1, hr1, g2, hw1, hs1, ?_⟩
  have sk2 : SlB g2 ka key.length kc key := by simpa [bstr] using sk
  have o1 : OwnB g1 g.size 5 (some ⟨g.w.heap.size, 0, none⟩) 3 3 _ := OwnG.lit (m := 1) n1 (n := 3) (Nat.le_refl _) rfl (by unfold maxLen; omega)
  have hsz2 : g.size ≤ g2.w.heap.size := Nat.le_trans n1.ex.size m2.size
  obtain ⟨c1a, c1c, w2, hr2, g3, hw2, hs2, o3, _, _⟩ := OwnB.app E22 22 (B := g.size) hsz2 (o1.ex m2) sk2 (by omega) (by unfold maxLen; omega)
  refine ⟨c1a, _, c1c, w2, hr2, g3, hw2, hs2, ?_⟩
  have hsz3 : g.size ≤ g3.w.heap.size := Nat.le_trans hsz2 hs2.le.size
  obtain ⟨ca, cc, w3, hr3, g4, hw3, hs3, o4, _, _⟩ := OwnB.app E22 22 (B := g.size) hsz3 o3 (((hd.ex n1.ex).ex m2).mono hs2.le) (by omega) (by unfold maxLen; omega)
  refine ⟨ca, _, cc, w3, hr3, g4, hw3, hs3, ?_⟩
  have hc : (contB kind key data).length = 3 + key.length + l := by rw [contB_len, hld]
  refine (k47 (3 + key.length + l) (by omega) g4).mono ?_
  rintro v g5 m5 ⟨fa, fc, rfl, of5⟩
  have hsz4 : g.size ≤ g4.w.heap.size := Nat.le_trans hsz3 hs3.le.size
  have hsz5 : g.size ≤ g5.w.heap.size := Nat.le_trans hsz4 m5.size
  obtain ⟨oa, oc', w4, hr4, g6, hw4, hs4, o6, b6, _⟩ := OwnB.app E22 22 (B := g.size) hsz5 (of5.base hsz4) ((o4.ex m5).sl) (by omega) (by unfold maxLen; omega)
  refine ⟨_, _, _, rfl, oa, _, oc', w4, hr4, g6, hw4, hs4, ?_⟩
  refine (k42 _ o6.sl).mono ?_
  rintro v g7 m7 rfl
  refine ⟨_, rfl, (k47 _ (sumN_lt _) g7).mono ?_⟩
  rintro v g8 m8 ⟨sa, sc, rfl, o8⟩
  have hsz8 : g.size ≤ g8.w.heap.size := Nat.le_trans hsz5 (Nat.le_trans hs4.le.size (Nat.le_trans m7.size m8.size))
  obtain ⟨ra, rc, w5, hr5, g9, hw5, hs5, o9, _, _⟩ := OwnB.app E22 22 (B := g.size) hsz8 ((o6.ex m7).ex m8) o8.sl (by omega) (by unfold maxLen; omega)
  refine ⟨_, _, _, rfl, ra, _, rc, w5, hr5, g9, hw5, hs5, fun g10 m10 => ⟨ra, rc, by rw [show 4 + (3 + key.length + l) + 4 = 11 + key.length + l by omega], ?_⟩⟩
  have := o9.ex m10
  rw [show 4 + (3 + key.length + l) + 4 = 11 + key.length + l by omega] at this
  unfold recB sumd
  rw [hc]
  exact this
end Go.Proofs.Ytlofbfbcnlgmaaa
/- The store: the first record of some bytes. -/
set_option linter.unusedVariables false
namespace Go.Proofs.Ytlofbfbcnlgmaaa
open Go Go.Vc Go.RowKit

structure Rec where
  kind : Nat
  key : List UInt8
  data : List UInt8
  len : Nat
def badR (n : Nat) (c : List UInt8) : Prop :=
  (c.getD 1 0).toNat * 256 + (c.getD 2 0).toNat < 1 ∨ 100 < (c.getD 1 0).toNat * 256 + (c.getD 2 0).toNat ∨ n < (c.getD 1 0).toNat * 256 + (c.getD 2 0).toNat + 3 ∨
    ¬ ((c.getD 0 0).toNat = 1 ∨ (c.getD 0 0).toNat = 2 ∧ (c.getD 1 0).toNat * 256 + (c.getD 2 0).toNat + 3 = n)
instance (n : Nat) (c : List UInt8) : Decidable (badR n c) := by unfold badR; infer_instance
def keyLen (c : List UInt8) : Nat := (c.getD 1 0).toNat * 256 + (c.getD 2 0).toNat
def firstR (l : List UInt8) : Option Rec :=
  if l.length < 8 then none else
  if numB (l.take 4) < 4 ∨ l.length < numB (l.take 4) + 8 then none else
  if sumN (l.take (numB (l.take 4) + 4)) ≠ numB ((l.drop (numB (l.take 4) + 4)).take 4) then none else
  if badR (numB (l.take 4)) ((l.drop 4).take (numB (l.take 4))) then none else
  some ⟨(((l.drop 4).take (numB (l.take 4))).getD 0 0).toNat, (((l.drop 4).take (numB (l.take 4))).drop 3).take (keyLen ((l.drop 4).take (numB (l.take 4)))), ((l.drop 4).take (numB (l.take 4))).drop (3 + keyLen ((l.drop 4).take (numB (l.take 4)))), numB (l.take 4) + 8⟩
def recOf (l : List UInt8) : Rec := (firstR l).getD ⟨0, [], [], 0⟩

/-- A record begins the bytes. -/
structure Right (l : List UInt8) (n : Nat) (c : List UInt8) : Prop where
  len : n + 8 ≤ l.length
  n4 : 4 ≤ n
  num : numB (l.take 4) = n
  c_eq : c = (l.drop 4).take n
  sum : sumN (l.take (n + 4)) = numB ((l.drop (n + 4)).take 4)
  ok : ¬ badR n c
theorem first_of {l : List UInt8} {n : Nat} {c : List UInt8} (h : Right l n c) : firstR l = some ⟨(c.getD 0 0).toNat, (c.drop 3).take (keyLen c), c.drop (3 + keyLen c), n + 8⟩ := by
  obtain ⟨h1, h2, h3, h4, h5, h6⟩ := h
  unfold firstR
  rw [h3, ← h4, if_neg (by omega), if_neg (by omega), if_neg (by simp [h5]), if_neg h6]
theorem right_of {l : List UInt8} {r : Rec} (h : firstR l = some r) : ∃ n c, Right l n c ∧ r = ⟨(c.getD 0 0).toNat, (c.drop 3).take (keyLen c), c.drop (3 + keyLen c), n + 8⟩ := by
  unfold firstR at h
  split at h
  · cases h
  · split at h
    · cases h
    · split at h
      · cases h
      · split at h
        · cases h
        · rename_i h1 h2 h3 h4
          cases h
          exact ⟨_, _, ⟨by omega, by omega, rfl, rfl, Decidable.not_not.1 h3, h4⟩, rfl⟩

theorem k48 (l : List UInt8) {a : Option Addr} {n c : Nat} {g : G} (h : SlB g a n c l) (hn : n ≤ 1148676) :
    CallsP Try.prog 48 #[.slice a n c] g fun v g' => ∃ da dl dc, v = .agg ⟨[.int .i64 ((recOf l).kind : Int), .string (bstr (recOf l).key), .slice da dl dc, .int .i64 ((recOf l).len : Int)]⟩ ∧ SlB g' da dl dc (recOf l).data := by
  refine call48 a n c g _ ?_
  have hl := SlB.length h
  have hle := h.le
  have hcap := h.cap
  have hnum := numB_lt (l.take 4)
  have hnum4 : numB (l.take 4) < 256 ^ 4 := Nat.lt_of_lt_of_le hnum (Nat.pow_le_pow_right (by omega) (by rw [List.length_take]; omega))
  have no : ∀ (g' : G), firstR l = none → ∃ da dl dc, (.agg ⟨[.int .i64 (0 : Int), .string (bs []), .slice none 0 0, .int .i64 (0 : Int)]⟩ : Value) = .agg ⟨[.int .i64 ((recOf l).kind : Int), .string (bstr (recOf l).key), .slice da dl dc, .int .i64 ((recOf l).len : Int)]⟩ ∧ SlB g' da dl dc (recOf l).data := by
    intro g' hf
    refine ⟨none, 0, 0, ?_, ?_⟩
    · simp only [recOf, hf]; rfl
    · simp only [recOf, hf]; exact Sl.zero _ _
  unfold F48
  refine ifLt (fun h8 g1 m1 g2 m2 => no g2 (by unfold firstR; rw [if_pos (by omega)])) (fun h8 g3 m3 => ?_)
  refine (k63 l (h.ex m3) (by omega)).mono ?_
  rintro v g4 m4 rfl
  refine ⟨_, rfl, fun J hJ g12 m12 => ?_⟩
  have e4 : Int.toNat (((numB (l.take 4) : Nat) : Int) + 4) = numB (l.take 4) + 4 := by omega
  have h12 : SlB g12 a n c l := ((h.ex m3).ex m4).ex m12
  have bad1 : ∀ {q : Nat}, numB (l.take 4) = q → (q < 4 ∨ n < q + 8) → firstR l = none := by
    intro q hq hh
    unfold firstR
    rw [if_neg (by omega), if_pos (by omega)]
  generalize hq : numB (l.take 4) = q at *
  refine ifLt (fun h9 g13 m13 => no _ (bad1 rfl (by omega))) (fun h9 => ⟨i64 (by omega) (by omega), ifLt (fun h10 g14 m14 => no _ (bad1 rfl (by omega))) (fun h10 => ?_)⟩)
  refine ⟨i64 (by omega) (by omega), ⟨by omega, by omega⟩, i64 (by omega) (by omega), ⟨by omega, by omega⟩, ?_⟩
  rw [e4]
  refine (k42 _ (SlB.take h12 (hi := q + 4) (by omega))).mono ?_
  rintro v g15 m15 rfl
  refine ⟨_, rfl, (k63 _ (SlB.drop (h12.ex m15) (lo := q + 4) (by omega)) (by omega)).mono ?_⟩
  rintro v g16 m16 rfl
  refine ⟨_, rfl, ifNe (fun h11 g17 m17 => no _ ?_) (fun h11 => hJ _ _ _ _ _ _ _ ?_)⟩
  · unfold firstR
    rw [if_neg (by omega), hq]
    split
    · rfl
    · rw [if_pos (by omega)]
  have h16 := (h12.ex m15).ex m16
  have e44 : Int.toNat (4 : Int) = 4 := rfl
  have e33 : Int.toNat (3 : Int) = 3 := rfl
  refine ⟨i64 (by omega) (by omega), ⟨by omega, by omega⟩, ⟨by omega, by omega⟩, fun g6 m6 => ?_⟩
  rw [e4, e44]
  generalize hc : (l.drop 4).take q = cc
  have hcl : cc.length = q := by rw [← hc, List.length_take, List.length_drop]; omega
  have s6 : SlB g6 (slAddr a c 4 1) (q + 4 - 4) (c - 4) cc := by
    have := SlB.sub (h16.ex m6) (lo := 4) (hi := q + 4) (by omega) (by omega)
    rw [show q + 4 - 4 = q by omega] at this ⊢
    rw [hc] at this
    exact this
  have b1 := nums_lt cc 1
  have b2 := nums_lt cc 2
  have b0 := nums_lt cc 0
  by_cases hq3 : q = 3
  · subst hq3
    -- a record of three bytes has no key
    refine ⟨⟨by omega, by omega⟩, SlB.rdN s6 1 rfl (by omega) ?_⟩
    refine ⟨i64 (by omega) (by omega), i64 (by omega) (by omega), ⟨by omega, by omega⟩, SlB.rdN s6 2 rfl (by omega) ?_⟩
    have hbad : firstR l = none := bad1 rfl (by omega)
    refine ⟨i64 (by omega) (by omega), i64 (by omega) (by omega), fun J1 hJ1 => ?_⟩
    have fin : ∀ g', J1 true g' := fun g' => hJ1 _ _ (ifT (fun _ g8 m8 => no _ hbad) (fun hh => by cases hh))
    refine ifLt (fun _ => fin _) (fun hk => ifLt (fun _ => fin _) (fun _ => ⟨i64 (by omega) (by omega), ifLt (fun _ => fin _) (fun hh => by omega)⟩))
  refine ⟨⟨by omega, by omega⟩, SlB.rdN s6 1 rfl (by omega) ?_⟩
  refine ⟨i64 (by omega) (by omega), i64 (by omega) (by omega), ⟨by omega, by omega⟩, SlB.rdN s6 2 rfl (by omega) ?_⟩
  refine ⟨i64 (by omega) (by omega), i64 (by omega) (by omega), fun J1 hJ1 => ?_⟩
  have hbad : badR q cc → firstR l = none := by
    intro hb
    unfold firstR
    rw [if_neg (by omega), hq, if_neg (by omega), if_neg (by omega), hc, if_pos hb]
  have fin : ∀ g', badR q cc → J1 true g' := fun g' hb => hJ1 _ _ (ifT (fun _ g8 m8 => no _ (hbad hb)) (fun hh => by cases hh))
  have good : ∀ b, b = false → ¬ badR q cc → J1 b g6 := by
    rintro b rfl hok
    refine hJ1 _ _ (ifT (fun hh => by cases hh) (fun _ g9 m9 => ?_))
    have hf : firstR l = _ := first_of (l := l) (n := q) (c := cc) ⟨by omega, by omega, hq, hc.symm, by omega, hok⟩
    have hrec : recOf l = ⟨(cc.getD 0 0).toNat, (cc.drop 3).take (keyLen cc), cc.drop (3 + keyLen cc), q + 8⟩ := by unfold recOf; rw [hf]; rfl
    have s9 := s6.ex m9
    unfold badR at hok
    have ek : Int.toNat ((3 : Int) + ((((cc.getD 1 0).toNat : Nat) : Int) * 256 + (((cc.getD 2 0).toNat : Nat) : Int))) = 3 + keyLen cc := by unfold keyLen; omega
    have hkl : 3 + keyLen cc ≤ q := by unfold keyLen; omega
    have sk := SlB.sub s9 (lo := 3) (hi := 3 + keyLen cc) (by omega) (by omega)
    refine ⟨⟨by omega, by omega⟩, SlB.rdN s9 0 rfl (by omega) ?_⟩
    refine ⟨i64 (by omega) (by omega), i64 (by omega) (by omega), ⟨by omega, by omega⟩, ⟨by omega, by omega⟩, i64 (by omega) (by omega), ⟨by omega, by omega⟩, i64 (by omega) (by omega), ?_⟩
    rw [ek, e33]
    refine ⟨_, _, SlB.str sk Try.underlying22 Try.underlying5 Try.underlying9, g9, rfl, Stp.refl _ _ _, fun _ _ _ => rfl, fun g11 m11 => ?_⟩
    have sd := SlB.drop (s9.ex m11) (lo := 3 + keyLen cc) (by omega)
    refine ⟨_, _, _, ?_, by rw [hrec]; exact sd⟩
    rw [hrec]
    show Value.agg ⟨[_, _, _, _]⟩ = Value.agg ⟨[_, _, _, _]⟩
    rw [show 3 + keyLen cc - 3 = keyLen cc by omega]
    congr 5
  refine ifLt (fun hk => fin _ (.inl (by omega))) (fun hk => ifLt (fun hk2 => fin _ (.inr (.inl (by omega)))) (fun hk2 => ⟨i64 (by omega) (by omega), ifLt (fun hk3 => fin _ (.inr (.inr (.inl (by omega))))) (fun hk3 => ?_)⟩))
  refine ⟨⟨by omega, by omega⟩, SlB.rdN s6 0 rfl (by omega) (ifLt (fun h0 => fin _ (.inr (.inr (.inr (by omega))))) (fun h0 => ?_))⟩
  refine ⟨⟨by omega, by omega⟩, SlB.rdN s6 0 rfl (by omega) (ifLt (fun h0 => fin _ (.inr (.inr (.inr (by omega))))) (fun h1 => ?_))⟩
  refine ⟨⟨by omega, by omega⟩, SlB.rdN s6 0 rfl (by omega) (ifEq (fun h2 => ⟨i64 (by omega) (by omega), ?_⟩) (fun h2 => good _ rfl ?_))⟩
  · by_cases hkk : (((cc.getD 1 0).toNat : Nat) : Int) * 256 + (((cc.getD 2 0).toNat : Nat) : Int) = (q : Int) - 3
    · exact good _ (by rw [eqI_true.mpr hkk]; rfl) (by unfold badR; omega)
    · have : (!eqI ((((cc.getD 1 0).toNat : Nat) : Int) * 256 + (((cc.getD 2 0).toNat : Nat) : Int)) ((q : Int) - 3)) = true := by rw [eqI_false.mpr hkk]; rfl
      rw [this]
      exact fin _ (.inr (.inr (.inr (by omega))))
  · unfold badR; omega
end Go.Proofs.Ytlofbfbcnlgmaaa
/- The store: the reader. -/
set_option linter.unusedVariables false
namespace Go.Proofs.Ytlofbfbcnlgmaaa
open Go Go.Vc Go.RowKit

theorem numB4_lt (l : List UInt8) : numB (l.take 4) < 256 ^ 4 := Nat.lt_of_lt_of_le (numB_lt _) (Nat.pow_le_pow_right (by omega) (by rw [List.length_take]; omega))
theorem numB2_lt (l : List UInt8) (h : l.length = 2) : numB l < 65536 := by have := numB_lt l; rw [h] at this; omega
theorem numB2 (l : List UInt8) (h : 3 ≤ l.length) : numB ((l.drop 1).take 2) = keyLen l := by
  match l, h with
  | x :: y :: z :: r, _ => simp [numB, keyLen]

/-- (*reader).next. -/
theorem k56 (l : List UInt8) {D : Nat} {xa : Option Addr} {xl xc : Nat} {pos : Int} {g : G} (hm : MutB g D 95 [.slice xa xl xc, .int .i64 pos]) (h : SlB g xa xl xc l) (hl : xl ≤ 1048576) (hp : 0 ≤ pos ∧ pos ≤ 1048576) :
    CallsG Try.prog 56 #[.pointer (some ⟨D, 0, none⟩)] g (fun b => b = D) fun v g' =>
      (firstR l = none ∧ v = .tuple ⟨[.slice none 0 0, .bool false]⟩ ∧ MutB g' D 95 [.slice xa xl xc, .int .i64 pos]) ∨
      (∃ n c ca cc xa' xc', Right l n c ∧ v = .tuple ⟨[.slice ca n cc, .bool true]⟩ ∧ SlB g' ca n cc c ∧ MutB g' D 95 [.slice xa' (xl - (n + 8)) xc', .int .i64 (pos + ((n + 8 : Nat) : Int))] ∧ SlB g' xa' (xl - (n + 8)) xc' (l.drop (n + 8))) := by
  refine call56 (some ⟨D, 0, none⟩) g _ _ ?_
  have hll := SlB.length h
  have hle := h.le
  have hcap := h.cap
  unfold maxLen at hcap
  have hq4 := numB4_lt l
  unfold F56
  simp only [derefP_of_some, -eq_self]
  have no : ∀ {g' g'' : G}, firstR l = none → MutB g' D 95 [.slice xa xl xc, .int .i64 pos] → Ex g' g'' → (firstR l = none ∧ (.tuple ⟨[.slice none 0 0, .bool false]⟩ : Value) = .tuple ⟨[.slice none 0 0, .bool false]⟩ ∧ MutB g'' D 95 [.slice xa xl xc, .int .i64 pos]) ∨
      (∃ n c ca cc xa' xc', Right l n c ∧ (.tuple ⟨[.slice none 0 0, .bool false]⟩ : Value) = .tuple ⟨[.slice ca n cc, .bool true]⟩ ∧ SlB g'' ca n cc c ∧ MutB g'' D 95 [.slice xa' (xl - (n + 8)) xc', .int .i64 (pos + ((n + 8 : Nat) : Int))] ∧ SlB g'' xa' (xl - (n + 8)) xc' (l.drop (n + 8))) := fun hf hmm m => .inl ⟨hf, rfl, hmm.ex m⟩
  refine ⟨xa, xl, xc, hm.rd0 rfl, ifLt (fun h8 g1 m1 => no (by unfold firstR; rw [if_pos (by omega)]) hm m1) (fun h8 => ⟨xa, xl, xc, hm.rd0 rfl, ⟨by omega, by omega⟩, ?_⟩)⟩
  refine (k57 (l.take 4) (SlB.take h (hi := 4) (by omega)) (by omega)).mono ?_
  rintro v g2 m2 rfl
  refine ⟨_, rfl, fun J hJ => ?_⟩
  have hm2 := hm.ex m2
  have h2 := h.ex m2
  have bad1 : ∀ {q : Nat}, numB (l.take 4) = q → (q < 4 ∨ xl < q + 8) → firstR l = none := by
    intro q hq hh
    unfold firstR
    rw [if_neg (by omega), if_pos (by omega)]
  generalize hq : numB (l.take 4) = q at *
  refine ifLt (fun h9 g13 m13 => no (bad1 rfl (by omega)) hm2 m13) (fun h9 => ⟨xa, xl, xc, hm2.rd0 rfl, i64 (by omega) (by omega), ifLt (fun h10 g14 m14 => no (bad1 rfl (by omega)) hm2 m14) (fun h10 => hJ _ ?_)⟩)
  have e4 : Int.toNat ((4 : Int) + (q : Int)) = q + 4 := by omega
  have e8 : Int.toNat ((8 : Int) + (q : Int)) = q + 8 := by omega
  have e44 : Int.toNat (4 : Int) = 4 := rfl
  have e33 : Int.toNat (3 : Int) = 3 := rfl
  have e11 : Int.toNat (1 : Int) = 1 := rfl
  rw [e4, e8, e44, e33, e11]
  refine ⟨xa, xl, xc, hm2.rd0 rfl, i64 (by omega) (by omega), ⟨by omega, by omega⟩, xa, xl, xc, hm2.rd0 rfl, i64 (by omega) (by omega), i64 (by omega) (by omega), ⟨by omega, by omega⟩, ⟨by omega, by omega⟩, ?_⟩
  refine (k57 _ (SlB.sub h2 (lo := q + 4) (hi := q + 8) (by omega) (by omega)) (by omega)).mono ?_
  rintro v g4 m4 rfl
  refine ⟨_, rfl, (k62 _ (SlB.take (h2.ex m4) (hi := q + 4) (by omega))).mono ?_⟩
  rintro v g5 m5 rfl
  have hsl := sumN_lt (l.take (q + 4))
  have e0 : q + 8 - (q + 4) = 4 := by omega
  rw [e0]
  have hm5 := (hm2.ex m4).ex m5
  have h5 := (h2.ex m4).ex m5
  refine ⟨_, rfl, i64 (by omega) (by omega), ifNe (fun h11 g6 m6 => no ?_ hm5 m6) (fun h11 => ?_)⟩
  · unfold firstR
    rw [if_neg (by omega), hq, if_neg (by omega), if_pos (by omega)]
  generalize hc : (l.drop 4).take q = cc
  have hcl : cc.length = q := by rw [← hc, List.length_take, List.length_drop]; omega
  have s5 : SlB g5 (slAddr (slAddr xa xc 0 1) (xc - 0) 4 1) (q + 4 - 0 - 4) (xc - 0 - 4) cc := by
    have := SlB.drop (SlB.take h5 (hi := q + 4) (by omega)) (lo := 4) (by omega)
    rw [List.drop_take, show q + 4 - 4 = q by omega, hc] at this
    exact this
  have b1 := nums_lt cc 1
  have b2 := nums_lt cc 2
  have b0 := nums_lt cc 0
  refine ⟨⟨by omega, by omega⟩, ⟨by omega, by omega⟩, ⟨by omega, by omega⟩, ?_⟩
  refine (k57 _ (SlB.sub s5 (lo := 1) (hi := 3) (by omega) (by omega)) (by omega)).mono ?_
  rintro v g7 m7 rfl
  rw [show 3 - 1 = 2 by rfl, numB2 cc (by omega)]
  refine ⟨_, rfl, fun J1 hJ1 => ?_⟩
  have hm7 := hm5.ex m7
  have s7 := s5.ex m7
  have h7 := h5.ex m7
  have hbad : badR q cc → firstR l = none := by
    intro hb
    unfold firstR
    rw [if_neg (by omega), hq, if_neg (by omega), if_neg (by omega), hc, if_pos hb]
  have fin : badR q cc → J1 true g7 := fun hb => hJ1 _ _ (ifT (fun _ g9 m9 => no (hbad hb) hm7 m9) (fun hh => by cases hh))
  have good : ∀ b, b = false → ¬ badR q cc → J1 b g7 := by
    rintro b rfl hok
    refine hJ1 _ _ (ifT (fun hh => by cases hh) (fun _ => ?_))
    refine ⟨xa, xl, xc, hm7.rd0 rfl, i64 (by omega) (by omega), ⟨by omega, by omega⟩, hm7.ok0 (show 1 ≤ 2 by omega), hm7.nx, hm7.mut0 _, fun _ => rfl, fun g10 k10 => ?_⟩
    obtain ⟨hm10, b10⟩ := hm7.st0 k10
    have l10 := b10.le (fun b hb i => hb ▸ hm7.d i)
    refine ⟨pos, hm10.rd rfl, i64 (by omega) (by omega), i64 (by omega) (by omega), hm10.ok (show 1 + 1 ≤ 2 by omega), hm10.nxA _, hm10.mutA _ _, fun _ => add_block _ _, fun g11 k11 g12 m12 => ?_⟩
    obtain ⟨hm11, b11⟩ := hm10.st k11
    have l12 : Le g7 g12 := (l10.trans (b11.le (fun b hb i => hb ▸ hm10.d i))).trans m12.le
    refine .inr ⟨q, cc, slAddr (slAddr xa xc 0 1) (xc - 0) 4 1, xc - 0 - 4, slAddr xa xc (q + 8) 1, xc - (q + 8), ⟨by omega, by omega, hq, hc.symm, ?_, hok⟩, ?_, ?_, ?_, ?_⟩
    · have : ((l.drop (q + 4)).take 4) = (l.drop (q + 4)).take 4 := rfl
      omega
    · rw [show q + 4 - 0 - 4 = q by omega]
    · have := s7.mono l12
      rwa [show q + 4 - 0 - 4 = q by omega] at this
    · have := hm11.ex m12
      rwa [show pos + (8 + (q : Int)) = pos + ((q + 8 : Nat) : Int) by omega] at this
    · exact SlB.drop (h7.mono l12) (lo := q + 8) (by omega)
  have hkl : keyLen cc = (cc.getD 1 0).toNat * 256 + (cc.getD 2 0).toNat := rfl
  refine ifLt (fun hk => fin (.inl (by omega))) (fun hk => ifLt (fun hk2 => fin (.inr (.inl (by omega)))) (fun hk2 => ⟨i64 (by omega) (by omega), ifLt (fun hk3 => fin (.inr (.inr (.inl (by omega))))) (fun hk3 => ?_)⟩))
  refine ⟨⟨by omega, by omega⟩, SlB.rdN s7 0 rfl (by omega) (ifNe (fun h0 => ?_) (fun h0 => good _ rfl (by unfold badR; omega)))⟩
  refine ⟨⟨by omega, by omega⟩, SlB.rdN s7 0 rfl (by omega) (ifNe (fun h1 => fin (.inr (.inr (.inr (by omega))))) (fun h1 => ⟨i64 (by omega) (by omega), ?_⟩))⟩
  by_cases hkk : ((keyLen cc : Nat) : Int) = (q : Int) - 3
  · exact good _ (by rw [eqI_true.mpr hkk]; rfl) (by unfold badR; omega)
  · have : (!eqI ((keyLen cc : Nat) : Int) ((q : Int) - 3)) = true := by rw [eqI_false.mpr hkk]; rfl
    rw [this]
    exact fin (.inr (.inr (.inr (by omega))))
end Go.Proofs.Ytlofbfbcnlgmaaa
/- The store: all records; the map that is read. -/
set_option linter.unusedVariables false
namespace Go.Proofs.Ytlofbfbcnlgmaaa
open Go Go.Vc Go.RowKit

def recs : Nat → List UInt8 → List Rec
  | 0, _ => []
  | f + 1, l => match firstR l with
    | none => []
    | some r => r :: recs f (l.drop r.len)
def recsL (l : List UInt8) : List Rec := recs l.length l
def endR (l : List UInt8) : Nat := ((recsL l).map Rec.len).sum
theorem first_len {l : List UInt8} {r : Rec} (h : firstR l = some r) : 12 ≤ r.len ∧ r.len ≤ l.length := by
  obtain ⟨n, c, hr, rfl⟩ := right_of h
  have := hr.len
  have := hr.n4
  exact ⟨by show 12 ≤ n + 8; omega, by show n + 8 ≤ _; omega⟩
theorem recs_fuel : ∀ (f f' : Nat) (l : List UInt8), l.length ≤ f → l.length ≤ f' → recs f l = recs f' l
  | 0, f', l, h, h' => by
    have : l = [] := List.eq_nil_of_length_eq_zero (by omega)
    subst this
    cases f' with
    | zero => rfl
    | succ f' => rfl
  | f + 1, 0, l, h, h' => by
    have : l = [] := List.eq_nil_of_length_eq_zero (by omega)
    subst this
    rfl
  | f + 1, f' + 1, l, h, h' => by
    unfold recs
    cases hf : firstR l with
    | none => rfl
    | some r =>
      have := first_len hf
      simp only
      rw [recs_fuel f f' _ (by rw [List.length_drop]; omega) (by rw [List.length_drop]; omega)]
theorem recsL_none {l : List UInt8} (h : firstR l = none) : recsL l = [] := by
  unfold recsL
  cases hl : l.length with
  | zero => rfl
  | succ n => unfold recs; rw [h]
theorem recsL_some {l : List UInt8} {r : Rec} (h : firstR l = some r) : recsL l = r :: recsL (l.drop r.len) := by
  have hlen := first_len h
  unfold recsL
  cases hl : l.length with
  | zero => omega
  | succ n =>
    have e : recs (n + 1) l = match firstR l with | none => [] | some r => r :: recs n (l.drop r.len) := rfl
    rw [e, h]
    simp only
    rw [recs_fuel n _ _ (by rw [List.length_drop]; omega) (Nat.le_refl _)]
theorem endR_none {l : List UInt8} (h : firstR l = none) : endR l = 0 := by unfold endR; rw [recsL_none h]; rfl
theorem endR_some {l : List UInt8} {r : Rec} (h : firstR l = some r) : endR l = r.len + endR (l.drop r.len) := by unfold endR; rw [recsL_some h]; simp
theorem endR_le (l : List UInt8) : endR l ≤ l.length := by
  have key : ∀ (f : Nat) (l : List UInt8), l.length ≤ f → endR l ≤ l.length := by
    intro f
    induction f with
    | zero =>
      intro l h
      have : l = [] := List.eq_nil_of_length_eq_zero (by omega)
      subst this
      exact Nat.le_refl _
    | succ f ih =>
      intro l h
      cases hf : firstR l with
      | none => rw [endR_none hf]; omega
      | some r =>
        have := first_len hf
        have := ih (l.drop r.len) (by rw [List.length_drop]; omega)
        rw [List.length_drop] at this
        rw [endR_some hf]
        omega
  exact key _ l (Nat.le_refl _)

/-- The entries that records leave. -/
def stepF (f : List UInt8 → Option (List UInt8)) (r : Rec) : List UInt8 → Option (List UInt8) := fun x => if x = r.key then (if r.kind = 1 then some r.data else none) else f x
def mpF (rs : List Rec) : List UInt8 → Option (List UInt8) := rs.foldl stepF fun _ => none

/-- A map from keys to slices of bytes. -/
def MapB (g : G) (b n : Nat) (F : List UInt8 → Option (List UInt8)) : Prop :=
  ∃ fv, MapG Try.prog g 9 b n fv ∧ ∀ s, (F s = none → fv s = none) ∧ ∀ d, F s = some d → ∃ a m c, fv s = some (.slice a m c) ∧ SlB g a m c d
theorem MapB.but {g g' : G} {b n : Nat} {F : List UInt8 → Option (List UInt8)} (h : MapB g b n F) {p : Nat → Prop} (m : But p g g') (hp : ¬ p b) (hl : Le g g') : MapB g' b n F := by
  obtain ⟨fv, h1, h2⟩ := h
  exact ⟨fv, h1.but m hp, fun s => ⟨(h2 s).1, fun d hd => by obtain ⟨a, k, c, e1, e2⟩ := (h2 s).2 d hd; exact ⟨a, k, c, e1, e2.mono hl⟩⟩⟩
theorem MapB.ex {g g' : G} {b n : Nat} {F : List UInt8 → Option (List UInt8)} (h : MapB g b n F) (m : Ex g g') : MapB g' b n F := h.but (m.but nobody) (fun h => h) m.le

theorem numB_two {c : List UInt8} (h : 3 ≤ c.length) : numB ((c.drop 1).take (3 - 1)) = keyLen c := numB2 c h

theorem k44 (l : List UInt8) {a : Option Addr} {n c : Nat} {g : G} (h : SlB g a n c l) (s1 s2 : Int) (hn : n ≤ 1048576) :
    CallsP Try.prog 44 #[stV a n c s1 s2] g fun v g' => ∃ b k, v = .tuple ⟨[.map (some b), .int .i64 ((endR l : Nat) : Int)]⟩ ∧ MapB g' b k (mpF (recsL l)) := by
  refine call44 a n c s1 s2 g _ ?_
  have hll := SlB.length h
  unfold F44
  intro g1 m1 g2 n2 g3 n3
  have h3 := ((h.ex m1).ex n2.ex).ex n3.ex
  have mp3 := (MapG.new n2 Try.prog 9).ex n3.ex
  have hbD : g1.w.heap.size < g2.w.heap.size := heap_lt n2.blk
  have hgb : g.w.heap.size ≤ g1.w.heap.size := m1.size
  refine ⟨fun m g4 => ∃ p done xa xc k, p + m = n ∧ recsL l = done ++ recsL (l.drop p) ∧ p = (done.map Rec.len).sum ∧ MutB g4 g2.w.heap.size 95 [.slice xa m xc, .int .i64 (p : Int)] ∧ SlB g4 xa m xc (l.drop p) ∧ MapB g4 g1.w.heap.size k (mpF done) ∧ k ≤ p,
    ⟨n, 0, [], a, c, 0, by omega, by simp, rfl, n3.mut, by simpa using h3, ⟨_, mp3, fun s => ⟨fun _ => rfl, fun d hd => by cases hd⟩⟩, Nat.le_refl _⟩, ?_⟩
  rintro m g4 le4 ⟨p, done, xa, xc, k, hpm, hrec, hps, hmut, hsl, hmap, hkp⟩
  refine ⟨fun b => b = g2.w.heap.size, fun b hb hb2 => by omega, (k56 (l.drop p) hmut hsl (by omega) ⟨by omega, by omega⟩).mono ?_⟩
  rintro v g5 st5 hv
  have but5 := st5.but (Nat.le_refl _)
  have map5 := hmap.but but5 (show ¬ g1.w.heap.size = g2.w.heap.size by omega) st5.le
  rcases hv with ⟨hnone, rfl, hmut5⟩ | ⟨q, cc, ca, cap, xa', xc', hr, rfl, hcc, hmut5, hsl5⟩
  · refine ⟨_, _, _, _, rfl, ifF (fun _ => ?_) (fun hh => by cases hh)⟩
    intro g6 m6
    refine ⟨p, (hmut5.ex m6).rd rfl, fun g7 m7 => ⟨g1.w.heap.size, k, ?_, ?_⟩⟩
    · rw [hps, endR, hrec, recsL_none hnone, List.append_nil]
    · rw [hrec, recsL_none hnone, List.append_nil]
      exact (map5.ex m6).ex m7
  · refine ⟨_, _, _, _, rfl, ifF (fun hh => by cases hh) (fun _ => ?_)⟩
    have hcl := SlB.length hcc
    have hcle := hcc.le
    have hccap := hcc.cap
    unfold maxLen at hccap
    have hok := hr.ok
    have hq := hr.n4
    have hqlen := hr.len
    rw [List.length_drop] at hqlen
    have hkl : keyLen cc = (cc.getD 1 0).toNat * 256 + (cc.getD 2 0).toNat := rfl
    unfold badR at hok
    have e3 : Int.toNat (3 : Int) = 3 := rfl
    have e1 : Int.toNat (1 : Int) = 1 := rfl
    rw [e3, e1]
    refine ⟨⟨by omega, by omega⟩, ⟨by omega, by omega⟩, (k57 _ (SlB.sub hcc (lo := 1) (hi := 3) (by omega) (by omega)) (by omega)).mono ?_⟩
    rintro v g8 m8 rfl
    rw [numB_two (by omega)]
    have ek : Int.toNat ((3 : Int) + ((keyLen cc : Nat) : Int)) = 3 + keyLen cc := by omega
    have hc8 := hcc.ex m8
    have sk := SlB.sub hc8 (lo := 3) (hi := 3 + keyLen cc) (by omega) (by omega)
    refine ⟨_, rfl, ?_⟩
    rw [ek]
    refine ⟨i64 (by omega) (by omega), ⟨by omega, by omega⟩, ⟨by omega, by omega⟩, _, _, SlB.str sk Try.underlying22 Try.underlying5 Try.underlying9, g8, rfl, Stp.refl _ _ _, ⟨by omega, by omega⟩, SlB.rdN hc8 0 rfl (by omega) ?_⟩
    rw [show 3 + keyLen cc - 3 = keyLen cc by omega]
    have hmut8 := hmut5.ex m8
    have hsl8 := hsl5.ex m8
    obtain ⟨fv, hmp, hfv⟩ := map5.ex m8
    have hfirst := first_of hr
    have hrec2 : recsL l = (done ++ [⟨(cc.getD 0 0).toNat, (cc.drop 3).take (keyLen cc), cc.drop (3 + keyLen cc), q + 8⟩]) ++ recsL (l.drop (p + (q + 8))) := by
      rw [hrec, recsL_some hfirst, List.drop_drop, List.append_assoc]
      rfl
    have hklen : ((cc.drop 3).take (keyLen cc)).length ≤ maxLen := by
      rw [List.length_take, List.length_drop]
      unfold maxLen
      omega
    have hmp' : ∀ s, mpF (done ++ [⟨(cc.getD 0 0).toNat, (cc.drop 3).take (keyLen cc), cc.drop (3 + keyLen cc), q + 8⟩]) s = if s = (cc.drop 3).take (keyLen cc) then (if (cc.getD 0 0).toNat = 1 then some (cc.drop (3 + keyLen cc)) else none) else mpF done s := by
      intro s
      unfold mpF
      rw [List.foldl_append]
      rfl
    have next : ∀ (g9 : G) (fv' : List UInt8 → Option Value) (k' : Nat), k' ≤ k + 1 → But (fun x => x = g1.w.heap.size) g8 g9 → Le g8 g9 → MapG Try.prog g9 9 g1.w.heap.size k' fv' →
        (∀ s, (mpF (done ++ [⟨(cc.getD 0 0).toNat, (cc.drop 3).take (keyLen cc), cc.drop (3 + keyLen cc), q + 8⟩]) s = none → fv' s = none) ∧ ∀ d, mpF (done ++ [⟨(cc.getD 0 0).toNat, (cc.drop 3).take (keyLen cc), cc.drop (3 + keyLen cc), q + 8⟩]) s = some d → ∃ a m c, fv' s = some (.slice a m c) ∧ SlB g9 a m c d) →
        ∃ m_1, m_1 < m ∧ ∃ p done xa xc k, p + m_1 = n ∧ recsL l = done ++ recsL (l.drop p) ∧ p = (done.map Rec.len).sum ∧ MutB g9 g2.w.heap.size 95 [.slice xa m_1 xc, .int .i64 (p : Int)] ∧ SlB g9 xa m_1 xc (l.drop p) ∧ MapB g9 g1.w.heap.size k (mpF done) ∧ k ≤ p := by
      intro g9 fv' k' hk' hbut hle hmg hf
      refine ⟨m - (q + 8), by omega, p + (q + 8), _, xa', xc', k', by omega, hrec2, by simp [hps], ?_, ?_, ⟨fv', hmg, hf⟩, by omega⟩
      · have := hmut8.but hbut (show ¬ g2.w.heap.size = g1.w.heap.size by omega)
        rwa [show (p : Int) + ((q + 8 : Nat) : Int) = ((p + (q + 8) : Nat) : Int) by omega] at this
      · have := hsl8.mono hle
        rwa [List.drop_drop] at this
    refine ifEq (fun hput => ⟨i64 (by omega) (by omega), ⟨by omega, by omega⟩, ?_⟩) (fun hdel => ?_)
    · obtain ⟨w', hrun, g9, hw, hs9, hmg, hb9⟩ := hmp.put Try.underlying9 Try.underlying79 (by unfold maxLen; omega) _ hklen (.slice (slAddr ca cap (3 + keyLen cc) 1) (q - (3 + keyLen cc)) (cap - (3 + keyLen cc))) (B := g.w.heap.size) hgb
      refine ⟨w', hrun, g9, hw, hs9, next g9 _ (k + 1) (Nat.le_refl _) hb9 hs9.le hmg fun s => ?_⟩
      rw [hmp' s, if_pos (show (cc.getD 0 0).toNat = 1 by omega)]
      by_cases hsk : s = (cc.drop 3).take (keyLen cc)
      · subst hsk
        rw [if_pos rfl, upd_same]
        exact ⟨fun hh => (by cases hh), fun d hd => by cases hd; exact ⟨_, _, _, rfl, (SlB.drop hc8 (lo := 3 + keyLen cc) (by omega)).mono hs9.le⟩⟩
      · rw [if_neg hsk, upd_other _ _ hsk]
        exact ⟨(hfv s).1, fun d hd => by obtain ⟨a, m, c, e1, e2⟩ := (hfv s).2 d hd; exact ⟨a, m, c, e1, e2.mono hs9.le⟩⟩
    · obtain ⟨w', hrun, g9, hw, hs9, hmg, hb9⟩ := hmp.del Try.underlying9 Try.underlying79 _ hklen 0 (B := g.w.heap.size) hgb
      refine ⟨w', hrun, g9, hw, hs9, next g9 _ k (Nat.le_succ _) hb9 hs9.le hmg fun s => ?_⟩
      rw [hmp' s, if_neg (show ¬ (cc.getD 0 0).toNat = 1 by omega)]
      by_cases hsk : s = (cc.drop 3).take (keyLen cc)
      · subst hsk
        rw [if_pos rfl, upd_same]
        exact ⟨fun _ => rfl, fun d hd => by cases hd⟩
      · rw [if_neg hsk, upd_other _ _ hsk]
        exact ⟨(hfv s).1, fun d hd => by obtain ⟨a, m, c, e1, e2⟩ := (hfv s).2 d hd; exact ⟨a, m, c, e1, e2.mono hs9.le⟩⟩

theorem k29 (l : List UInt8) {a : Option Addr} {n c : Nat} {g : G} (h : SlB g a n c l) (hn : n ≤ 1148676) : CallsP Try.prog 29 #[.slice a n c] g fun v _ => v = .int .i64 ((endR l : Nat) : Int) := by
  refine call29 a n c g _ ?_
  have hll := SlB.length h
  unfold F29
  refine ⟨fun m p g4 => ∃ q : Nat, p = q ∧ q + m = n ∧ endR l = q + endR (l.drop q), ⟨n, 0, rfl, by omega, by simp⟩, ?_⟩
  rintro m p g1 le1 ⟨q, rfl, hqm, hend⟩
  refine ifLt (fun hlt => ⟨⟨by omega, by omega⟩, ?_⟩) (fun hge g5 m5 => ?_)
  · rw [Int.toNat_natCast]
    refine (k48 _ (SlB.drop (h.mono le1) (lo := q) (by omega)) (by omega)).mono ?_
    rintro v g2 m2 ⟨da, dl, dc, rfl, hd⟩
    refine ⟨_, _, _, _, _, _, rfl, ?_⟩
    unfold recOf
    cases hf : firstR (l.drop q) with
    | none =>
      refine ifEq (fun _ g3 m3 => ?_) (fun hh => absurd rfl hh)
      rw [hend, endR_none hf]
      rfl
    | some r =>
      have hlen := first_len hf
      rw [List.length_drop] at hlen
      simp only [Option.getD_some]
      refine ifEq (fun hh => by omega) (fun _ => ⟨i64 (by omega) (by omega), fun g4 m4 => ⟨m - r.len, by omega, q + r.len, by omega, by omega, ?_⟩⟩)
      rw [hend, endR_some hf, List.drop_drop]
      omega
  · have : l.drop q = [] := List.drop_eq_nil_of_le (by omega)
    rw [hend, this, endR_none (by rfl)]
    rfl
end Go.Proofs.Ytlofbfbcnlgmaaa
/- The store: writing. -/
set_option linter.unusedVariables false
namespace Go.Proofs.Ytlofbfbcnlgmaaa
open Go Go.Vc Go.RowKit

structure SR where
  b : List UInt8
  d : Int
  a : Int
  e : Int
/-- The store to which a record is written behind n bytes. -/
def writeR (b : List UInt8) (n : Nat) (d a : Int) (r : List UInt8) : SR :=
  if 1048576 < n + r.length then ⟨[], 0, 0, 5⟩ else
  if a < 0 then ⟨b.take n ++ r, ((n + r.length : Nat) : Int), a, 0⟩ else
  if a ≤ r.length then ⟨b.take n ++ r.take a.toNat, minI d n, 0, 30⟩ else
  ⟨b.take n ++ r, ((n + r.length : Nat) : Int), a - r.length, 0⟩
/-- What is left of the bytes that can be written, behind i. -/
def aft (a : Int) (i : Nat) : Int := if a < 0 then a else a - i
/-- A result that is a store and a code. -/
def IsSR (v : Value) (g : G) (s : SR) : Prop := ∃ a l c, v = resV a l c s.d s.a s.e ∧ SlB g a l c s.b

theorem k59 {D : Nat} {xa : Option Addr} {xl xc : Nat} {d af : Int} {g : G} (hm : MutB g D 99 [.slice xa xl xc, .int .i64 d, .int .i64 af]) :
    CallsP Try.prog 59 #[.pointer (some ⟨D, 0, none⟩)] g fun v _ => v = .bool (tf (af ≠ 0)) := by
  refine call59 (some ⟨D, 0, none⟩) g _ ?_
  unfold F59
  simp only [derefP_of_some, -eq_self]
  refine ⟨af, hm.rd rfl, fun g1 m1 => ?_⟩
  rw [tf_eq, tf_not]

theorem k58 (s : List UInt8) (b : UInt8) {D B : Nat} {xa : Option Addr} {xl xc : Nat} {d af : Int} {g : G} (hm : MutB g D 99 [.slice xa xl xc, .int .i64 d, .int .i64 af]) (ho : OwnB g B 5 xa xl xc s) (hD : D < B) (hB : B ≤ g.size) (hl : xl ≤ 1048576) (ha : -1 ≤ af ∧ af ≤ 1048576) :
    CallsG Try.prog 58 #[.pointer (some ⟨D, 0, none⟩), .int .u8 ((b.toNat : Nat) : Int)] g (fun x => x = D ∨ blkOf xa x) fun v g' =>
      (af = 0 ∧ v = .bool false ∧ MutB g' D 99 [.slice xa xl xc, .int .i64 d, .int .i64 af] ∧ OwnB g' B 5 xa xl xc s) ∨
      (af ≠ 0 ∧ v = .bool true ∧ ∃ xa' xc', MutB g' D 99 [.slice xa' (xl + 1) xc', .int .i64 d, .int .i64 (aft af 1)] ∧ OwnB g' B 5 xa' (xl + 1) xc' (s ++ [b])) := by
  refine call58 (some ⟨D, 0, none⟩) ((b.toNat : Nat) : Int) g _ _ ?_
  unfold F58
  simp only [derefP_of_some, -eq_self]
  refine (k59 hm).mono ?_
  rintro v g1 m1 rfl
  refine ⟨_, rfl, ifPn (fun h0 g2 m2 => ?_) (fun h0 => ?_)⟩
  · have : af = 0 := Classical.not_not.1 h0
    exact .inl ⟨this, rfl, (hm.ex m1).ex m2, (ho.ex m1).ex m2⟩
  · have hm1 := hm.ex m1
    have ho1 := ho.ex m1
    refine ⟨xa, xl, xc, hm1.rd0 rfl, fun g3 n3 => ?_⟩
    have hm3 := hm1.ex n3.ex
    have ho3 := ho1.ex n3.ex
    have hs3 : SlB g3 (some ⟨g1.w.heap.size, 0, none⟩) 1 1 [b] := n3.sl (m := 1) (n := 1) rfl (by unfold maxLen; omega)
    have hB3 : B ≤ g3.w.heap.size := Nat.le_trans hB (Nat.le_trans m1.size n3.ex.size)
    obtain ⟨xa', xc', w1, hr, g4, hw, hst, ho4, hst2, hloc⟩ := OwnB.app E22 22 hB3 ho3 hs3 (by omega) (by unfold maxLen; omega)
    have hDx : ¬ blkOf xa D := ho3.ne hD
    have hst3 : Stp g.w.heap.size (fun x => x = D ∨ blkOf xa x) g3 g4 := hst2.mono (Nat.le_trans m1.size n3.ex.size) (fun x _ hx => .inr hx)
    have hm4 := hm3.but (hst2.but (Nat.le_refl _)) hDx
    have hDx' : ¬ blkOf xa' D := ho4.ne hD
    refine ⟨xa', _, xc', w1, hr, g4, hw, hst3, hm4.ok0 (show 1 ≤ 3 by omega), hm4.nx, hm4.mut0 _, fun _ => .inl rfl, fun g5 k5 => ?_⟩
    obtain ⟨hm5, b5⟩ := hm4.st0 k5
    have ho5 : OwnB g5 B 5 xa' (xl + 1) xc' (s ++ [b]) := ho4.but b5 (fun x hx e => hDx' (e ▸ hx))
    refine ⟨af, hm5.rd rfl, ifLt (fun hlt => ?_) (fun hge g8 m8 => ?_)⟩
    · refine ⟨af, hm5.rd rfl, i64 (by omega) (by omega), hm5.ok (show 2 + 1 ≤ 3 by omega), hm5.nxA _, hm5.mutA _ _, fun _ => .inl (add_block _ _), fun g6 k6 g7 m7 => ?_⟩
      obtain ⟨hm6, b6⟩ := hm5.st k6
      have ho6 : OwnB g6 B 5 xa' (xl + 1) xc' (s ++ [b]) := ho5.but b6 (fun x hx e => hDx' (e ▸ hx))
      refine .inr ⟨h0, rfl, xa', xc', ?_, ho6.ex m7⟩
      have := hm6.ex m7
      unfold aft
      rw [if_neg (by omega)]
      exact this
    · refine .inr ⟨h0, rfl, xa', xc', ?_, ho5.ex m8⟩
      have := hm5.ex m8
      unfold aft
      rw [if_pos (by omega)]
      exact this

theorem aft_succ (a : Int) (i : Nat) (h : -1 ≤ a) (h2 : aft a i ≠ 0) (h3 : a < 0 ∨ i ≤ a) : aft (aft a i) 1 = aft a (i + 1) ∧ (a < 0 ∨ ((i + 1 : Nat) : Int) ≤ a) := by
  unfold aft at h2 ⊢
  by_cases h0 : a < 0
  · simp [h0]
  · simp only [h0, if_false, false_or] at *
    rw [if_neg (by omega)]
    exact ⟨by omega, by omega⟩

theorem take_snoc (r : List UInt8) (i : Nat) (h : i < r.length) : r.take (i + 1) = r.take i ++ [r.getD i 0] := by
  rw [List.take_add_one, List.getElem?_eq_getElem h]
  simp [List.getD_eq_getElem?_getD, h]

/-- appended. -/
theorem k45 (b r : List UInt8) {a : Option Addr} {n c : Nat} {ra : Option Addr} {rl rc : Nat} {g : G} (h : SlB g a n c b) (hr : SlB g ra rl rc r) (d af : Int) (k : Nat) (hk : k ≤ n) (hn : n ≤ 1048576) (hrl : rl ≤ 1148676) (ha : -1 ≤ af ∧ af ≤ 1048576) (hd : 0 ≤ d ∧ d ≤ n) :
    CallsP Try.prog 45 #[stV a n c d af, .int .i64 (k : Int), .slice ra rl rc] g fun v g' => IsSR v g' (writeR b k d af r) := by
  refine call45 a n c d af k ra rl rc g _ ?_
  have hlb := SlB.length h
  have hlr := SlB.length hr
  have hle := h.le
  unfold F45
  refine ⟨i64 (by omega) (by omega), ifLt (fun hbig g1 m1 g2 m2 => ⟨none, 0, 0, ?_, ?_⟩) (fun hsm g3 m3 g4 n4 => ?_)⟩
  · unfold writeR; rw [if_pos (by omega)]; rfl
  · unfold writeR; rw [if_pos (by omega)]; exact Sl.zero _ _
  rw [Int.toNat_natCast]
  have h4 := (h.ex m3).ex n4.ex
  refine ⟨⟨by omega, by omega⟩, (k32 _ (SlB.take h4 (hi := k) hk) (by omega)).mono ?_⟩
  rintro v g5 m5 ⟨xa, xc, rfl, ho⟩
  have hm5 := n4.mut.ex m5
  refine ⟨_, _, _, rfl, hm5.ok0 (show 1 ≤ 3 by omega), hm5.nx, hm5.mut0 _, fun hh => absurd hh (by have := m3.size; show ¬ g3.w.heap.size < _; omega), fun g6 k6 => ?_⟩
  obtain ⟨hm6, b6⟩ := hm5.st0 k6
  have hD : g3.w.heap.size < g4.size := heap_lt n4.blk
  have ho6 := ho.but b6 (fun x hx e => (ho.ne hD) (e ▸ hx))
  refine ⟨hm6.ok (show 1 + 1 ≤ 3 by omega), hm6.nxA _, hm6.mutA _ _, fun hh => absurd hh (by rw [add_block]; have := m3.size; show ¬ g3.w.heap.size < _; omega), fun g7 k7 => ?_⟩
  obtain ⟨hm7, b7⟩ := hm6.st k7
  have ho7 := ho6.but b7 (fun x hx e => (ho6.ne hD) (e ▸ hx))
  have hr7 : SlB g7 ra rl rc r := (((hr.ex m3).ex n4.ex).ex m5).mono ((b6.le (fun b hb i => hb ▸ hm5.d i)).trans (b7.le (fun b hb i => hb ▸ hm6.d i)))
  have hsz7 : g4.size ≤ g7.w.heap.size := Nat.le_trans m5.size (Nat.le_trans b6.size b7.size)
  refine ⟨fun m i x0a x0l x0c x1 x2 g8 => ∃ j xa' xc', i = ((j : Nat) : Int) ∧ j + m = rl ∧ MutB g8 g3.w.heap.size 99 [.slice xa' (k + j) xc', .int .i64 (minI d k), .int .i64 (aft af j)] ∧ OwnB g8 g4.size 5 xa' (k + j) xc' (b.take k ++ r.take j) ∧ (af < 0 ∨ (j : Int) ≤ af) ∧ g4.size ≤ g8.w.heap.size,
    ⟨rl, 0, xa, xc, rfl, by omega, ?_, ?_, ?_, hsz7⟩, ?_⟩
  · have e : aft af 0 = af := by unfold aft; split <;> omega
    rw [e]
    exact hm7
  · simpa using ho7
  · omega
  rintro m i x0a x0l x0c x1 x2 g8 le8 ⟨j, xa', xc', rfl, hjm, hm8, ho8, haj, hsz8⟩
  have hr8 := hr7.mono le8
  have haft : -1 ≤ aft af j ∧ aft af j ≤ 1048576 := by
    unfold aft
    split <;> omega
  refine ifLt (fun hlt => ⟨⟨by omega, by omega⟩, SlB.rdN hr8 j rfl (by omega) ?_⟩) (fun hge => ?_)
  · refine ⟨_, fun x hx hx2 => ?_, (k58 _ (r.getD j 0) hm8 ho8 hD hsz8 (by omega) haft).mono ?_⟩
    · have hg4 : g.w.heap.size ≤ g4.w.heap.size := Nat.le_trans m3.size n4.ex.size
      rcases hx2 with e | e
      · have := m3.size; omega
      · have : g4.w.heap.size ≤ x := ho8.ge e
        omega
    · rintro v g9 st9 (⟨h0, rfl, hm9, ho9⟩ | ⟨h0, rfl, xa9, xc9, hm9, ho9⟩)
      · refine ⟨_, rfl, ifF (fun _ => ?_) (fun hh => by cases hh)⟩
        refine ⟨_, _, _, _, _, hm9.rd0 rfl, hm9.rd rfl, hm9.rd rfl, fun g10 m10 => ⟨xa', k + j, xc', ?_, ?_⟩⟩
        · have hj : af = j := by unfold aft at h0; split at h0 <;> omega
          unfold writeR
          rw [if_neg (by omega), if_neg (by omega), if_pos (by omega), h0]
          rfl
        · have hj : af = j := by unfold aft at h0; split at h0 <;> omega
          unfold writeR
          rw [if_neg (by omega), if_neg (by omega), if_pos (by omega)]
          have e : af.toNat = j := by omega
          simp only [e]
          exact (ho9.ex m10).sl
      · refine ⟨_, rfl, ifF (fun hh => by cases hh) (fun _ => ?_)⟩
        obtain ⟨e1, e2⟩ := aft_succ af j ha.1 h0 haj
        rw [e1] at hm9
        refine ⟨i64 (by omega) (by omega), m - 1, by omega, j + 1, xa9, xc9, by omega, by omega, hm9, ?_, e2, Nat.le_trans hsz8 st9.le.size⟩
        rw [take_snoc r j (by omega), ← List.append_assoc]
        exact ho9
  · have hj : j = rl := by omega
    subst hj
    have et : r.take j = r := List.take_of_length_le (by omega)
    rw [et] at ho8
    refine (k59 hm8).mono ?_
    rintro v g11 m11 rfl
    have hm11 := hm8.ex m11
    have ho11 := ho8.ex m11
    refine ⟨_, rfl, ifPn (fun h0 => ?_) (fun h0 => ?_)⟩
    · have h0 : aft af j = 0 := Classical.not_not.1 h0
      have hj : af = j := by unfold aft at h0; split at h0 <;> omega
      refine ⟨_, _, _, _, _, hm11.rd0 rfl, hm11.rd rfl, hm11.rd rfl, fun g12 m12 => ⟨xa', k + j, xc', ?_, ?_⟩⟩
      · unfold writeR
        rw [if_neg (by omega), if_neg (by omega), if_pos (by omega), h0]
        rfl
      · unfold writeR
        rw [if_neg (by omega), if_neg (by omega), if_pos (by omega)]
        have e : r.take af.toNat = r := List.take_of_length_le (by omega)
        simp only [e]
        exact (ho11.ex m12).sl
    · refine ⟨xa', k + j, xc', hm11.rd0 rfl, hm11.ok (show 1 + 1 ≤ 3 by omega), hm11.nxA _, hm11.mutA _ _, fun hh => absurd hh (by rw [add_block]; have := m3.size; show ¬ g3.w.heap.size < _; omega), fun g13 k13 => ?_⟩
      obtain ⟨hm13, b13⟩ := hm11.st k13
      have ho13 := ho11.but b13 (fun x hx e => (ho11.ne hD) (e ▸ hx))
      have ew : writeR b k d af r = ⟨b.take k ++ r, ((k + j : Nat) : Int), aft af j, 0⟩ := by
        unfold aft at h0
        unfold writeR aft
        rw [if_neg (by omega), hlr]
        by_cases h9 : af < 0
        · rw [if_pos h9, if_pos h9]
        · rw [if_neg h9] at h0
          rw [if_neg h9, if_neg h9, if_neg (by omega)]
      exact ⟨_, _, _, _, _, hm13.rd0 rfl, hm13.rd rfl, hm13.rd rfl, fun g14 m14 => ⟨xa', k + j, xc', by rw [ew]; rfl, by rw [ew]; exact (ho13.ex m14).sl⟩⟩
end Go.Proofs.Ytlofbfbcnlgmaaa
/- The store: Put, Delete, and the reference's Write and Entries. -/
set_option linter.unusedVariables false
namespace Go.Proofs.Ytlofbfbcnlgmaaa
open Go Go.Vc Go.RowKit

theorem IsSR.ex {v : Value} {g g' : G} {s : SR} (h : IsSR v g s) (m : Ex g g') : IsSR v g' s := by
  obtain ⟨a, l, c, h1, h2⟩ := h
  exact ⟨a, l, c, h1, h2.ex m⟩
theorem IsSR.zero (g : G) (e : Int) : IsSR (resV none 0 0 0 0 e) g ⟨[], 0, 0, e⟩ := ⟨none, 0, 0, rfl, Sl.zero _ _⟩

noncomputable def putR (b : List UInt8) (d a : Int) (k data : List UInt8) : SR :=
  if tf (okS b.length d a) = false then ⟨[], 0, 0, 1⟩ else if tf (okK k.length) = false then ⟨[], 0, 0, 2⟩ else if 1048576 < data.length then ⟨[], 0, 0, 5⟩ else writeR b (endR b) d a (recB 1 k data)
noncomputable def delR (b : List UInt8) (d a : Int) (k : List UInt8) : SR :=
  if tf (okS b.length d a) = false then ⟨[], 0, 0, 1⟩ else if tf (okK k.length) = false then ⟨[], 0, 0, 2⟩ else if mpF (recsL b) k = none then ⟨[], 0, 0, 8⟩ else writeR b (endR b) d a (recB 2 k [])

theorem k12 (b k data : List UInt8) {a : Option Addr} {n c : Nat} {da : Option Addr} {dl dc : Nat} {g : G} (h : SlB g a n c b) (hd : SlB g da dl dc data) (d af : Int) :
    CallsP Try.prog 12 #[stV a n c d af, .string (bstr k), .slice da dl dc] g fun v g' => IsSR v g' (putR b d af k data) := by
  refine call12 a n c d af (bstr k) da dl dc g _ ?_
  have hlb := SlB.length h
  have hld := SlB.length hd
  unfold F12
  refine fun g1 m1 => (k24 a n c d af g1).mono ?_
  rintro v g2 m2 rfl
  refine ⟨_, rfl, ifPn (fun hs g3 m3 => ?_) (fun hs => ?_)⟩
  · unfold putR
    rw [if_pos (by rw [hlb]; exact tf_no hs)]
    exact IsSR.zero _ _
  refine (k43 (bstr k) g2).mono ?_
  rintro v g4 m4 rfl
  rw [bstr_size]
  have e1 : ¬ tf (okS b.length d af) = false := by rw [hlb, tf_of hs]; simp
  refine ⟨_, rfl, ifPn (fun hk g5 m5 => ?_) (fun hk => ifLt (fun hbig g6 m6 => ?_) (fun hsm => ?_))⟩
  · unfold putR
    rw [if_neg e1, if_pos (tf_no hk)]
    exact IsSR.zero _ _
  · unfold putR
    rw [if_neg e1, if_neg (by rw [tf_of hk]; simp), if_pos (by omega)]
    exact IsSR.zero _ _
  have e2 : putR b d af k data = writeR b (endR b) d af (recB 1 k data) := by
    unfold putR
    rw [if_neg e1, if_neg (by rw [tf_of hk]; simp), if_neg (by omega)]
  rw [e2]
  unfold okS at hs
  unfold okK at hk
  have hend := endR_le b
  refine (k44 b (((h.ex m1).ex m2).ex m4) d af (by omega)).mono ?_
  rintro v g7 m7 ⟨mb, mk, rfl, hmp⟩
  refine ⟨_, _, rfl, fun g8 m8 => ?_⟩
  have hd8 := ((((hd.ex m1).ex m2).ex m4).ex m7).ex m8
  have hb8 := ((((h.ex m1).ex m2).ex m4).ex m7).ex m8
  refine (k46 1 (by omega) k data hd8 (by omega) (by omega)).mono ?_
  rintro v g9 m9 ⟨ra, rc, rfl, hrec⟩
  refine ⟨_, _, _, rfl, ?_⟩
  refine (k45 b (recB 1 k data) (hb8.ex m9) hrec.sl d af (endR b) (by omega) (by omega) (by omega) (by omega) (by omega)).mono ?_
  rintro v g10 m10 ⟨xa, xl, xc, rfl, hx⟩
  exact ⟨_, _, _, _, _, _, rfl, fun g11 m11 => ⟨xa, xl, xc, rfl, hx.ex m11⟩⟩

theorem zero22 (w : World) : (zeroValue 22).run Try.prog w = .ok (.slice none 0 0) w := by kernel_rfl

theorem k13 (b k : List UInt8) {a : Option Addr} {n c : Nat} {g : G} (h : SlB g a n c b) (d af : Int) :
    CallsP Try.prog 13 #[stV a n c d af, .string (bstr k)] g fun v g' => IsSR v g' (delR b d af k) := by
  refine call13 a n c d af (bstr k) g _ ?_
  have hlb := SlB.length h
  unfold F13
  refine fun g1 m1 => (k24 a n c d af g1).mono ?_
  rintro v g2 m2 rfl
  refine ⟨_, rfl, ifPn (fun hs g3 m3 => ?_) (fun hs => ?_)⟩
  · unfold delR
    rw [if_pos (by rw [hlb]; exact tf_no hs)]
    exact IsSR.zero _ _
  refine (k43 (bstr k) g2).mono ?_
  rintro v g4 m4 rfl
  rw [bstr_size]
  have e1 : ¬ tf (okS b.length d af) = false := by rw [hlb, tf_of hs]; simp
  refine ⟨_, rfl, ifPn (fun hk g5 m5 => ?_) (fun hk => ?_)⟩
  · unfold delR
    rw [if_neg e1, if_pos (tf_no hk)]
    exact IsSR.zero _ _
  have e2 : delR b d af k = if mpF (recsL b) k = none then ⟨[], 0, 0, 8⟩ else writeR b (endR b) d af (recB 2 k []) := by
    unfold delR
    rw [if_neg e1, if_neg (by rw [tf_of hk]; simp)]
  rw [e2]
  unfold okS at hs
  unfold okK at hk
  have hend := endR_le b
  refine (k44 b (((h.ex m1).ex m2).ex m4) d af (by omega)).mono ?_
  rintro v g7 m7 ⟨mb, mk, rfl, fv, hmp, hfv⟩
  have hrun := hmp.lookOk Try.underlying9 Try.underlying79 (zero22 _) k (by unfold maxLen; omega)
  refine ⟨_, _, rfl, ?_⟩
  cases hf : mpF (recsL b) k with
  | none =>
    rw [(hfv k).1 hf] at hrun
    refine ⟨_, _, _, _, _, hrun, g7, rfl, Stp.refl _ _ _, ifF (fun _ g8 m8 => ?_) (fun hh => by cases hh)⟩
    rw [if_pos rfl]
    exact IsSR.zero _ _
  | some dd =>
    obtain ⟨xa, xl, xc, e3, _⟩ := (hfv k).2 dd hf
    rw [e3] at hrun
    refine ⟨_, _, _, _, _, hrun, g7, rfl, Stp.refl _ _ _, ifF (fun hh => by cases hh) (fun _ g9 m9 => ?_)⟩
    rw [if_neg (by simp)]
    have hb9 := ((((h.ex m1).ex m2).ex m4).ex m7).ex m9
    refine (k46 2 (by omega) k [] (Sl.zero g9 1) (by omega) (by omega)).mono ?_
    rintro v g10 m10 ⟨ra, rc, rfl, hrec⟩
    refine ⟨_, _, _, rfl, ?_⟩
    refine (k45 b (recB 2 k []) (hb9.ex m10) hrec.sl d af (endR b) (by omega) (by omega) (by omega) (by omega) (by omega)).mono ?_
    rintro v g11 m11 ⟨xa, xl, xc, rfl, hx⟩
    exact ⟨_, _, _, _, _, _, rfl, fun g12 m12 => ⟨xa, xl, xc, rfl, hx.ex m12⟩⟩

/-- The reference's Write. -/
theorem k17 (b r : List UInt8) {a : Option Addr} {n c : Nat} {ra : Option Addr} {rl rc : Nat} {g : G} (h : SlB g a n c b) (hr : SlB g ra rl rc r) (d af : Int) (hn : n ≤ 1048576) (hrl : rl ≤ 1148676) (ha : -1 ≤ af ∧ af ≤ 1048576) (hd : 0 ≤ d ∧ d ≤ n) :
    CallsP Try.prog 17 #[stV a n c d af, .slice ra rl rc] g fun v g' => IsSR v g' (writeR b (endR b) d af r) := by
  refine call17 a n c d af ra rl rc g _ ?_
  have hlb := SlB.length h
  have hlr := SlB.length hr
  have hle := h.le
  have hend := endR_le b
  unfold F17
  refine fun g1 m1 => (k29 b (h.ex m1) (by omega)).mono ?_
  rintro v g2 m2 rfl
  generalize hk : endR b = k at *
  refine ⟨_, rfl, i64 (by omega) (by omega), ifLt (fun hbig g3 m3 => ?_) (fun hsm J hJ g13 m13 => ⟨⟨by omega, by omega⟩, ?_⟩)⟩
  · unfold writeR; rw [if_pos (by omega)]; exact IsSR.zero _ _
  have main : ∀ (xa : Option Addr) (xc : Nat) (g4 : G), g.size ≤ g4.w.heap.size → OwnB g4 g.size 5 xa k xc (b.take k) → SlB g4 ra rl rc r → J xa k xc (minI d k) af g4 := by
    intro xa xc g4 hsz4 ho4 hr4
    refine hJ _ _ _ _ _ _ ?_
    refine ⟨fun m i x0a x0l x0c x1 x2 oa ol oc o1 o2 g8 => ∃ j : Nat, i = ((j : Nat) : Int) ∧ j + m = rl ∧ ol = k + j ∧ o1 = minI d k ∧ o2 = aft af j ∧ OwnB g8 g.size 5 oa (k + j) oc (b.take k ++ r.take j) ∧ (af < 0 ∨ (j : Int) ≤ af) ∧ g.size ≤ g8.w.heap.size,
      ⟨rl, 0, rfl, by omega, rfl, rfl, ?_, by simpa using ho4, by omega, hsz4⟩, ?_⟩
    · unfold aft; split <;> omega
    rintro m i x0a x0l x0c x1 x2 oa ol oc o1 o2 g5 le5 ⟨j, rfl, hjm, rfl, rfl, rfl, ho5, haj, hsz5⟩
    have hr5 := hr4.mono le5
    have haft : -1 ≤ aft af j ∧ aft af j ≤ 1048576 := by
      unfold aft
      split <;> omega
    have crash : aft af j = 0 → j ≤ rl → ∀ g6, Ex g5 g6 → IsSR (.tuple ⟨[.agg ⟨[.slice oa (k + j) oc, .int .i64 (minI d k), .int .i64 (aft af j)]⟩, .int .i64 30]⟩) g6 (writeR b k d af r) := by
      intro h0 hj g6 m6
      have hj : af = j := by unfold aft at h0; split at h0 <;> omega
      have ew : writeR b k d af r = ⟨b.take k ++ r.take j, minI d k, aft af j, 30⟩ := by
        unfold writeR
        rw [if_neg (by omega), if_neg (by omega), if_pos (by omega), h0, show af.toNat = j by omega]
      rw [ew]
      exact ⟨oa, k + j, oc, rfl, (ho5.ex m6).sl⟩
    refine ifLt (fun hlt => ifEq (fun h0 => crash h0 (by omega)) (fun h0 g7 m7 => ⟨⟨by omega, by omega⟩, SlB.rdN (hr5.ex m7) j rfl (by omega) (fun g8 n8 => ?_)⟩)) (fun hge => ifEq (fun h0 => crash h0 (by omega)) (fun h0 g12 m12 => ?_))
    · have hs8 : SlB g8 (some ⟨g7.w.heap.size, 0, none⟩) 1 1 [r.getD j 0] := n8.sl (m := 1) (n := 1) rfl (by unfold maxLen; omega)
      obtain ⟨xa', xc', w1, hrun, g9, hw, hst, ho9, _, _⟩ := OwnB.app E22 22 (Nat.le_trans hsz5 (Nat.le_trans m7.size n8.ex.size)) ((ho5.ex m7).ex n8.ex) hs8 (by omega) (by unfold maxLen; omega)
      obtain ⟨e1, e2⟩ := aft_succ af j ha.1 h0 haj
      refine ⟨xa', _, xc', w1, hrun, g9, hw, hst, i64 (by omega) (by omega), i64 (by omega) (by omega), fun g10 m10 => ⟨m - 1, by omega, j + 1, by omega, by omega, rfl, rfl, ?_, ?_, e2, Nat.le_trans (Nat.le_trans hsz5 (Nat.le_trans m7.size n8.ex.size)) (Nat.le_trans hst.le.size m10.size)⟩⟩
      · rw [← e1]
        unfold aft maxI at *
        split <;> split <;> split at h0 <;> omega
      · rw [take_snoc r j (by omega), ← List.append_assoc]
        exact ho9.ex m10
    · have hj : j = rl := by omega
      subst hj
      have et : r.take j = r := List.take_of_length_le (by omega)
      have ew : writeR b k d af r = ⟨b.take k ++ r, ((k + j : Nat) : Int), aft af j, 0⟩ := by
        unfold aft at h0
        unfold writeR aft
        rw [if_neg (by omega), hlr]
        by_cases h9 : af < 0
        · rw [if_pos h9, if_pos h9]
        · rw [if_neg h9] at h0
          rw [if_neg h9, if_neg h9, if_neg (by omega)]
      rw [et] at ho5
      rw [ew]
      exact ⟨oa, k + j, oc, rfl, (ho5.ex m12).sl⟩
  have h13 := ((h.ex m1).ex m2).ex m13
  have hr13 := ((hr.ex m1).ex m2).ex m13
  have hs13 : g.size ≤ g13.w.heap.size := Nat.le_trans (Nat.le_trans m1.size m2.size) m13.size
  have step : ∀ {gx gy gz : G}, Ex g13 gx → NewL gx gy 5 [] → Ex gy gz → ∃ xa xc w2, Sem.run Try.prog (Builtin.append_ #[22, 22] 22 #[(.slice (some ⟨gx.w.heap.size, 0, none⟩) 0 0), (.slice (slAddr a c 0 1) (k - 0) (c - 0))]) gz.w = .ok (.slice xa k xc) w2 ∧ ∃ g17, g17.w = w2 ∧ Stp g.w.heap.size nobody gz g17 ∧ SameB g13 g17 ∧ ∀ g18, Ex g17 g18 → J xa k xc (minI d k) af g18 := by
    intro gx gy gz hx ny hz
    have oy : OwnB gy gx.size 5 (some ⟨gx.w.heap.size, 0, none⟩) 0 0 [] := OwnG.lit (m := 1) ny (n := 0) (Nat.le_refl _) rfl (by unfold maxLen; omega)
    have hsx : g.size ≤ gx.size := Nat.le_trans hs13 hx.size
    have hsz : gx.size ≤ gz.w.heap.size := Nat.le_trans ny.ex.size hz.size
    obtain ⟨xa, xc, w2, hrun, g17, hw, hst, ho, hst2, _⟩ := OwnB.app E22 22 (B := gx.size) hsz (oy.ex hz) (SlB.take (((h13.ex hx).ex ny.ex).ex hz) (hi := k) (by omega)) (by omega) (by unfold maxLen; omega)
    rw [Nat.sub_zero, Nat.zero_add] at hrun ho
    refine ⟨xa, xc, w2, by rw [Nat.sub_zero]; exact hrun, g17, hw, hst.mono hsx (fun _ _ h => h.elim), ?_, fun g18 m18 => main xa xc g18 (Nat.le_trans hsx (Nat.le_trans hsz (Nat.le_trans hst.le.size m18.size))) ((ho.base hsx).ex m18) ((((hr13.ex hx).ex ny.ex).ex hz).mono (hst.le.trans m18.le))⟩
    intro x hx13 hxn
    have e := (hx.trans ny.ex).trans hz
    rw [hst.same x (Nat.lt_of_lt_of_le hx13 hx.size) (fun h => h), e.same x hx13 hxn]
  rw [Int.toNat_natCast]
  refine ⟨fun g14 n14 => ⟨?_, fun g19 m19 => ?_⟩, fun g22 m22 g23 n23 => ?_⟩
  · obtain ⟨xa, xc, w2, hrun, g15, hw, hst, hsb, hJ2⟩ := step (Ex.refl _) n14 (Ex.refl _)
    exact ⟨xa, k, xc, w2, hrun, g15, hw, hst, hsb, fun g16 m16 => hJ2 _ m16, fun g17 m17 g18 m18 => hJ2 _ (m17.trans m18)⟩
  · obtain ⟨xa, xc, w2, hrun, g15, hw, hst, hsb, hJ2⟩ := step (Ex.refl _) n14 m19
    exact ⟨xa, k, xc, w2, hrun, g15, hw, hst, hsb, hJ2⟩
  · obtain ⟨xa, xc, w2, hrun, g15, hw, hst, hsb, hJ2⟩ := step m22 n23 (Ex.refl _)
    exact ⟨xa, k, xc, w2, hrun, g15, hw, hst, hsb, hJ2⟩
end Go.Proofs.Ytlofbfbcnlgmaaa
/- The store: the reference's entries; records are read back. -/
set_option linter.unusedVariables false
namespace Go.Proofs.Ytlofbfbcnlgmaaa
open Go Go.Vc Go.RowKit

abbrev Ent := List UInt8 × List UInt8
/-- An entry: a key, and its data. -/
def entE : El Ent where
  m := 2
  rep g r x := ∃ a n c, r = [.string (bstr x.1), .slice a n c] ∧ SlB g a n c x.2
  len := by rintro g r x ⟨a, n, c, rfl, _⟩; rfl
  mono := by rintro g g' r x k ⟨a, n, c, rfl, h⟩; exact ⟨a, n, c, rfl, h.mono k⟩
  one := by
    rintro g r x ⟨a, n, c, rfl, _⟩ u hu
    simp only [List.mem_cons, List.not_mem_nil, or_false] at hu
    rcases hu with rfl | rfl <;> rfl
theorem E36 : Elem Try.prog 36 67 2 40 := ⟨Try.underlying36, by kernel_rfl⟩

/-- One key is below another. -/
def klt (a b : List UInt8) : Prop := Op.bytesLess a b = true
theorem strLt_klt (a b : List UInt8) : strLt (bstr a) (bstr b) = tf (klt a b) := by
  unfold strLt klt tf bstr
  simp
def insE (k d : List UInt8) : List Ent → List Ent
  | [] => [(k, d)]
  | x :: r => match Op.bytesLess x.1 k with
    | true => x :: insE k d r
    | false => (k, d) :: (x :: r).filter fun y => y.1 ≠ k
def delE (k : List UInt8) (l : List Ent) : List Ent := l.filter fun y => y.1 ≠ k
def stepE (l : List Ent) (r : Rec) : List Ent := if r.kind = 1 then insE r.key r.data l else delE r.key l
def enL (rs : List Rec) : List Ent := rs.foldl stepE []

theorem k20 (k : List UInt8) (es : List Ent) {a : Option Addr} {n c : Nat} {g : G} (h : SlE entE g a n c es) :
    CallsP Try.prog 20 #[.slice a n c, .string (bstr k)] g fun v _ => ∃ i : Int, v = .int .i64 i ∧ ((i = -1 ∧ ∀ e ∈ es, e.1 ≠ k) ∨ (∃ j e, i = ((j : Nat) : Int) ∧ es[j]? = some e ∧ e.1 = k)) := by
  refine call20 a n c (bstr k) g _ ?_
  have hl := h.len
  have hcap := h.cap
  have hle := h.le
  unfold maxLen at hcap
  unfold F20
  refine ⟨fun m i g' => ∃ j : Nat, i = j ∧ j + m = n ∧ ∀ e ∈ es.take j, e.1 ≠ k, ⟨n, 0, rfl, by omega, by simp⟩, ?_⟩
  rintro m i g1 le ⟨j, rfl, hjm, hj⟩
  refine ifLt (fun hlt => ⟨⟨by omega, by omega⟩, ?_⟩) (fun hge g3 m3 => ⟨-1, rfl, .inl ⟨rfl, ?_⟩⟩)
  · have hjl : j < es.length := by omega
    refine (h.mono le).rd (i := j) (List.getElem?_eq_getElem hjl) ?_
    rintro r ad ⟨ea, en, ec, rfl, _⟩ hr
    rw [Int.toNat_natCast]
    refine ⟨_, ?_, ifS (fun he g2 m2 => ⟨j, rfl, .inr ⟨j, _, rfl, List.getElem?_eq_getElem hjl, bstr_inj.1 he⟩⟩) (fun he => ⟨i64 (by omega) (by omega), m - 1, by omega, j + 1, by omega, by omega, ?_⟩)⟩
    · have := (hr 0 _ rfl).1
      rwa [Addr.add_zero'] at this
    · intro e hm
      rw [List.take_add_one, List.getElem?_eq_getElem hjl] at hm
      simp only [Option.toList_some, List.mem_append, List.mem_singleton] at hm
      rcases hm with hm | rfl
      · exact hj e hm
      · exact fun e => he (bstr_inj.2 e)
  · have : es.take j = es := List.take_of_length_le (by omega)
    rwa [this] at hj

theorem filter_cons (k : List UInt8) (x : Ent) (r : List Ent) : delE k (x :: r) = if x.1 = k then delE k r else x :: delE k r := by
  unfold delE
  rw [List.filter_cons]
  by_cases h : x.1 = k <;> simp [h]
theorem klt_irrefl : ∀ (a : List UInt8), Op.bytesLess a a = false
  | [] => rfl
  | x :: r => by simp [Op.bytesLess, klt_irrefl r]

/-- What is still to come of a step. -/
def todoE (r : Rec) (done : Bool) (l : List Ent) : List Ent := if r.kind = 1 ∧ done = false then insE r.key r.data l else delE r.key l

theorem k21 (l : List UInt8) {a : Option Addr} {n c : Nat} {g : G} (h : SlB g a n c l) (s1 s2 : Int) (hn : n ≤ 1048576) :
    CallsP Try.prog 21 #[stV a n c s1 s2] g fun v g' => ∃ oa on oc, v = .slice oa on oc ∧ OwnE entE g' g.size 67 oa on oc (enL (recsL l)) ∧ on ≤ 1048576 := by
  refine call21 a n c s1 s2 g _ ?_
  have hll := SlB.length h
  unfold F21
  refine ⟨fun m oa on oc p g2 => ∃ q done, p = ((q : Nat) : Int) ∧ q + m = n ∧ recsL l = done ++ recsL (l.drop q) ∧ OwnE entE g2 g.size 67 oa on oc (enL done) ∧ on ≤ q ∧ g.size ≤ g2.w.heap.size,
    fun g1 m1 => ⟨n, 0, [], rfl, by omega, by simp, OwnE.nil _ _ _, by omega, m1.size⟩, ?_⟩
  rintro m oa on oc p g2 le2 ⟨q, done, rfl, hqm, hrec, ho, hoq, hsz2⟩
  refine ifLt (fun hlt => ⟨⟨by omega, by omega⟩, ?_⟩) (fun hge g18 m18 => ⟨oa, on, oc, rfl, ?_, by omega⟩)
  · rw [Int.toNat_natCast]
    refine (k48 _ (SlB.drop (h.mono le2) (lo := q) (by omega)) (by omega)).mono ?_
    rintro v g3 m3 ⟨da, dl, dc, rfl, hd⟩
    have hsz3 : g.size ≤ g3.w.heap.size := Nat.le_trans hsz2 m3.size
    have ho3 := ho.exm m3
    refine ⟨_, _, _, _, _, _, rfl, ?_⟩
    unfold recOf at hd ⊢
    cases hf : firstR (l.drop q) with
    | none =>
      refine ifEq (fun _ g4 m4 => ⟨oa, on, oc, rfl, ?_, by omega⟩) (fun hh => absurd rfl hh)
      rw [hrec, recsL_none hf, List.append_nil]
      exact ho3.exm m4
    | some r =>
      have hlen := first_len hf
      rw [List.length_drop] at hlen
      rw [hf] at hd
      simp only [Option.getD_some] at hd ⊢
      have hrec2 : recsL l = (done ++ [r]) ++ recsL (l.drop (q + r.len)) := by
        rw [hrec, recsL_some hf, List.drop_drop, List.append_assoc]
        rfl
      have hen : enL (done ++ [r]) = stepE (enL done) r := by unfold enL; rw [List.foldl_append]; rfl
      have hel := ho3.len
      refine ifEq (fun hh => by omega) (fun _ => ⟨i64 (by omega) (by omega), ?_⟩)
      -- the entries are copied, with the new one among them
      refine ⟨fun m2 na nn nc dn i g6 => ∃ (j : Nat) (nx : List Ent), i = j ∧ j + m2 = on ∧ OwnE entE g6 g3.size 67 na nn nc nx ∧ nx ++ todoE r dn ((enL done).drop j) = stepE (enL done) r ∧ nn ≤ j + (if dn then 1 else 0) ∧ g3.size ≤ g6.w.heap.size,
        fun g5 m5 => ⟨on, 0, [], rfl, by omega, OwnE.nil _ _ _, by simp [todoE, stepE], by simp, m5.size⟩, ?_⟩
      rintro m2 na nn nc dn i g6 le6 ⟨j, nx, rfl, hjm, hnx, htodo, hnj, hsz6⟩
      have hd6 := hd.mono le6
      have hnn : nn ≤ j + 1 := by cases dn <;> simp at hnj <;> omega
      -- an entry is appended
      have app : ∀ {gx gy : G} {xa : Option Addr} {xn xc : Nat} {xs : List Ent} {L : List Value} {e : Ent}, Le g6 gx → g3.size ≤ gx.w.heap.size → OwnE entE gx g3.size 67 xa xn xc xs → NewL gx gy 67 L → entE.rep gx L e → xn ≤ 1148576 →
          ∃ a' c' w', Sem.run Try.prog (Builtin.append_ #[36, 36] 36 #[(.slice xa xn xc), (.slice (some ⟨gx.w.heap.size, 0, none⟩) 1 1)]) gy.w = .ok (.slice a' (xn + 1) c') w' ∧ ∃ g', g'.w = w' ∧ Stp g.w.heap.size nobody gy g' ∧ OwnE entE g' g3.size 67 a' (xn + 1) c' (xs ++ [e]) ∧ Le gx g' ∧ g3.size ≤ g'.w.heap.size := by
        intro gx gy xa xn xc xs L e hle hsx hox hny hrep hxn
        obtain ⟨a', c', w', hr, g', hw, hs, ho', _, _⟩ := OwnE.app1 E36 36 (B := g3.size) hsx hox hny hrep (by omega) (by unfold maxLen; omega)
        exact ⟨a', c', w', hr, g', hw, hs.mono hsz3 (fun _ _ h => h.elim), ho', hny.ex.le.trans hs.le, Nat.le_trans hsx (Nat.le_trans hny.ex.size hs.le.size)⟩
      refine ifLt (fun hlt2 => ?_) (fun hge2 => ?_)
      · have hjl : j < (enL done).length := by omega
        intro J hJ J1 hJ1 g14 m14
        have ho14 := ((ho3.sl).mono le6).exm m14
        -- what follows the insertion
        have tail : ∀ (g7 : G) (ya : Option Addr) (yn yc : Nat) (ys : List Ent) (dn1 : Bool), Le g14 g7 → g3.size ≤ g7.w.heap.size → OwnE entE g7 g3.size 67 ya yn yc ys → yn ≤ j + (if dn1 then 1 else 0) →
            ys ++ (if (enL done)[j].1 = r.key then [] else [(enL done)[j]]) ++ todoE r dn1 ((enL done).drop (j + 1)) = stepE (enL done) r → J ya yn yc dn1 g7 := by
          intro g7 ya yn yc ys dn1 hle7 hsz7 hoy hyn htd
          have hyn1 : yn ≤ j + 1 := by cases dn1 <;> simp at hyn <;> omega
          refine hJ _ _ _ _ _ (fun g8 m8 => ⟨⟨by omega, by omega⟩, ?_⟩)
          have ho8 := (ho14.mono hle7).exm m8
          refine ho8.rd (i := j) (List.getElem?_eq_getElem hjl) ?_
          rintro rr ad ⟨ea, en, ec, rfl, hed⟩ hr
          rw [Int.toNat_natCast]
          refine ⟨bstr (enL done)[j].1, ?_, ifSn (fun hne => ⟨⟨by omega, by omega⟩, ?_⟩) (fun heq => ⟨i64 (by omega) (by omega), m2 - 1, by omega, j + 1, ys, by omega, by omega, hoy.exm m8, ?_, by omega, Nat.le_trans hsz7 m8.size⟩)⟩
          · have := (hr 0 _ rfl).1
            rwa [Addr.add_zero'] at this
          · refine ho8.rd (i := j) (List.getElem?_eq_getElem hjl) ?_
            rintro rr2 ad2 ⟨ea2, en2, ec2, rfl, hed2⟩ hr2
            refine ⟨bstr (enL done)[j].1, ea2, en2, ec2, ?_, ?_, fun g9 n9 => ?_⟩
            · have := (hr2 0 _ rfl).1
              rwa [Addr.add_zero'] at this
            · exact (hr2 1 _ rfl).1
            · obtain ⟨a', c', w', hrun, g10, hw, hs10, ho10, hle10, hsz10⟩ := app (e := (enL done)[j]) ((m14.le.trans hle7).trans m8.le) (Nat.le_trans hsz7 m8.size) (hoy.exm m8) n9 ⟨ea2, en2, ec2, rfl, hed2⟩ (by omega)
              refine ⟨a', _, c', w', hrun, g10, hw, hs10, i64 (by omega) (by omega), m2 - 1, by omega, j + 1, _, by omega, by omega, ho10, ?_, by omega, hsz10⟩
              have hne' : (enL done)[j].1 ≠ r.key := fun e => hne (by rw [e])
              rw [if_neg hne'] at htd
              exact htd
          · have heq' : (enL done)[j].1 = r.key := bstr_inj.1 heq
            rw [if_pos heq', List.append_nil] at htd
            exact htd
        have hdrop : (enL done).drop j = (enL done)[j] :: (enL done).drop (j + 1) := List.drop_eq_getElem_cons hjl
        have hsz14 : g3.size ≤ g14.w.heap.size := Nat.le_trans hsz6 m14.size
        have hnx14 := hnx.exm m14
        -- nothing is inserted here
        have skip : (r.kind = 1 ∧ dn = false → Op.bytesLess (enL done)[j].1 r.key = true) → J1 false g14 := by
          intro hsk
          refine hJ1 _ _ (ifT (fun hh => by cases hh) (fun _ => tail g14 na nn nc nx dn (Le.refl _) hsz14 hnx14 hnj ?_))
          rw [← htodo, hdrop, List.append_assoc]
          congr 1
          unfold todoE
          by_cases hc : r.kind = 1 ∧ dn = false
          · rw [if_pos hc, if_pos hc]
            have hb := hsk hc
            have hne : (enL done)[j].1 ≠ r.key := fun e => by rw [e, klt_irrefl] at hb; cases hb
            rw [if_neg hne]
            simp only [insE, hb]
            rfl
          · rw [if_neg hc, if_neg hc, filter_cons]
            by_cases he : (enL done)[j].1 = r.key
            · rw [if_pos he, if_pos he]; rfl
            · rw [if_neg he, if_neg he]; rfl
        refine ifF (fun hdn => ifEq (fun hk => ⟨⟨by omega, by omega⟩, ?_⟩) (fun hk => skip (fun hh => absurd hh.1 (by omega)))) (fun hdn => skip (fun hh => by rw [hdn] at hh; cases hh.2))
        refine ho14.rd (i := j) (List.getElem?_eq_getElem hjl) ?_
        rintro rr ad ⟨ea, en, ec, rfl, hed⟩ hr
        rw [Int.toNat_natCast]
        refine ⟨bstr (enL done)[j].1, ?_, ?_⟩
        · have := (hr 0 _ rfl).1
          rwa [Addr.add_zero'] at this
        · rw [strLt_klt, tf_not]
          by_cases hb : klt (enL done)[j].1 r.key
          · rw [tf_no (fun h => h hb)]
            exact skip (fun _ => hb)
          · rw [tf_of hb]
            subst hdn
            refine hJ1 _ _ (ifT (fun _ g12 n12 => ?_) (fun hh => by cases hh))
            obtain ⟨a', c', w', hrun, g13, hw, hs13, ho13, hle13, hsz13⟩ := app (e := (r.key, r.data)) m14.le hsz14 hnx14 n12 ⟨da, dl, dc, rfl, hd6.ex m14⟩ (by omega)
            simp at hnj
            refine ⟨a', _, c', w', hrun, g13, hw, hs13, tail g13 a' _ c' _ true hle13 hsz13 ho13 (by simp; omega) ?_⟩
            rw [← htodo, hdrop, List.append_assoc, List.append_assoc]
            refine congrArg (nx ++ ·) ?_
            have t1 : ∀ X, todoE r true X = delE r.key X := fun X => by unfold todoE; rw [if_neg (fun h => by cases h.2)]
            have t2 : ∀ X, todoE r false X = insE r.key r.data X := fun X => by unfold todoE; rw [if_pos ⟨by omega, rfl⟩]
            rw [t1, t2]
            have hb' : Op.bytesLess (enL done)[j].1 r.key = false := by
              cases h : Op.bytesLess (enL done)[j].1 r.key
              · rfl
              · exact absurd h hb
            simp only [insE, hb']
            have : ((enL done)[j] :: (enL done).drop (j + 1)).filter (fun y => decide (y.1 ≠ r.key)) = delE r.key ((enL done)[j] :: (enL done).drop (j + 1)) := rfl
            rw [this, filter_cons]
            by_cases he : (enL done)[j].1 = r.key
            · rw [if_pos he, if_pos he]; rfl
            · rw [if_neg he, if_neg he]; rfl
      · have hj : j = on := by omega
        subst hj
        have hd0 : (enL done).drop j = [] := List.drop_eq_nil_of_le (by omega)
        rw [hd0] at htodo
        intro J2 hJ2
        have nope : (r.kind = 1 ∧ dn = false → False) → J2 false g6 := by
          intro hno
          refine hJ2 _ _ (ifT (fun hh => by cases hh) (fun _ => ⟨m - r.len, by omega, q + r.len, done ++ [r], by omega, by omega, hrec2, ?_, ?_, Nat.le_trans hsz3 hsz6⟩))
          · have : todoE r dn [] = [] := by unfold todoE; rw [if_neg (fun h => hno h)]; rfl
            rw [this, List.append_nil] at htodo
            rw [hen, ← htodo]
            exact hnx.base hsz3
          · omega
        refine ifF (fun hdn => ?_) (fun hdn => nope (fun h => by rw [hdn] at h; cases h.2))
        by_cases hk : r.kind = 1
        · have e : eqI ((r.kind : Nat) : Int) 1 = true := eqI_true.mpr (by omega)
          rw [e]
          refine hJ2 _ _ (ifT (fun _ g16 n16 => ?_) (fun hh => by cases hh))
          obtain ⟨a', c', w', hrun, g17, hw, hs17, ho17, hle17, hsz17⟩ := app (e := (r.key, r.data)) (Le.refl _) hsz6 hnx n16 ⟨da, dl, dc, rfl, hd6⟩ (by omega)
          refine ⟨a', _, c', w', hrun, g17, hw, hs17, m - r.len, by omega, q + r.len, done ++ [r], by omega, by omega, hrec2, ?_, ?_, Nat.le_trans hsz3 hsz17⟩
          · have : todoE r dn [] = [(r.key, r.data)] := by unfold todoE; rw [if_pos ⟨hk, hdn⟩]; rfl
            rw [this] at htodo
            rw [hen, ← htodo]
            exact ho17.base hsz3
          · omega
        · have e : eqI ((r.kind : Nat) : Int) 1 = false := eqI_false.mpr (by omega)
          rw [e]
          exact nope (fun h => hk h.1)
  · have hq : l.drop q = [] := List.drop_eq_nil_of_le (by omega)
    have : recsL ([] : List UInt8) = [] := rfl
    rw [hrec, hq, this, List.append_nil]
    exact ho.exm m18
end Go.Proofs.Ytlofbfbcnlgmaaa
/- The store: records are read back; crashes; the examples. -/
set_option linter.unusedVariables false
namespace Go.Proofs.Ytlofbfbcnlgmaaa
open Go Go.Vc Go.RowKit

theorem mem_insE (k d : List UInt8) : ∀ (l : List Ent) (y : Ent), y ∈ insE k d l ↔ y = (k, d) ∨ (y ∈ l ∧ y.1 ≠ k)
  | [], y => by simp [insE]
  | x :: r, y => by
    unfold insE
    cases hb : Op.bytesLess x.1 k with
    | true =>
      have hne : x.1 ≠ k := fun e => by rw [e, klt_irrefl] at hb; cases hb
      simp only [List.mem_cons, mem_insE k d r]
      constructor
      · rintro (rfl | h | h)
        · exact .inr ⟨.inl rfl, hne⟩
        · exact .inl h
        · exact .inr ⟨.inr h.1, h.2⟩
      · rintro (h | ⟨rfl | h, h2⟩)
        · exact .inr (.inl h)
        · exact .inl rfl
        · exact .inr (.inr ⟨h, h2⟩)
    | false => simp only [List.mem_cons, List.mem_filter, decide_eq_true_eq]
theorem mem_delE (k : List UInt8) (l : List Ent) (y : Ent) : y ∈ delE k l ↔ y ∈ l ∧ y.1 ≠ k := by simp [delE]
theorem en_mp (rs : List Rec) : ∀ k d, (k, d) ∈ enL rs ↔ mpF rs k = some d := by
  have key : ∀ (rs : List Rec) (l : List Ent) (f : List UInt8 → Option (List UInt8)), (∀ k d, (k, d) ∈ l ↔ f k = some d) → ∀ k d, (k, d) ∈ rs.foldl stepE l ↔ rs.foldl stepF f k = some d := by
    intro rs
    induction rs with
    | nil => intro l f h; exact h
    | cons r rs ih =>
      intro l f h
      refine ih _ _ (fun k d => ?_)
      unfold stepE stepF
      by_cases hk : r.kind = 1
      · simp only [hk, if_true, mem_insE, Prod.mk.injEq]
        by_cases e : k = r.key
        · simp only [e, true_and, ne_eq, not_true_eq_false, and_false, or_false, if_true, Option.some.injEq]
          exact eq_comm
        · simp only [e, false_and, false_or, ne_eq, not_false_eq_true, and_true, if_false]
          exact h k d
      · simp only [hk, if_false, mem_delE]
        by_cases e : k = r.key
        · simp [e]
        · simp only [e, ne_eq, not_false_eq_true, and_true, if_false]
          exact h k d
  exact key rs [] _ (fun k d => by simp)

theorem numB_four (n : Nat) (h : n < 2 ^ 32) : numB (fourB n) = n := by
  simp only [numB, fourB, List.foldl_cons, List.foldl_nil, UInt8.toNat_ofNat']
  omega
/-- A record at the beginning is read. -/
theorem first_rec (kind : Nat) (key data rest : List UInt8) (hk : kind = 1 ∨ kind = 2 ∧ data = []) (h1 : 1 ≤ key.length ∧ key.length ≤ 100) (h2 : data.length ≤ 1048576) :
    firstR (recB kind key data ++ rest) = some ⟨kind, key, data, 11 + key.length + data.length⟩ := by
  have hcl := contB_len kind key data
  have hc3 : (contB kind key data).getD 0 0 = UInt8.ofNat kind ∧ (contB kind key data).getD 1 0 = UInt8.ofNat (key.length / 256) ∧ (contB kind key data).getD 2 0 = UInt8.ofNat key.length := by simp [contB]
  have hkl : keyLen (contB kind key data) = key.length := by
    unfold keyLen
    rw [hc3.2.1, hc3.2.2, UInt8.toNat_ofNat', UInt8.toNat_ofNat']
    omega
  have hk0 : ((contB kind key data).getD 0 0).toNat = kind := by rw [hc3.1, UInt8.toNat_ofNat']; omega
  have e1 : recB kind key data ++ rest = fourB (contB kind key data).length ++ (contB kind key data ++ (fourB (sumN (fourB (contB kind key data).length ++ contB kind key data)) ++ rest)) := by
    simp [recB, sumd]
  have t4 : (recB kind key data ++ rest).take 4 = fourB (contB kind key data).length := by rw [e1]; exact List.take_left' rfl
  have d4 : (recB kind key data ++ rest).drop 4 = contB kind key data ++ (fourB (sumN (fourB (contB kind key data).length ++ contB kind key data)) ++ rest) := by rw [e1]; exact List.drop_left' rfl
  have hr : Right (recB kind key data ++ rest) (contB kind key data).length (contB kind key data) := by
    refine ⟨?_, by omega, ?_, ?_, ?_, ?_⟩
    · rw [List.length_append, recB_len]; omega
    · rw [t4, numB_four _ (by omega)]
    · rw [d4, List.take_left]
    · have e2 : recB kind key data ++ rest = (fourB (contB kind key data).length ++ contB kind key data) ++ (fourB (sumN (fourB (contB kind key data).length ++ contB kind key data)) ++ rest) := by simp [recB, sumd]
      have hl : (fourB (contB kind key data).length ++ contB kind key data).length = (contB kind key data).length + 4 := by rw [List.length_append, fourB_len]; omega
      rw [e2, List.take_left' hl, List.drop_left' hl, List.take_left' (fourB_len _), numB_four _ (sumN_lt _)]
    · unfold badR
      rw [hk0]
      have : ((contB kind key data).getD 1 0).toNat * 256 + ((contB kind key data).getD 2 0).toNat = key.length := hkl
      rw [this]
      rcases hk with rfl | ⟨rfl, rfl⟩
      · omega
      · simp at hcl; omega
  rw [first_of hr, hk0, hkl]
  have e3 : contB kind key data = [UInt8.ofNat kind, UInt8.ofNat (key.length / 256), UInt8.ofNat key.length] ++ (key ++ data) := by simp [contB]
  have e5 : (contB kind key data).drop 3 = key ++ data := by rw [e3]; exact List.drop_left' rfl
  have e6 : (contB kind key data).drop (3 + key.length) = data := by rw [← List.drop_drop, e5]; exact List.drop_left
  rw [e5, e6, List.take_left, hcl]
  congr 2
  omega

/-- Crash. -/
noncomputable def crashR (b : List UInt8) (d a keep : Int) : SR :=
  if tf (okS b.length d a) = false then ⟨[], 0, 0, 1⟩ else if keep < 0 then ⟨[], 0, 0, 2⟩ else ⟨b.take (d + minI keep (b.length - d)).toNat, d + minI keep (b.length - d), -1, 0⟩

theorem k23 (b : List UInt8) {a : Option Addr} {n c : Nat} {g : G} (h : SlB g a n c b) (d af keep : Int) (hi : InI64 keep) :
    CallsP Try.prog 23 #[stV a n c d af, .int .i64 keep] g fun v g' => IsSR v g' (crashR b d af keep) := by
  refine call23 a n c d af keep g _ ?_
  have hlb := SlB.length h
  have hle := h.le
  unfold F23
  refine fun g1 m1 => (k24 a n c d af g1).mono ?_
  rintro v g2 m2 rfl
  refine ⟨_, rfl, ifPn (fun hs g3 m3 => ?_) (fun hs => ?_)⟩
  · unfold crashR
    rw [if_pos (by rw [hlb]; exact tf_no hs)]
    exact IsSR.zero _ _
  have e1 : ¬ tf (okS b.length d af) = false := by rw [hlb, tf_of hs]; simp
  unfold okS at hs
  refine ifLt (fun hk g4 m4 => ?_) (fun hk => ?_)
  · unfold crashR
    rw [if_neg e1, if_pos hk]
    exact IsSR.zero _ _
  have hm : 0 ≤ minI keep ((n : Int) - d) ∧ minI keep ((n : Int) - d) ≤ (n : Int) - d := by unfold minI; split <;> omega
  refine ⟨i64 (by omega) (by omega), i64 (by omega) (by omega), ⟨by omega, by omega⟩, (k32 _ (SlB.take ((h.ex m1).ex m2) (hi := (d + minI keep ((n : Int) - d)).toNat) (by omega)) (by omega)).mono ?_⟩
  rintro v g5 m5 ⟨xa, xc, rfl, ho⟩
  refine ⟨_, _, _, rfl, fun g6 m6 => ⟨xa, (d + minI keep ((n : Int) - d)).toNat - 0, xc, ?_, ?_⟩⟩
  · unfold crashR
    rw [if_neg e1, if_neg (by omega), hlb]
    rfl
  · unfold crashR
    rw [if_neg e1, if_neg (by omega), hlb]
    exact (ho.ex m6).sl

theorem k25 (b : List UInt8) {a : Option Addr} {n c : Nat} {g : G} (h : SlB g a n c b) (d af keep : Int) (hs : okS n d af) (hk : 0 ≤ keep) (hi : InI64 keep) :
    CallsP Try.prog 25 #[stV a n c d af, .int .i64 keep] g fun v g' => ∃ xa xl xc, v = stV xa xl xc (crashR b d af keep).d (crashR b d af keep).a ∧ SlB g' xa xl xc (crashR b d af keep).b := by
  refine call25 a n c d af keep g _ ?_
  have hlb := SlB.length h
  have hle := h.le
  have e1 : ¬ tf (okS b.length d af) = false := by rw [hlb, tf_of hs]; simp
  unfold okS at hs
  unfold F25
  intro J hJ
  have ec : crashR b d af keep = ⟨b.take (d + minI keep ((n : Int) - d)).toNat, d + minI keep ((n : Int) - d), -1, 0⟩ := by
    unfold crashR
    rw [if_neg e1, if_neg (by omega), hlb]
  have main : ∀ (q : Nat) (g1 : G), (q : Int) = d + minI keep ((n : Int) - d) → q ≤ n → Ex g g1 → J (q : Int) g1 := by
    intro q g1 hq hqn m1
    refine hJ _ _ (fun g2 n2 => ⟨⟨by omega, by omega⟩, ?_⟩)
    rw [Int.toNat_natCast]
    have o2 : OwnB g2 g.size 5 (some ⟨g1.w.heap.size, 0, none⟩) 0 0 [] := OwnG.lit (m := 1) n2 (n := 0) m1.size rfl (by unfold maxLen; omega)
    obtain ⟨xa, xc, w1, hrun, g3, hw, hst, ho, _, _⟩ := OwnB.app E22 22 (Nat.le_trans m1.size n2.ex.size) o2 (SlB.take ((h.ex m1).ex n2.ex) (hi := q) hqn) (by omega) (by unfold maxLen; omega)
    refine ⟨xa, _, xc, w1, hrun, g3, hw, hst, fun g4 m4 => ⟨xa, 0 + (q - 0), xc, ?_, ?_⟩⟩
    · rw [ec, ← hq]
      rfl
    · rw [ec, ← hq, Int.toNat_natCast]
      exact (ho.ex m4).sl
  refine ⟨i64 (by omega) (by omega), ifLt (fun hlt => ⟨i64 (by omega) (by omega), fun g5 m5 => ?_⟩) (fun hge g6 m6 => main n g6 ?_ (Nat.le_refl _) m6)⟩
  · have := main (d + keep).toNat g5 (by unfold minI; split <;> omega) (by omega) m5
    rwa [Int.toNat_of_nonneg (by omega)] at this
  · unfold minI; split <;> omega

theorem sum_nine : sumN [49, 50, 51, 52, 53, 54, 55, 56, 57] = 3421780262 := by decide +kernel

/-- The examples of the chapter. -/
theorem k10 (g : G) : CallsP Try.prog 10 #[] g fun v _ => v = .bool true := by
  refine call10 g _ ?_
  unfold F10
  refine (k22 (-1) g).mono ?_
  rintro v g1 m1 rfl
  refine ⟨none, 0, 0, 0, -1, 0, by rw [if_pos (by decide)]; rfl, fun g2 m2 g3 n3 => ?_⟩
  obtain ⟨w4, r4, g4, hw4, st4, s4', e4⟩ := conv_bytes n3 22 2 2 (B := g.w.heap.size) (Nat.le_trans m1.size m2.size) Try.underlying22 Try.underlying5 rfl (by unfold maxLen; omega)
  have s3 : SlB g4 (some ⟨g2.w.heap.size, 0, none⟩) 2 2 [120, 121] := s4' (Nat.le_refl _) (by unfold maxLen; omega)
  refine ⟨_, _, _, _, r4, g4, hw4, st4, ?_⟩
  refine (k12 [] [97] [120, 121] (Sl.zero g4 1) s3 0 (-1)).mono ?_
  rintro v g5 m5 ⟨xa, xl, xc, rfl, hx⟩
  have ep : putR [] 0 (-1) [97] [120, 121] = ⟨recB 1 [97] [120, 121], 14, -1, 0⟩ := by
    unfold putR
    rw [if_neg (by rw [tf_of (by unfold okS; simp)]; simp), if_neg (by rw [tf_of (by unfold okK; simp)]; simp), if_neg (by simp)]
    have he : endR [] = 0 := rfl
    unfold writeR
    rw [he, recB_len, if_neg (by simp), if_pos (by decide)]
    rfl
  rw [ep] at hx ⊢
  have hxl := SlB.length hx
  rw [recB_len] at hxl
  refine ⟨_, _, _, _, _, _, rfl, fun g6 m6 => ?_⟩
  refine (k13 _ [97] (hx.ex m6) 14 (-1)).mono ?_
  rintro v g7 m7 ⟨ya, yl, yc, rfl, hy⟩
  have hf := first_rec 1 [97] [120, 121] [] (.inl rfl) (by simp) (by simp)
  rw [List.append_nil] at hf
  have hrl : (recB 1 [97] [120, 121]).length = 14 := by rw [recB_len]; rfl
  have hd0 : (recB 1 [97] [120, 121]).drop 14 = [] := List.drop_eq_nil_of_le (by omega)
  have hrecs : recsL (recB 1 [97] [120, 121]) = [⟨1, [97], [120, 121], 14⟩] := by
    rw [recsL_some hf]
    show _ :: recsL ((recB 1 [97] [120, 121]).drop 14) = _
    rw [hd0]
    rfl
  have hend : endR (recB 1 [97] [120, 121]) = 14 := by unfold endR; rw [hrecs]; rfl
  have ed : delR (recB 1 [97] [120, 121]) 14 (-1) [97] = ⟨recB 1 [97] [120, 121] ++ recB 2 [97] [], 26, -1, 0⟩ := by
    unfold delR
    rw [if_neg (by rw [hrl, tf_of (by unfold okS; simp)]; simp), if_neg (by rw [tf_of (by unfold okK; simp)]; simp), hrecs, if_neg (by simp [mpF, stepF]), hend]
    unfold writeR
    rw [recB_len, if_neg (by simp), if_pos (by decide), List.take_of_length_le (by omega)]
    rfl
  rw [ed] at hy ⊢
  have hyl := SlB.length hy
  rw [List.length_append, recB_len, recB_len] at hyl
  simp only [List.length_cons, List.length_nil] at hxl hyl
  refine ⟨_, _, _, _, _, _, rfl, ifEq (fun _ => ifEq (fun _ => ifEq (fun _ => ifEq (fun _ => ifEq (fun _ g8 m8 g9 n9 => ?_) (fun h => by omega)) (fun h => by omega)) (fun h => absurd rfl h)) (fun h => absurd rfl h)) (fun h => absurd rfl h)⟩
  obtain ⟨w10, r10, g10, hw10, st10, s10', e10⟩ := conv_bytes n9 22 9 9 (B := g.w.heap.size) (Nat.le_trans (Nat.le_trans (Nat.le_trans (Nat.le_trans m1.size m2.size) e4.size) (Nat.le_trans m5.size m6.size)) (Nat.le_trans m7.size m8.size)) Try.underlying22 Try.underlying5 rfl (by unfold maxLen; omega)
  have s9 : SlB g10 (some ⟨g8.w.heap.size, 0, none⟩) 9 9 [49, 50, 51, 52, 53, 54, 55, 56, 57] := s10' (Nat.le_refl _) (by unfold maxLen; omega)
  refine ⟨_, _, _, _, r10, g10, hw10, st10, (k42 _ s9).mono ?_⟩
  rintro v g11 m11 rfl
  refine ⟨_, rfl, fun g12 m12 => ?_⟩
  show Value.bool (eqI ((sumN _ : Nat) : Int) 3421780262) = _
  rw [sum_nine]
  exact congrArg Value.bool (eqI_true.mpr rfl)
end Go.Proofs.Ytlofbfbcnlgmaaa
