/- The store: records. -/
import Derived.Test.YtlofbfbcnlgmaaaC53b
set_option linter.unusedVariables false
namespace Go.Proofs.Ytlofbfbcnlgmaaa
open Go Go.Vc Go.RowKit

def contB (kind : Nat) (key data : List UInt8) : List UInt8 := [UInt8.ofNat kind, UInt8.ofNat (key.length / 256), UInt8.ofNat key.length] ++ key ++ data
def sumd (o : List UInt8) : List UInt8 := o ++ fourB (sumN o)
def recB (kind : Nat) (key data : List UInt8) : List UInt8 := sumd (fourB (contB kind key data).length ++ contB kind key data)
theorem contB_len (kind : Nat) (key data : List UInt8) : (contB kind key data).length = 3 + key.length + data.length := by simp [contB]; omega
theorem fourB_len (n : Nat) : (fourB n).length = 4 := rfl
theorem recB_len (kind : Nat) (key data : List UInt8) : (recB kind key data).length = 11 + key.length + data.length := by
  simp only [recB, sumd, List.length_append, fourB_len, contB_len]
  omega
theorem nums3 (kind : Nat) (hk : kind < 256) (n : Nat) : vs .u8 (nums [UInt8.ofNat kind, UInt8.ofNat (n / 256), UInt8.ofNat n]) = [.int .u8 (kind : Int), .int .u8 ((n / 256 % 256 : Nat) : Int), .int .u8 ((n % 256 : Nat) : Int)] := by
  simp only [vs, nums, List.map_cons, List.map_nil, UInt8.toNat_ofNat']
  have : kind % 2 ^ 8 = kind := by omega
  rw [this]
theorem shr_i64_8 (n : Nat) : shrI .i64 (n : Int) 8 = ((n / 256 : Nat) : Int) := by
  unfold shrI
  rw [show min (Int.toNat (8 : Int)) IntKind.i64.bits = 8 by simp [IntKind.bits], Int.fdiv_eq_ediv_of_nonneg _ (by omega)]
  omega

theorem k46 (kind : Nat) (hk : kind < 256) (key data : List UInt8) {a : Option Addr} {l c : Nat} {g : G} (hd : SlB g a l c data) (h1 : key.length ≤ 100) (h2 : l ≤ 1048776) :
    CallsP Try.prog 46 #[(.int .u8 (kind : Int)), (.string (bstr key)), (.slice a l c)] g fun v g' => ∃ a' c', v = .slice a' (11 + key.length + l) c' ∧ OwnB g' g.size 5 a' (11 + key.length + l) c' (recB kind key data) := by
  refine call46 kind (bstr key) a l c g _ ?_
  have hld := SlB.length hd
  unfold F46
  refine ⟨by omega, fun g1 n1 => ?_⟩
  rw [bstr_size, shr_i64_8, wrap_u8_nat, wrap_u8_nat, ← nums3 kind hk] at n1
  have s1 : SlB g1 (some ⟨g.w.heap.size, 0, none⟩) 3 3 _ := n1.sl (m := 1) (n := 3) rfl (by unfold maxLen; omega)
  obtain ⟨ka, kc, w1, hr1, g2, hw1, hs1, sk, m2⟩ := bytesG (P := Try.prog) (g := g1) (B := g.size) (bstr key) Try.underlying9 Try.underlying22 Try.underlying5 n1.ex.size (by rw [bstr_size]; unfold maxLen; omega)
  rw [bstr_size] at hr1 sk
  refine ⟨ka, _, kc, w1, hr1, g2, hw1, hs1, fun g3 n3 => ?_⟩
  have hL : Sl g3 1 (some ⟨g2.w.heap.size, 0, none⟩) 3 3 _ := n3.sl (m := 1) (n := 3) rfl (by unfold maxLen; omega)
  have sk3 : SlB g3 ka key.length kc key := by simpa [bstr] using sk.ex n3.ex
  refine (k60 _ _ _ hL ((s1.ex m2).ex n3.ex) sk3 (((hd.ex n1.ex).ex m2).ex n3.ex) (by omega)).mono ?_
  rintro v g4 m4 ⟨ca, cc, rfl, oc⟩
  refine ⟨_, _, _, rfl, ?_⟩
  rw [wrap_u32_nat _ (by omega)]
  have hc : (contB kind key data).length = 3 + key.length + l := by rw [contB_len, hld]
  refine (k61 (3 + key.length + l) (by omega) g4).mono ?_
  rintro v g5 m5 ⟨fa, fc, rfl, of5⟩
  have hsz5 : g.size ≤ g5.w.heap.size := Nat.le_trans (Nat.le_trans (Nat.le_trans n1.ex.size m2.size) n3.ex.size) (Nat.le_trans m4.size m5.size)
  have h45 : g.w.heap.size ≤ g4.size := Nat.le_trans (Nat.le_trans (Nat.le_trans n1.ex.size m2.size) n3.ex.size) m4.size
  obtain ⟨oa, oc', w2, hr2, g6, hw2, hs2, o6, b6, _⟩ := OwnB.app E22 22 (B := g.size) hsz5 (of5.base h45) ((oc.ex m5).sl) (by omega) (by unfold maxLen; omega)
  refine ⟨_, _, _, rfl, oa, _, oc', w2, hr2, g6, hw2, hs2, ?_⟩
  refine (k62 _ o6.sl).mono ?_
  rintro v g7 m7 rfl
  refine ⟨_, rfl, (k61 _ (sumN_lt _) g7).mono ?_⟩
  rintro v g8 m8 ⟨sa, sc, rfl, o8⟩
  have hsz8 : g.size ≤ g8.w.heap.size := Nat.le_trans hsz5 (Nat.le_trans hs2.le.size (Nat.le_trans m7.size m8.size))
  obtain ⟨ra, rc, w3, hr3, g9, hw3, hs3, o9, _, _⟩ := OwnB.app E22 22 (B := g.size) hsz8 ((o6.ex m7).ex m8) o8.sl (by omega) (by unfold maxLen; omega)
  refine ⟨_, _, _, rfl, ra, _, rc, w3, hr3, g9, hw3, hs3, fun g10 m10 => ⟨ra, rc, by rw [show 4 + (3 + key.length + l) + 4 = 11 + key.length + l by omega], ?_⟩⟩
  have := o9.ex m10
  rw [show 4 + (3 + key.length + l) + 4 = 11 + key.length + l by omega] at this
  unfold recB sumd
  rw [hc]
  exact this

theorem k18 (kind : Nat) (hk : kind < 256) (key data : List UInt8) {a : Option Addr} {l c : Nat} {g : G} (hd : SlB g a l c data) (h1 : key.length ≤ 100) (h2 : l ≤ 1048776) :
    CallsP Try.prog 18 #[(.int .i64 (kind : Int)), (.string (bstr key)), (.slice a l c)] g fun v g' => ∃ a' c', v = .slice a' (11 + key.length + l) c' ∧ OwnB g' g.size 5 a' (11 + key.length + l) c' (recB kind key data) := by
  refine call18 kind (bstr key) a l c g _ ?_
  have hld := SlB.length hd
  unfold F18
  intro g1 n1
  have e0 : ([(.int .u8 (IntKind.u8.wrap (kind : Int))), (.int .u8 (0 : Int)), (.int .u8 (IntKind.u8.wrap (((bstr key).size : Nat) : Int)))] : List Value) = vs .u8 (nums [UInt8.ofNat kind, UInt8.ofNat (key.length / 256), UInt8.ofNat key.length]) := by
    rw [nums3 kind hk, bstr_size, wrap_u8_nat, wrap_u8_nat, show kind % 256 = kind by omega, show key.length / 256 % 256 = 0 by omega]
    rfl
  rw [e0] at n1
  obtain ⟨ka, kc, w1, hr1, g2, hw1, hs1, sk, m2⟩ := bytesG (P := Try.prog) (g := g1) (B := g.size) (bstr key) Try.underlying9 Try.underlying22 Try.underlying5 n1.ex.size (by rw [bstr_size]; unfold maxLen; omega)
  rw [bstr_size] at hr1 sk
  refine ⟨ka, _, kc, w1, hr1, g2, hw1, hs1, ?_⟩
  have sk2 : SlB g2 ka key.length kc key := by simpa [bstr] using sk
  have o1 : OwnB g1 g.size 5 (some ⟨g.w.heap.size, 0, none⟩) 3 3 _ := OwnG.lit (m := 1) n1 (n := 3) (Nat.le_refl _) rfl (by unfold maxLen; omega)
  have hsz2 : g.size ≤ g2.w.heap.size := Nat.le_trans n1.ex.size m2.size
  obtain ⟨c1a, c1c, w2, hr2, g3, hw2, hs2, o3, _, _⟩ := OwnB.app E22 22 (B := g.size) hsz2 (o1.ex m2) sk2 (by omega) (by unfold maxLen; omega)
  refine ⟨c1a, _, c1c, w2, hr2, g3, hw2, hs2, ?_⟩
  have hsz3 : g.size ≤ g3.w.heap.size := Nat.le_trans hsz2 hs2.le.size
  obtain ⟨ca, cc, w3, hr3, g4, hw3, hs3, o4, _, _⟩ := OwnB.app E22 22 (B := g.size) hsz3 o3 (((hd.ex n1.ex).ex m2).mono hs2.le) (by omega) (by unfold maxLen; omega)
  refine ⟨ca, _, cc, w3, hr3, g4, hw3, hs3, ?_⟩
  have hc : (contB kind key data).length = 3 + key.length + l := by rw [contB_len, hld]
  refine (k47 (3 + key.length + l) (by omega) g4).mono ?_
  rintro v g5 m5 ⟨fa, fc, rfl, of5⟩
  have hsz4 : g.size ≤ g4.w.heap.size := Nat.le_trans hsz3 hs3.le.size
  have hsz5 : g.size ≤ g5.w.heap.size := Nat.le_trans hsz4 m5.size
  obtain ⟨oa, oc', w4, hr4, g6, hw4, hs4, o6, b6, _⟩ := OwnB.app E22 22 (B := g.size) hsz5 (of5.base hsz4) ((o4.ex m5).sl) (by omega) (by unfold maxLen; omega)
  refine ⟨_, _, _, rfl, oa, _, oc', w4, hr4, g6, hw4, hs4, ?_⟩
  refine (k42 _ o6.sl).mono ?_
  rintro v g7 m7 rfl
  refine ⟨_, rfl, (k47 _ (sumN_lt _) g7).mono ?_⟩
  rintro v g8 m8 ⟨sa, sc, rfl, o8⟩
  have hsz8 : g.size ≤ g8.w.heap.size := Nat.le_trans hsz5 (Nat.le_trans hs4.le.size (Nat.le_trans m7.size m8.size))
  obtain ⟨ra, rc, w5, hr5, g9, hw5, hs5, o9, _, _⟩ := OwnB.app E22 22 (B := g.size) hsz8 ((o6.ex m7).ex m8) o8.sl (by omega) (by unfold maxLen; omega)
  refine ⟨_, _, _, rfl, ra, _, rc, w5, hr5, g9, hw5, hs5, fun g10 m10 => ⟨ra, rc, by rw [show 4 + (3 + key.length + l) + 4 = 11 + key.length + l by omega], ?_⟩⟩
  have := o9.ex m10
  rw [show 4 + (3 + key.length + l) + 4 = 11 + key.length + l by omega] at this
  unfold recB sumd
  rw [hc]
  exact this
end Go.Proofs.Ytlofbfbcnlgmaaa
