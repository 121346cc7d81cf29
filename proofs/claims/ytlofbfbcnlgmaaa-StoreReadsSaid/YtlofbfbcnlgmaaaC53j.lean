/- The store: records are read back; crashes; the examples. -/
import Derived.Test.YtlofbfbcnlgmaaaC53i
import Derived.Test.YtlofbfbcnlgmaaaVf5
set_option linter.unusedVariables false
namespace Go.Proofs.Ytlofbfbcnlgmaaa
open Go Go.Vc Go.RowKit

theorem mem_insE (k d : List UInt8) : ∀ (l : List Ent) (y : Ent), y ∈ insE k d l ↔ y = (k, d) ∨ (y ∈ l ∧ y.1 ≠ k)
  | [], y => by simp [insE]
  | x :: r, y => by
    unfold insE
    cases hb : Op.bytesLess x.1 k with
    | true =>
      have hne : x.1 ≠ k := fun e => by rw [e, klt_irrefl] at hb; cases hb
      simp only [List.mem_cons, mem_insE k d r]
      constructor
      · rintro (rfl | h | h)
        · exact .inr ⟨.inl rfl, hne⟩
        · exact .inl h
        · exact .inr ⟨.inr h.1, h.2⟩
      · rintro (h | ⟨rfl | h, h2⟩)
        · exact .inr (.inl h)
        · exact .inl rfl
        · exact .inr (.inr ⟨h, h2⟩)
    | false => simp only [List.mem_cons, List.mem_filter, decide_eq_true_eq]
theorem mem_delE (k : List UInt8) (l : List Ent) (y : Ent) : y ∈ delE k l ↔ y ∈ l ∧ y.1 ≠ k := by simp [delE]
theorem en_mp (rs : List Rec) : ∀ k d, (k, d) ∈ enL rs ↔ mpF rs k = some d := by
  have key : ∀ (rs : List Rec) (l : List Ent) (f : List UInt8 → Option (List UInt8)), (∀ k d, (k, d) ∈ l ↔ f k = some d) → ∀ k d, (k, d) ∈ rs.foldl stepE l ↔ rs.foldl stepF f k = some d := by
    intro rs
    induction rs with
    | nil => intro l f h; exact h
    | cons r rs ih =>
      intro l f h
      refine ih _ _ (fun k d => ?_)
      unfold stepE stepF
      by_cases hk : r.kind = 1
      · simp only [hk, if_true, mem_insE, Prod.mk.injEq]
        by_cases e : k = r.key
        · simp only [e, true_and, ne_eq, not_true_eq_false, and_false, or_false, if_true, Option.some.injEq]
          exact eq_comm
        · simp only [e, false_and, false_or, ne_eq, not_false_eq_true, and_true, if_false]
          exact h k d
      · simp only [hk, if_false, mem_delE]
        by_cases e : k = r.key
        · simp [e]
        · simp only [e, ne_eq, not_false_eq_true, and_true, if_false]
          exact h k d
  exact key rs [] _ (fun k d => by simp)

theorem numB_four (n : Nat) (h : n < 2 ^ 32) : numB (fourB n) = n := by
  simp only [numB, fourB, List.foldl_cons, List.foldl_nil, UInt8.toNat_ofNat']
  omega
/-- A record at the beginning is read. -/
theorem first_rec (kind : Nat) (key data rest : List UInt8) (hk : kind = 1 ∨ kind = 2 ∧ data = []) (h1 : 1 ≤ key.length ∧ key.length ≤ 100) (h2 : data.length ≤ 1048576) :
    firstR (recB kind key data ++ rest) = some ⟨kind, key, data, 11 + key.length + data.length⟩ := by
  have hcl := contB_len kind key data
  have hc3 : (contB kind key data).getD 0 0 = UInt8.ofNat kind ∧ (contB kind key data).getD 1 0 = UInt8.ofNat (key.length / 256) ∧ (contB kind key data).getD 2 0 = UInt8.ofNat key.length := by simp [contB]
  have hkl : keyLen (contB kind key data) = key.length := by
    unfold keyLen
    rw [hc3.2.1, hc3.2.2, UInt8.toNat_ofNat', UInt8.toNat_ofNat']
    omega
  have hk0 : ((contB kind key data).getD 0 0).toNat = kind := by rw [hc3.1, UInt8.toNat_ofNat']; omega
  have e1 : recB kind key data ++ rest = fourB (contB kind key data).length ++ (contB kind key data ++ (fourB (sumN (fourB (contB kind key data).length ++ contB kind key data)) ++ rest)) := by
    simp [recB, sumd]
  have t4 : (recB kind key data ++ rest).take 4 = fourB (contB kind key data).length := by rw [e1]; exact List.take_left' rfl
  have d4 : (recB kind key data ++ rest).drop 4 = contB kind key data ++ (fourB (sumN (fourB (contB kind key data).length ++ contB kind key data)) ++ rest) := by rw [e1]; exact List.drop_left' rfl
  have hr : Right (recB kind key data ++ rest) (contB kind key data).length (contB kind key data) := by
    refine ⟨?_, by omega, ?_, ?_, ?_, ?_⟩
    · rw [List.length_append, recB_len]; omega
    · rw [t4, numB_four _ (by omega)]
    · rw [d4, List.take_left]
    · have e2 : recB kind key data ++ rest = (fourB (contB kind key data).length ++ contB kind key data) ++ (fourB (sumN (fourB (contB kind key data).length ++ contB kind key data)) ++ rest) := by simp [recB, sumd]
      have hl : (fourB (contB kind key data).length ++ contB kind key data).length = (contB kind key data).length + 4 := by rw [List.length_append, fourB_len]; omega
      rw [e2, List.take_left' hl, List.drop_left' hl, List.take_left' (fourB_len _), numB_four _ (sumN_lt _)]
    · unfold badR
      rw [hk0]
      have : ((contB kind key data).getD 1 0).toNat * 256 + ((contB kind key data).getD 2 0).toNat = key.length := hkl
      rw [this]
      rcases hk with rfl | ⟨rfl, rfl⟩
      · omega
      · simp at hcl; omega
  rw [first_of hr, hk0, hkl]
  have e3 : contB kind key data = [UInt8.ofNat kind, UInt8.ofNat (key.length / 256), UInt8.ofNat key.length] ++ (key ++ data) := by simp [contB]
  have e5 : (contB kind key data).drop 3 = key ++ data := by rw [e3]; exact List.drop_left' rfl
  have e6 : (contB kind key data).drop (3 + key.length) = data := by rw [← List.drop_drop, e5]; exact List.drop_left
  rw [e5, e6, List.take_left, hcl]
  congr 2
  omega

/-- Crash. -/
noncomputable def crashR (b : List UInt8) (d a keep : Int) : SR :=
  if tf (okS b.length d a) = false then ⟨[], 0, 0, 1⟩ else if keep < 0 then ⟨[], 0, 0, 2⟩ else ⟨b.take (d + minI keep (b.length - d)).toNat, d + minI keep (b.length - d), -1, 0⟩

theorem k23 (b : List UInt8) {a : Option Addr} {n c : Nat} {g : G} (h : SlB g a n c b) (d af keep : Int) (hi : InI64 keep) :
    CallsP Try.prog 23 #[stV a n c d af, .int .i64 keep] g fun v g' => IsSR v g' (crashR b d af keep) := by
  refine call23 a n c d af keep g _ ?_
  have hlb := SlB.length h
  have hle := h.le
  unfold F23
  refine fun g1 m1 => (k24 a n c d af g1).mono ?_
  rintro v g2 m2 rfl
  refine ⟨_, rfl, ifPn (fun hs g3 m3 => ?_) (fun hs => ?_)⟩
  · unfold crashR
    rw [if_pos (by rw [hlb]; exact tf_no hs)]
    exact IsSR.zero _ _
  have e1 : ¬ tf (okS b.length d af) = false := by rw [hlb, tf_of hs]; simp
  unfold okS at hs
  refine ifLt (fun hk g4 m4 => ?_) (fun hk => ?_)
  · unfold crashR
    rw [if_neg e1, if_pos hk]
    exact IsSR.zero _ _
  have hm : 0 ≤ minI keep ((n : Int) - d) ∧ minI keep ((n : Int) - d) ≤ (n : Int) - d := by unfold minI; split <;> omega
  refine ⟨i64 (by omega) (by omega), i64 (by omega) (by omega), ⟨by omega, by omega⟩, (k32 _ (SlB.take ((h.ex m1).ex m2) (hi := (d + minI keep ((n : Int) - d)).toNat) (by omega)) (by omega)).mono ?_⟩
  rintro v g5 m5 ⟨xa, xc, rfl, ho⟩
  refine ⟨_, _, _, rfl, fun g6 m6 => ⟨xa, (d + minI keep ((n : Int) - d)).toNat - 0, xc, ?_, ?_⟩⟩
  · unfold crashR
    rw [if_neg e1, if_neg (by omega), hlb]
    rfl
  · unfold crashR
    rw [if_neg e1, if_neg (by omega), hlb]
    exact (ho.ex m6).sl

theorem k25 (b : List UInt8) {a : Option Addr} {n c : Nat} {g : G} (h : SlB g a n c b) (d af keep : Int) (hs : okS n d af) (hk : 0 ≤ keep) (hi : InI64 keep) :
    CallsP Try.prog 25 #[stV a n c d af, .int .i64 keep] g fun v g' => ∃ xa xl xc, v = stV xa xl xc (crashR b d af keep).d (crashR b d af keep).a ∧ SlB g' xa xl xc (crashR b d af keep).b := by
  refine call25 a n c d af keep g _ ?_
  have hlb := SlB.length h
  have hle := h.le
  have e1 : ¬ tf (okS b.length d af) = false := by rw [hlb, tf_of hs]; simp
  unfold okS at hs
  unfold F25
  intro J hJ
  have ec : crashR b d af keep = ⟨b.take (d + minI keep ((n : Int) - d)).toNat, d + minI keep ((n : Int) - d), -1, 0⟩ := by
    unfold crashR
    rw [if_neg e1, if_neg (by omega), hlb]
  have main : ∀ (q : Nat) (g1 : G), (q : Int) = d + minI keep ((n : Int) - d) → q ≤ n → Ex g g1 → J (q : Int) g1 := by
    intro q g1 hq hqn m1
    refine hJ _ _ (fun g2 n2 => ⟨⟨by omega, by omega⟩, ?_⟩)
    rw [Int.toNat_natCast]
    have o2 : OwnB g2 g.size 5 (some ⟨g1.w.heap.size, 0, none⟩) 0 0 [] := OwnG.lit (m := 1) n2 (n := 0) m1.size rfl (by unfold maxLen; omega)
    obtain ⟨xa, xc, w1, hrun, g3, hw, hst, ho, _, _⟩ := OwnB.app E22 22 (Nat.le_trans m1.size n2.ex.size) o2 (SlB.take ((h.ex m1).ex n2.ex) (hi := q) hqn) (by omega) (by unfold maxLen; omega)
    refine ⟨xa, _, xc, w1, hrun, g3, hw, hst, fun g4 m4 => ⟨xa, 0 + (q - 0), xc, ?_, ?_⟩⟩
    · rw [ec, ← hq]
      rfl
    · rw [ec, ← hq, Int.toNat_natCast]
      exact (ho.ex m4).sl
  refine ⟨i64 (by omega) (by omega), ifLt (fun hlt => ⟨i64 (by omega) (by omega), fun g5 m5 => ?_⟩) (fun hge g6 m6 => main n g6 ?_ (Nat.le_refl _) m6)⟩
  · have := main (d + keep).toNat g5 (by unfold minI; split <;> omega) (by omega) m5
    rwa [Int.toNat_of_nonneg (by omega)] at this
  · unfold minI; split <;> omega

theorem sum_nine : sumN [49, 50, 51, 52, 53, 54, 55, 56, 57] = 3421780262 := by decide +kernel

/-- The examples of the chapter. -/
theorem k10 (g : G) : CallsP Try.prog 10 #[] g fun v _ => v = .bool true := by
  refine call10 g _ ?_
  unfold F10
  refine (k22 (-1) g).mono ?_
  rintro v g1 m1 rfl
  refine ⟨none, 0, 0, 0, -1, 0, by rw [if_pos (by decide)]; rfl, fun g2 m2 g3 n3 => ?_⟩
  obtain ⟨w4, r4, g4, hw4, st4, s4', e4⟩ := conv_bytes n3 22 2 2 (B := g.w.heap.size) (Nat.le_trans m1.size m2.size) Try.underlying22 Try.underlying5 rfl (by unfold maxLen; omega)
  have s3 : SlB g4 (some ⟨g2.w.heap.size, 0, none⟩) 2 2 [120, 121] := s4' (Nat.le_refl _) (by unfold maxLen; omega)
  refine ⟨_, _, _, _, r4, g4, hw4, st4, ?_⟩
  refine (k12 [] [97] [120, 121] (Sl.zero g4 1) s3 0 (-1)).mono ?_
  rintro v g5 m5 ⟨xa, xl, xc, rfl, hx⟩
  have ep : putR [] 0 (-1) [97] [120, 121] = ⟨recB 1 [97] [120, 121], 14, -1, 0⟩ := by
    unfold putR
    rw [if_neg (by rw [tf_of (by unfold okS; simp)]; simp), if_neg (by rw [tf_of (by unfold okK; simp)]; simp), if_neg (by simp)]
    have he : endR [] = 0 := rfl
    unfold writeR
    rw [he, recB_len, if_neg (by simp), if_pos (by decide)]
    rfl
  rw [ep] at hx ⊢
  have hxl := SlB.length hx
  rw [recB_len] at hxl
  refine ⟨_, _, _, _, _, _, rfl, fun g6 m6 => ?_⟩
  refine (k13 _ [97] (hx.ex m6) 14 (-1)).mono ?_
  rintro v g7 m7 ⟨ya, yl, yc, rfl, hy⟩
  have hf := first_rec 1 [97] [120, 121] [] (.inl rfl) (by simp) (by simp)
  rw [List.append_nil] at hf
  have hrl : (recB 1 [97] [120, 121]).length = 14 := by rw [recB_len]; rfl
  have hd0 : (recB 1 [97] [120, 121]).drop 14 = [] := List.drop_eq_nil_of_le (by omega)
  have hrecs : recsL (recB 1 [97] [120, 121]) = [⟨1, [97], [120, 121], 14⟩] := by
    rw [recsL_some hf]
    show _ :: recsL ((recB 1 [97] [120, 121]).drop 14) = _
    rw [hd0]
    rfl
  have hend : endR (recB 1 [97] [120, 121]) = 14 := by unfold endR; rw [hrecs]; rfl
  have ed : delR (recB 1 [97] [120, 121]) 14 (-1) [97] = ⟨recB 1 [97] [120, 121] ++ recB 2 [97] [], 26, -1, 0⟩ := by
    unfold delR
    rw [if_neg (by rw [hrl, tf_of (by unfold okS; simp)]; simp), if_neg (by rw [tf_of (by unfold okK; simp)]; simp), hrecs, if_neg (by simp [mpF, stepF]), hend]
    unfold writeR
    rw [recB_len, if_neg (by simp), if_pos (by decide), List.take_of_length_le (by omega)]
    rfl
  rw [ed] at hy ⊢
  have hyl := SlB.length hy
  rw [List.length_append, recB_len, recB_len] at hyl
  simp only [List.length_cons, List.length_nil] at hxl hyl
  refine ⟨_, _, _, _, _, _, rfl, ifEq (fun _ => ifEq (fun _ => ifEq (fun _ => ifEq (fun _ => ifEq (fun _ g8 m8 g9 n9 => ?_) (fun h => by omega)) (fun h => by omega)) (fun h => absurd rfl h)) (fun h => absurd rfl h)) (fun h => absurd rfl h)⟩
  obtain ⟨w10, r10, g10, hw10, st10, s10', e10⟩ := conv_bytes n9 22 9 9 (B := g.w.heap.size) (Nat.le_trans (Nat.le_trans (Nat.le_trans (Nat.le_trans m1.size m2.size) e4.size) (Nat.le_trans m5.size m6.size)) (Nat.le_trans m7.size m8.size)) Try.underlying22 Try.underlying5 rfl (by unfold maxLen; omega)
  have s9 : SlB g10 (some ⟨g8.w.heap.size, 0, none⟩) 9 9 [49, 50, 51, 52, 53, 54, 55, 56, 57] := s10' (Nat.le_refl _) (by unfold maxLen; omega)
  refine ⟨_, _, _, _, r10, g10, hw10, st10, (k42 _ s9).mono ?_⟩
  rintro v g11 m11 rfl
  refine ⟨_, rfl, fun g12 m12 => ?_⟩
  show Value.bool (eqI ((sumN _ : Nat) : Int) 3421780262) = _
  rw [sum_nine]
  exact congrArg Value.bool (eqI_true.mpr rfl)
end Go.Proofs.Ytlofbfbcnlgmaaa
