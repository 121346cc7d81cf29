/- An append behind a slice without room (a full slice expression): the caller's cells stay. -/
import Derived.Test.YthlcdgpemjdgnaaGreatDoorVfa
set_option linter.unusedVariables false
namespace Go.Vc
open Go Go.RowKit
section
variable {P : Program} {α : Type} {E : El α} {g : G} {a : Option Addr} {n c : Nat} {xs : List α}
theorem SlE.full (h : SlE E g a n c xs) : SlE E g a n n xs := by
  obtain ⟨L, h1, h2⟩ := h.ex
  refine ⟨⟨L, ⟨h1.len, Nat.le_refl _, Nat.le_trans h1.le h1.cap, fun e => ?_, h1.at_⟩, h2⟩, h.len⟩
  have := h1.nil e
  have := h1.le
  omega
theorem run_nothing {t e : TypeId} {m bytes : Nat} (Et : Elem P t e m bytes) (ty : TypeId) (w : World) (a na : Option Addr) (n c cn : Nat) (hc : n ≤ c) (hN : na = none → cn = 0) :
    (Builtin.append_ #[t, t] ty #[.slice a n c, .slice na 0 cn]).run P w = .ok (.slice a n c) w := by
  obtain ⟨i, z, hi, hz, hs, hby, hzs, hm0⟩ := Et.info
  cases a <;> cases na <;> simp [Builtin.append_, run_underlying Et.und, sizeOf, typeInfo, hi, Builtin.lenOf, Builtin.firstCells, loadCells, loadCellsFrom, hc, storeCells]
theorem SlE.clip {t e : TypeId} {bytes : Nat} (Et : Elem P t e E.m bytes) (ty : TypeId) (h : SlE E g a n c xs) {na : Option Addr} {k cn : Nat} {ys : List α} (hN : SlE E g na k cn ys)
    (hb : (n + k) * bytes ≤ 140737488355328) (hm : n + k ≤ maxLen) {m : Nat} (hmE : m = E.m) :
    ∃ a' c' w', (Builtin.append_ #[t, t] ty #[.slice (slAddr a (Int.toNat ((n : Nat) : Int)) 0 m) (Int.toNat ((n : Nat) : Int) - 0) (Int.toNat ((n : Nat) : Int) - 0), .slice na k cn]).run P g.w = .ok (.slice a' (n + k) c') w' ∧
      ∃ g', g'.w = w' ∧ Stp g.w.heap.size nobody g g' ∧ SlE E g' a' (n + k) c' (xs ++ ys) ∧ (0 < k → OwnE E g' g.w.heap.size e a' (n + k) c' (xs ++ ys)) := by
  subst hmE
  rw [Int.toNat_natCast]
  have hf := h.full.take (Nat.le_refl n)
  rw [List.take_of_length_le (by have := h.len; omega)] at hf
  rcases Nat.eq_zero_or_pos k with rfl | hk
  · have hy : ys = [] := List.eq_nil_of_length_eq_zero hN.len
    subst hy
    refine ⟨slAddr a n 0 E.m, n - 0, g.w, ?_, g, rfl, Stp.refl _ _ _, by simpa using hf, fun hh => absurd hh (Nat.lt_irrefl _)⟩
    exact run_nothing Et ty g.w _ _ _ _ _ (Nat.le_refl _) hN.nil
  · obtain ⟨L, h1, h2⟩ := hf.ex
    obtain ⟨N, h3, h4⟩ := hN.ex
    obtain ⟨a', c', w', hr, g', hw, hs, ho, hs2, hl⟩ := OwnG.grow (B := g.w.heap.size) Et ty (Nat.le_refl _) h1 h3 (by omega) hb hm
    have hrw := (h2.append h4).mono hs.le
    have hlen : (xs ++ ys).length = n + k := by rw [List.length_append, h.len, hN.len]
    have hown : OwnE E g' g.w.heap.size e a' (n + k) c' (xs ++ ys) := ⟨⟨_, ho, hrw⟩, hlen⟩
    exact ⟨a', c', w', hr, g', hw, hs, hown.sl, fun _ => hown⟩
end
end Go.Vc
