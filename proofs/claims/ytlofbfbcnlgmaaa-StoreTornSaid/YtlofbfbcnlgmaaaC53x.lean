/- The store: what the law on a torn store says. -/
import Derived.Test.YtlofbfbcnlgmaaaC53t
import Derived.Test.YtlofbfbcnlgmaaaFn53t
import Derived.Test.YtlofbfbcnlgmaaaVf6
set_option linter.unusedVariables false
namespace Go.Proofs.Ytlofbfbcnlgmaaa
open Go Go.Vc Go.RowKit

def intE : El Nat where
  m := 1
  rep g r x := r = [.int .i64 (x : Int)]
  len := by rintro g r x rfl; rfl
  mono := by rintro g g' r x k rfl; rfl
  one := by
    rintro g r x rfl u hu
    simp only [List.mem_cons, List.not_mem_nil, or_false] at hu
    subst hu
    rfl
def listE : El (List Ent) where
  m := 1
  rep g r x := ∃ a n c, r = [.slice a n c] ∧ SlE entE g a n c x
  len := by rintro g r x ⟨a, n, c, rfl, _⟩; rfl
  mono := by rintro g g' r x k ⟨a, n, c, rfl, h⟩; exact ⟨a, n, c, rfl, h.mono k⟩
  one := by
    rintro g r x ⟨a, n, c, rfl, _⟩ u hu
    simp only [List.mem_cons, List.not_mem_nil, or_false] at hu
    subst hu
    rfl
theorem E51 : Elem Try.prog 51 36 1 24 := ⟨Try.underlying51, by kernel_rfl⟩
theorem E52 : Elem Try.prog 52 3 1 8 := ⟨Try.underlying52, by kernel_rfl⟩

theorem k34 (n : Int) {vb : Nat} {g : G} {k : Int} (hv : Live g ⟨vb, 0, none⟩ (.int .i64 k)) : CallsP Try.prog 34 #[.int .i64 n, .pointer (some ⟨vb, 0, none⟩)] g fun v _ => v = .bool (tf (k < n)) := by
  refine call34 n (some ⟨vb, 0, none⟩) g _ ?_
  unfold F34
  simp only [derefP_of_some, -eq_self]
  exact ⟨k, hv.cell, fun g1 m1 => by rw [tf_lt]⟩
theorem enters34 : Go.Vc.Enters Try.prog 34 := ⟨_, Try.func34, by kernel_rfl, by kernel_rfl⟩
theorem k33 (Es : List Nat) {a : Option Addr} {n c vb : Nat} {g : G} (h : SlE intE g a n c Es) {k : Int} (hv : Live g ⟨vb, 0, none⟩ (.int .i64 k)) :
    CallsP Try.prog 33 #[.slice a n c, .func (.func 34) #[] #[.pointer (some ⟨vb, 0, none⟩)]] g fun v _ => ∃ i : Int, v = .int .i64 i ∧
      ((i = -1 ∧ ∀ x ∈ Es, ¬ k < ((x : Nat) : Int)) ∨ ∃ (j : Nat) (x : Nat), i = j ∧ Es[j]? = some x ∧ k < x ∧ ∀ y ∈ Es.take j, ¬ k < ((y : Nat) : Int)) := by
  refine call33 a n c 34 #[.pointer (some ⟨vb, 0, none⟩)] g _ ?_
  have hl := h.len
  have hcap := h.cap
  have hle := h.le
  unfold maxLen at hcap
  unfold F33
  refine ⟨fun m i g' => ∃ j : Nat, i = j ∧ j + m = n ∧ ∀ y ∈ Es.take j, ¬ k < ((y : Nat) : Int), ⟨n, 0, rfl, by omega, by simp⟩, ?_⟩
  rintro m i g1 le ⟨j, rfl, hjm, hj⟩
  refine ifLt (fun hlt => ⟨⟨by omega, by omega⟩, ?_⟩) (fun hge g3 m3 => ⟨-1, rfl, .inl ⟨rfl, ?_⟩⟩)
  · have hjl : j < Es.length := by omega
    have gj := List.getElem?_eq_getElem hjl
    refine (h.mono le).rd (i := j) gj ?_
    rintro r ad rfl hr
    rw [Int.toNat_natCast]
    refine ⟨_, ?_, enters34, (k34 (Es[j] : Nat) (hv.mono le)).mono ?_⟩
    · have := (hr 0 _ rfl).1
      rwa [Addr.add_zero'] at this
    rintro v g2 m2 rfl
    refine ⟨_, rfl, ifP (fun hs g3 m3 => ⟨j, rfl, .inr ⟨j, Es[j], rfl, gj, hs, hj⟩⟩) (fun hs => ⟨i64 (by omega) (by omega), m - 1, by omega, j + 1, by omega, by omega, ?_⟩)⟩
    intro y hy
    rw [List.take_add_one, gj] at hy
    simp only [Option.toList_some, List.mem_append, List.mem_singleton] at hy
    rcases hy with hy | rfl
    · exact hj y hy
    · exact hs
  · have : Es.take j = Es := List.take_of_length_le (by omega)
    rwa [this] at hj

/-- Two own rows that get an element each. -/
theorem two {g : G} {B0 : Nat} {xs : List (List Ent)} {ys : List Nat} {a : Option Addr} {n c : Nat} {e : Option Addr} {k d : Nat} (hB : B0 ≤ g.w.heap.size) (h : OwnE listE g B0 36 a n c xs) (h2 : OwnE intE g B0 3 e k d ys) (hd : ∀ x, blkOf a x → ¬ blkOf e x)
    {x : List Ent} {y : Nat} {na : Option Addr} (hN : SlE listE g na 1 1 [x]) (hn : n ≤ 100) (hk : k ≤ 100) :
    ∃ a' c' w', (Builtin.append_ #[51, 51] 51 #[.slice a n c, .slice na 1 1]).run Try.prog g.w = .ok (.slice a' (n + 1) c') w' ∧ ∃ g', g'.w = w' ∧ Stp B0 nobody g g' ∧ (∀ b, b < g.w.heap.size → ¬ blkOf a b → g'.w.heap[b]? = g.w.heap[b]?) ∧
      ∀ (g2 : G) (nb : Option Addr), Ex g' g2 → SlE intE g2 nb 1 1 [y] → ∃ e' d' w2, (Builtin.append_ #[52, 52] 52 #[.slice e k d, .slice nb 1 1]).run Try.prog g2.w = .ok (.slice e' (k + 1) d') w2 ∧
        ∃ g3, g3.w = w2 ∧ Stp B0 nobody g2 g3 ∧ OwnE listE g3 B0 36 a' (n + 1) c' (xs ++ [x]) ∧ OwnE intE g3 B0 3 e' (k + 1) d' (ys ++ [y]) ∧ (∀ x, blkOf a' x → ¬ blkOf e' x) ∧ Le g g3 ∧ B0 ≤ g3.w.heap.size := by
  obtain ⟨a', c', w', hr, g', hw, hs, ho, hs2, hl⟩ := OwnE.app E51 51 hB h hN (by omega) (by unfold maxLen; omega)
  refine ⟨a', c', w', hr, g', hw, hs, fun b hb hne => hs2.same b hb hne, ?_⟩
  intro g2 nb m2 hNb
  have h2' : OwnE intE g' B0 3 e k d ys := h2.but (hs2.but (Nat.le_refl _)) (fun b hb hab => hd b hab hb) hs.le
  have hB2 : B0 ≤ g2.w.heap.size := Nat.le_trans hB (Nat.le_trans hs.le.size m2.size)
  obtain ⟨e', d', w2, hr2, g3, hw3, hs3, ho3, hs4, hl4⟩ := OwnE.app E52 52 hB2 (h2'.exm m2) hNb (by omega) (by unfold maxLen; omega)
  have hda : ∀ z, blkOf a' z → ¬ blkOf e z := by
    intro z hz hez
    rcases hl z hz with h | h
    · exact hd z h hez
    · have := h2.lt hez; omega
  refine ⟨e', d', w2, hr2, g3, hw3, hs3, (ho.exm m2).but (hs4.but (Nat.le_refl _)) hda hs3.le, ho3, ?_, (hs.le.trans m2.le).trans hs3.le, Nat.le_trans hB2 hs3.le.size⟩
  intro z hz hez
  rcases hl4 z hez with h | h
  · exact hda z hz h
  · have h5 := (ho.exm m2).lt hz
    omega

/-- Where the records of a store end, and what it held before each. -/
structure Torn (B : List (List Ent)) (Es : List Nat) (b : List UInt8) : Prop where
  len : B.length = Es.length
  le : ∀ x ∈ Es, x ≤ b.length
  last : b ≠ [] → b.length ∈ Es
  full : endR b = b.length
  at_ : ∀ i x, Es[i]? = some x → ∃ st, (i = 0 ∧ st = 0 ∨ 0 < i ∧ Es[i - 1]? = some st) ∧ st ≤ b.length ∧ endR (b.take st) = st ∧ B[i]? = some (enL (recsL (b.take st)))
  nil : Es = [] → b = []
  lastx : ∀ x, Es[Es.length - 1]? = some x → x = b.length
theorem Torn.snoc {B : List (List Ent)} {Es : List Nat} {b r : List UInt8} (h : Torn B Es b) (hf : endR (b ++ r) = (b ++ r).length) : Torn (B ++ [enL (recsL b)]) (Es ++ [(b ++ r).length]) (b ++ r) := by
  have hlen := h.len
  refine ⟨by simp [hlen], ?_, fun _ => by simp, hf, ?_, by simp, ?_⟩
  · intro x hx
    rcases List.mem_append.1 hx with hx | hx
    · have := h.le x hx; rw [List.length_append]; omega
    · rw [List.mem_singleton] at hx; omega
  · intro i x hi
    by_cases hlt : i < Es.length
    · rw [List.getElem?_append_left hlt] at hi
      obtain ⟨st, h1, h2, h3, h4⟩ := h.at_ i x hi
      refine ⟨st, ?_, by rw [List.length_append]; omega, by rw [take_app h2]; exact h3, by rw [take_app h2, List.getElem?_append_left (by omega)]; exact h4⟩
      rcases h1 with h1 | ⟨h1, h5⟩
      · exact .inl h1
      · exact .inr ⟨h1, by rw [List.getElem?_append_left (by omega)]; exact h5⟩
    · have hil := (List.getElem?_eq_some_iff.1 hi).1
      rw [List.length_append, List.length_singleton] at hil
      have hie : i = Es.length := by omega
      subst hie
      have hB : (B ++ [enL (recsL b)])[Es.length]? = some (enL (recsL b)) := by rw [← hlen]; simp
      by_cases h0 : Es.length = 0
      · have hb : b = [] := h.nil (List.eq_nil_of_length_eq_zero h0)
        subst hb
        exact ⟨0, .inl ⟨h0, rfl⟩, Nat.zero_le _, rfl, hB⟩
      · refine ⟨b.length, .inr ⟨by omega, ?_⟩, by rw [List.length_append]; omega, ?_, ?_⟩
        · rw [List.getElem?_append_left (by omega)]
          have hl := List.getElem?_eq_getElem (show Es.length - 1 < Es.length by omega)
          rw [hl, h.lastx _ hl]
        · rw [List.take_left, h.full]
        · rw [List.take_left]; exact hB
  · intro x hx
    rw [show (Es ++ [(b ++ r).length]).length - 1 = Es.length by simp, List.getElem?_append_right (Nat.le_refl _), Nat.sub_self] at hx
    exact (Option.some.inj hx).symm
theorem end_zero {l : List UInt8} (h : endR l ≤ 0) : recsL l = [] := by
  cases hf : firstR l with
  | none => exact recsL_none hf
  | some r =>
    have := first_len hf
    rw [endR_some hf] at h
    omega
end Go.Proofs.Ytlofbfbcnlgmaaa
