/- The heap: rows of words that are written in place; HeapRoom answers true. -/
import Derived.Test.YtcpclpkcanikiaaC49aa
set_option linter.unusedVariables false
namespace Go.Proofs.Ytcpclpkcanikiaa
open Go Go.Vc Go.RowKit

/-- The cells of words. -/
def wc : List Wd → List Value
  | [] => []
  | w :: r => .bool w.1 :: .int .i64 w.2 :: wc r
theorem wc_len : ∀ (l : List Wd), (wc l).length = l.length * 2
  | [] => rfl
  | w :: r => by simp only [wc, List.length_cons, wc_len r]; omega
theorem wc_rws (g : G) : ∀ (l : List Wd), Rws wordE g (wc l) l
  | [] => Rws.nil
  | w :: r => Rws.cons (E := wordE) (r := [.bool w.1, .int .i64 w.2]) rfl (wc_rws g r)
theorem wc_set : ∀ (l : List Wd) (j : Nat) (b : Bool) (n : Int), setsAt (wc l) (j * 2) [.bool b, .int .i64 n] = wc (l.set j (b, n))
  | [], j, b, n => by simp [wc, setsAt]
  | w :: r, 0, b, n => rfl
  | w :: r, j + 1, b, n => by
    have ih := wc_set r j b n
    have e1 : (j + 1) * 2 = j * 2 + 1 + 1 := by omega
    simp only [setsAt] at ih ⊢
    rw [e1]
    simp only [wc, List.set_cons_succ]
    rw [ih]
theorem wc_made (n : Nat) : madeCells ⟨[.bool false, .int .i64 0]⟩ (n * 2) = ⟨wc (List.replicate n (false, 0))⟩ := by
  apply Array.ext
  · rw [size_madeCells]
    simp [wc_len]
  · intro i h1 h2
    have key : ∀ (n i : Nat), i < n * 2 → (wc (List.replicate n (false, 0)))[i]? = some (if i % 2 = 0 then Value.bool false else Value.int .i64 0) := by
      intro n
      induction n with
      | zero => intro i hi; omega
      | succ n ih =>
        intro i hi
        rw [List.replicate_succ, wc]
        match i with
        | 0 => rfl
        | 1 => rfl
        | i + 2 =>
          simp only [List.getElem?_cons_succ]
          rw [ih i (by omega)]
          have : (i + 2) % 2 = i % 2 := by omega
          rw [this]
    rw [size_madeCells] at h1
    have := key n i h1
    have h3 := List.getElem?_eq_some_iff.1 this
    obtain ⟨h4, h5⟩ := h3
    show _ = (wc (List.replicate n (false, 0)))[i]
    rw [h5]
    simp only [madeCells, Array.getElem_map, Array.getElem_range]
    rcases Nat.mod_two_eq_zero_or_one i with h | h
    · simp [h]
    · simp [h]
/-- A row that is frozen. -/
theorem froz_sle {g : G} {b : Nat} {cur : List Wd} (h : MutB g b 41 (wc cur)) (hc : cur.length ≤ maxLen) : SlE wordE (g.froz b) (some ⟨b, 0, none⟩) cur.length cur.length cur := by
  refine ⟨⟨wc cur, ⟨wc_len cur, Nat.le_refl _, hc, fun hh => (by cases hh), ?_⟩, wc_rws _ cur⟩, rfl⟩
  rintro ad rfl2 i v hi
  cases rfl2
  have hb : (Addr.add ⟨b, 0, none⟩ i).block = b := add_block _ _
  refine ⟨h.rd hi, ?_, ?_⟩
  · rw [hb]; exact h.nx
  · rintro ⟨_, hh⟩
    exact hh hb
/-- A slice that is longer than the frozen row lies elsewhere. -/
theorem SlE.thaw {g1 g' : G} {b : Nat} {cur xs : List Wd} {a : Option Addr} {n c : Nat} (h : SlE wordE g1 a n c xs) (m : Ex g1 (g'.froz b)) (hm : MutB g' b 41 (wc cur)) (hlt : cur.length < n) : SlE wordE g' a n c xs := by
  have h2 := h.exm m
  obtain ⟨L, hs, hr⟩ := h2.ex
  have hrr : Rws wordE g' L xs := by
    obtain ⟨rs, e, hall⟩ := hr.ex
    exact ⟨rs, e, hall.imp fun _ _ hh => hh⟩
  refine ⟨⟨L, ⟨hs.len, hs.le, hs.cap, hs.nil, ?_⟩, hrr⟩, h.len⟩
  intro ad ha i v hi
  obtain ⟨q1, q2, q3⟩ := hs.at_ ad ha i v hi
  have hne : ad.block ≠ b := by
    intro hb
    have hL : L.length = n * 2 := hs.len
    have hlast : L[n * 2 - 1]? = some (L[n * 2 - 1]'(by omega)) := List.getElem?_eq_getElem (by omega)
    obtain ⟨p1, _⟩ := hs.at_ ad ha _ _ hlast
    have p1 : g'.w.cell? (ad.add (n * 2 - 1)) = _ := p1
    have hadd : Addr.add ad (n * 2 - 1) = ⟨ad.block, ad.off + (n * 2 - 1), none⟩ ∨ (Addr.add ad (n * 2 - 1)).block = b ∧ 2 * n - 1 ≤ (Addr.add ad (n * 2 - 1)).off := by
      right
      refine ⟨by rw [add_block, hb], ?_⟩
      unfold Addr.add
      split
      · omega
      · simp only; omega
    have hadd : (Addr.add ad (n * 2 - 1)).block = b ∧ 2 * n - 1 ≤ (Addr.add ad (n * 2 - 1)).off := by
      refine ⟨by rw [add_block, hb], ?_⟩
      unfold Addr.add
      split
      · omega
      · simp only; omega
    have hblk : g'.w.heap[b]? = _ := hm.blk
    unfold World.cell? at p1
    rw [hadd.1, hblk] at p1
    simp only at p1
    split at p1
    · cases p1
    · have hl := wc_len cur
      have : (wc cur)[(Addr.add ad (n * 2 - 1)).off]? = none := List.getElem?_eq_none (by omega)
      simp [this] at p1
  refine ⟨q1, q2, fun hh => q3 ⟨hh, ?_⟩⟩
  rw [add_block]
  exact hne

/-- Rows of words, as elements. -/
def wordsE : El (List Wd) where
  m := 1
  rep g r s := ∃ a n c, r = [.slice a n c] ∧ SlE wordE g a n c s
  len := by rintro g r s ⟨a, n, c, rfl, _⟩; rfl
  mono := by rintro g g' r s k ⟨a, n, c, rfl, h⟩; exact ⟨a, n, c, rfl, h.mono k⟩
  one := by
    rintro g r s ⟨a, n, c, rfl, h⟩ u hu
    simp only [List.mem_cons, List.not_mem_nil, or_false] at hu
    subst hu
    rfl
theorem E67 : Elem Try.prog 67 22 1 24 := ⟨Try.underlying67, by kernel_rfl⟩
theorem zero41 : ∀ (i : TypeInfo) (z : Value), Try.prog.info? 41 = some i → i.zero = some z → z.cells = ⟨[.bool false, .int .i64 0]⟩ := by
  intro i z hi hz
  have e : (Try.prog.info? 41).bind (fun i => i.zero.map Value.cells) = some ⟨[.bool false, .int .i64 0]⟩ := by kernel_rfl
  rw [hi] at e
  simp only [Option.bind_some, hz, Option.map_some] at e
  exact Option.some.inj e
end Go.Proofs.Ytcpclpkcanikiaa
