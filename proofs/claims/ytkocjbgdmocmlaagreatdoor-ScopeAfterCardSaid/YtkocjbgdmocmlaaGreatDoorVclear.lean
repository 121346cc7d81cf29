/- clear, at the end of a row of one's own. -/
import Derived.Test.YtkocjbgdmocmlaaGreatDoorVrow
set_option linter.unusedVariables false
namespace Go.Vc
open Go Go.RowKit

theorem setsAt_len2 : ∀ (Z : List Value) (cs : List Value) (o : Nat), (setsAt cs o Z).length = cs.length
  | [], _, _ => rfl
  | v :: r, cs, o => by
    show (setsAt (cs.set o v) (o + 1) r).length = _
    rw [setsAt_len2 r, List.length_set]
theorem setsAt_take2 : ∀ (Z : List Value) (cs : List Value) (o k : Nat), k ≤ o → (setsAt cs o Z).take k = cs.take k
  | [], _, _, _, _ => rfl
  | v :: r, cs, o, k, h => by
    show (setsAt (cs.set o v) (o + 1) r).take k = _
    rw [setsAt_take2 r _ _ _ (by omega), List.take_set_of_le h]
/-- clear(s), of cells that are one's own. -/
theorem clear_row {P : Program} {t e : TypeId} {m bytes : Nat} (Et : Elem P t e m bytes) (ty : TypeId) {z : Value} (hz : ∀ w : World, (zeroValue e).run P w = .ok z w) (hzl : z.cells.size = m) (hz1 : ∀ u ∈ z.cells, u.oneCell' = true)
    {g : G} {b : Nat} {cur : List Value} (h : MutB g b e cur) (off n k : Nat) (hoff : 0 < n → off + n * m ≤ cur.length) (A : Option Addr) (hA : 0 < n → A = some (Addr.add ⟨b, 0, none⟩ off)) {B : Nat} {M : Nat → Prop} (hM : b < B → M b) :
    ∃ wo, (Builtin.clear_ #[t] ty #[.slice A n k]).run P g.w = .ok (.tuple #[]) wo ∧ ∃ g' cur', g'.w = wo ∧ Stp B M g g' ∧ But (fun x => x = b) g g' ∧ MutB g' b e cur' ∧ cur'.length = cur.length ∧ cur'.take off = cur.take off := by
  rcases Nat.eq_zero_or_pos n with rfl | hn
  · refine ⟨g.w, ?_, g, cur, rfl, Stp.refl _ _ _, (Ex.refl g).but _, h, rfl, rfl⟩
    cases A <;> simp [Builtin.clear_, run_underlying Et.und]
  · rw [hA hn]
    obtain ⟨Z, hZ⟩ : ∃ Z, Z = (Builtin.zeroCells z.cells n).toList := ⟨_, rfl⟩
    have hZl : Z.length = n * m := by rw [hZ]; simp [Builtin.zeroCells, hzl]
    have hZ1 : ∀ u ∈ Z, u.oneCell' = true := by
      intro u hu
      rw [hZ] at hu
      simp only [Builtin.zeroCells, Array.toList_map, List.mem_map, Array.mem_toList_iff, Array.mem_range] at hu
      obtain ⟨i, hi, rfl⟩ := hu
      rw [hzl] at hi ⊢
      have hm : 0 < m := by rcases Nat.eq_zero_or_pos m with rfl | h; · simp at hi
                            · exact h
      have hlt : i % m < z.cells.size := by rw [hzl]; exact Nat.mod_lt _ hm
      rw [getElem!_pos z.cells (i % m) hlt]
      exact hz1 _ (Array.getElem_mem hlt)
    have hok := h.ok (j := off) (n := Z.length) (by rw [hZl]; exact hoff hn)
    have hr : (storeCells (Addr.add ⟨b, 0, none⟩ off) Z).run P g.w = .ok () (stL (Addr.add ⟨b, 0, none⟩ off) 0 Z g.w) := stL_sound (fun j hj => by rw [Nat.zero_add]; exact hok j hj) hZ1
    obtain ⟨h1, h2⟩ := h.st (store_stG g false (Addr.add ⟨b, 0, none⟩ off) Z)
    refine ⟨stL (Addr.add ⟨b, 0, none⟩ off) 0 Z g.w, ?_, g.store false (Addr.add ⟨b, 0, none⟩ off) Z, _, rfl, store_stp (h.nxA off) (h.mutA off _) (fun hb => by rw [add_block] at hb ⊢; exact hM hb), h2, h1, setsAt_len2 _ _ _, setsAt_take2 _ _ _ _ (Nat.le_refl _)⟩
    rw [hZ] at hr
    obtain ⟨n', rfl⟩ : ∃ n', n = n' + 1 := ⟨n - 1, by omega⟩
    simp [Builtin.clear_, run_underlying Et.und, hz, hr, hZ]
end Go.Vc
