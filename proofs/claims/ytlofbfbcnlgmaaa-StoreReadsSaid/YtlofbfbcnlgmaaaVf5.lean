/- A constant string's bytes: the row gets a mark behind its last cell. -/
import Derived.Test.YtlofbfbcnlgmaaaVf3
import Derived.Lib.SlBytesConst
set_option linter.unusedVariables false
namespace Go.Vc
open Go Go.RowKit

theorem frozen_row {w : World} {b : Nat} {C : Array Value} {e : TypeId} {fr : Nat × Nat} (h : w.heap[b]? = some (.cells C e fr)) (k : Nat) :
    ((w.freeze ⟨b, k, none⟩ 1).heap.size = w.heap.size) ∧ (∀ x, x ≠ b → (w.freeze ⟨b, k, none⟩ 1).heap[x]? = w.heap[x]?) ∧ (∃ fr', (w.freeze ⟨b, k, none⟩ 1).heap[b]? = some (.cells C e fr')) ∧
    (w.freeze ⟨b, k, none⟩ 1).os = w.os ∧ (w.freeze ⟨b, k, none⟩ 1).tape = w.tape ∧ (w.freeze ⟨b, k, none⟩ 1).output = w.output := by
  unfold World.freeze
  rw [if_neg (by decide)]
  refine ⟨by simp, fun x hx => ?_, ?_, rfl, rfl, rfl⟩
  · simp only [Array.getElem?_modify]
    rw [if_neg (fun hh => hx hh.symm)]
  · simp only [Array.getElem?_modify, if_true, h, Option.map_some]
    exact ⟨_, rfl⟩

theorem conv_bytes {P : Program} {g g' : G} {e : TypeId} {L : List Value} (h : NewL g g' e L) (t : TypeId) (n c : Nat) {B : Nat} (hB : B ≤ g.w.heap.size) (ht : P.underlying t = some (.slice e)) (he : P.underlying e = some (.int .u8)) (hl : L.length = n) (hn : n ≤ maxLen) :
    ∃ w1, (convert t t (.slice (some ⟨g.w.heap.size, 0, none⟩) n c)).run P g'.w = .ok (.slice (some ⟨g.w.heap.size, 0, none⟩) n c) w1 ∧
      ∃ g'', g''.w = w1 ∧ Stp B nobody g' g'' ∧ (n ≤ c → c ≤ maxLen → Sl g'' 1 (some ⟨g.w.heap.size, 0, none⟩) n c L) ∧ Ex g g'' := by
  obtain ⟨f1, f2, ⟨fr, f3⟩, f4, f5, f6⟩ := frozen_row h.blk (L.length)
  refine ⟨g'.w.freeze ⟨g.w.heap.size, L.length, none⟩ 1, ?_, ⟨g'.w.freeze ⟨g.w.heap.size, L.length, none⟩ 1, g'.X, g'.D, fun b hb => by rw [f1]; exact g'.hX b hb, fun b i hb => by rw [f1]; exact g'.hD b i hb⟩, rfl, ?_, ?_, ?_⟩
  · have hsh : g'.w.shape? g.w.heap.size = some (e, L.length) := by
      unfold World.shape?
      rw [h.blk]
      simp
    simp [convert, run_underlying ht, run_underlying he, markStringish, hsh]
  · have hc : ∀ a : Addr, (g'.w.freeze ⟨g.w.heap.size, L.length, none⟩ 1).cell? a = g'.w.cell? a := by
      intro a
      by_cases ha : a.block = g.w.heap.size
      · unfold World.cell?
        rw [ha, f3, h.blk]
      · exact cell_same (f2 _ ha)
    refine ⟨⟨Nat.le_of_eq f1.symm, ?_, ?_⟩, fun b => Iff.rfl, fun b hb => f2 b (fun e => h.nx (e ▸ hb)), f4, f5, f6, fun b hb _ => f2 b (by omega), fun b hb _ i => Iff.rfl⟩
    · rintro a v ⟨h1, h2, h3⟩
      exact ⟨(hc a).trans h1, h2, h3⟩
    · rintro b m k ⟨h1, h2, h3⟩
      refine ⟨(f2 b ?_).trans h1, h2, h3⟩
      rintro rfl
      rw [h.blk] at h1
      cases h1
  · intro hnc hcm
    refine ⟨by omega, hnc, hcm, fun h => (by cases h), ?_⟩
    rintro ad rfl2 i v hi
    cases rfl2
    rw [add_row, Nat.zero_add]
    refine ⟨?_, h.nx, h.d i⟩
    show (g'.w.freeze _ 1).cell? _ = _
    unfold World.cell?
    simp only
    rw [f3]
    simp only [Option.isSome_none, Bool.false_eq_true, if_false]
    simpa using hi
  · refine ⟨by show _ ≤ (g'.w.freeze _ 1).heap.size; rw [f1]; exact h.ex.size, h.ex.x, fun b hb hx => (f2 b (by omega)).trans (h.ex.same b hb hx), h.ex.d⟩
end Go.Vc
