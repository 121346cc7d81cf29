/- whole: what its deferred function does. -/
import Derived.Test.YtfmjipgcbecamaaDoorC44A
import Derived.Tactics
import Derived.Tactics2
import Derived.Defers
import Derived.Recover
set_option linter.unusedVariables false
namespace Go.Proofs.YtfmjipgcbecamaaDoor
open Go Go.Vc Go.RowKit Go.Syn Go.Lam Go.Sort

set_option linter.unusedSimpArgs false
theorem assert77 (w : World) : (Instr.typeAssert (.iface 77 (.agg { toList := [] })) 20 77 true).run Tryd.prog w = .ok (.tuple #[.agg { toList := [] }, .bool true]) w := by kernel_rfl
/-- A variable of type Value, set to zero. -/
def zeroV (b : Nat) (w : World) : World := ((((w.setCell ⟨b, 0, none⟩ (.int .i64 0)).setCell ⟨b, 1, none⟩ (.int .i64 0)).setCell ⟨b, 2, none⟩ (.string ⟨#[]⟩)).setCell ⟨b, 3, none⟩ (.slice none 0 0)).setCell ⟨b, 4, none⟩ (.slice none 0 0)
set_option maxRecDepth 20000 in
theorem catch_panicking (b : Nat) (older : List PanicEntry) (w : World) (L : List Value) (hL : L.length = 5) (hb : Blk w b 30 L) :
    CallsD Tryd.prog 46 #[.pointer (some ⟨b, 0, none⟩)] (.panicking ({ v := .iface 77 (.agg ⟨[]⟩), recovered := false } :: older)) w fun e u' w' =>
      e = .returned (.tuple #[]) ∧ u' = .panicking ({ v := .iface 77 (.agg ⟨[]⟩), recovered := true } :: older) ∧ w' = zeroV b (w.alloc (.cells #[] 77)) := by
  refine callsD_of_wpS Tryd.func46 rfl fun c₀ cs hu => ?_
  apply wpS_seq
  apply wpS_region
  simp [wpOpsS, go_sem, recoverD, hu, Tryd.ntmps46, Exit.thenS]
  apply wpS_seq
  apply wpS_region
  simp [wpOpsS, go_sem, recoverD, hu, Tryd.ntmps46, Exit.thenS]
  refine wpS_cond (t := true) (by simp [Act.eval, Array.replicate]) ?_
  simp only [if_true]
  apply wpS_seq
  apply wpS_seq
  apply wpS_region
  simp [wpOpsS, go_sem, recoverD, hu, Tryd.ntmps46, Exit.thenS, assert77]
  apply wpS_seq
  apply wpS_region
  simp [wpOpsS, go_sem, recoverD, hu, Tryd.ntmps46, Exit.thenS]
  refine wpS_cond (t := false) (by simp [Act.eval, Array.replicate]) ?_
  simp only [Bool.false_eq_true, if_false]
  refine wpS_of_wp (wp_skip ?_)
  apply wpS_region
  have hb1 : Blk (w.alloc (.cells #[] 77)) b 30 L := hb.alloc _
  have hcell : ∀ i, i < 5 → ∃ v, (w.alloc (.cells #[] 77)).cell? ⟨b, i, none⟩ = some v := fun i hi => by
    rw [hb1.cell]; exact ⟨_, List.getElem?_eq_getElem (by omega)⟩
  have hfr := hb1.frozen
  obtain ⟨v0, c0⟩ := hcell 0 (by omega)
  obtain ⟨v1, c1⟩ := hcell 1 (by omega)
  obtain ⟨v2, c2⟩ := hcell 2 (by omega)
  obtain ⟨v3, c3⟩ := hcell 3 (by omega)
  obtain ⟨v4, c4⟩ := hcell 4 (by omega)
  simp [wpOpsS, go_sem, bodyPostS, results, Tryd.results46, c0, c1, c2, c3, c4, hfr, World.cell?_setCell_other, zeroV]
set_option maxRecDepth 20000 in
theorem catch_idle (p : Addr) (w : World) :
    CallsD Tryd.prog 46 #[.pointer (some p)] .returning w fun e u' w' => e = .returned (.tuple #[]) ∧ u' = .returning ∧ w' = w := by
  refine callsD_of_wpS Tryd.func46 rfl fun c₀ cs hu => ?_
  apply wpS_seq
  apply wpS_region
  simp [wpOpsS, go_sem, recoverD, hu, Tryd.ntmps46, Exit.thenS]
  apply wpS_seq
  apply wpS_region
  simp [wpOpsS, go_sem, recoverD, hu, Tryd.ntmps46, Exit.thenS]
  refine wpS_cond (t := false) (by simp [Act.eval, Array.replicate]) ?_
  simp only [Bool.false_eq_true, if_false]
  refine wpS_of_wp (wp_skip ?_)
  cases c₀
  simp only at hu
  subst hu
  show _ ∧ _
  refine ⟨rfl, .returning, rfl, .tuple #[], ?_, rfl, rfl, rfl⟩
  simp [results, Tryd.results46]
def setV (b : Nat) (a0 a1 a2 a3 a4 : Value) (w : World) : World := ((((w.setCell ⟨b, 0, none⟩ a0).setCell ⟨b, 1, none⟩ a1).setCell ⟨b, 2, none⟩ a2).setCell ⟨b, 3, none⟩ a3).setCell ⟨b, 4, none⟩ a4
abbrev zeroA : Value := .agg ⟨[.int .i64 0, .int .i64 0, .string ⟨#[]⟩, .slice none 0 0, .slice none 0 0]⟩
def okV (b : Nat) (w : World) : Prop := ∃ L, L.length = 5 ∧ Blk w b 30 L
/-- The world when run is called. -/
abbrev W3 (x0 x1 : Int) (x2 : ByteArray) (xa : Option Addr) (xn xc : Nat) (w : World) : World :=
  ((w.alloc (.cells ⟨[.int .i64 x0, .int .i64 x1, .string x2, .slice xa xn xc]⟩ 24)).alloc (.cells ⟨[.int .i64 0, .int .i64 0, .string ⟨#[]⟩, .slice none 0 0, .slice none 0 0]⟩ 30)).alloc (.cells ⟨[.int .i64 20000]⟩ 3)
theorem setV_stL (b : Nat) (a0 a1 a2 a3 a4 : Value) (w : World) : setV b a0 a1 a2 a3 a4 w = stL ⟨b, 0, none⟩ 0 [a0, a1, a2, a3, a4] w := by
  simp [setV, stL, add_zero_row]
theorem setV_blk {b : Nat} {L : List Value} (hL : L.length = 5) {w : World} (h : Blk w b 30 L) (a0 a1 a2 a3 a4 : Value) : Blk (setV b a0 a1 a2 a3 a4 w) b 30 [a0, a1, a2, a3, a4] := by
  rw [setV_stL]
  have := blk_stL (w := w) 0 [a0, a1, a2, a3, a4] 0 L h
  obtain ⟨v0, v1, v2, v3, v4, rfl⟩ : ∃ v0 v1 v2 v3 v4, L = [v0, v1, v2, v3, v4] := by
    match L, hL with
    | [a, b, c, d, e], _ => exact ⟨a, b, c, d, e, rfl⟩
  exact this
set_option maxRecDepth 20000 in
theorem res34 {W : World} {tmps : Array Value} {b : Nat} (ht : tmps.getD 4 undef = .pointer (some ⟨b, 0, none⟩)) {v0 v1 v2 v3 v4 : Value} (h : Blk W b 30 [v0, v1, v2, v3, v4]) : (results Tryd.f34 tmps).run Tryd.prog W = .ok (.agg ⟨[v0, v1, v2, v3, v4]⟩) W := by
  have c0 : W.cell? ⟨b, 0, none⟩ = some v0 := h.cell 0
  have c1 : W.cell? ⟨b, 1, none⟩ = some v1 := h.cell 1
  have c2 : W.cell? ⟨b, 2, none⟩ = some v2 := h.cell 2
  have c3 : W.cell? ⟨b, 3, none⟩ = some v3 := h.cell 3
  have c4 : W.cell? ⟨b, 4, none⟩ = some v4 := h.cell 4
  have ht' : tmps[4]?.getD undef = .pointer (some ⟨b, 0, none⟩) := by simpa using ht
  simp [results, Tryd.results34, ht', go_sem, c0, c1, c2, c3, c4]
set_option maxRecDepth 20000 in
theorem whole_calls (m : Addr) (x0 x1 : Int) (x2 : ByteArray) (xa : Option Addr) (xn xc : Nat) (w : World) (R : Ending → World → Prop)
   (hC : Calls Tryd.prog 48 #[.pointer (some m), .agg ⟨[.int .i64 x0, .int .i64 x1, .string x2, .slice xa xn xc]⟩, .pointer none] (W3 x0 x1 x2 xa xn xc w) fun e w1 =>
     (∃ p, e = .returned (.pointer p) ∧ Calls Tryd.prog 47 #[.pointer (some m), .pointer p, .pointer (some ⟨w.heap.size + 1 + 1, 0, none⟩), .int .i64 1] w1 fun e w2 =>
       (∃ y0 y1 y2 na nn nc a n c, e = .returned (.agg ⟨[.int .i64 y0, .int .i64 y1, .string y2, .slice na nn nc, .slice a n c]⟩) ∧ okV (w.heap.size + 1) w2 ∧ R (.returned (.agg ⟨[.int .i64 y0, .int .i64 y1, .string y2, .slice na nn nc, .slice a n c]⟩)) (setV (w.heap.size + 1) (.int .i64 y0) (.int .i64 y1) (.string y2) (.slice na nn nc) (.slice a n c) w2)) ∨
       (e = .panicked endedC ∧ okV (w.heap.size + 1) w2 ∧ R (.returned zeroA) (zeroV (w.heap.size + 1) (w2.alloc (.cells #[] 77))))) ∨
     (e = .panicked endedC ∧ okV (w.heap.size + 1) w1 ∧ R (.returned zeroA) (zeroV (w.heap.size + 1) (w1.alloc (.cells #[] 77))))) :
    Calls Tryd.prog 34 #[.pointer (some m), .agg ⟨[.int .i64 x0, .int .i64 x1, .string x2, .slice xa xn xc]⟩] w R := by
  have hmf : ∀ (fn : Fn) (first cap : Array Value) (w : World), (Instr.makeFunc fn first cap).run Tryd.prog w = .ok (.func fn first cap) w := fun _ _ _ _ => rfl
  have bad : ∀ w1, okV (w.heap.size + 1) w1 → R (.returned zeroA) (zeroV (w.heap.size + 1) (w1.alloc (.cells #[] 77))) → ∀ tmps : Array Value, tmps.getD 4 undef = .pointer (some ⟨w.heap.size + 1, 0, none⟩) →
      Leaves Tryd.prog Tryd.f34 tmps R [{ target := .fn (.func 46) #[.pointer (some ⟨w.heap.size + 1, 0, none⟩)], args := #[] }] (.panicking endedC) w1 := by
    rintro w1 ⟨L, hL, hb⟩ hR tmps ht
    refine leaves_cons (f := 46) (args := #[.pointer (some ⟨w.heap.size + 1, 0, none⟩)]) (by simp) (by simp [go_sem]) ?_
    refine (catch_panicking (w.heap.size + 1) [] w1 L hL hb).mono ?_
    rintro e u' w'' ⟨rfl, rfl, rfl⟩
    exact ⟨_, res34 ht (setV_blk hL (hb.alloc _) _ _ _ _ _), hR⟩
  go_enter_defers Tryd.func34, Tryd.ntmps34
  go_wp2_with (fail)
  refine Calls.mono hC ?_
  rintro e w' (⟨p, rfl, hC2⟩ | ⟨rfl, hok, hR⟩)
  · dsimp only
    go_at_K
    go_wp2_with (fail)
    refine Calls.mono hC2 ?_
    rintro e w' (⟨y0, y1, y2, na, nn, nc, a, n, c, rfl, ⟨L, hL, hb⟩, hR⟩ | ⟨rfl, hok, hR⟩)
    · dsimp only
      go_at_K
      have hfr := hb.frozen
      have hcell : ∀ i, i < 5 → ∃ v, w'.cell? ⟨w.heap.size + 1, i, none⟩ = some v := fun i hi => by
        rw [hb.cell]; exact ⟨_, List.getElem?_eq_getElem (by omega)⟩
      obtain ⟨v0, c0⟩ := hcell 0 (by omega)
      obtain ⟨v1, c1⟩ := hcell 1 (by omega)
      obtain ⟨v2, c2⟩ := hcell 2 (by omega)
      obtain ⟨v3, c3⟩ := hcell 3 (by omega)
      obtain ⟨v4, c4⟩ := hcell 4 (by omega)
      go_wp2_with (fail)
      refine leaves_cons (f := 46) (args := #[.pointer (some ⟨w.heap.size + 1, 0, none⟩)]) (by simp) (by simp [go_sem]) ?_
      refine (catch_idle _ _).mono ?_
      rintro e u' w'' ⟨rfl, rfl, rfl⟩
      exact ⟨_, res34 rfl (setV_blk hL hb _ _ _ _ _), hR⟩
    · exact bad _ hok hR _ rfl
  · exact bad _ hok hR _ rfl
end Go.Proofs.YtfmjipgcbecamaaDoor
