/- The builder of strings: its check of copies, and the writing of a byte. -/
import Derived.Test.YtmkcffflebdheaaDoorVw1
import Derived.Test.YtmkcffflebdheaaDoorShelf39
import Derived.Test.YtmkcffflebdheaaDoorFm39
set_option linter.unusedVariables false
namespace Go.Proofs.YtmkcffflebdheaaDoor
open Go Go.Vc Go.RowKit

set_option maxHeartbeats 1000000 in
set_option maxRecDepth 100000 in
/-- copyCheck at a builder that has been used: nothing turns. -/
theorem copyCheck_used (b : Nat) (w : World) (h0 : w.cell? ⟨b, 0, none⟩ = some (.pointer (some ⟨b, 0, none⟩))) :
    Calls Tryd.prog 35 #[.pointer (some ⟨b, 0, none⟩)] w fun e w' => e = .returned (.tuple #[]) ∧ w' = w := by
  obtain ⟨j, hj, _⟩ := Option.map_eq_some_iff.1 Tryd.Builder_Extra_169.sizeBuilder
  replace hj : Tryd.prog.info? 53 = some j := hj
  have mixed : Tryd.prog.follows .mixedOrders = true := mixed
  have t72 := Tryd.underlying53; have a72 := Tryd.isAgg53; have z72 := Tryd.sizeOf53; have v72 := Tryd.zeroValue53; have u72 := run_underlying Tryd.underlying53
  have t70 := Tryd.underlying51; have a70 := Tryd.isAgg51; have z70 := Tryd.sizeOf51; have v70 := Tryd.zeroValue51; have u70 := run_underlying Tryd.underlying51
  have t4 := Tryd.underlying4; have a4 := Tryd.isAgg4; have z4 := Tryd.sizeOf4; have v4 := Tryd.zeroValue4; have u4 := run_underlying Tryd.underlying4
  have t164 := Tryd.underlying66; have a164 := Tryd.isAgg66; have z164 := Tryd.sizeOf66; have v164 := Tryd.zeroValue66; have u164 := run_underlying Tryd.underlying66
  go_enter Tryd.func35, Tryd.ntmps35
  go_wp2
  rw [Lib.run_neq_ptr_same w _ Tryd.underlying51 hj]
  go_wp2
  go_end0
  exact ⟨rfl, rfl⟩

set_option maxHeartbeats 1000000 in
set_option maxRecDepth 100000 in
/-- copyCheck at a fresh builder: it stores its own address. -/
theorem copyCheck_fresh (b : Nat) (w : World) (h0 : w.cell? ⟨b, 0, none⟩ = some (.pointer none)) (hsh : w.shape? b = some (53, 2)) (hfz : w.frozen? ⟨b, 0, none⟩ = false) :
    Calls Tryd.prog 35 #[.pointer (some ⟨b, 0, none⟩)] w fun e w' => e = .returned (.tuple #[]) ∧ w' = w.setCell ⟨b, 0, none⟩ (.pointer (some ⟨b, 0, none⟩)) := by
  obtain ⟨j, hj, hjs⟩ := Option.map_eq_some_iff.1 Tryd.Builder_Extra_169.sizeBuilder
  replace hj : Tryd.prog.info? 53 = some j := hj
  have mixed : Tryd.prog.follows .mixedOrders = true := mixed
  have t72 := Tryd.underlying53; have a72 := Tryd.isAgg53; have z72 := Tryd.sizeOf53; have v72 := Tryd.zeroValue53; have u72 := run_underlying Tryd.underlying53
  have t70 := Tryd.underlying51; have a70 := Tryd.isAgg51; have z70 := Tryd.sizeOf51; have v70 := Tryd.zeroValue51; have u70 := run_underlying Tryd.underlying51
  have t4 := Tryd.underlying4; have a4 := Tryd.isAgg4; have z4 := Tryd.sizeOf4; have v4 := Tryd.zeroValue4; have u4 := run_underlying Tryd.underlying4
  have t164 := Tryd.underlying66; have a164 := Tryd.isAgg66; have z164 := Tryd.sizeOf66; have v164 := Tryd.zeroValue66; have u164 := run_underlying Tryd.underlying66
  go_enter Tryd.func35, Tryd.ntmps35
  go_wp2
  rw [Lib.run_to_unsafe w ⟨b, 0, none⟩ Tryd.underlying51 Tryd.underlying66 hj (by rw [hjs]; decide) hsh (Nat.zero_lt_succ 1)]
  simp only [Result.andThen]
  rw [Oper.upon_value]
  go_wp2
  rw [run_callFunc_extern Tryd.func38 (by kernel_rfl) (by kernel_rfl) (by kernel_rfl) (e := Extern.AbiNoEscape.same) (by kernel_rfl)]
  rw [Lib.run_noEscape]
  simp only [Result.andThen]
  rw [Oper.upon_value]
  go_wp2
  rw [Lib.run_from_unsafe w ⟨b, 0, none⟩ Tryd.underlying66 Tryd.underlying51 hj hsh Tryd.Builder_Extra_169.liesBuilder]
  simp only [Result.andThen]
  rw [Oper.upon_value]
  go_wp2
  go_end0
  exact ⟨rfl, rfl⟩

theorem copyCheck (B b : Nat) (bs : List Value) (w : World) (h : Lib.IsBuilder 53 5 B b bs w) :
    Calls Tryd.prog 35 #[.pointer (some ⟨b, 0, none⟩)] w fun e w' => e = .returned (.tuple #[]) ∧ (Lib.BuilderAt 53 5 B b (.pointer (some ⟨b, 0, none⟩)) bs w' ∧ Below B w w') := by
  rcases h with h | h
  · refine (copyCheck_fresh b w h.cell0 h.shape h.frozen0).mono ?_
    rintro e w' ⟨rfl, rfl⟩
    exact ⟨rfl, h.used _, (Below.refl B w).setCell (p := ⟨b, 0, none⟩) h.1 _⟩
  · refine (copyCheck_used b w h.cell0).mono ?_
    rintro e w' ⟨rfl, rfl⟩
    exact ⟨rfl, h, Below.refl B _⟩

theorem writeByte (B b : Nat) (l : List Value) (c : Int) (w : World) (h : Lib.IsBuilder 53 5 B b l w) (hB : B ≤ w.heap.size) (hl : l.length < 140737488355328) :
    Calls Tryd.prog 25 #[.pointer (some ⟨b, 0, none⟩), .int .u8 c] w fun e w' => e = .returned .nilIface ∧ Lib.IsBuilder 53 5 B b (l ++ [.int .u8 c]) w' ∧ Below B w w' := by
  refine (call25 (some ⟨b, 0, none⟩) c w (fun v w' => v = .nilIface ∧ Lib.IsBuilder 53 5 B b (l ++ [.int .u8 c]) w' ∧ Below B w w') ?_).mono ?_
  · unfold F25
    refine (copyCheck B b l w h).mono ?_
    rintro e w1 ⟨rfl, ⟨hBb, v, hbk, hown, hne⟩, hb1⟩
    refine ⟨rfl, ?_⟩
    obtain ⟨i0, hi, hz0, hz1, hz2⟩ := info_parts (show (Tryd.prog.info? 5).map (fun i => (i.zero, i.size, i.bytes)) = some (some (.int .u8 0), 1, 1) by kernel_rfl)
    have hlt : b < w1.heap.size := by
      rcases Nat.lt_or_ge b w1.heap.size with h' | h'
      · exact h'
      · simp [Array.getElem?_eq_none h'] at hbk
    have hB1 : B ≤ w1.heap.size := by have := hb1.size; omega
    obtain ⟨ao, n, cap, rfl⟩ : ∃ ao n cap, v = .slice ao n cap := by
      rcases hown.2 with ⟨hv, _⟩ | ⟨g, cap, cur, hv, _⟩
      · exact ⟨_, _, _, hv⟩
      · exact ⟨_, _, _, hv⟩
    show ∃ xa : Option Addr, _
    refine ⟨ao, n, cap, ?_, ?_⟩
    · rw [add_zero_row, Lib.cell_of_heap hbk]; rfl
    rintro w2 rfl
    have hbk2 : (w1.alloc (.cells ⟨[(.int .u8 c)]⟩ 5)).heap[b]? = some (.cells #[.pointer (some ⟨b, 0, none⟩), .slice ao n cap] 53 (0, 0)) := by
      rw [Below.heap_alloc _ _ _ hlt]; exact hbk
    have hown2 : (w1.alloc (.cells ⟨[(.int .u8 c)]⟩ 5)).ownsRow B 5 1 (.slice ao n cap) l.length l :=
      hown.kept (row := some b) ⟨rfl, rfl, rfl, by simp, fun k hk _ => Below.heap_alloc _ _ _ hk⟩ (Or.inr hne)
    obtain ⟨v', w3, hrun, hown3, hgrow, _⟩ := run_append_own (w1.alloc (.cells ⟨[(.int .u8 c)]⟩ 5)) B 22 22 5 i0 (.int .u8 0) 1 1 Tryd.underlying22 hi hz0 hz1 hz2 rfl (by decide) (.slice ao n cap) l.length l hown2
      ⟨w1.heap.size, 0, none⟩ 1 1 [.int .u8 c] rfl
      (by
        intro j u hj
        match j, hj with
        | 0, hj => rw [add_zero_row, World.cell?_alloc_new]; exact hj)
      (by intro u hu; simp at hu; subst hu; rfl) (by unfold maxLen; omega) (by omega) (by simp; omega)
    obtain ⟨ao', n', cap', rfl⟩ : ∃ ao n cap, v' = .slice ao n cap := by
      rcases hown3.2 with ⟨hv, _⟩ | ⟨g, cap, cur, hv, _⟩
      · exact ⟨_, _, _, hv⟩
      · exact ⟨_, _, _, hv⟩
    have hbk3 : w3.heap[b]? = some (.cells #[.pointer (some ⟨b, 0, none⟩), .slice ao n cap] 53 (0, 0)) := by
      rw [hgrow.block b (by simp; omega) (fun e => hne e.symm)]
      exact hbk2
    refine ⟨ao', n', cap', w3, hrun, ?_⟩
    show stOk1 w3 _ ∧ _
    refine ⟨⟨?_, ?_⟩, ?_⟩
    · rw [add_zero_row, Lib.cell_of_heap hbk3]; rfl
    · rw [add_zero_row]; exact Lib.frozen_of_heap hbk3 1
    rintro w4 rfl
    refine ⟨rfl, Or.inr ?_, ?_⟩
    · rw [add_zero_row]
      exact Lib.BuilderAt.put (T := 53) (e := 5) hBb hbk3 (bs' := l ++ [.int .u8 c]) (by simpa using hown3) (by decide)
    · rw [add_zero_row]
      exact ((hb1.alloc hB1 _).grown hgrow (by simp; omega) (fun k hk => (hown2.lt k hk).1)).setCell (p := ⟨b, 1, none⟩) hBb _
  · rintro e w' ⟨v, rfl, rfl, h1, h2⟩
    exact ⟨rfl, h1, h2⟩
end Go.Proofs.YtmkcffflebdheaaDoor
