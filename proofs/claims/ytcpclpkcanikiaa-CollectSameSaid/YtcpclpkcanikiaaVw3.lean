/- Slices: the values that a slice shows; rows cut and copied. -/
import Derived.Test.YtcpclpkcanikiaaVw2
import Derived.Laws.IdiomCopy
import Derived.Laws.IdiomStrings
import Derived.Lib.UnsafeStr
set_option linter.unusedVariables false
namespace Go.Vc
open Go Go.RowKit

theorem addr_add_add (a : Addr) (i j : Nat) : (a.add i).add j = a.add (i + j) := by
  unfold Addr.add
  split
  · rename_i h; subst h
    split
    · rename_i h; subst h; simp
    · split
      · omega
      · simp_all
  · split
    · simp_all
    · split
      · omega
      · rename_i h; simp only [Addr.mk.injEq, true_and, and_true]; omega

theorem cellsOn.below {w w' : World} {a : Addr} {L : List Value} (h : cellsOn w a L) {B : Nat} (hw : Below B w w') (hB : w.heap.size ≤ B) : cellsOn w' a L := by
  intro i v hi
  have h1 := h i v hi
  rw [hw.cell (p := a.add i) (Nat.lt_of_lt_of_le (World.block_lt_of_cell? w _ h1) hB)]
  exact h1

theorem cellsOn.drop {w : World} {a : Addr} {L : List Value} (h : cellsOn w a L) (d : Nat) : cellsOn w (a.add d) (L.drop d) := by
  intro i v hi
  rw [addr_add_add]
  exact h (d + i) v (by rw [← hi, List.getElem?_drop])

theorem cellsOn.take {w : World} {a : Addr} {L : List Value} (h : cellsOn w a L) (d : Nat) : cellsOn w a (L.take d) := by
  intro i v hi
  rw [List.getElem?_take] at hi
  split at hi
  · exact h i v hi
  · simp at hi

/-- The n cells of a slice at an address (or none) show these values. -/
def SlV (w : World) (a : Option Addr) (n : Nat) (L : List Value) : Prop := L.length = n ∧ (n = 0 ∨ ∃ ad, a = some ad ∧ cellsOn w ad L)

namespace SlV
variable {w w' : World} {a : Option Addr} {n : Nat} {L : List Value}

theorem below (h : SlV w a n L) {B : Nat} (hw : Below B w w') (hB : w.heap.size ≤ B) : SlV w' a n L := by
  refine ⟨h.1, ?_⟩
  rcases h.2 with h0 | ⟨ad, rfl, hc⟩
  · exact Or.inl h0
  · exact Or.inr ⟨ad, rfl, hc.below hw hB⟩

theorem dropS (h : SlV w a n L) {d c : Nat} (hd : d ≤ n) (hc : n ≤ c) : SlV w (slAddr a c d 1) (n - d) (L.drop d) := by
  refine ⟨by rw [List.length_drop, h.1], ?_⟩
  rcases h.2 with h0 | ⟨ad, rfl, hcell⟩
  · exact Or.inl (by omega)
  · by_cases hn : n - d = 0
    · exact Or.inl hn
    · refine Or.inr ⟨ad.add d, ?_, hcell.drop d⟩
      unfold slAddr
      rw [if_neg (by omega)]
      simp

theorem takeS (h : SlV w a n L) {d : Nat} (hd : d ≤ n) : SlV w a d (L.take d) := by
  refine ⟨by rw [List.length_take, h.1]; omega, ?_⟩
  rcases h.2 with h0 | ⟨ad, rfl, hcell⟩
  · exact Or.inl (by omega)
  · exact Or.inr ⟨ad, rfl, hcell.take d⟩

theorem nil (w : World) (a : Option Addr) : SlV w a 0 [] := ⟨rfl, Or.inl rfl⟩

theorem on (h : SlV w a n L) (hn : 0 < n) : ∃ ad, a = some ad ∧ cellsOn w ad L := by
  rcases h.2 with h0 | h
  · omega
  · exact h

end SlV

theorem slAddr_zero (a : Option Addr) (m : Nat) : slAddr a m 0 1 = a := by
  unfold slAddr
  split
  · rfl
  · cases a <;> simp [Addr.add]

theorem setCells_stL (b : Nat) : ∀ (L : List Value) (o : Nat) (w : World), w.setCells b o L = stL ⟨b, 0, none⟩ o L w
  | [], _, _ => rfl
  | v :: r, o, w => by rw [World.setCells, stL, add_zero_row, setCells_stL b r (o + 1)]

/-- A copy into the beginning of a row. -/
theorem copy_row {P : Program} {w : World} {dT sT ty elem t : TypeId} {b dLen dCap : Nat} {a : Option Addr} {sLen sCap : Nat} {L D : List Value}
    (hu : P.underlying dT = some (.slice elem)) (hs : (P.info? elem).map (·.size) = some 1) (hS : SlV w a sLen L) (hD : Blk w b t D) (hd : D.length = dLen) (hl : sLen ≤ dLen) (h1 : ∀ v ∈ L, v.oneCell' = true) :
    ∃ w', (Builtin.copy_ #[dT, sT] ty #[.slice (some ⟨b, 0, none⟩) dLen dCap, .slice a sLen sCap]).run P w = .ok (.int .i64 (sLen : Nat)) w' ∧ w' = stL ⟨b, 0, none⟩ 0 L w ∧ Blk w' b t (L ++ D.drop sLen) := by
  rcases hS.2 with h0 | ⟨ad, rfl, hc⟩
  · subst h0
    have : L = [] := List.eq_nil_of_length_eq_zero hS.1
    subst this
    exact ⟨w, run_copy_none w dT sT ty elem _ a dLen dCap 0 sCap hu hs (by simp), rfl, by simpa using hD⟩
  · have hmin : L.length = Nat.min sLen dLen := by rw [hS.1]; exact (Nat.min_eq_left hl).symm
    have hr := run_copy_cells (P := P) w dT sT ty elem b 0 dLen dCap ad sLen sCap L hu hs hmin hc
      (fun j hj => by rw [Nat.zero_add, hD.cell, List.getElem?_eq_getElem (by rw [hd]; rw [hS.1] at hj; omega)]; rfl)
      (fun j hj => by rw [hD.frozen]) h1
    rw [setCells_stL] at hr
    have hl' : L.length = sLen := hS.1
    refine ⟨_, ?_, rfl, ?_⟩
    · rw [hr]
      show Result.ok (Value.int .i64 ((L.length : Nat) : Int)) _ = _
      rw [hl']
    · have := hD.stLR L 0 D (by rw [hl']; omega)
      simpa [hl'] using this

/-- The bytes of a string as numbers. -/
def nums (l : List UInt8) : List Int := l.map fun b => ((b.toNat : Nat) : Int)
@[simp] theorem nums_length (l : List UInt8) : (nums l).length = l.length := by simp [nums]
theorem vs_nums (l : List UInt8) : vs .u8 (nums l) = Lib.byteCells l := by simp [vs, nums, Lib.byteCells]

/-- []byte of a string: a new row of its own. -/
theorem bytes_of {P : Program} {w : World} {src dst e : TypeId} {s : ByteArray} (hs : P.underlying src = some .string) (hd : P.underlying dst = some (.slice e)) (he : P.underlying e = some (.int .u8)) :
    ∃ a c w', (convert src dst (.string s)).run P w = .ok (.slice a s.size c) w' ∧ SlV w' a s.size (vs .u8 (nums s.data.toList)) ∧ s.size ≤ c ∧ Below w.heap.size w w' := by
  refine ⟨_, _, _, run_bytes_of_string w src dst e s hs hd he, ?_, grownCap_ge _ _ _ _, ?_⟩
  · refine ⟨by simp, Or.inr ⟨_, rfl, ?_⟩⟩
    intro i v hi
    rw [add_zero_row]
    have hlt : i < s.data.size := by
      have := (List.getElem?_eq_some_iff.1 hi).1
      simpa using this
    have hv : v = .int .u8 ((s.data[i].toNat : Nat) : Int) := by
      rw [vs_nums] at hi
      simp only [Lib.byteCells, List.getElem?_map] at hi
      rw [List.getElem?_eq_getElem (by simpa using hlt)] at hi
      simp at hi
      exact hi.symm
    subst hv
    have hb := bytesRow_at s (grownCap w s.size 0 e) i hlt
    generalize bytesRow s (grownCap w s.size 0 e) = C at *
    unfold World.cell?
    show (match (w.heap.push (.cells C e (C.size, C.size + 1)))[w.heap.size]? with | some (.cells c _ _) => _ | _ => _) = _
    simp [hb]
  · exact (Below.refl _ _).drew.alloc (by simp) _

end Go.Vc
