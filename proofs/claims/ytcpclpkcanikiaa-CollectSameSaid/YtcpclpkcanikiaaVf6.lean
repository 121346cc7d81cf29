/- Rows that are written in place: the ghost turns. -/
import Derived.Test.YtcpclpkcanikiaaVfa
import Derived.Test.YtcpclpkcanikiaaVbits
set_option linter.unusedVariables false
namespace Go.Vc
open Go Go.RowKit

/-- Block b's cells are mutable no more. -/
def G.froz (g : G) (b : Nat) : G := ⟨g.w, g.X, fun x i => g.D x i ∧ x ≠ b, g.hX, fun x i h => g.hD x i h.1⟩
theorem Ex.froz {g g' : G} (h : Ex g g') (b : Nat) : Ex (g.froz b) (g'.froz b) :=
  ⟨h.size, h.x, h.same, fun x hx hn i => ⟨fun k => ⟨(h.d x hx hn i).1 k.1, k.2⟩, fun k => ⟨(h.d x hx hn i).2 k.1, k.2⟩⟩⟩
theorem froz_le (g : G) (b : Nat) : Le g (g.froz b) := ⟨Nat.le_refl _, fun a v h => ⟨h.1, h.2.1, fun k => h.2.2 k.1⟩, fun x m n h => ⟨h.1, h.2.1, fun k => h.2.2 k.1⟩⟩
/-- A call at a frozen row. -/
theorem CallsP.thaw {P : Program} {k : FuncId} {args : Array Value} {g : G} {b : Nat} (hb : b < g.w.heap.size) {Q Q' : Value → G → Prop} (h : CallsP P k args (g.froz b) Q) (hQ : ∀ v g1 g', Q v g1 → Ex g g' → Ex g1 (g'.froz b) → Q' v g') : CallsP P k args g Q' := by
  refine Calls.mono h ?_
  rintro e w' ⟨v, g1, rfl, rfl, hs, hq⟩
  have hsz : g.w.heap.size ≤ g1.w.heap.size := hs.le.size
  let g' : G := ⟨g1.w, g1.X, fun x i => g1.D x i ∨ (x = b ∧ g.D b i), g1.hX, fun x i hh => by
    rcases hh with hh | ⟨rfl, hh⟩
    · exact g1.hD x i hh
    · exact Nat.lt_of_lt_of_le (g.hD x i hh) hsz⟩
  have hst : Stp g.size nobody g g' := by
    refine ⟨⟨hsz, ?_, ?_⟩, hs.x, hs.keepX, hs.os, hs.tape, hs.output, hs.same, ?_⟩
    · rintro a v ⟨h1, h2, h3⟩
      obtain ⟨k1, k2, k3⟩ := hs.le.cell a v ⟨h1, h2, fun k => h3 k.1⟩
      refine ⟨k1, k2, ?_⟩
      rintro (k | ⟨e, k⟩)
      · exact k3 k
      · exact h3 (by rw [e]; exact k)
    · rintro x m n ⟨h1, h2, h3⟩
      obtain ⟨k1, k2, k3⟩ := hs.le.obj x m n ⟨h1, h2, fun k => h3 k.1⟩
      refine ⟨k1, k2, ?_⟩
      rintro (k | ⟨e, k⟩)
      · exact k3 k
      · exact h3 (by rw [e]; exact k)
    · intro x hx hn i
      have := hs.d x hx hn i
      show (g1.D x i ∨ (x = b ∧ g.D b i)) ↔ _
      rw [this]
      show ((g.D x i ∧ x ≠ b) ∨ (x = b ∧ g.D b i)) ↔ _
      by_cases e : x = b
      · subst e; simp
      · simp [e]
  refine ⟨v, g', rfl, rfl, hst, hQ v g1 g' hq hst.ex ?_⟩
  refine ⟨Nat.le_refl _, fun x _ hx => hx, fun x _ _ => rfl, fun x hx hn i => ?_⟩
  show ((g1.D x i ∨ (x = b ∧ g.D b i)) ∧ x ≠ b) ↔ g1.D x i
  constructor
  · rintro ⟨k | ⟨e, _⟩, hne⟩
    · exact k
    · exact absurd e hne
  · intro k
    refine ⟨.inl k, ?_⟩
    rintro rfl
    exact ((hs.d x hb (fun h => h) i).1 k).2 rfl
/-- The ghost behind a call is chosen anew. -/
theorem CallsP.ghost {P : Program} {k : FuncId} {args : Array Value} {g : G} {Q Q' : Value → G → Prop} (h : CallsP P k args g Q) (hQ : ∀ v g1, Stp g.size nobody g g1 → Q v g1 → ∃ g', g'.w = g1.w ∧ Stp g.size nobody g g' ∧ Q' v g') : CallsP P k args g Q' := by
  refine Calls.mono h ?_
  rintro e w' ⟨v, g1, rfl, rfl, hs, hq⟩
  obtain ⟨g', e1, hs', hq'⟩ := hQ v g1 hs hq
  exact ⟨v, g', rfl, e1, hs', hq'⟩
/-- An own row is made mutable. -/
theorem own_melt {g g1 : G} (hs : Stp g.size nobody g g1) {e : TypeId} {m : Nat} {a : Option Addr} {l c : Nat} {L : List Value} (h : OwnG g1 g.size e m a l c L) (hl : 0 < l * m) :
    ∃ b cur g', a = some ⟨b, 0, none⟩ ∧ g'.w = g1.w ∧ Stp g.size nobody g g' ∧ MutB g' b e cur ∧ cur.take (l * m) = L ∧ cur.length = c * m ∧ l ≤ c ∧ c ≤ maxLen ∧ g.size ≤ b := by
  rcases h.row with ⟨_, h0, _⟩ | ⟨b, cur, rfl, hb, hheap, hlc, hcm, hcs, hcur, hx, _, _⟩
  · subst h0; omega
  refine ⟨b, cur.toList, ⟨g1.w, g1.X, fun x i => g1.D x i ∨ x = b, g1.hX, fun x i hh => ?_⟩, rfl, rfl, ?_, ⟨hheap, hx, fun i => .inr rfl⟩, hcur, by simpa using hcs, hlc, hcm, hb⟩
  · rcases hh with hh | rfl
    · exact g1.hD x i hh
    · exact heap_lt hheap
  · have hb' : g.w.heap.size ≤ b := hb
    refine ⟨⟨hs.le.size, ?_, ?_⟩, hs.x, hs.keepX, hs.os, hs.tape, hs.output, hs.same, ?_⟩
    · rintro a v hlv
      have hlt := cell_lt hlv.1
      obtain ⟨k1, k2, k3⟩ := hs.le.cell a v hlv
      refine ⟨k1, k2, ?_⟩
      rintro (k | e)
      · exact k3 k
      · omega
    · rintro x mm n hlv
      have hlt := heap_lt hlv.1
      obtain ⟨k1, k2, k3⟩ := hs.le.obj x mm n hlv
      refine ⟨k1, k2, ?_⟩
      rintro (k | e)
      · exact k3 k
      · omega
    · intro x hx hn i
      have := hs.d x hx hn i
      show (g1.D x i ∨ x = b) ↔ _
      rw [this]
      have : x < g.w.heap.size := hx
      constructor
      · rintro (k | e)
        · exact k
        · omega
      · exact .inl
/-- A mutable row, frozen. -/
theorem MutB.froz_sl {g : G} {b : Nat} {e : TypeId} {cur : List Value} (h : MutB g b e cur) {l c : Nat} {L : List Value} (hL : cur.take l = L) (hlen : L.length = l) (hlc : l ≤ c) (hc : c ≤ maxLen) : Sl (g.froz b) 1 (some ⟨b, 0, none⟩) l c L := by
  refine ⟨by omega, hlc, hc, fun h => (by cases h), ?_⟩
  rintro ad rfl2 i v hi
  cases rfl2
  rw [add_row, Nat.zero_add]
  refine ⟨?_, h.nx, fun k => k.2 rfl⟩
  have hb : Blk (g.froz b).w b e cur := h.blk
  rw [hb.cell]
  rw [← hL, List.getElem?_take] at hi
  split at hi
  · exact hi
  · cases hi
theorem setsAt_one (L : List Value) (k : Nat) (v : Value) : setsAt L k [v] = L.set k v := rfl
/-- An exclusive or of a byte's width is a byte. -/
theorem xor_u8 (a b : Int) : ∃ y : UInt8, bits .xor .u8 a b = ((y.toNat : Nat) : Int) := by
  have h : 0 ≤ bits .xor .u8 a b ∧ bits .xor .u8 a b < 256 := by
    unfold bits
    constructor
    · simp [IntKind.wrap, IntKind.signed, IntKind.bits]
      omega
    · simp [IntKind.wrap, IntKind.signed, IntKind.bits]
      omega
  refine ⟨UInt8.ofNat (bits .xor .u8 a b).toNat, ?_⟩
  rw [UInt8.toNat_ofNat_of_lt' (by show _ < 256; omega)]
  omega
end Go.Vc
