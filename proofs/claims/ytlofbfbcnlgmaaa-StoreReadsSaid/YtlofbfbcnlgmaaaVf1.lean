/- Facts about worlds: slices that show cells, rows that a function owns; they last from world to world. -/
import Derived.Test.YtlofbfbcnlgmaaaVd6
import Derived.Maps.AppendAt
set_option linter.unusedVariables false
namespace Go.Vc
open Go Go.RowKit

theorem Live.cell {g : G} {a : Addr} {v : Value} (h : Live g a v) : g.w.cell? a = some v := h.1
theorem Live.ex {g g' : G} {a : Addr} {v : Value} (h : Live g a v) (m : Ex g g') : Live g' a v := h.mono m.le

/-! ### All but some blocks -/
/-- Nothing has turned that is not private, but blocks of p. -/
structure But (p : Nat → Prop) (g g' : G) : Prop where
  size : g.w.heap.size ≤ g'.w.heap.size
  x : ∀ b, b < g.w.heap.size → ¬ g.X b → ¬ g'.X b
  same : ∀ b, b < g.w.heap.size → ¬ g.X b → ¬ p b → g'.w.heap[b]? = g.w.heap[b]?
  d : ∀ b, b < g.w.heap.size → ¬ g.X b → ¬ p b → ∀ i, (g'.D b i ↔ g.D b i)
theorem Ex.but {g g' : G} (h : Ex g g') (p : Nat → Prop) : But p g g' := ⟨h.size, h.x, fun b hb hx _ => h.same b hb hx, fun b hb hx _ => h.d b hb hx⟩
theorem But.trans {p : Nat → Prop} {a b c : G} (h : But p a b) (k : But p b c) : But p a c :=
  ⟨Nat.le_trans h.size k.size, fun x hb hx => k.x x (Nat.lt_of_lt_of_le hb h.size) (h.x x hb hx),
   fun x hb hx hp => (k.same x (Nat.lt_of_lt_of_le hb h.size) (h.x x hb hx) hp).trans (h.same x hb hx hp),
   fun x hb hx hp i => (k.d x (Nat.lt_of_lt_of_le hb h.size) (h.x x hb hx) hp i).trans (h.d x hb hx hp i)⟩
theorem But.mono {p q : Nat → Prop} {g g' : G} (h : But p g g') (hpq : ∀ b, b < g.w.heap.size → p b → q b) : But q g g' :=
  ⟨h.size, h.x, fun b hb hx hq => h.same b hb hx (fun hp => hq (hpq b hb hp)), fun b hb hx hq => h.d b hb hx (fun hp => hq (hpq b hb hp))⟩
theorem But.ex {g g' : G} {p : Nat → Prop} (h : But p g g') (hp : ∀ b, b < g.w.heap.size → ¬ g.X b → ¬ p b) : Ex g g' := ⟨h.size, h.x, fun b hb hx => h.same b hb hx (hp b hb hx), fun b hb hx => h.d b hb hx (hp b hb hx)⟩
theorem Stp.but {B : Nat} {M : Nat → Prop} {g g' : G} (h : Stp B M g g') (hB : g.w.heap.size ≤ B) : But M g g' :=
  ⟨h.le.size, fun b _ hx hx' => hx ((h.x b).1 hx'), fun b hb _ hm => h.same b (by omega) hm, fun b hb _ hm => h.d b (by omega) hm⟩

/-! ### Slices -/
/-- The slice (a, n, c) of elements of m cells shows the cells L. -/
structure Sl (g : G) (m : Nat) (a : Option Addr) (n c : Nat) (L : List Value) : Prop where
  len : L.length = n * m
  le : n ≤ c
  cap : c ≤ maxLen
  nil : a = none → c = 0
  at_ : ∀ ad, a = some ad → ∀ i v, L[i]? = some v → Live g (ad.add i) v
namespace Sl
variable {g g' : G} {m : Nat} {a : Option Addr} {n c : Nat} {L : List Value}
theorem mono (h : Sl g m a n c L) (k : Le g g') : Sl g' m a n c L := ⟨h.len, h.le, h.cap, h.nil, fun ad ha i v hi => (h.at_ ad ha i v hi).mono k⟩
theorem ex (h : Sl g m a n c L) (k : Ex g g') : Sl g' m a n c L := h.mono k.le
theorem zero (g : G) (m : Nat) : Sl g m none 0 0 [] := ⟨by simp, Nat.le_refl _, Nat.zero_le _, fun _ => rfl, fun _ h => by cases h⟩
theorem addr (h : Sl g m a n c L) (hn : 0 < n) : ∃ ad, a = some ad ∧ ∀ i v, L[i]? = some v → Live g (ad.add i) v := by
  cases a with
  | none => have := h.nil rfl; have := h.le; omega
  | some ad => exact ⟨ad, rfl, h.at_ ad rfl⟩
/-- A read of a cell. -/
theorem rd (h : Sl g m a n c L) {k : Nat} {v : Value} (hv : L[k]? = some v) {K : Addr → Prop} (hk : ∀ ad, (∀ i v, L[i]? = some v → Live g (ad.add i) v) → Live g (ad.add k) v → K ad) : derefP a K := by
  have hlt := (List.getElem?_eq_some_iff.1 hv).1
  have hn : 0 < n := by
    rcases Nat.eq_zero_or_pos n with h0 | h0
    · rw [h.len, h0] at hlt; omega
    · exact h0
  obtain ⟨ad, rfl, hc⟩ := h.addr hn
  exact hk ad hc (hc k v hv)
theorem slv (h : Sl g 1 a n c L) : SlV g.w a n L := by
  refine ⟨by rw [h.len, Nat.mul_one], ?_⟩
  rcases Nat.eq_zero_or_pos n with h0 | h0
  · exact Or.inl h0
  · obtain ⟨ad, rfl, hc⟩ := h.addr h0
    exact Or.inr ⟨ad, rfl, fun i v hi => (hc i v hi).1⟩
theorem slvm (h : Sl g m a n c L) : SlV g.w a (n * m) L := by
  refine ⟨h.len, ?_⟩
  rcases Nat.eq_zero_or_pos n with h0 | h0
  · exact Or.inl (by rw [h0]; omega)
  · obtain ⟨ad, rfl, hc⟩ := h.addr h0
    exact Or.inr ⟨ad, rfl, fun i v hi => (hc i v hi).1⟩
/-- A part of a slice. -/
theorem sub (h : Sl g m a n c L) {lo hi : Nat} (h1 : lo ≤ hi) (h2 : hi ≤ n) : Sl g m (slAddr a c lo m) (hi - lo) (c - lo) ((L.drop (lo * m)).take ((hi - lo) * m)) := by
  have hle := h.le
  refine ⟨?_, by omega, by have := h.cap; omega, ?_, ?_⟩
  · rw [List.length_take, List.length_drop, h.len, ← Nat.sub_mul]
    exact Nat.min_eq_left (Nat.mul_le_mul_right m (by omega))
  · intro hn
    have : a = none := by
      unfold slAddr at hn
      split at hn
      · exact hn
      · cases a with
        | none => rfl
        | some ad => cases hn
    have := h.nil this
    omega
  · intro ad ha i v hi'
    have hi2 : i < (hi - lo) * m := by
      have := (List.getElem?_eq_some_iff.1 hi').1
      rw [List.length_take] at this
      omega
    rw [List.getElem?_take, if_pos hi2, List.getElem?_drop] at hi'
    unfold slAddr at ha
    split at ha
    · rename_i hcl
      exfalso
      have : hi - lo = 0 := by omega
      rw [this] at hi2
      omega
    · cases a with
      | none => cases ha
      | some ad0 =>
        have e : ad0.add (lo * m) = ad := by simpa using ha
        rw [← e, addr_add_add]
        exact h.at_ ad0 rfl _ _ hi'
theorem subI (h : Sl g m a n c L) {lo hi : Int} (h0 : 0 ≤ lo) (h1 : lo ≤ hi) (h2 : hi ≤ n) : Sl g m (slAddr a c lo.toNat m) (hi.toNat - lo.toNat) (c - lo.toNat) ((L.drop (lo.toNat * m)).take ((hi.toNat - lo.toNat) * m)) := h.sub (by omega) (by omega)
theorem take (h : Sl g m a n c L) {hi : Nat} (h2 : hi ≤ n) : Sl g m (slAddr a c 0 m) (hi - 0) (c - 0) (L.take (hi * m)) := by
  have := h.sub (lo := 0) (hi := hi) (Nat.zero_le _) h2
  simpa using this
theorem drop (h : Sl g m a n c L) {lo : Nat} (h1 : lo ≤ n) : Sl g m (slAddr a c lo m) (n - lo) (c - lo) (L.drop (lo * m)) := by
  have := h.sub (lo := lo) (hi := n) h1 (Nat.le_refl _)
  rwa [List.take_of_length_le (by rw [List.length_drop, h.len, Nat.sub_mul]; omega)] at this
end Sl

/-- A new live row. -/
theorem NewL.sl {g g' : G} {e : TypeId} {L : List Value} (h : NewL g g' e L) {m n : Nat} (hl : L.length = n * m) (hn : n ≤ maxLen) : Sl g' m (some ⟨g.w.heap.size, 0, none⟩) n n L := by
  refine ⟨hl, Nat.le_refl _, hn, fun h => (by cases h), ?_⟩
  rintro ad rfl2 i v hi
  cases rfl2
  rw [add_row, Nat.zero_add]
  refine ⟨?_, h.nx, h.d i⟩
  have : Blk g'.w g.w.heap.size e L := h.blk
  rw [this.cell]
  exact hi
theorem NewL.at_ {g g' : G} {e : TypeId} {L : List Value} (h : NewL g g' e L) {i : Nat} {v : Value} (hi : L[i]? = some v) : Live g' (Addr.add ⟨g.w.heap.size, 0, none⟩ i) v := by
  rw [add_row, Nat.zero_add]
  refine ⟨?_, h.nx, h.d i⟩
  have : Blk g'.w g.w.heap.size e L := h.blk
  rw [this.cell]
  exact hi
theorem NewL.at0 {g g' : G} {e : TypeId} {L : List Value} (h : NewL g g' e L) {v : Value} (hi : L[0]? = some v) : Live g' ⟨g.w.heap.size, 0, none⟩ v := by
  have := h.at_ hi
  rwa [add_zero_row] at this

/-! ### Rows that a function owns -/
/-- The slice (a, l, c), of elements of m cells, is an own row from block B on, and holds L; what lies behind it is mutable. -/
structure OwnG (g : G) (B : Nat) (e : TypeId) (m : Nat) (a : Option Addr) (l c : Nat) (L : List Value) : Prop where
  len : L.length = l * m
  row : (a = none ∧ l = 0 ∧ c = 0) ∨ ∃ b cur, a = some ⟨b, 0, none⟩ ∧ B ≤ b ∧ g.w.heap[b]? = some (.cells cur e (0, 0)) ∧ l ≤ c ∧ c ≤ maxLen ∧ cur.size = c * m ∧ cur.toList.take (l * m) = L ∧ ¬ g.X b ∧
    (∀ i, i < l * m → ¬ g.D b i) ∧ (∀ i, l * m ≤ i → i < c * m → g.D b i)
/-- The slice's block. -/
def blkOf (a : Option Addr) : Nat → Prop := fun b => ∃ ad, a = some ad ∧ ad.block = b

namespace OwnG
variable {P : Program} {g g' : G} {B B' : Nat} {e : TypeId} {m : Nat} {a : Option Addr} {l c : Nat} {L : List Value}

theorem base (h : OwnG g B e m a l c L) (hB : B' ≤ B) : OwnG g B' e m a l c L := by
  refine ⟨h.len, ?_⟩
  rcases h.row with h | ⟨b, cur, h1, h2, h3⟩
  · exact Or.inl h
  · exact Or.inr ⟨b, cur, h1, Nat.le_trans hB h2, h3⟩
theorem but (h : OwnG g B e m a l c L) {p : Nat → Prop} (k : But p g g') (hp : ∀ b, blkOf a b → ¬ p b) : OwnG g' B e m a l c L := by
  refine ⟨h.len, ?_⟩
  rcases h.row with h | ⟨b, cur, h1, h2, h3, h4, h5, h6, h7, h8, h9, h10⟩
  · exact Or.inl h
  · have hb := heap_lt h3
    have hnp := hp b ⟨_, h1, rfl⟩
    exact Or.inr ⟨b, cur, h1, h2, (k.same b hb h8 hnp).trans h3, h4, h5, h6, h7, k.x b hb h8, fun i hi hd => h9 i hi ((k.d b hb h8 hnp i).1 hd), fun i hi hi' => (k.d b hb h8 hnp i).2 (h10 i hi hi')⟩
theorem ex (h : OwnG g B e m a l c L) (k : Ex g g') : OwnG g' B e m a l c L := h.but (k.but nobody) (fun _ _ h => h)
theorem le (h : OwnG g B e m a l c L) : l ≤ c := by
  rcases h.row with ⟨_, h0, _⟩ | ⟨b, cur, h1, h2, h3, h4, _⟩
  · omega
  · exact h4
theorem capLe (h : OwnG g B e m a l c L) : c ≤ maxLen := by
  rcases h.row with ⟨_, _, h0⟩ | ⟨b, cur, h1, h2, h3, h4, h5, _⟩
  · rw [h0]; exact Nat.zero_le _
  · exact h5
theorem sl (h : OwnG g B e m a l c L) : Sl g m a l c L := by
  refine ⟨h.len, h.le, h.capLe, ?_, ?_⟩
  · intro hn
    rcases h.row with ⟨_, _, h0⟩ | ⟨b, cur, h1, _⟩
    · exact h0
    · rw [hn] at h1; cases h1
  · intro ad ha i v hi
    rcases h.row with ⟨h0, _⟩ | ⟨b, cur, h1, h2, h3, h4, h5, h6, h7, h8, h9, h10⟩
    · rw [h0] at ha; cases ha
    · rw [h1] at ha
      cases ha
      have hlt : i < l * m := by
        have := (List.getElem?_eq_some_iff.1 hi).1
        rw [h.len] at this
        exact this
      rw [add_row, Nat.zero_add]
      refine ⟨?_, h8, h9 i hlt⟩
      unfold World.cell?
      simp only [h3]
      rw [← h7, List.getElem?_take, if_pos hlt] at hi
      simpa using hi
theorem nil (g : G) (B : Nat) (e : TypeId) (m : Nat) : OwnG g B e m none 0 0 [] := ⟨by simp, Or.inl ⟨rfl, rfl, rfl⟩⟩
/-- A new live row is an own one without room. -/
theorem lit {B : Nat} (h : NewL g g' e L) {n : Nat} (hB : B ≤ g.w.heap.size) (hl : L.length = n * m) (hn : n ≤ maxLen) : OwnG g' B e m (some ⟨g.w.heap.size, 0, none⟩) n n L :=
  ⟨hl, Or.inr ⟨_, ⟨L⟩, rfl, hB, h.blk, Nat.le_refl _, hn, by simpa using hl, by rw [← hl]; exact List.take_length, h.nx, fun i _ => h.d i, fun i h1 h2 => by omega⟩⟩

/-- The world with a new row whose cells behind the first k are mutable. -/
def _root_.Go.Vc.G.row (g : G) (w' : World) (hs : g.w.heap.size < w'.heap.size) (k : Nat) : G where
  w := w'
  X := g.X
  D b i := g.D b i ∨ (b = g.w.heap.size ∧ k ≤ i)
  hX b h := Nat.lt_trans (g.hX b h) hs
  hD b i h := by
    rcases h with h | ⟨h, _⟩
    · exact Nat.lt_trans (g.hD b i h) hs
    · omega

theorem _root_.Go.Vc.row_stp {g : G} {w' : World} {hs : g.w.heap.size < w'.heap.size} {k : Nat} {B : Nat} {M : Nat → Prop} (hB : B ≤ g.w.heap.size) (ho : w'.os = g.w.os ∧ w'.tape = g.w.tape ∧ w'.output = g.w.output) (h : ∀ b, b < g.w.heap.size → w'.heap[b]? = g.w.heap[b]?) :
    Stp B M g (g.row w' hs k) ∧ Ex g (g.row w' hs k) := by
  have hex : Ex g (g.row w' hs k) := by
    refine ⟨Nat.le_of_lt hs, fun b _ hx => hx, fun b hb _ => h b hb, fun b hb _ i => ?_⟩
    constructor
    · rintro (hd | ⟨hd, _⟩)
      · exact hd
      · omega
    · exact Or.inl
  refine ⟨⟨hex.le, fun b => Iff.rfl, fun b hb => h b (g.hX b hb), ho.1, ho.2.1, ho.2.2, fun b hb _ => h b (by omega), fun b hb _ i => ?_⟩, hex⟩
  constructor
  · rintro (hd | ⟨hd, _⟩)
    · exact hd
    · omega
  · exact Or.inl

/-- What stands behind an append. -/
def Appd (P : Program) (g : G) (B : Nat) (e : TypeId) (m : Nat) (a : Option Addr) (n : Nat) (L : List Value) (s : Sem Value) : Prop :=
  ∃ a' c' w', s.run P g.w = .ok (.slice a' n c') w' ∧ ∃ g', g'.w = w' ∧ Stp B nobody g g' ∧ OwnG g' B e m a' n c' L ∧ Stp g.w.heap.size (blkOf a) g g' ∧ (∀ b, blkOf a' b → blkOf a b ∨ g.w.heap.size ≤ b)

/-- A slice that shows some cells is copied into a new row with others behind. -/
theorem grow {t : TypeId} {bytes : Nat} (E : Elem P t e m bytes) (ty : TypeId) (hB : B ≤ g.w.heap.size) (h : Sl g m a l c L) {na : Option Addr} {n cn : Nat} {N : List Value} (hN : Sl g m na n cn N)
    (hg : c < l + n) (hb : (l + n) * bytes ≤ 140737488355328) (hm : l + n ≤ maxLen) : Appd P g B e m a (l + n) (L ++ N) (Builtin.append_ #[t, t] ty #[.slice a l c, .slice na n cn]) := by
  obtain ⟨i, z, hi, hz, hs, hby, hzs, hm0⟩ := E.info
  subst hs hby
  have hsmall : l + n ≤ 9223372036854775807 := by simp only [maxLen] at hm; omega
  have hlen : (L ++ N).length = (l + n) * i.size := by rw [List.length_append, h.len, hN.len, Nat.add_mul]
  have hle := h.le
  have hnle := hN.le
  have fin : ∀ (old : Nat) (w' : World), w' = w'.drew → True := fun _ _ _ => trivial
  have main : ∀ (cs : Array Value) (c' : Nat), cs.toList.take ((l + n) * i.size) = L ++ N → cs.size = c' * i.size → l + n ≤ c' → c' ≤ maxLen →
      (Builtin.append_ #[t, t] ty #[.slice a l c, .slice na n cn]).run P g.w = .ok (.slice (some ⟨g.w.heap.size, 0, none⟩) (l + n) c') (g.w.drew.alloc (.cells cs e)) →
      Appd P g B e i.size a (l + n) (L ++ N) (Builtin.append_ #[t, t] ty #[.slice a l c, .slice na n cn]) := by
    intro cs c' h1 h2 h3 h4 hr
    have hsz : g.w.heap.size < (g.w.drew.alloc (.cells cs e)).heap.size := by simp
    obtain ⟨s1, s2⟩ := row_stp (hs := hsz) (k := (l + n) * i.size) (M := nobody) hB ⟨rfl, rfl, rfl⟩ (fun b hb => Below.heap_alloc g.w.drew _ b hb)
    obtain ⟨s3, _⟩ := row_stp (hs := hsz) (k := (l + n) * i.size) (M := blkOf a) (Nat.le_refl _) ⟨rfl, rfl, rfl⟩ (fun b hb => Below.heap_alloc g.w.drew _ b hb)
    refine ⟨_, _, _, hr, _, rfl, s1, ⟨hlen, Or.inr ⟨_, cs, rfl, hB, ?_, h3, h4, h2, h1, ?_, ?_, ?_⟩⟩, s3, ?_⟩
    · show (g.w.heap.push _)[g.w.heap.size]? = _
      simp
    · intro hx
      exact absurd (g.hX _ hx) (by simp)
    · rintro j hj (hd | ⟨_, hd⟩)
      · exact absurd (g.hD _ _ hd) (by simp)
      · omega
    · intro j hj _
      exact Or.inr ⟨rfl, hj⟩
    · rintro b ⟨ad, had, rfl⟩
      cases had
      exact Or.inr (Nat.le_refl _)
  cases hna : na with
  | none =>
    have := hN.nil hna
    omega
  | some nad =>
    subst hna
    have hNc : ∀ j v, N[j]? = some v → g.w.cell? (nad.add j) = some v := fun j v hj => (hN.at_ nad rfl j v hj).1
    have hge : ∀ old, l + n ≤ grownCap g.w (l + n) old e := fun old => grownCap_ge g.w (l + n) old e
    cases ha : a with
    | none =>
      have h0 := h.nil ha
      subst ha
      have : l = 0 := by omega
      subst this
      subst h0
      have hx : L = [] := List.eq_nil_of_length_eq_zero (by rw [h.len]; simp)
      subst hx
      have hr := run_append_nil (P := P) g.w t ty e i z E.und hi hz nad n cn N hN.len hNc (by omega) (by omega) (by have := hb; simp only [Nat.zero_add] at this; omega)
      have hg0 := hge 0
      simp only [Nat.zero_add] at hg0
      refine main _ (grownCap g.w n 0 e) ?_ ?_ (by simpa using hg0) (grownCap_le_maxLen _ _ _ _ (by simpa using hm)) (by simpa using hr)
      · simp only [Nat.zero_add, List.nil_append, Array.toList_append]
        rw [← hN.len]
        exact List.take_left
      · simp only [Array.size_append, List.size_toArray, size_zeroCells, hzs, hN.len, ← Nat.add_mul]
        congr 1
        omega
    | some ad =>
      subst ha
      have hr := run_append_grow (P := P) g.w t ty e i z E.und hi hz ad l c L h.len (fun j v hj => (h.at_ ad rfl j v hj).1) nad n cn N hN.len hNc hg (by omega) (growslice_fits (by omega) hb)
      have hg0 := hge c
      refine main _ _ ?_ ?_ hg0 (grownCap_le_maxLen _ _ _ _ hm) hr
      · simp only [Array.toList_append, List.append_assoc]
        rw [← List.append_assoc, ← hlen]
        exact List.take_left
      · simp only [Array.size_append, List.size_toArray, size_zeroCells, hzs, h.len, hN.len, ← Nat.add_mul]
        congr 1
        omega

/-- APPEND to an own row. -/
theorem app {t : TypeId} {bytes : Nat} (E : Elem P t e m bytes) (ty : TypeId) (hB : B ≤ g.w.heap.size) (h : OwnG g B e m a l c L) {na : Option Addr} {n cn : Nat} {N : List Value} (hN : Sl g m na n cn N) (h1 : ∀ u ∈ N, u.oneCell' = true)
    (hb : (l + n) * bytes ≤ 140737488355328) (hm : l + n ≤ maxLen) : Appd P g B e m a (l + n) (L ++ N) (Builtin.append_ #[t, t] ty #[.slice a l c, .slice na n cn]) := by
  obtain ⟨i, z, hi, hz, hs, hby, hzs, hm0⟩ := E.info
  have hnle := hN.le
  by_cases hroom : l + n ≤ c
  · cases hna : na with
    | none =>
      have h0 := hN.nil hna
      have hn0 : n = 0 := by omega
      subst hn0
      subst h0
      subst hna
      have hx : N = [] := List.eq_nil_of_length_eq_zero (by rw [hN.len]; simp)
      subst hx
      have hown : g.w.ownsRow 0 e m (.slice a l c) l L := by
        refine ⟨h.len, ?_⟩
        rcases h.row with ⟨rfl, rfl, rfl⟩ | ⟨b, cur, h1, h2, h3, h4, h5, h6, h7, _⟩
        · exact Or.inl ⟨rfl, rfl⟩
        · exact Or.inr ⟨b, c, cur, by rw [h1], Nat.zero_le _, h3, h4, h5, h6, h7⟩
      have hr := run_append_owned_none (P := P) (w := g.w) 0 t ty e i m E.und hi (.slice a l c) l L hown
      refine ⟨a, c, _, hr, g, rfl, Stp.refl _ _ _, by simpa using h, Stp.refl _ _ _, fun b hb => Or.inl hb⟩
    | some nad =>
      subst hna
      have hNc : ∀ j v, N[j]? = some v → g.w.cell? (nad.add j) = some v := fun j v hj => (hN.at_ nad rfl j v hj).1
      rcases h.row with ⟨rfl, rfl, rfl⟩ | ⟨b, cur, rfl, h2, h3, h4, h5, h6, h7, h8, h9, h10⟩
      · have hn0 : n = 0 := by omega
        subst hn0
        have hx : N = [] := List.eq_nil_of_length_eq_zero (by rw [hN.len]; simp)
        subst hx
        have hr : (Builtin.append_ #[t, t] ty #[.slice none 0 0, .slice (some nad) 0 cn]).run P g.w = .ok (.slice none 0 0) g.w := by
          simp [Builtin.append_, run_underlying E.und, sizeOf, typeInfo, hi, Builtin.lenOf, Builtin.firstCells, loadCells, loadCellsFrom]
        exact ⟨none, 0, _, hr, g, rfl, Stp.refl _ _ _, by simpa using h, Stp.refl _ _ _, fun b hb => Or.inl hb⟩
      · subst hs
        have hlen : (L ++ N).length = (l + n) * i.size := by rw [List.length_append, h.len, hN.len, Nat.add_mul]
        have hfit : l * i.size + N.length ≤ cur.size := by rw [hN.len, h6, ← Nat.add_mul]; exact Nat.mul_le_mul_right _ hroom
        have hr := run_append_room (P := P) g.w t ty e i E.und hi b l c cur h3 nad n cn N hN.len hNc h1 hroom hfit
        have hblt := heap_lt h3
        have hss : (g.w.setRow b (cur.toList.take (l * i.size) ++ N ++ cur.toList.drop (l * i.size + N.length)).toArray).heap.size = g.w.heap.size := by simp [World.setRow]
        let g' : G := ⟨g.w.setRow b (cur.toList.take (l * i.size) ++ N ++ cur.toList.drop (l * i.size + N.length)).toArray, g.X, fun x j => g.D x j ∧ ¬ (x = b ∧ j < (l + n) * i.size),
          (fun x hx => by rw [hss]; exact g.hX x hx), (fun x j hx => by rw [hss]; exact g.hD x j hx.1)⟩
        have hcell : ∀ (j : Nat) (v : Value), ¬ g.D b j → g.w.cell? ⟨b, j, none⟩ = some v → g'.w.cell? ⟨b, j, none⟩ = some v := by
          intro j v hd hc
          show (g.w.setRow b _).cell? ⟨b, j, none⟩ = _
          rw [cell_setRow_same g.w b j cur _ e _ h3]
          have hj : j < l * i.size := by
            unfold World.cell? at hc
            simp only [h3] at hc
            have hjs : j < cur.size := by
              simp at hc
              exact (Array.getElem?_eq_some_iff.1 hc).1
            rcases Nat.lt_or_ge j (l * i.size) with h | h
            · exact h
            · exact absurd (h10 j h (by omega)) hd
          have hcj : cur[j]? = some v := by
            unfold World.cell? at hc
            simp only [h3] at hc
            simpa using hc
          simp only [List.getElem?_toArray, List.append_assoc]
          rw [List.getElem?_append_left (by rw [List.length_take]; simp; omega), List.getElem?_take, if_pos hj]
          simpa using hcj
        have hbut : But (blkOf (some ⟨b, 0, none⟩)) g g' := by
          refine ⟨by show _ ≤ (g.w.setRow b _).heap.size; rw [hss]; exact Nat.le_refl _, fun x _ hx => hx, fun x hx _ hp => setRow_other g.w b x _ (fun e => hp ⟨_, rfl, e.symm⟩), fun x hx _ hp j => ?_⟩
          constructor
          · exact fun h => h.1
          · exact fun h => ⟨h, fun hh => hp ⟨_, rfl, hh.1.symm⟩⟩
        have hle : Le g g' := by
          refine ⟨hbut.size, ?_, ?_⟩
          · rintro ad v ⟨hc1, hc2, hc3⟩
            refine ⟨?_, hc2, fun hd => hc3 hd.1⟩
            by_cases hab : ad.block = b
            · obtain ⟨blk, off, spot⟩ := ad
              subst hab
              cases spot with
              | none => exact hcell off v hc3 hc1
              | some s =>
                unfold World.cell? at hc1
                simp only [h3] at hc1
                simp at hc1
            · show (g.w.setRow b _).cell? ad = _
              rw [cell_setRow_other g.w b _ ad hab]
              exact hc1
          · rintro x mm nn ⟨hc1, hc2, hc3⟩
            refine ⟨?_, hc2, fun hd => hc3 hd.1⟩
            have hxb : x ≠ b := by
              rintro rfl
              rw [h3] at hc1
              cases hc1
            show (g.w.setRow b _).heap[x]? = _
            rw [setRow_other g.w b x _ hxb]
            exact hc1
        refine ⟨_, c, _, hr, g', rfl, ⟨hle, fun _ => Iff.rfl, fun x hx => setRow_other g.w b x _ (fun e => h8 (e ▸ hx)), rfl, rfl, rfl, fun x hx _ => setRow_other g.w b x _ (by omega), fun x hx _ j => ?_⟩, ⟨hlen, Or.inr ⟨b, _, rfl, h2, setRow_heap g.w b cur _ e _ h3, hroom, h5, ?_, ?_, h8, ?_, ?_⟩⟩, ?_, fun x hx => Or.inl hx⟩
        · constructor
          · exact fun h => h.1
          · exact fun h => ⟨h, fun hh => by omega⟩
        · simp only [List.size_toArray, List.length_append, List.length_take, List.length_drop, Array.length_toList]
          omega
        · rw [h7, ← hlen]
          exact List.take_left
        · rintro j hj ⟨_, hd⟩
          exact hd ⟨rfl, hj⟩
        · intro j hj hj2
          refine ⟨h10 j ?_ hj2, fun hh => by omega⟩
          exact Nat.le_trans (Nat.mul_le_mul_right _ (Nat.le_add_right l n)) hj
        · refine ⟨hle, fun _ => Iff.rfl, fun x hx => setRow_other g.w b x _ (fun e => h8 (e ▸ hx)), rfl, rfl, rfl, fun x hx hp => setRow_other g.w b x _ (fun e => hp ⟨_, rfl, e.symm⟩), fun x hx hp j => ?_⟩
          constructor
          · exact fun h => h.1
          · exact fun h => ⟨h, fun hh => hp ⟨_, rfl, hh.1.symm⟩⟩
  · exact grow E ty hB h.sl hN (by omega) hb hm
end OwnG
end Go.Vc
