/- Joined texts. -/
import Derived.Test.YthlcdgpemjdgnaaGreatDoorVda
import Derived.Maps.AppendAt
import Derived.Lib.SlBytesConst
import Derived.Maps.OwnSet
import Derived.Maps.Views
/- Facts about worlds: slices that show cells, rows that a function owns; they last from world to world. -/
set_option linter.unusedVariables false
namespace Go.Vc
open Go Go.RowKit
theorem Live.cell {g : G} {a : Addr} {v : Value} (h : Live g a v) : g.w.cell? a = some v := h.1
theorem Live.ex {g g' : G} {a : Addr} {v : Value} (h : Live g a v) (m : Ex g g') : Live g' a v := h.mono m.le
structure But (p : Nat → Prop) (g g' : G) : Prop where
  size : g.w.heap.size ≤ g'.w.heap.size
  x : ∀ b, b < g.w.heap.size → ¬ g.X b → ¬ g'.X b
  same : ∀ b, b < g.w.heap.size → ¬ g.X b → ¬ p b → g'.w.heap[b]? = g.w.heap[b]?
  d : ∀ b, b < g.w.heap.size → ¬ g.X b → ¬ p b → ∀ i, (g'.D b i ↔ g.D b i)
theorem Ex.but {g g' : G} (h : Ex g g') (p : Nat → Prop) : But p g g' := ⟨h.size, h.x, fun b hb hx _ => h.same b hb hx, fun b hb hx _ => h.d b hb hx⟩
theorem But.trans {p : Nat → Prop} {a b c : G} (h : But p a b) (k : But p b c) : But p a c :=
  ⟨Nat.le_trans h.size k.size, fun x hb hx => k.x x (Nat.lt_of_lt_of_le hb h.size) (h.x x hb hx),
   fun x hb hx hp => (k.same x (Nat.lt_of_lt_of_le hb h.size) (h.x x hb hx) hp).trans (h.same x hb hx hp),
   fun x hb hx hp i => (k.d x (Nat.lt_of_lt_of_le hb h.size) (h.x x hb hx) hp i).trans (h.d x hb hx hp i)⟩
theorem But.mono {p q : Nat → Prop} {g g' : G} (h : But p g g') (hpq : ∀ b, b < g.w.heap.size → p b → q b) : But q g g' :=
  ⟨h.size, h.x, fun b hb hx hq => h.same b hb hx (fun hp => hq (hpq b hb hp)), fun b hb hx hq => h.d b hb hx (fun hp => hq (hpq b hb hp))⟩
theorem But.ex {g g' : G} {p : Nat → Prop} (h : But p g g') (hp : ∀ b, b < g.w.heap.size → ¬ g.X b → ¬ p b) : Ex g g' := ⟨h.size, h.x, fun b hb hx => h.same b hb hx (hp b hb hx), fun b hb hx => h.d b hb hx (hp b hb hx)⟩
theorem Stp.but {B : Nat} {M : Nat → Prop} {g g' : G} (h : Stp B M g g') (hB : g.w.heap.size ≤ B) : But M g g' :=
  ⟨h.le.size, fun b _ hx hx' => hx ((h.x b).1 hx'), fun b hb _ hm => h.same b (by omega) hm, fun b hb _ hm => h.d b (by omega) hm⟩
structure Sl (g : G) (m : Nat) (a : Option Addr) (n c : Nat) (L : List Value) : Prop where
  len : L.length = n * m
  le : n ≤ c
  cap : c ≤ maxLen
  nil : a = none → c = 0
  at_ : ∀ ad, a = some ad → ∀ i v, L[i]? = some v → Live g (ad.add i) v
namespace Sl
variable {g g' : G} {m : Nat} {a : Option Addr} {n c : Nat} {L : List Value}
theorem mono (h : Sl g m a n c L) (k : Le g g') : Sl g' m a n c L := ⟨h.len, h.le, h.cap, h.nil, fun ad ha i v hi => (h.at_ ad ha i v hi).mono k⟩
theorem ex (h : Sl g m a n c L) (k : Ex g g') : Sl g' m a n c L := h.mono k.le
theorem zero (g : G) (m : Nat) : Sl g m none 0 0 [] := ⟨by simp, Nat.le_refl _, Nat.zero_le _, fun _ => rfl, fun _ h => by cases h⟩
theorem addr (h : Sl g m a n c L) (hn : 0 < n) : ∃ ad, a = some ad ∧ ∀ i v, L[i]? = some v → Live g (ad.add i) v := by
  cases a with
  | none => have := h.nil rfl; have := h.le; omega
  | some ad => exact ⟨ad, rfl, h.at_ ad rfl⟩
theorem rd (h : Sl g m a n c L) {k : Nat} {v : Value} (hv : L[k]? = some v) {K : Addr → Prop} (hk : ∀ ad, (∀ i v, L[i]? = some v → Live g (ad.add i) v) → Live g (ad.add k) v → K ad) : derefP a K := by
  have hlt := (List.getElem?_eq_some_iff.1 hv).1
  have hn : 0 < n := by
    rcases Nat.eq_zero_or_pos n with h0 | h0
    · rw [h.len, h0] at hlt; omega
    · exact h0
  obtain ⟨ad, rfl, hc⟩ := h.addr hn
  exact hk ad hc (hc k v hv)
theorem slv (h : Sl g 1 a n c L) : SlV g.w a n L := by
  refine ⟨by rw [h.len, Nat.mul_one], ?_⟩
  rcases Nat.eq_zero_or_pos n with h0 | h0
  · exact Or.inl h0
  · obtain ⟨ad, rfl, hc⟩ := h.addr h0
    exact Or.inr ⟨ad, rfl, fun i v hi => (hc i v hi).1⟩
theorem sub (h : Sl g m a n c L) {lo hi : Nat} (h1 : lo ≤ hi) (h2 : hi ≤ n) : Sl g m (slAddr a c lo m) (hi - lo) (c - lo) ((L.drop (lo * m)).take ((hi - lo) * m)) := by
  have hle := h.le
  refine ⟨?_, by omega, by have := h.cap; omega, ?_, ?_⟩
  · rw [List.length_take, List.length_drop, h.len, ← Nat.sub_mul]
    exact Nat.min_eq_left (Nat.mul_le_mul_right m (by omega))
  · intro hn
    have : a = none := by
      unfold slAddr at hn
      split at hn
      · exact hn
      · cases a with
        | none => rfl
        | some ad => cases hn
    have := h.nil this
    omega
  · intro ad ha i v hi'
    have hi2 : i < (hi - lo) * m := by
      have := (List.getElem?_eq_some_iff.1 hi').1
      rw [List.length_take] at this
      omega
    rw [List.getElem?_take, if_pos hi2, List.getElem?_drop] at hi'
    unfold slAddr at ha
    split at ha
    · rename_i hcl
      exfalso
      have : hi - lo = 0 := by omega
      rw [this] at hi2
      omega
    · cases a with
      | none => cases ha
      | some ad0 =>
        have e : ad0.add (lo * m) = ad := by simpa using ha
        rw [← e, addr_add_add]
        exact h.at_ ad0 rfl _ _ hi'
theorem take (h : Sl g m a n c L) {hi : Nat} (h2 : hi ≤ n) : Sl g m (slAddr a c 0 m) (hi - 0) (c - 0) (L.take (hi * m)) := by
  have := h.sub (lo := 0) (hi := hi) (Nat.zero_le _) h2
  simpa using this
theorem drop (h : Sl g m a n c L) {lo : Nat} (h1 : lo ≤ n) : Sl g m (slAddr a c lo m) (n - lo) (c - lo) (L.drop (lo * m)) := by
  have := h.sub (lo := lo) (hi := n) h1 (Nat.le_refl _)
  rwa [List.take_of_length_le (by rw [List.length_drop, h.len, Nat.sub_mul]; omega)] at this
end Sl
theorem NewL.sl {g g' : G} {e : TypeId} {L : List Value} (h : NewL g g' e L) {m n : Nat} (hl : L.length = n * m) (hn : n ≤ maxLen) : Sl g' m (some ⟨g.w.heap.size, 0, none⟩) n n L := by
  refine ⟨hl, Nat.le_refl _, hn, fun h => (by cases h), ?_⟩
  rintro ad rfl2 i v hi
  cases rfl2
  rw [add_row, Nat.zero_add]
  refine ⟨?_, h.nx, h.d i⟩
  have : Blk g'.w g.w.heap.size e L := h.blk
  rw [this.cell]
  exact hi
theorem NewL.at_ {g g' : G} {e : TypeId} {L : List Value} (h : NewL g g' e L) {i : Nat} {v : Value} (hi : L[i]? = some v) : Live g' (Addr.add ⟨g.w.heap.size, 0, none⟩ i) v := by
  rw [add_row, Nat.zero_add]
  refine ⟨?_, h.nx, h.d i⟩
  have : Blk g'.w g.w.heap.size e L := h.blk
  rw [this.cell]
  exact hi
theorem NewL.at0 {g g' : G} {e : TypeId} {L : List Value} (h : NewL g g' e L) {v : Value} (hi : L[0]? = some v) : Live g' ⟨g.w.heap.size, 0, none⟩ v := by
  have := h.at_ hi
  rwa [add_zero_row] at this
structure OwnG (g : G) (B : Nat) (e : TypeId) (m : Nat) (a : Option Addr) (l c : Nat) (L : List Value) : Prop where
  len : L.length = l * m
  row : (a = none ∧ l = 0 ∧ c = 0) ∨ ∃ b cur, a = some ⟨b, 0, none⟩ ∧ B ≤ b ∧ g.w.heap[b]? = some (.cells cur e (0, 0)) ∧ l ≤ c ∧ c ≤ maxLen ∧ cur.size = c * m ∧ cur.toList.take (l * m) = L ∧ ¬ g.X b ∧
    (∀ i, i < l * m → ¬ g.D b i) ∧ (∀ i, l * m ≤ i → i < c * m → g.D b i)
def blkOf (a : Option Addr) : Nat → Prop := fun b => ∃ ad, a = some ad ∧ ad.block = b
namespace OwnG
variable {P : Program} {g g' : G} {B B' : Nat} {e : TypeId} {m : Nat} {a : Option Addr} {l c : Nat} {L : List Value}
theorem base (h : OwnG g B e m a l c L) (hB : B' ≤ B) : OwnG g B' e m a l c L := by
  refine ⟨h.len, ?_⟩
  rcases h.row with h | ⟨b, cur, h1, h2, h3⟩
  · exact Or.inl h
  · exact Or.inr ⟨b, cur, h1, Nat.le_trans hB h2, h3⟩
theorem but (h : OwnG g B e m a l c L) {p : Nat → Prop} (k : But p g g') (hp : ∀ b, blkOf a b → ¬ p b) : OwnG g' B e m a l c L := by
  refine ⟨h.len, ?_⟩
  rcases h.row with h | ⟨b, cur, h1, h2, h3, h4, h5, h6, h7, h8, h9, h10⟩
  · exact Or.inl h
  · have hb := heap_lt h3
    have hnp := hp b ⟨_, h1, rfl⟩
    exact Or.inr ⟨b, cur, h1, h2, (k.same b hb h8 hnp).trans h3, h4, h5, h6, h7, k.x b hb h8, fun i hi hd => h9 i hi ((k.d b hb h8 hnp i).1 hd), fun i hi hi' => (k.d b hb h8 hnp i).2 (h10 i hi hi')⟩
theorem ex (h : OwnG g B e m a l c L) (k : Ex g g') : OwnG g' B e m a l c L := h.but (k.but nobody) (fun _ _ h => h)
theorem le (h : OwnG g B e m a l c L) : l ≤ c := by
  rcases h.row with ⟨_, h0, _⟩ | ⟨b, cur, h1, h2, h3, h4, _⟩
  · omega
  · exact h4
theorem capLe (h : OwnG g B e m a l c L) : c ≤ maxLen := by
  rcases h.row with ⟨_, _, h0⟩ | ⟨b, cur, h1, h2, h3, h4, h5, _⟩
  · rw [h0]; exact Nat.zero_le _
  · exact h5
theorem sl (h : OwnG g B e m a l c L) : Sl g m a l c L := by
  refine ⟨h.len, h.le, h.capLe, ?_, ?_⟩
  · intro hn
    rcases h.row with ⟨_, _, h0⟩ | ⟨b, cur, h1, _⟩
    · exact h0
    · rw [hn] at h1; cases h1
  · intro ad ha i v hi
    rcases h.row with ⟨h0, _⟩ | ⟨b, cur, h1, h2, h3, h4, h5, h6, h7, h8, h9, h10⟩
    · rw [h0] at ha; cases ha
    · rw [h1] at ha
      cases ha
      have hlt : i < l * m := by
        have := (List.getElem?_eq_some_iff.1 hi).1
        rw [h.len] at this
        exact this
      rw [add_row, Nat.zero_add]
      refine ⟨?_, h8, h9 i hlt⟩
      unfold World.cell?
      simp only [h3]
      rw [← h7, List.getElem?_take, if_pos hlt] at hi
      simpa using hi
theorem nil (g : G) (B : Nat) (e : TypeId) (m : Nat) : OwnG g B e m none 0 0 [] := ⟨by simp, Or.inl ⟨rfl, rfl, rfl⟩⟩
theorem lit {B : Nat} (h : NewL g g' e L) {n : Nat} (hB : B ≤ g.w.heap.size) (hl : L.length = n * m) (hn : n ≤ maxLen) : OwnG g' B e m (some ⟨g.w.heap.size, 0, none⟩) n n L :=
  ⟨hl, Or.inr ⟨_, ⟨L⟩, rfl, hB, h.blk, Nat.le_refl _, hn, by simpa using hl, by rw [← hl]; exact List.take_length, h.nx, fun i _ => h.d i, fun i h1 h2 => by omega⟩⟩
def _root_.Go.Vc.G.row (g : G) (w' : World) (hs : g.w.heap.size < w'.heap.size) (k : Nat) : G where
  w := w'
  X := g.X
  D b i := g.D b i ∨ (b = g.w.heap.size ∧ k ≤ i)
  hX b h := Nat.lt_trans (g.hX b h) hs
  hD b i h := by
    rcases h with h | ⟨h, _⟩
    · exact Nat.lt_trans (g.hD b i h) hs
    · omega
theorem _root_.Go.Vc.row_stp {g : G} {w' : World} {hs : g.w.heap.size < w'.heap.size} {k : Nat} {B : Nat} {M : Nat → Prop} (hB : B ≤ g.w.heap.size) (ho : w'.os = g.w.os ∧ w'.tape = g.w.tape ∧ w'.output = g.w.output) (h : ∀ b, b < g.w.heap.size → w'.heap[b]? = g.w.heap[b]?) :
    Stp B M g (g.row w' hs k) ∧ Ex g (g.row w' hs k) := by
  have hex : Ex g (g.row w' hs k) := by
    refine ⟨Nat.le_of_lt hs, fun b _ hx => hx, fun b hb _ => h b hb, fun b hb _ i => ?_⟩
    constructor
    · rintro (hd | ⟨hd, _⟩)
      · exact hd
      · omega
    · exact Or.inl
  refine ⟨⟨hex.le, fun b => Iff.rfl, fun b hb => h b (g.hX b hb), ho.1, ho.2.1, ho.2.2, fun b hb _ => h b (by omega), fun b hb _ i => ?_⟩, hex⟩
  constructor
  · rintro (hd | ⟨hd, _⟩)
    · exact hd
    · omega
  · exact Or.inl
def Appd (P : Program) (g : G) (B : Nat) (e : TypeId) (m : Nat) (a : Option Addr) (n : Nat) (L : List Value) (s : Sem Value) : Prop :=
  ∃ a' c' w', s.run P g.w = .ok (.slice a' n c') w' ∧ ∃ g', g'.w = w' ∧ Stp B nobody g g' ∧ OwnG g' B e m a' n c' L ∧ Stp g.w.heap.size (blkOf a) g g' ∧ (∀ b, blkOf a' b → blkOf a b ∨ g.w.heap.size ≤ b)
theorem grow {t : TypeId} {bytes : Nat} (E : Elem P t e m bytes) (ty : TypeId) (hB : B ≤ g.w.heap.size) (h : Sl g m a l c L) {na : Option Addr} {n cn : Nat} {N : List Value} (hN : Sl g m na n cn N)
    (hg : c < l + n) (hb : (l + n) * bytes ≤ 140737488355328) (hm : l + n ≤ maxLen) : Appd P g B e m a (l + n) (L ++ N) (Builtin.append_ #[t, t] ty #[.slice a l c, .slice na n cn]) := by
  obtain ⟨i, z, hi, hz, hs, hby, hzs, hm0⟩ := E.info
  subst hs hby
  have hsmall : l + n ≤ 9223372036854775807 := by simp only [maxLen] at hm; omega
  have hlen : (L ++ N).length = (l + n) * i.size := by rw [List.length_append, h.len, hN.len, Nat.add_mul]
  have hle := h.le
  have hnle := hN.le
  have fin : ∀ (old : Nat) (w' : World), w' = w'.drew → True := fun _ _ _ => trivial
  have main : ∀ (cs : Array Value) (c' : Nat), cs.toList.take ((l + n) * i.size) = L ++ N → cs.size = c' * i.size → l + n ≤ c' → c' ≤ maxLen →
      (Builtin.append_ #[t, t] ty #[.slice a l c, .slice na n cn]).run P g.w = .ok (.slice (some ⟨g.w.heap.size, 0, none⟩) (l + n) c') (g.w.drew.alloc (.cells cs e)) →
      Appd P g B e i.size a (l + n) (L ++ N) (Builtin.append_ #[t, t] ty #[.slice a l c, .slice na n cn]) := by
    intro cs c' h1 h2 h3 h4 hr
    have hsz : g.w.heap.size < (g.w.drew.alloc (.cells cs e)).heap.size := by simp
    obtain ⟨s1, s2⟩ := row_stp (hs := hsz) (k := (l + n) * i.size) (M := nobody) hB ⟨rfl, rfl, rfl⟩ (fun b hb => Below.heap_alloc g.w.drew _ b hb)
    obtain ⟨s3, _⟩ := row_stp (hs := hsz) (k := (l + n) * i.size) (M := blkOf a) (Nat.le_refl _) ⟨rfl, rfl, rfl⟩ (fun b hb => Below.heap_alloc g.w.drew _ b hb)
    refine ⟨_, _, _, hr, _, rfl, s1, ⟨hlen, Or.inr ⟨_, cs, rfl, hB, ?_, h3, h4, h2, h1, ?_, ?_, ?_⟩⟩, s3, ?_⟩
    · show (g.w.heap.push _)[g.w.heap.size]? = _
      simp
    · intro hx
      exact absurd (g.hX _ hx) (by simp)
    · rintro j hj (hd | ⟨_, hd⟩)
      · exact absurd (g.hD _ _ hd) (by simp)
      · omega
    · intro j hj _
      exact Or.inr ⟨rfl, hj⟩
    · rintro b ⟨ad, had, rfl⟩
      cases had
      exact Or.inr (Nat.le_refl _)
  cases hna : na with
  | none =>
    have := hN.nil hna
    omega
  | some nad =>
    subst hna
    have hNc : ∀ j v, N[j]? = some v → g.w.cell? (nad.add j) = some v := fun j v hj => (hN.at_ nad rfl j v hj).1
    have hge : ∀ old, l + n ≤ grownCap g.w (l + n) old e := fun old => grownCap_ge g.w (l + n) old e
    cases ha : a with
    | none =>
      have h0 := h.nil ha
      subst ha
      have : l = 0 := by omega
      subst this
      subst h0
      have hx : L = [] := List.eq_nil_of_length_eq_zero (by rw [h.len]; simp)
      subst hx
      have hr := run_append_nil (P := P) g.w t ty e i z E.und hi hz nad n cn N hN.len hNc (by omega) (by omega) (by have := hb; simp only [Nat.zero_add] at this; omega)
      have hg0 := hge 0
      simp only [Nat.zero_add] at hg0
      refine main _ (grownCap g.w n 0 e) ?_ ?_ (by simpa using hg0) (grownCap_le_maxLen _ _ _ _ (by simpa using hm)) (by simpa using hr)
      · simp only [Nat.zero_add, List.nil_append, Array.toList_append]
        rw [← hN.len]
        exact List.take_left
      · simp only [Array.size_append, List.size_toArray, size_zeroCells, hzs, hN.len, ← Nat.add_mul]
        congr 1
        omega
    | some ad =>
      subst ha
      have hr := run_append_grow (P := P) g.w t ty e i z E.und hi hz ad l c L h.len (fun j v hj => (h.at_ ad rfl j v hj).1) nad n cn N hN.len hNc hg (by omega) (growslice_fits (by omega) hb)
      have hg0 := hge c
      refine main _ _ ?_ ?_ hg0 (grownCap_le_maxLen _ _ _ _ hm) hr
      · simp only [Array.toList_append, List.append_assoc]
        rw [← List.append_assoc, ← hlen]
        exact List.take_left
      · simp only [Array.size_append, List.size_toArray, size_zeroCells, hzs, h.len, hN.len, ← Nat.add_mul]
        congr 1
        omega
theorem app {t : TypeId} {bytes : Nat} (E : Elem P t e m bytes) (ty : TypeId) (hB : B ≤ g.w.heap.size) (h : OwnG g B e m a l c L) {na : Option Addr} {n cn : Nat} {N : List Value} (hN : Sl g m na n cn N) (h1 : ∀ u ∈ N, u.oneCell' = true)
    (hb : (l + n) * bytes ≤ 140737488355328) (hm : l + n ≤ maxLen) : Appd P g B e m a (l + n) (L ++ N) (Builtin.append_ #[t, t] ty #[.slice a l c, .slice na n cn]) := by
  obtain ⟨i, z, hi, hz, hs, hby, hzs, hm0⟩ := E.info
  have hnle := hN.le
  by_cases hroom : l + n ≤ c
  · cases hna : na with
    | none =>
      have h0 := hN.nil hna
      have hn0 : n = 0 := by omega
      subst hn0
      subst h0
      subst hna
      have hx : N = [] := List.eq_nil_of_length_eq_zero (by rw [hN.len]; simp)
      subst hx
      have hown : g.w.ownsRow 0 e m (.slice a l c) l L := by
        refine ⟨h.len, ?_⟩
        rcases h.row with ⟨rfl, rfl, rfl⟩ | ⟨b, cur, h1, h2, h3, h4, h5, h6, h7, _⟩
        · exact Or.inl ⟨rfl, rfl⟩
        · exact Or.inr ⟨b, c, cur, by rw [h1], Nat.zero_le _, h3, h4, h5, h6, h7⟩
      have hr := run_append_owned_none (P := P) (w := g.w) 0 t ty e i m E.und hi (.slice a l c) l L hown
      refine ⟨a, c, _, hr, g, rfl, Stp.refl _ _ _, by simpa using h, Stp.refl _ _ _, fun b hb => Or.inl hb⟩
    | some nad =>
      subst hna
      have hNc : ∀ j v, N[j]? = some v → g.w.cell? (nad.add j) = some v := fun j v hj => (hN.at_ nad rfl j v hj).1
      rcases h.row with ⟨rfl, rfl, rfl⟩ | ⟨b, cur, rfl, h2, h3, h4, h5, h6, h7, h8, h9, h10⟩
      · have hn0 : n = 0 := by omega
        subst hn0
        have hx : N = [] := List.eq_nil_of_length_eq_zero (by rw [hN.len]; simp)
        subst hx
        have hr : (Builtin.append_ #[t, t] ty #[.slice none 0 0, .slice (some nad) 0 cn]).run P g.w = .ok (.slice none 0 0) g.w := by
          simp [Builtin.append_, run_underlying E.und, sizeOf, typeInfo, hi, Builtin.lenOf, Builtin.firstCells, loadCells, loadCellsFrom]
        exact ⟨none, 0, _, hr, g, rfl, Stp.refl _ _ _, by simpa using h, Stp.refl _ _ _, fun b hb => Or.inl hb⟩
      · subst hs
        have hlen : (L ++ N).length = (l + n) * i.size := by rw [List.length_append, h.len, hN.len, Nat.add_mul]
        have hfit : l * i.size + N.length ≤ cur.size := by rw [hN.len, h6, ← Nat.add_mul]; exact Nat.mul_le_mul_right _ hroom
        have hr := run_append_room (P := P) g.w t ty e i E.und hi b l c cur h3 nad n cn N hN.len hNc h1 hroom hfit
        have hblt := heap_lt h3
        have hss : (g.w.setRow b (cur.toList.take (l * i.size) ++ N ++ cur.toList.drop (l * i.size + N.length)).toArray).heap.size = g.w.heap.size := by simp [World.setRow]
        let g' : G := ⟨g.w.setRow b (cur.toList.take (l * i.size) ++ N ++ cur.toList.drop (l * i.size + N.length)).toArray, g.X, fun x j => g.D x j ∧ ¬ (x = b ∧ j < (l + n) * i.size),
          (fun x hx => by rw [hss]; exact g.hX x hx), (fun x j hx => by rw [hss]; exact g.hD x j hx.1)⟩
        have hcell : ∀ (j : Nat) (v : Value), ¬ g.D b j → g.w.cell? ⟨b, j, none⟩ = some v → g'.w.cell? ⟨b, j, none⟩ = some v := by
          intro j v hd hc
          show (g.w.setRow b _).cell? ⟨b, j, none⟩ = _
          rw [cell_setRow_same g.w b j cur _ e _ h3]
          have hj : j < l * i.size := by
            unfold World.cell? at hc
            simp only [h3] at hc
            have hjs : j < cur.size := by
              simp at hc
              exact (Array.getElem?_eq_some_iff.1 hc).1
            rcases Nat.lt_or_ge j (l * i.size) with h | h
            · exact h
            · exact absurd (h10 j h (by omega)) hd
          have hcj : cur[j]? = some v := by
            unfold World.cell? at hc
            simp only [h3] at hc
            simpa using hc
          simp only [List.getElem?_toArray, List.append_assoc]
          rw [List.getElem?_append_left (by rw [List.length_take]; simp; omega), List.getElem?_take, if_pos hj]
          simpa using hcj
        have hbut : But (blkOf (some ⟨b, 0, none⟩)) g g' := by
          refine ⟨by show _ ≤ (g.w.setRow b _).heap.size; rw [hss]; exact Nat.le_refl _, fun x _ hx => hx, fun x hx _ hp => setRow_other g.w b x _ (fun e => hp ⟨_, rfl, e.symm⟩), fun x hx _ hp j => ?_⟩
          constructor
          · exact fun h => h.1
          · exact fun h => ⟨h, fun hh => hp ⟨_, rfl, hh.1.symm⟩⟩
        have hle : Le g g' := by
          refine ⟨hbut.size, ?_, ?_, ?_⟩
          · rintro ad v ⟨hc1, hc2, hc3⟩
            refine ⟨?_, hc2, fun hd => hc3 hd.1⟩
            by_cases hab : ad.block = b
            · obtain ⟨blk, off, spot⟩ := ad
              subst hab
              cases spot with
              | none => exact hcell off v hc3 hc1
              | some s =>
                unfold World.cell? at hc1
                simp only [h3] at hc1
                simp at hc1
            · show (g.w.setRow b _).cell? ad = _
              rw [cell_setRow_other g.w b _ ad hab]
              exact hc1
          · rintro x mm nn ⟨hc1, hc2, hc3⟩
            refine ⟨?_, hc2, fun hd => hc3 hd.1⟩
            have hxb : x ≠ b := by
              rintro rfl
              rw [h3] at hc1
              cases hc1
            show (g.w.setRow b _).heap[x]? = _
            rw [setRow_other g.w b x _ hxb]
            exact hc1
          · rintro x o ⟨ty, fr, hc1, hc2, hc3⟩
            refine ⟨ty, fr, ?_, hc2, fun j hd => hc3 j hd.1⟩
            by_cases hxb : x = b
            · subst hxb
              have hN0 : N.length = 0 := by
                rcases Nat.lt_or_ge (l * i.size) (c * i.size) with hlt | hge
                · exact absurd (h10 _ (Nat.le_refl _) hlt) (hc3 _)
                · omega
              have hN1 : N = [] := List.eq_nil_of_length_eq_zero hN0
              have hcur : (cur.toList.take (l * i.size) ++ N ++ cur.toList.drop (l * i.size + N.length)).toArray = cur := by
                rw [hN1]
                simp
              show (g.w.setRow x _).heap[x]? = _
              rw [hcur, setRow_heap g.w x cur cur e _ h3, ← hc1, h3]
            · show (g.w.setRow b _).heap[x]? = _
              rw [setRow_other g.w b x _ hxb]
              exact hc1
        refine ⟨_, c, _, hr, g', rfl, ⟨hle, fun _ => Iff.rfl, fun x hx => setRow_other g.w b x _ (fun e => h8 (e ▸ hx)), rfl, rfl, rfl, fun x hx _ => setRow_other g.w b x _ (by omega), fun x hx _ j => ?_⟩, ⟨hlen, Or.inr ⟨b, _, rfl, h2, setRow_heap g.w b cur _ e _ h3, hroom, h5, ?_, ?_, h8, ?_, ?_⟩⟩, ?_, fun x hx => Or.inl hx⟩
        · constructor
          · exact fun h => h.1
          · exact fun h => ⟨h, fun hh => by omega⟩
        · simp only [List.size_toArray, List.length_append, List.length_take, List.length_drop, Array.length_toList]
          omega
        · rw [h7, ← hlen]
          exact List.take_left
        · rintro j hj ⟨_, hd⟩
          exact hd ⟨rfl, hj⟩
        · intro j hj hj2
          refine ⟨h10 j ?_ hj2, fun hh => by omega⟩
          exact Nat.le_trans (Nat.mul_le_mul_right _ (Nat.le_add_right l n)) hj
        · refine ⟨hle, fun _ => Iff.rfl, fun x hx => setRow_other g.w b x _ (fun e => h8 (e ▸ hx)), rfl, rfl, rfl, fun x hx hp => setRow_other g.w b x _ (fun e => hp ⟨_, rfl, e.symm⟩), fun x hx hp j => ?_⟩
          constructor
          · exact fun h => h.1
          · exact fun h => ⟨h, fun hh => hp ⟨_, rfl, hh.1.symm⟩⟩
  · exact grow E ty hB h.sl hN (by omega) hb hm
end OwnG
end Go.Vc
/- Branches; slices of bytes. -/
set_option linter.unusedVariables false
namespace Go.Vc
open Go Go.RowKit
section
variable {A B : Prop} {a b : Int} {c : Bool}
theorem ifT (h1 : c = true → A) (h2 : c = false → B) : ifB c A B := ifB_iff.2 ⟨h1, h2⟩
theorem ifF (h1 : c = false → A) (h2 : c = true → B) : ifB (!c) A B := ifB_iff.2 ⟨fun h => h1 (by simpa using h), fun h => h2 (by simpa using h)⟩
theorem ifLt (h1 : a < b → A) (h2 : b ≤ a → B) : ifB (ltI a b) A B := ifB_iff.2 ⟨fun h => h1 (ltI_true ▸ h), fun h => h2 (ltI_false ▸ h)⟩
theorem ifLe (h1 : a ≤ b → A) (h2 : b < a → B) : ifB (leI a b) A B := ifB_iff.2 ⟨fun h => h1 (leI_true ▸ h), fun h => h2 (leI_false ▸ h)⟩
theorem ifEq (h1 : a = b → A) (h2 : a ≠ b → B) : ifB (eqI a b) A B := ifB_iff.2 ⟨fun h => h1 (eqI_true ▸ h), fun h => h2 (eqI_false ▸ h)⟩
theorem ifNe (h1 : a ≠ b → A) (h2 : a = b → B) : ifB (!eqI a b) A B := ifF (fun h => h1 (eqI_false ▸ h)) (fun h => h2 (eqI_true ▸ h))
noncomputable def tf (p : Prop) : Bool := @decide p (Classical.propDecidable p)
@[simp] theorem tf_true {p : Prop} : (tf p = true) = p := by simp [tf]
@[simp] theorem tf_false {p : Prop} : (tf p = false) = ¬ p := by simp [tf]
theorem tf_iff {p q : Prop} (h : p ↔ q) : tf p = tf q := by rw [propext h]
theorem tf_of {p : Prop} (h : p) : tf p = true := tf_true.mpr h
theorem tf_no {p : Prop} (h : ¬ p) : tf p = false := tf_false.mpr h
theorem tf_le (a b : Int) : leI a b = tf (a ≤ b) := rfl
theorem tf_lt (a b : Int) : ltI a b = tf (a < b) := rfl
theorem tf_eq (a b : Int) : eqI a b = tf (a = b) := rfl
theorem ifP {p : Prop} (h1 : p → A) (h2 : ¬ p → B) : ifB (tf p) A B := ifB_iff.2 ⟨fun h => h1 (tf_true.mp h), fun h => h2 (tf_false.mp h)⟩
theorem ifPn {p : Prop} (h1 : ¬ p → A) (h2 : p → B) : ifB (!tf p) A B := ifF (fun h => h1 (tf_false.mp h)) (fun h => h2 (tf_true.mp h))
theorem vT {p : Prop} (h : p) : Value.bool true = .bool (tf p) := by rw [tf_of h]
theorem vF {p : Prop} (h : ¬ p) : Value.bool false = .bool (tf p) := by rw [tf_no h]
theorem vP {p q : Prop} (h : p ↔ q) : Value.bool (tf p) = .bool (tf q) := by rw [tf_iff h]
theorem i64 {z : Int} (h1 : -9223372036854775808 ≤ z) (h2 : z ≤ 9223372036854775807) : InI64 z := ⟨h1, h2⟩
end
abbrev SlB (g : G) (a : Option Addr) (n c : Nat) (l : List UInt8) : Prop := Sl g 1 a n c (vs .u8 (nums l))
theorem nums_at (l : List UInt8) (i : Nat) (h : i < l.length) : (vs .u8 (nums l))[i]? = some (.int .u8 (((l.getD i 0).toNat : Nat) : Int)) := by
  rw [vs_get (by simpa using h)]
  simp [nums, List.getD_eq_getElem?_getD, h]
theorem nums_append (a b : List UInt8) : vs .u8 (nums (a ++ b)) = vs .u8 (nums a) ++ vs .u8 (nums b) := by simp [vs, nums]
theorem nums_take (a : List UInt8) (n : Nat) : vs .u8 (nums (a.take n)) = (vs .u8 (nums a)).take n := by simp [vs, nums, List.map_take]
theorem nums_drop (a : List UInt8) (n : Nat) : vs .u8 (nums (a.drop n)) = (vs .u8 (nums a)).drop n := by simp [vs, nums, List.map_drop]
theorem SlB.length {g : G} {a : Option Addr} {n c : Nat} {l : List UInt8} (h : SlB g a n c l) : l.length = n := by have := h.len; simpa using this
theorem SlB.rd {g : G} {a : Option Addr} {n c : Nat} {l : List UInt8} (h : SlB g a n c l) {i : Int} (h0 : 0 ≤ i) (h1 : i < n) {K : Int → Prop} (hk : K (((l.getD i.toNat 0).toNat : Nat) : Int)) :
    derefP a fun ad => ∃ x : Int, g.w.cell? (Addr.add ad (Int.toNat i * 1)) = some (.int .u8 x) ∧ K x := by
  have hl := SlB.length h
  refine Sl.rd h (nums_at l i.toNat (by omega)) fun ad _ hc => ⟨_, ?_, hk⟩
  rw [Nat.mul_one]
  exact hc.1
theorem SlB.rdN {g : G} {a : Option Addr} {n c : Nat} {l : List UInt8} (h : SlB g a n c l) (k : Nat) {i : Int} (hi : i = (k : Int)) (h1 : k < n) {K : Int → Prop} (hk : K (((l.getD k 0).toNat : Nat) : Int)) :
    derefP a fun ad => ∃ x : Int, g.w.cell? (Addr.add ad (Int.toNat i * 1)) = some (.int .u8 x) ∧ K x := by
  subst hi
  exact SlB.rd h (by omega) (by omega) hk
theorem SlB.sub {g : G} {a : Option Addr} {n c : Nat} {l : List UInt8} (h : SlB g a n c l) {lo hi : Nat} (h1 : lo ≤ hi) (h2 : hi ≤ n) : SlB g (slAddr a c lo 1) (hi - lo) (c - lo) ((l.drop lo).take (hi - lo)) := by
  have := Sl.sub h h1 h2
  rw [Nat.mul_one, Nat.mul_one, ← nums_drop, ← nums_take] at this
  exact this
theorem SlB.take {g : G} {a : Option Addr} {n c : Nat} {l : List UInt8} (h : SlB g a n c l) {hi : Nat} (h2 : hi ≤ n) : SlB g (slAddr a c 0 1) (hi - 0) (c - 0) (l.take hi) := by
  have := SlB.sub h (Nat.zero_le hi) h2
  simpa using this
theorem SlB.drop {g : G} {a : Option Addr} {n c : Nat} {l : List UInt8} (h : SlB g a n c l) {lo : Nat} (h1 : lo ≤ n) : SlB g (slAddr a c lo 1) (n - lo) (c - lo) (l.drop lo) := by
  have := SlB.sub h h1 (Nat.le_refl n)
  rwa [List.take_of_length_le (by rw [List.length_drop, SlB.length h]; omega)] at this
abbrev OwnB (g : G) (B e : Nat) (a : Option Addr) (l c : Nat) (s : List UInt8) : Prop := OwnG g B e 1 a l c (vs .u8 (nums s))
theorem u8_one (l : List UInt8) : ∀ u ∈ vs .u8 (nums l), u.oneCell' = true := vs_one _ _
theorem OwnB.app {P : Program} {g : G} {B e : Nat} {a : Option Addr} {l c : Nat} {s : List UInt8} {t : TypeId} (E : Elem P t e 1 1) (ty : TypeId) (hB : B ≤ g.w.heap.size) (h : OwnB g B e a l c s) {na : Option Addr} {n cn : Nat} {r : List UInt8} (hN : SlB g na n cn r)
    (hb : l + n ≤ 140737488355328) (hm : l + n ≤ maxLen) : OwnG.Appd P g B e 1 a (l + n) (vs .u8 (nums (s ++ r))) (Builtin.append_ #[t, t] ty #[.slice a l c, .slice na n cn]) := by
  rw [nums_append]
  exact OwnG.app E ty hB h hN (u8_one r) (by omega) hm
theorem SlB.str {P : Program} {g : G} {a : Option Addr} {n c : Nat} {l : List UInt8} (h : SlB g a n c l) {src dst e : TypeId} (hs : P.underlying src = some (.slice e)) (he : P.underlying e = some (.int .u8)) (hd : P.underlying dst = some .string) :
    (convert src dst (.slice a n c)).run P g.w = .ok (.string ⟨l.toArray⟩) g.w := string_of hs he hd (Sl.slv h)
theorem CallsP.fin {P : Program} {f : FuncId} {args : Array Value} {g : G} {v : Value} {Q : G → Prop} (h : CallsP P f args g fun u g' => u = v ∧ Q g') : CallsP P f args g fun u g' => u = v ∧ Q g' := h
end Go.Vc
/- Mutable blocks: a variable that is captured, or behind a pointer. -/
set_option linter.unusedVariables false
namespace Go.Vc
open Go Go.RowKit
structure MutB (g : G) (b : Nat) (t : TypeId) (L : List Value) : Prop where
  blk : Blk g.w b t L
  nx : ¬ g.X b
  d : ∀ i, g.D b i
theorem NewD.mut {g g' : G} {e : TypeId} {L : List Value} (h : NewD g g' e L) : MutB g' g.w.heap.size e L := ⟨h.blk, h.nx, h.d⟩
namespace MutB
variable {g g' : G} {b : Nat} {t : TypeId} {L : List Value}
theorem lt (h : MutB g b t L) : b < g.w.heap.size := h.blk.lt
theorem but (h : MutB g b t L) {p : Nat → Prop} (k : But p g g') (hp : ¬ p b) : MutB g' b t L :=
  ⟨by unfold Blk; rw [k.same b h.lt h.nx hp]; exact h.blk, k.x b h.lt h.nx, fun i => (k.d b h.lt h.nx hp i).2 (h.d i)⟩
theorem ex (h : MutB g b t L) (k : Ex g g') : MutB g' b t L := h.but (k.but nobody) (fun h => h)
theorem rd0 (h : MutB g b t L) {v : Value} (hv : L[0]? = some v) : g.w.cell? ⟨b, 0, none⟩ = some v := by rw [h.blk.cell]; exact hv
theorem rd (h : MutB g b t L) {j : Nat} {v : Value} (hv : L[j]? = some v) : g.w.cell? (Addr.add ⟨b, 0, none⟩ j) = some v := by rw [h.blk.cellA]; exact hv
theorem ok (h : MutB g b t L) {j n : Nat} (hj : j + n ≤ L.length) : stOk g.w (Addr.add ⟨b, 0, none⟩ j) n := by
  intro i hi
  rw [addr_add_add]
  exact h.blk.ok1 (by omega)
theorem ok0 (h : MutB g b t L) {n : Nat} (hj : n ≤ L.length) : stOk g.w ⟨b, 0, none⟩ n := h.blk.ok hj
theorem nxA (h : MutB g b t L) (j : Nat) : ¬ g.X (Addr.block (Addr.add ⟨b, 0, none⟩ j)) := by rw [add_block]; exact h.nx
theorem mutA (h : MutB g b t L) (j n : Nat) : mutAt g (Addr.add ⟨b, 0, none⟩ j) n := by
  intro i _
  rw [addr_add_add, add_block]
  exact h.d _
theorem mut0 (h : MutB g b t L) (n : Nat) : mutAt g ⟨b, 0, none⟩ n := by
  intro i _
  rw [add_block]
  exact h.d _
theorem st (h : MutB g b t L) {j : Nat} {N : List Value} (k : StG false g (Addr.add ⟨b, 0, none⟩ j) N g') : MutB g' b t (setsAt L j N) ∧ But (fun x => x = b) g g' := by
  have hD : ∀ x i, g'.D x i ↔ g.D x i := fun x i => by
    rw [k.d]
    constructor
    · exact fun h => h.1
    · exact fun h => ⟨h, fun hf => by cases hf⟩
  have hb : Blk g'.w b t (setsAt L j N) := by
    rw [k.w, add_row, Nat.zero_add]
    exact blk_stL (w := g.w) j N 0 L h.blk
  refine ⟨⟨hb, fun hx => h.nx ((k.x b).1 hx), fun i => (hD b i).2 (h.d i)⟩, ?_⟩
  refine ⟨by rw [k.w, size_stL]; exact Nat.le_refl _, fun x _ hx hx' => hx ((k.x x).1 hx'), fun x _ _ hx => ?_, fun x _ _ _ i => hD x i⟩
  rw [k.w]
  exact heap_stL _ _ _ _ _ (by rw [add_block]; exact hx)
theorem st0 (h : MutB g b t L) {N : List Value} (k : StG false g ⟨b, 0, none⟩ N g') : MutB g' b t (setsAt L 0 N) ∧ But (fun x => x = b) g g' := by
  have k' : StG false g (Addr.add ⟨b, 0, none⟩ 0) N g' := by rw [add_zero_row]; exact k
  exact h.st k'
end MutB
theorem MutB.pub {g g' : G} {b : Nat} {t : TypeId} {L N : List Value} (h : MutB g b t L) (k : StG true g ⟨b, 0, none⟩ N g') (hl : N.length = L.length) :
    (∀ i v, N[i]? = some v → Live g' (Addr.add ⟨b, 0, none⟩ i) v) ∧ But (fun x => x = b) g g' := by
  have hb : Blk g'.w b t N := by
    rw [k.w]
    exact h.blk.stLE hl
  refine ⟨fun i v hi => ?_, ?_⟩
  · have hlt := (List.getElem?_eq_some_iff.1 hi).1
    rw [add_row, Nat.zero_add]
    refine ⟨?_, fun hx => h.nx ((k.x b).1 hx), fun hd => ?_⟩
    · rw [hb.cell]; exact hi
    · have := ((k.d _ _).1 hd).2 rfl i hlt
      rw [add_row] at this
      exact this ⟨rfl, (Nat.zero_add i).symm⟩
  · refine ⟨by rw [k.w, size_stL]; exact Nat.le_refl _, fun x _ hx hx' => hx ((k.x x).1 hx'), fun x _ _ hx => ?_, fun x _ _ hx i => ?_⟩
    · rw [k.w]
      exact heap_stL _ _ _ _ _ hx
    · rw [k.d]
      constructor
      · exact fun h => h.1
      · refine fun h => ⟨h, fun _ j _ hh => hx ?_⟩
        have := hh.1
        rw [add_block] at this
        exact this
theorem But.le {g g' : G} {p : Nat → Prop} (h : But p g g') (hp : ∀ b, p b → ∀ i, g.D b i) : Le g g' := by
  refine ⟨h.size, ?_, ?_, fun b o ⟨ty, fr, h1, h2, h3⟩ => ?_⟩
  rotate_right
  · have hlt := heap_lt h1
    have hn : ¬ p b := fun hh => h3 0 (hp _ hh 0)
    exact ⟨ty, fr, by rw [h.same _ hlt h2 hn]; exact h1, h.x _ hlt h2, fun i hd => h3 i ((h.d _ hlt h2 hn _).1 hd)⟩
  · rintro a v ⟨h1, h2, h3⟩
    have hlt := cell_lt h1
    have hn : ¬ p a.block := fun hh => h3 (hp _ hh _)
    exact ⟨by rw [cell_same (h.same _ hlt h2 hn)]; exact h1, h.x _ hlt h2, fun hd => h3 ((h.d _ hlt h2 hn _).1 hd)⟩
  · rintro b m n ⟨h1, h2, h3⟩
    have hlt := heap_lt h1
    have hn : ¬ p b := fun hh => h3 (hp _ hh _)
    exact ⟨by rw [h.same _ hlt h2 hn]; exact h1, h.x _ hlt h2, fun hd => h3 ((h.d _ hlt h2 hn _).1 hd)⟩
theorem OwnG.ne {g : G} {B : Nat} {e : TypeId} {m : Nat} {a : Option Addr} {l c : Nat} {L : List Value} (h : OwnG g B e m a l c L) {b : Nat} (hb : b < B) : ¬ blkOf a b := by
  rintro ⟨ad, rfl, rfl⟩
  rcases h.row with ⟨h0, _⟩ | ⟨x, cur, h1, h2, _⟩
  · cases h0
  · cases h1
    exact absurd h2 (by simp; omega)
theorem OwnG.lt {g : G} {B : Nat} {e : TypeId} {m : Nat} {a : Option Addr} {l c : Nat} {L : List Value} (h : OwnG g B e m a l c L) {b : Nat} (hb : blkOf a b) : b < g.w.heap.size := by
  obtain ⟨ad, rfl, rfl⟩ := hb
  rcases h.row with ⟨h0, _⟩ | ⟨x, cur, h1, h2, h3, _⟩
  · cases h0
  · cases h1
    exact heap_lt h3
theorem OwnG.ge {g : G} {B : Nat} {e : TypeId} {m : Nat} {a : Option Addr} {l c : Nat} {L : List Value} (h : OwnG g B e m a l c L) {b : Nat} (hb : blkOf a b) : B ≤ b := by
  obtain ⟨ad, rfl, rfl⟩ := hb
  rcases h.row with ⟨h0, _⟩ | ⟨x, cur, h1, h2, h3, _⟩
  · cases h0
  · cases h1
    exact h2
end Go.Vc
/- Slices whose elements stand for data. -/
set_option linter.unusedVariables false
namespace Go.Vc
open Go Go.RowKit
structure El (α : Type) where
  m : Nat
  rep : G → List Value → α → Prop
  len : ∀ {g r x}, rep g r x → r.length = m
  mono : ∀ {g g' r x}, Le g g' → rep g r x → rep g' r x
  one : ∀ {g r x}, rep g r x → ∀ u ∈ r, u.oneCell' = true
inductive All2 {α β : Type} (R : α → β → Prop) : List α → List β → Prop
  | nil : All2 R [] []
  | cons {a b l m} : R a b → All2 R l m → All2 R (a :: l) (b :: m)
namespace All2
variable {α β : Type} {R S : α → β → Prop}
theorem length : ∀ {l : List α} {m : List β}, All2 R l m → l.length = m.length
  | _, _, .nil => rfl
  | _, _, .cons _ h => by simp [length h]
theorem imp (h : ∀ a b, R a b → S a b) : ∀ {l : List α} {m : List β}, All2 R l m → All2 S l m
  | _, _, .nil => .nil
  | _, _, .cons h1 h2 => .cons (h _ _ h1) (imp h h2)
theorem append : ∀ {l l' : List α} {m m' : List β}, All2 R l m → All2 R l' m' → All2 R (l ++ l') (m ++ m')
  | _, _, _, _, .nil, h => h
  | _, _, _, _, .cons h1 h2, h => .cons h1 (append h2 h)
theorem get : ∀ {l : List α} {m : List β}, All2 R l m → ∀ {i : Nat} {b : β}, m[i]? = some b → ∃ a, l[i]? = some a ∧ R a b
  | _, _, .nil, i, b, h => by simp at h
  | _, _, .cons h1 h2, i, b, h => by
    cases i with
    | zero => simp at h; subst h; exact ⟨_, rfl, h1⟩
    | succ i => simpa using get h2 (by simpa using h)
theorem take : ∀ {l : List α} {m : List β}, All2 R l m → ∀ n, All2 R (l.take n) (m.take n)
  | _, _, .nil, n => by simp; exact .nil
  | _, _, .cons h1 h2, n => by
    cases n with
    | zero => exact .nil
    | succ n => exact .cons h1 (take h2 n)
theorem drop : ∀ {l : List α} {m : List β}, All2 R l m → ∀ n, All2 R (l.drop n) (m.drop n)
  | _, _, .nil, n => by simp; exact .nil
  | _, _, .cons h1 h2, n => by
    cases n with
    | zero => exact .cons h1 h2
    | succ n => exact drop h2 n
end All2
structure Rws {α : Type} (E : El α) (g : G) (L : List Value) (xs : List α) : Prop where
  ex : ∃ rs : List (List Value), L = rs.flatten ∧ All2 (E.rep g) rs xs
theorem flat_get {m : Nat} : ∀ {rs : List (List Value)}, (∀ r ∈ rs, r.length = m) → ∀ {i j : Nat} {r : List Value}, rs[i]? = some r → j < m → rs.flatten[i * m + j]? = r[j]?
  | [], _, i, j, r, h, _ => by simp at h
  | s :: rs, hl, i, j, r, h, hj => by
    have hs := hl s (by simp)
    cases i with
    | zero =>
      simp at h
      subst h
      rw [List.flatten_cons, Nat.zero_mul, Nat.zero_add, List.getElem?_append_left (by omega)]
    | succ i =>
      have h' : rs[i]? = some r := by simpa using h
      rw [List.flatten_cons, List.getElem?_append_right (by rw [hs, Nat.succ_mul]; omega), hs]
      rw [show (i + 1) * m + j - m = i * m + j by rw [Nat.succ_mul]; omega]
      exact flat_get (fun x hx => hl x (by simp [hx])) h' hj
theorem flat_len {m : Nat} : ∀ {rs : List (List Value)}, (∀ r ∈ rs, r.length = m) → rs.flatten.length = rs.length * m
  | [], _ => by simp
  | s :: rs, hl => by
    rw [List.flatten_cons, List.length_append, flat_len (fun x hx => hl x (by simp [hx])), hl s (by simp), List.length_cons, Nat.succ_mul]
    omega
theorem flat_drop {m : Nat} : ∀ {rs : List (List Value)}, (∀ r ∈ rs, r.length = m) → ∀ n, rs.flatten.drop (n * m) = (rs.drop n).flatten
  | [], _, n => by simp
  | s :: rs, hl, n => by
    cases n with
    | zero => simp
    | succ n =>
      have hs := hl s (by simp)
      rw [List.flatten_cons, List.drop_succ_cons, ← flat_drop (fun x hx => hl x (by simp [hx])) n, Nat.succ_mul]
      rw [← hs, Nat.add_comm, ← List.drop_drop, List.drop_left]
theorem flat_take {m : Nat} : ∀ {rs : List (List Value)}, (∀ r ∈ rs, r.length = m) → ∀ n, rs.flatten.take (n * m) = (rs.take n).flatten
  | [], _, n => by simp
  | s :: rs, hl, n => by
    cases n with
    | zero => simp
    | succ n =>
      have hs := hl s (by simp)
      rw [List.flatten_cons, List.take_succ_cons, List.flatten_cons, ← flat_take (fun x hx => hl x (by simp [hx])) n, Nat.succ_mul]
      rw [List.take_append, hs, show n * m + m - m = n * m by omega, List.take_of_length_le (by omega)]
namespace Rws
variable {α : Type} {E : El α} {g g' : G} {L N : List Value} {xs ys : List α}
theorem lens {rs : List (List Value)} (h : All2 (E.rep g) rs xs) : ∀ r ∈ rs, r.length = E.m := by
  induction h with
  | nil => intro r hr; cases hr
  | cons h1 h2 ih =>
    intro r hr
    rcases List.mem_cons.1 hr with rfl | hr
    · exact E.len h1
    · exact ih r hr
theorem len (h : Rws E g L xs) : L.length = xs.length * E.m := by
  obtain ⟨rs, rfl, hh⟩ := h.ex
  rw [flat_len (lens hh), hh.length]
theorem mono (h : Rws E g L xs) (k : Le g g') : Rws E g' L xs := by
  obtain ⟨rs, rfl, hh⟩ := h.ex
  exact ⟨rs, rfl, hh.imp fun _ _ => E.mono k⟩
theorem one (h : Rws E g L xs) : ∀ u ∈ L, u.oneCell' = true := by
  obtain ⟨rs, rfl, hh⟩ := h.ex
  intro u hu
  obtain ⟨r, hr, hur⟩ := List.mem_flatten.1 hu
  clear hu h
  induction hh with
  | nil => cases hr
  | cons h1 h2 ih =>
    rcases List.mem_cons.1 hr with rfl | hr
    · exact E.one h1 u hur
    · exact ih hr
theorem nil : Rws E g [] [] := ⟨[], rfl, .nil⟩
theorem single {r : List Value} {x : α} (h : E.rep g r x) : Rws E g r [x] := ⟨[r], by simp, .cons h .nil⟩
theorem append (h : Rws E g L xs) (k : Rws E g N ys) : Rws E g (L ++ N) (xs ++ ys) := by
  obtain ⟨rs, rfl, hh⟩ := h.ex
  obtain ⟨ss, rfl, kk⟩ := k.ex
  exact ⟨rs ++ ss, by simp, hh.append kk⟩
theorem cons {r : List Value} {x : α} (h : E.rep g r x) (k : Rws E g N ys) : Rws E g (r ++ N) (x :: ys) := by
  obtain ⟨ss, rfl, kk⟩ := k.ex
  exact ⟨r :: ss, by simp, .cons h kk⟩
theorem take (h : Rws E g L xs) (n : Nat) : Rws E g (L.take (n * E.m)) (xs.take n) := by
  obtain ⟨rs, rfl, hh⟩ := h.ex
  exact ⟨rs.take n, flat_take (lens hh) n, hh.take n⟩
theorem drop (h : Rws E g L xs) (n : Nat) : Rws E g (L.drop (n * E.m)) (xs.drop n) := by
  obtain ⟨rs, rfl, hh⟩ := h.ex
  exact ⟨rs.drop n, flat_drop (lens hh) n, hh.drop n⟩
theorem get (h : Rws E g L xs) {i : Nat} {x : α} (hi : xs[i]? = some x) : ∃ r, E.rep g r x ∧ ∀ j, j < E.m → L[i * E.m + j]? = r[j]? := by
  obtain ⟨rs, rfl, hh⟩ := h.ex
  obtain ⟨r, hr, hrep⟩ := hh.get hi
  exact ⟨r, hrep, fun j hj => flat_get (lens hh) hr hj⟩
end Rws
structure SlE {α : Type} (E : El α) (g : G) (a : Option Addr) (n c : Nat) (xs : List α) : Prop where
  ex : ∃ L, Sl g E.m a n c L ∧ Rws E g L xs
  len : xs.length = n
namespace SlE
variable {α : Type} {E : El α} {g g' : G} {a : Option Addr} {n c : Nat} {xs : List α}
theorem mono (h : SlE E g a n c xs) (k : Le g g') : SlE E g' a n c xs := by
  obtain ⟨L, h1, h2⟩ := h.ex
  exact ⟨⟨L, h1.mono k, h2.mono k⟩, h.len⟩
theorem exm (h : SlE E g a n c xs) (k : Ex g g') : SlE E g' a n c xs := h.mono k.le
theorem le (h : SlE E g a n c xs) : n ≤ c := by obtain ⟨L, h1, _⟩ := h.ex; exact h1.le
theorem cap (h : SlE E g a n c xs) : c ≤ maxLen := by obtain ⟨L, h1, _⟩ := h.ex; exact h1.cap
theorem nil (h : SlE E g a n c xs) : a = none → c = 0 := by obtain ⟨L, h1, _⟩ := h.ex; exact h1.nil
theorem zero (g : G) : SlE E g none 0 0 [] := ⟨⟨[], Sl.zero _ _, Rws.nil⟩, rfl⟩
theorem rd (h : SlE E g a n c xs) {i : Nat} {x : α} (hi : xs[i]? = some x) {K : Addr → Prop} (hk : ∀ r ad, E.rep g r x → (∀ j v, r[j]? = some v → Live g ((ad.add (i * E.m)).add j) v) → K ad) : derefP a K := by
  obtain ⟨L, h1, h2⟩ := h.ex
  obtain ⟨r, hrep, hr⟩ := h2.get hi
  have hlt := (List.getElem?_eq_some_iff.1 hi).1
  have hn : 0 < n := by have := h.len; omega
  obtain ⟨ad, rfl, hc⟩ := h1.addr hn
  refine hk r ad hrep fun j v hv => ?_
  have hj : j < E.m := by
    have := (List.getElem?_eq_some_iff.1 hv).1
    rwa [E.len hrep] at this
  rw [addr_add_add]
  exact hc _ v (by rw [hr j hj]; exact hv)
theorem sub (h : SlE E g a n c xs) {lo hi : Nat} (h1 : lo ≤ hi) (h2 : hi ≤ n) : SlE E g (slAddr a c lo E.m) (hi - lo) (c - lo) ((xs.drop lo).take (hi - lo)) := by
  obtain ⟨L, h3, h4⟩ := h.ex
  exact ⟨⟨_, h3.sub h1 h2, (h4.drop lo).take (hi - lo)⟩, by have := h.len; rw [List.length_take, List.length_drop]; omega⟩
theorem take (h : SlE E g a n c xs) {hi : Nat} (h2 : hi ≤ n) : SlE E g (slAddr a c 0 E.m) (hi - 0) (c - 0) (xs.take hi) := by
  have := h.sub (Nat.zero_le hi) h2
  simpa using this
theorem drop (h : SlE E g a n c xs) {lo : Nat} (h1 : lo ≤ n) : SlE E g (slAddr a c lo E.m) (n - lo) (c - lo) (xs.drop lo) := by
  have := h.sub h1 (Nat.le_refl n)
  rwa [List.take_of_length_le (by have := h.len; rw [List.length_drop]; omega)] at this
end SlE
theorem NewL.sle {α : Type} {E : El α} {g g' : G} {e : TypeId} {L : List Value} {xs : List α} (h : NewL g g' e L) (hr : Rws E g L xs) (hn : xs.length ≤ maxLen) : SlE E g' (some ⟨g.w.heap.size, 0, none⟩) xs.length xs.length xs :=
  ⟨⟨L, h.sl hr.len hn, hr.mono h.ex.le⟩, rfl⟩
structure OwnE {α : Type} (E : El α) (g : G) (B : Nat) (e : TypeId) (a : Option Addr) (n c : Nat) (xs : List α) : Prop where
  ex : ∃ L, OwnG g B e E.m a n c L ∧ Rws E g L xs
  len : xs.length = n
namespace OwnE
variable {P : Program} {α : Type} {E : El α} {g g' : G} {B B' : Nat} {e : TypeId} {a : Option Addr} {n c : Nat} {xs : List α}
theorem sl (h : OwnE E g B e a n c xs) : SlE E g a n c xs := by
  obtain ⟨L, h1, h2⟩ := h.ex
  exact ⟨⟨L, h1.sl, h2⟩, h.len⟩
theorem base (h : OwnE E g B e a n c xs) (hB : B' ≤ B) : OwnE E g B' e a n c xs := by
  obtain ⟨L, h1, h2⟩ := h.ex
  exact ⟨⟨L, h1.base hB, h2⟩, h.len⟩
theorem but (h : OwnE E g B e a n c xs) {p : Nat → Prop} (k : But p g g') (hp : ∀ b, blkOf a b → ¬ p b) (hl : Le g g') : OwnE E g' B e a n c xs := by
  obtain ⟨L, h1, h2⟩ := h.ex
  exact ⟨⟨L, h1.but k hp, h2.mono hl⟩, h.len⟩
theorem exm (h : OwnE E g B e a n c xs) (k : Ex g g') : OwnE E g' B e a n c xs := h.but (k.but nobody) (fun _ _ h => h) k.le
theorem nil (g : G) (B : Nat) (e : TypeId) : OwnE E g B e none 0 0 [] := ⟨⟨[], OwnG.nil _ _ _ _, Rws.nil⟩, rfl⟩
theorem lit {L : List Value} (h : NewL g g' e L) (hr : Rws E g L xs) (hB : B ≤ g.w.heap.size) (hn : xs.length ≤ maxLen) : OwnE E g' B e (some ⟨g.w.heap.size, 0, none⟩) xs.length xs.length xs :=
  ⟨⟨L, OwnG.lit h hB hr.len hn, hr.mono h.ex.le⟩, rfl⟩
theorem ge (h : OwnE E g B e a n c xs) {b : Nat} (hb : blkOf a b) : B ≤ b := by obtain ⟨L, h1, _⟩ := h.ex; exact h1.ge hb
theorem lt (h : OwnE E g B e a n c xs) {b : Nat} (hb : blkOf a b) : b < g.w.heap.size := by obtain ⟨L, h1, _⟩ := h.ex; exact h1.lt hb
theorem ne (h : OwnE E g B e a n c xs) {b : Nat} (hb : b < B) : ¬ blkOf a b := by obtain ⟨L, h1, _⟩ := h.ex; exact h1.ne hb
def Appd {α : Type} (P : Program) (E : El α) (g : G) (B : Nat) (e : TypeId) (a : Option Addr) (n : Nat) (xs : List α) (s : Sem Value) : Prop :=
  ∃ a' c' w', s.run P g.w = .ok (.slice a' n c') w' ∧ ∃ g', g'.w = w' ∧ Stp B nobody g g' ∧ OwnE E g' B e a' n c' xs ∧ Stp g.w.heap.size (blkOf a) g g' ∧ (∀ b, blkOf a' b → blkOf a b ∨ g.w.heap.size ≤ b)
theorem app {t : TypeId} {bytes : Nat} (Et : Elem P t e E.m bytes) (ty : TypeId) (hB : B ≤ g.w.heap.size) (h : OwnE E g B e a n c xs) {na : Option Addr} {k cn : Nat} {ys : List α} (hN : SlE E g na k cn ys)
    (hb : (n + k) * bytes ≤ 140737488355328) (hm : n + k ≤ maxLen) : Appd P E g B e a (n + k) (xs ++ ys) (Builtin.append_ #[t, t] ty #[.slice a n c, .slice na k cn]) := by
  obtain ⟨L, h1, h2⟩ := h.ex
  obtain ⟨N, h3, h4⟩ := hN.ex
  obtain ⟨a', c', w', hr, g', hw, hs, ho, hs2, hl⟩ := OwnG.app Et ty hB h1 h3 h4.one hb hm
  exact ⟨a', c', w', hr, g', hw, hs, ⟨⟨_, ho, (h2.append h4).mono hs.le⟩, by rw [List.length_append, h.len, hN.len]⟩, hs2, hl⟩
theorem app1 {t : TypeId} {bytes : Nat} (Et : Elem P t e E.m bytes) (ty : TypeId) {gx : G} {L : List Value} {x : α} (hB : B ≤ gx.w.heap.size) (h : OwnE E gx B e a n c xs) (hn : NewL gx g e L) (hr : E.rep gx L x)
    (hb : (n + 1) * bytes ≤ 140737488355328) (hm : n + 1 ≤ maxLen) : Appd P E g B e a (n + 1) (xs ++ [x]) (Builtin.append_ #[t, t] ty #[.slice a n c, .slice (some ⟨gx.w.heap.size, 0, none⟩) 1 1]) :=
  app Et ty (Nat.le_trans hB hn.ex.size) (h.exm hn.ex) (hn.sle (Rws.single hr) (by unfold maxLen; simp)) hb hm
end OwnE
end Go.Vc
/- A constant string's bytes: the row gets a mark behind its last cell. -/
set_option linter.unusedVariables false
namespace Go.Vc
open Go Go.RowKit
end Go.Vc
/- Maps keyed by strings, that a function owns. -/
set_option linter.unusedVariables false
namespace Go.Vc
open Go Go.RowKit Go.Maps Go.ChangeMaps Go.MapKept Go.WideShapes
def heldV (v : Value) : Option (DataW Value × List MemPlace) := some (.held v, [])
noncomputable def upd (f : List UInt8 → Option Value) (s : List UInt8) (v : Option Value) : List UInt8 → Option Value := fun x => @ite _ (x = s) (Classical.propDecidable _) v (f x)
theorem upd_same (f : List UInt8 → Option Value) (s : List UInt8) (v : Option Value) : upd f s v s = v := by simp [upd]
theorem upd_other (f : List UInt8 → Option Value) {s x : List UInt8} (v : Option Value) (h : x ≠ s) : upd f s v x = f x := by simp [upd, h]
def Says (D : DataW Value) (f : List UInt8 → Option Value) : Prop := ∀ s, (∀ v, f s = some v → Maps.has D (.string s) = true ∧ ∀ z, D.atKey (.string s) z = .held v) ∧ (f s = none → Maps.has D (.string s) = false)
structure MapG (P : Program) (g : G) (k : TypeId) (b n : Nat) (f : List UInt8 → Option Value) : Prop where
  own : ∃ D, g.w.ownsMap P k heldV b n D ∧ Says D f
  nx : ¬ g.X b
  d : g.D b 0
theorem keyS {P : Program} {k : TypeId} (hk : P.underlying k = some .string) (s : List UInt8) (hs : s.length ≤ maxLen) : keyOf P k (.string ⟨s.toArray⟩) = some (.string s) := by
  have := WideMaps.keyOf_string_mk (P := P) (k := k) hk (s := ⟨s.toArray⟩) (by simpa [ByteArray.size] using hs)
  simpa using this
theorem turn_stp {g : G} {w' : World} {b : Nat} {B : Nat} (h : g.w.mapTurned w' b) (hx : ¬ g.X b) (hd : g.D b 0) (hB : B ≤ b) : ∃ g' : G, g'.w = w' ∧ Stp B nobody g g' ∧ But (fun x => x = b) g g' ∧ (¬ g'.X b ∧ g'.D b 0) := by
  have hg := h.grown
  obtain ⟨es, clock, es', clock', hb, hw⟩ := h
  have hs : w'.heap.size = g.w.heap.size := by rw [hw]; simp [setBlock]
  have ho : ∀ x, x ≠ b → w'.heap[x]? = g.w.heap[x]? := fun x hx => by rw [hw]; exact heap_setBlock_other hb _ hx
  let g' : G := ⟨w', g.X, g.D, fun x hx => by rw [hs]; exact g.hX x hx, fun x i hx => by rw [hs]; exact g.hD x i hx⟩
  have hbut : But (fun x => x = b) g g' := ⟨by show _ ≤ w'.heap.size; rw [hs]; exact Nat.le_refl _, fun x _ hx => hx, fun x _ _ hne => ho x hne, fun x _ _ _ i => Iff.rfl⟩
  have hle : Le g g' := by
    refine ⟨hbut.size, ?_, ?_, ?_⟩
    · rintro a v ⟨h1, h2, h3⟩
      have hne : a.block ≠ b := by
        intro e
        unfold World.cell? at h1
        rw [e, hb] at h1
        cases h1
      exact ⟨by rw [cell_same (w := g.w) (ho _ hne)]; exact h1, h2, h3⟩
    · rintro x m n ⟨h1, h2, h3⟩
      have hne : x ≠ b := fun e => h3 (e ▸ hd)
      exact ⟨(ho _ hne).trans h1, h2, h3⟩
    · rintro x o ⟨ty, fr, h1, h2, h3⟩
      have hne : x ≠ b := fun e => h3 0 (e ▸ hd)
      exact ⟨ty, fr, (ho _ hne).trans h1, h2, h3⟩
  refine ⟨g', rfl, ⟨hle, fun _ => Iff.rfl, fun x hx' => ho x (fun e => hx (e ▸ hx')), hg.os, hg.tape, hg.output, fun x hx' _ => ho x (by omega), fun _ _ _ _ => Iff.rfl⟩, hbut, hx, hd⟩
namespace MapG
variable {P : Program} {g g' : G} {k : TypeId} {b n : Nat} {f : List UInt8 → Option Value}
theorem lt (h : MapG P g k b n f) : b < g.w.heap.size := by obtain ⟨D, h1, _⟩ := h.own; exact h1.lt
theorem but (h : MapG P g k b n f) {p : Nat → Prop} (m : But p g g') (hp : ¬ p b) : MapG P g' k b n f := by
  have hlt := h.lt
  obtain ⟨D, ⟨es, clock, hb, hF, hs, hD⟩, h2⟩ := h.own
  exact ⟨⟨D, ⟨es, clock, (m.same b hlt h.nx hp).trans hb, hF, hs, hD⟩, h2⟩, m.x b hlt h.nx, (m.d b hlt h.nx hp 0).2 h.d⟩
theorem ex (h : MapG P g k b n f) (m : Ex g g') : MapG P g' k b n f := h.but (m.but nobody) (fun h => h)
theorem new (h : NewM g g') (P : Program) (k : TypeId) : MapG P g' k g.w.heap.size 0 (fun _ => none) := by
  refine ⟨⟨.map [], ⟨#[], 0, h.blk, ⟨by simp, stamped_empty 0, by simp⟩, Nat.le_refl _, rfl⟩, fun s => ⟨fun v hv => (by cases hv), fun _ => rfl⟩⟩, h.nx, h.d⟩
theorem congr (h : MapG P g k b n f) {f' : List UInt8 → Option Value} (e : ∀ s, f s = f' s) : MapG P g k b n f' := by rw [← funext e]; exact h
theorem mono (h : MapG P g k b n f) {n' : Nat} (hn : n ≤ n') : MapG P g k b n' f := by
  obtain ⟨D, h1, h2⟩ := h.own
  exact ⟨⟨D, h1.mono hn, h2⟩, h.nx, h.d⟩
theorem lookOk (h : MapG P g k b n f) {t e : TypeId} (hk : P.underlying k = some .string) (ht : P.underlying t = some (.map k e)) {z : Value} (hz : (zeroValue e).run P g.w = .ok z g.w) (s : List UInt8) (hs : s.length ≤ maxLen) :
    (Instr.lookup t (.map (some b)) (.string ⟨s.toArray⟩) true).run P g.w = .ok (match f s with | some v => .tuple #[v, .bool true] | none => .tuple #[z, .bool false]) g.w := by
  obtain ⟨D, hown, hsay⟩ := h.own
  obtain ⟨es, clock, hb, hF, _, rfl⟩ := hown
  rcases Maps.fit_look true (string_keyed hk) ht hz hb hF (keyS hk s hs) with ⟨hrun, _, hat⟩ | ⟨e0, y, _, _, hrun, hRv, hat, _⟩
  · have h0 := Maps.has_false_of_atKey hat
    cases hf : f s with
    | none => exact hrun
    | some v => rw [((hsay s).1 v hf).1] at h0; cases h0
  · have h1 := Maps.has_true_of_atKey hat
    cases hf : f s with
    | none => rw [(hsay s).2 hf] at h1; cases h1
    | some v =>
      have h2 := ((hsay s).1 v hf).2 .nil
      rw [hat] at h2
      cases hRv
      cases h2
      exact hrun
theorem look (h : MapG P g k b n f) {t e : TypeId} (hk : P.underlying k = some .string) (ht : P.underlying t = some (.map k e)) {z : Value} (hz : (zeroValue e).run P g.w = .ok z g.w) (s : List UInt8) (hs : s.length ≤ maxLen) :
    (Instr.lookup t (.map (some b)) (.string ⟨s.toArray⟩) false).run P g.w = .ok (match f s with | some v => v | none => z) g.w := by
  obtain ⟨D, hown, hsay⟩ := h.own
  obtain ⟨es, clock, hb, hF, _, rfl⟩ := hown
  rcases Maps.fit_look false (string_keyed hk) ht hz hb hF (keyS hk s hs) with ⟨hrun, _, hat⟩ | ⟨e0, y, _, _, hrun, hRv, hat, _⟩
  · have h0 := Maps.has_false_of_atKey hat
    cases hf : f s with
    | none => exact hrun
    | some v => rw [((hsay s).1 v hf).1] at h0; cases h0
  · have h1 := Maps.has_true_of_atKey hat
    cases hf : f s with
    | none => rw [(hsay s).2 hf] at h1; cases h1
    | some v =>
      have h2 := ((hsay s).1 v hf).2 .nil
      rw [hat] at h2
      cases hRv
      cases h2
      exact hrun
theorem put (h : MapG P g k b n f) {t e : TypeId} (hk : P.underlying k = some .string) (ht : P.underlying t = some (.map k e)) (hn : n < maxLen) (s : List UInt8) (hs : s.length ≤ maxLen) (v : Value) {B : Nat} (hB : B ≤ b) :
    ∃ w', (Instr.mapUpdate t (.map (some b)) (.string ⟨s.toArray⟩) v).run P g.w = .ok () w' ∧ ∃ g', g'.w = w' ∧ Stp B nobody g g' ∧ MapG P g' k b (n + 1) (upd f s (some v)) ∧ But (fun x => x = b) g g' := by
  obtain ⟨D, hown, hsay⟩ := h.own
  have hD : IsMap D := (hown.tidy (string_keyed hk)).isMap
  obtain ⟨es, clock, hb, hF, hsz, hDe⟩ := hown
  obtain ⟨es', clock', hrun, hF', hput, _⟩ := Maps.fit_store (R' := heldV) (string_keyed hk) ht hb hF (Nat.lt_of_le_of_lt hsz hn) (fun _ _ _ _ hz => hz) (keyS hk s hs) (yv := (.held v, [])) rfl
  obtain ⟨g', h1, h2, h3, h4, h5⟩ := turn_stp (w' := setBlock g.w b (.map es' clock')) ⟨es, clock, es', clock', hb, rfl⟩ h.nx h.d hB
  refine ⟨_, hrun, g', h1, h2, ⟨⟨D.put (.string s) (.held v), ?_, ?_⟩, h4, h5⟩, h3⟩
  · obtain ⟨w2, r1, r2, _⟩ := World.ownsMap.update (R := heldV) ⟨es, clock, hb, hF, hsz, hDe⟩ (string_keyed hk) ht hn (keyS hk s hs) (val := v) rfl
    rw [h1]
    rw [hrun] at r1
    cases r1
    exact r2
  · intro x
    by_cases hx : x = s
    · subst hx
      rw [upd_same]
      refine ⟨fun u hu => ?_, fun hu => (by cases hu)⟩
      cases hu
      exact ⟨has_put_same hD (show WideAt.IsKeyLit (.string x) from trivial) _, fun z => atKey_put_same hD (show WideAt.IsKeyLit (.string x) from trivial) _ _⟩
    · rw [upd_other f _ hx]
      have hne : (Lit.string x) ≠ .string s := fun e => hx (by cases e; rfl)
      exact ⟨fun u hu => ⟨by rw [has_put_other hne]; exact ((hsay x).1 u hu).1, fun z => by rw [atKey_put_other hne]; exact ((hsay x).1 u hu).2 z⟩, fun hu => by rw [has_put_other hne]; exact (hsay x).2 hu⟩
theorem del (h : MapG P g k b n f) {t e : TypeId} (hk : P.underlying k = some .string) (ht : P.underlying t = some (.map k e)) (s : List UInt8) (hs : s.length ≤ maxLen) (ty : TypeId) {B : Nat} (hB : B ≤ b) :
    ∃ w', (Builtin.delete_ #[t, k] ty #[.map (some b), .string ⟨s.toArray⟩]).run P g.w = .ok (.tuple #[]) w' ∧ ∃ g', g'.w = w' ∧ Stp B nobody g g' ∧ MapG P g' k b n (upd f s none) ∧ But (fun x => x = b) g g' := by
  obtain ⟨D, hown, hsay⟩ := h.own
  obtain ⟨w', hrun, hown', hturn⟩ := hown.drop (string_keyed hk) ht (keyS hk s hs) ty
  obtain ⟨g', h1, h2, h3, h4, h5⟩ := turn_stp hturn h.nx h.d hB
  refine ⟨w', hrun, g', h1, h2, ⟨⟨D.del (.string s), by rw [h1]; exact hown', ?_⟩, h4, h5⟩, h3⟩
  intro x
  by_cases hx : x = s
  · subst hx
    rw [upd_same]
    exact ⟨fun u hu => (by cases hu), fun _ => has_del_same⟩
  · rw [upd_other f _ hx]
    have hne : (Lit.string x) ≠ .string s := fun e => hx (by cases e; rfl)
    exact ⟨fun u hu => ⟨by rw [has_del_other hne]; exact ((hsay x).1 u hu).1, fun z => by rw [atKey_del_other hne]; exact ((hsay x).1 u hu).2 z⟩, fun hu => by rw [has_del_other hne]; exact (hsay x).2 hu⟩
end MapG
end Go.Vc
