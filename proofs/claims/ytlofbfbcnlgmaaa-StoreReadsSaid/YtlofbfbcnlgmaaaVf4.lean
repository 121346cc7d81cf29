/- Slices whose elements stand for data. -/
import Derived.Test.YtlofbfbcnlgmaaaVf3
set_option linter.unusedVariables false
namespace Go.Vc
open Go Go.RowKit

/-- How an element of m cells stands for a datum. -/
structure El (α : Type) where
  m : Nat
  rep : G → List Value → α → Prop
  len : ∀ {g r x}, rep g r x → r.length = m
  mono : ∀ {g g' r x}, Le g g' → rep g r x → rep g' r x
  one : ∀ {g r x}, rep g r x → ∀ u ∈ r, u.oneCell' = true

/-- Two lists stand for each other, element by element. -/
inductive All2 {α β : Type} (R : α → β → Prop) : List α → List β → Prop
  | nil : All2 R [] []
  | cons {a b l m} : R a b → All2 R l m → All2 R (a :: l) (b :: m)
namespace All2
variable {α β : Type} {R S : α → β → Prop}
theorem length : ∀ {l : List α} {m : List β}, All2 R l m → l.length = m.length
  | _, _, .nil => rfl
  | _, _, .cons _ h => by simp [length h]
theorem imp (h : ∀ a b, R a b → S a b) : ∀ {l : List α} {m : List β}, All2 R l m → All2 S l m
  | _, _, .nil => .nil
  | _, _, .cons h1 h2 => .cons (h _ _ h1) (imp h h2)
theorem append : ∀ {l l' : List α} {m m' : List β}, All2 R l m → All2 R l' m' → All2 R (l ++ l') (m ++ m')
  | _, _, _, _, .nil, h => h
  | _, _, _, _, .cons h1 h2, h => .cons h1 (append h2 h)
theorem get : ∀ {l : List α} {m : List β}, All2 R l m → ∀ {i : Nat} {b : β}, m[i]? = some b → ∃ a, l[i]? = some a ∧ R a b
  | _, _, .nil, i, b, h => by simp at h
  | _, _, .cons h1 h2, i, b, h => by
    cases i with
    | zero => simp at h; subst h; exact ⟨_, rfl, h1⟩
    | succ i => simpa using get h2 (by simpa using h)
theorem take : ∀ {l : List α} {m : List β}, All2 R l m → ∀ n, All2 R (l.take n) (m.take n)
  | _, _, .nil, n => by simp; exact .nil
  | _, _, .cons h1 h2, n => by
    cases n with
    | zero => exact .nil
    | succ n => exact .cons h1 (take h2 n)
theorem drop : ∀ {l : List α} {m : List β}, All2 R l m → ∀ n, All2 R (l.drop n) (m.drop n)
  | _, _, .nil, n => by simp; exact .nil
  | _, _, .cons h1 h2, n => by
    cases n with
    | zero => exact .cons h1 h2
    | succ n => exact drop h2 n
end All2

/-- The cells of rows. -/
structure Rws {α : Type} (E : El α) (g : G) (L : List Value) (xs : List α) : Prop where
  ex : ∃ rs : List (List Value), L = rs.flatten ∧ All2 (E.rep g) rs xs

theorem flat_get {m : Nat} : ∀ {rs : List (List Value)}, (∀ r ∈ rs, r.length = m) → ∀ {i j : Nat} {r : List Value}, rs[i]? = some r → j < m → rs.flatten[i * m + j]? = r[j]?
  | [], _, i, j, r, h, _ => by simp at h
  | s :: rs, hl, i, j, r, h, hj => by
    have hs := hl s (by simp)
    cases i with
    | zero =>
      simp at h
      subst h
      rw [List.flatten_cons, Nat.zero_mul, Nat.zero_add, List.getElem?_append_left (by omega)]
    | succ i =>
      have h' : rs[i]? = some r := by simpa using h
      rw [List.flatten_cons, List.getElem?_append_right (by rw [hs, Nat.succ_mul]; omega), hs]
      rw [show (i + 1) * m + j - m = i * m + j by rw [Nat.succ_mul]; omega]
      exact flat_get (fun x hx => hl x (by simp [hx])) h' hj
theorem flat_len {m : Nat} : ∀ {rs : List (List Value)}, (∀ r ∈ rs, r.length = m) → rs.flatten.length = rs.length * m
  | [], _ => by simp
  | s :: rs, hl => by
    rw [List.flatten_cons, List.length_append, flat_len (fun x hx => hl x (by simp [hx])), hl s (by simp), List.length_cons, Nat.succ_mul]
    omega
theorem flat_drop {m : Nat} : ∀ {rs : List (List Value)}, (∀ r ∈ rs, r.length = m) → ∀ n, rs.flatten.drop (n * m) = (rs.drop n).flatten
  | [], _, n => by simp
  | s :: rs, hl, n => by
    cases n with
    | zero => simp
    | succ n =>
      have hs := hl s (by simp)
      rw [List.flatten_cons, List.drop_succ_cons, ← flat_drop (fun x hx => hl x (by simp [hx])) n, Nat.succ_mul]
      rw [← hs, Nat.add_comm, ← List.drop_drop, List.drop_left]
theorem flat_take {m : Nat} : ∀ {rs : List (List Value)}, (∀ r ∈ rs, r.length = m) → ∀ n, rs.flatten.take (n * m) = (rs.take n).flatten
  | [], _, n => by simp
  | s :: rs, hl, n => by
    cases n with
    | zero => simp
    | succ n =>
      have hs := hl s (by simp)
      rw [List.flatten_cons, List.take_succ_cons, List.flatten_cons, ← flat_take (fun x hx => hl x (by simp [hx])) n, Nat.succ_mul]
      rw [List.take_append, hs, show n * m + m - m = n * m by omega, List.take_of_length_le (by omega)]

namespace Rws
variable {α : Type} {E : El α} {g g' : G} {L N : List Value} {xs ys : List α}
theorem lens {rs : List (List Value)} (h : All2 (E.rep g) rs xs) : ∀ r ∈ rs, r.length = E.m := by
  induction h with
  | nil => intro r hr; cases hr
  | cons h1 h2 ih =>
    intro r hr
    rcases List.mem_cons.1 hr with rfl | hr
    · exact E.len h1
    · exact ih r hr
theorem len (h : Rws E g L xs) : L.length = xs.length * E.m := by
  obtain ⟨rs, rfl, hh⟩ := h.ex
  rw [flat_len (lens hh), hh.length]
theorem mono (h : Rws E g L xs) (k : Le g g') : Rws E g' L xs := by
  obtain ⟨rs, rfl, hh⟩ := h.ex
  exact ⟨rs, rfl, hh.imp fun _ _ => E.mono k⟩
theorem one (h : Rws E g L xs) : ∀ u ∈ L, u.oneCell' = true := by
  obtain ⟨rs, rfl, hh⟩ := h.ex
  intro u hu
  obtain ⟨r, hr, hur⟩ := List.mem_flatten.1 hu
  clear hu h
  induction hh with
  | nil => cases hr
  | cons h1 h2 ih =>
    rcases List.mem_cons.1 hr with rfl | hr
    · exact E.one h1 u hur
    · exact ih hr
theorem nil : Rws E g [] [] := ⟨[], rfl, .nil⟩
theorem single {r : List Value} {x : α} (h : E.rep g r x) : Rws E g r [x] := ⟨[r], by simp, .cons h .nil⟩
theorem append (h : Rws E g L xs) (k : Rws E g N ys) : Rws E g (L ++ N) (xs ++ ys) := by
  obtain ⟨rs, rfl, hh⟩ := h.ex
  obtain ⟨ss, rfl, kk⟩ := k.ex
  exact ⟨rs ++ ss, by simp, hh.append kk⟩
theorem cons {r : List Value} {x : α} (h : E.rep g r x) (k : Rws E g N ys) : Rws E g (r ++ N) (x :: ys) := by
  obtain ⟨ss, rfl, kk⟩ := k.ex
  exact ⟨r :: ss, by simp, .cons h kk⟩
theorem take (h : Rws E g L xs) (n : Nat) : Rws E g (L.take (n * E.m)) (xs.take n) := by
  obtain ⟨rs, rfl, hh⟩ := h.ex
  exact ⟨rs.take n, flat_take (lens hh) n, hh.take n⟩
theorem drop (h : Rws E g L xs) (n : Nat) : Rws E g (L.drop (n * E.m)) (xs.drop n) := by
  obtain ⟨rs, rfl, hh⟩ := h.ex
  exact ⟨rs.drop n, flat_drop (lens hh) n, hh.drop n⟩
theorem get (h : Rws E g L xs) {i : Nat} {x : α} (hi : xs[i]? = some x) : ∃ r, E.rep g r x ∧ ∀ j, j < E.m → L[i * E.m + j]? = r[j]? := by
  obtain ⟨rs, rfl, hh⟩ := h.ex
  obtain ⟨r, hr, hrep⟩ := hh.get hi
  exact ⟨r, hrep, fun j hj => flat_get (lens hh) hr hj⟩
end Rws

/-- The slice (a, n, c) stands for the data xs. -/
structure SlE {α : Type} (E : El α) (g : G) (a : Option Addr) (n c : Nat) (xs : List α) : Prop where
  ex : ∃ L, Sl g E.m a n c L ∧ Rws E g L xs
  len : xs.length = n
namespace SlE
variable {α : Type} {E : El α} {g g' : G} {a : Option Addr} {n c : Nat} {xs : List α}
theorem mono (h : SlE E g a n c xs) (k : Le g g') : SlE E g' a n c xs := by
  obtain ⟨L, h1, h2⟩ := h.ex
  exact ⟨⟨L, h1.mono k, h2.mono k⟩, h.len⟩
theorem exm (h : SlE E g a n c xs) (k : Ex g g') : SlE E g' a n c xs := h.mono k.le
theorem le (h : SlE E g a n c xs) : n ≤ c := by obtain ⟨L, h1, _⟩ := h.ex; exact h1.le
theorem cap (h : SlE E g a n c xs) : c ≤ maxLen := by obtain ⟨L, h1, _⟩ := h.ex; exact h1.cap
theorem nil (h : SlE E g a n c xs) : a = none → c = 0 := by obtain ⟨L, h1, _⟩ := h.ex; exact h1.nil
theorem zero (g : G) : SlE E g none 0 0 [] := ⟨⟨[], Sl.zero _ _, Rws.nil⟩, rfl⟩
/-- A read at the place i: the row of the element. -/
theorem rd (h : SlE E g a n c xs) {i : Nat} {x : α} (hi : xs[i]? = some x) {K : Addr → Prop} (hk : ∀ r ad, E.rep g r x → (∀ j v, r[j]? = some v → Live g ((ad.add (i * E.m)).add j) v) → K ad) : derefP a K := by
  obtain ⟨L, h1, h2⟩ := h.ex
  obtain ⟨r, hrep, hr⟩ := h2.get hi
  have hlt := (List.getElem?_eq_some_iff.1 hi).1
  have hn : 0 < n := by have := h.len; omega
  obtain ⟨ad, rfl, hc⟩ := h1.addr hn
  refine hk r ad hrep fun j v hv => ?_
  have hj : j < E.m := by
    have := (List.getElem?_eq_some_iff.1 hv).1
    rwa [E.len hrep] at this
  rw [addr_add_add]
  exact hc _ v (by rw [hr j hj]; exact hv)
theorem sub (h : SlE E g a n c xs) {lo hi : Nat} (h1 : lo ≤ hi) (h2 : hi ≤ n) : SlE E g (slAddr a c lo E.m) (hi - lo) (c - lo) ((xs.drop lo).take (hi - lo)) := by
  obtain ⟨L, h3, h4⟩ := h.ex
  exact ⟨⟨_, h3.sub h1 h2, (h4.drop lo).take (hi - lo)⟩, by have := h.len; rw [List.length_take, List.length_drop]; omega⟩
theorem take (h : SlE E g a n c xs) {hi : Nat} (h2 : hi ≤ n) : SlE E g (slAddr a c 0 E.m) (hi - 0) (c - 0) (xs.take hi) := by
  have := h.sub (Nat.zero_le hi) h2
  simpa using this
theorem drop (h : SlE E g a n c xs) {lo : Nat} (h1 : lo ≤ n) : SlE E g (slAddr a c lo E.m) (n - lo) (c - lo) (xs.drop lo) := by
  have := h.sub h1 (Nat.le_refl n)
  rwa [List.take_of_length_le (by have := h.len; rw [List.length_drop]; omega)] at this
end SlE
theorem NewL.sle {α : Type} {E : El α} {g g' : G} {e : TypeId} {L : List Value} {xs : List α} (h : NewL g g' e L) (hr : Rws E g L xs) (hn : xs.length ≤ maxLen) : SlE E g' (some ⟨g.w.heap.size, 0, none⟩) xs.length xs.length xs :=
  ⟨⟨L, h.sl hr.len hn, hr.mono h.ex.le⟩, rfl⟩

/-- An own row stands for the data xs. -/
structure OwnE {α : Type} (E : El α) (g : G) (B : Nat) (e : TypeId) (a : Option Addr) (n c : Nat) (xs : List α) : Prop where
  ex : ∃ L, OwnG g B e E.m a n c L ∧ Rws E g L xs
  len : xs.length = n
namespace OwnE
variable {P : Program} {α : Type} {E : El α} {g g' : G} {B B' : Nat} {e : TypeId} {a : Option Addr} {n c : Nat} {xs : List α}
theorem sl (h : OwnE E g B e a n c xs) : SlE E g a n c xs := by
  obtain ⟨L, h1, h2⟩ := h.ex
  exact ⟨⟨L, h1.sl, h2⟩, h.len⟩
theorem base (h : OwnE E g B e a n c xs) (hB : B' ≤ B) : OwnE E g B' e a n c xs := by
  obtain ⟨L, h1, h2⟩ := h.ex
  exact ⟨⟨L, h1.base hB, h2⟩, h.len⟩
theorem but (h : OwnE E g B e a n c xs) {p : Nat → Prop} (k : But p g g') (hp : ∀ b, blkOf a b → ¬ p b) (hl : Le g g') : OwnE E g' B e a n c xs := by
  obtain ⟨L, h1, h2⟩ := h.ex
  exact ⟨⟨L, h1.but k hp, h2.mono hl⟩, h.len⟩
theorem exm (h : OwnE E g B e a n c xs) (k : Ex g g') : OwnE E g' B e a n c xs := h.but (k.but nobody) (fun _ _ h => h) k.le
theorem nil (g : G) (B : Nat) (e : TypeId) : OwnE E g B e none 0 0 [] := ⟨⟨[], OwnG.nil _ _ _ _, Rws.nil⟩, rfl⟩
theorem lit {L : List Value} (h : NewL g g' e L) (hr : Rws E g L xs) (hB : B ≤ g.w.heap.size) (hn : xs.length ≤ maxLen) : OwnE E g' B e (some ⟨g.w.heap.size, 0, none⟩) xs.length xs.length xs :=
  ⟨⟨L, OwnG.lit h hB hr.len hn, hr.mono h.ex.le⟩, rfl⟩
theorem ge (h : OwnE E g B e a n c xs) {b : Nat} (hb : blkOf a b) : B ≤ b := by obtain ⟨L, h1, _⟩ := h.ex; exact h1.ge hb
theorem lt (h : OwnE E g B e a n c xs) {b : Nat} (hb : blkOf a b) : b < g.w.heap.size := by obtain ⟨L, h1, _⟩ := h.ex; exact h1.lt hb
theorem ne (h : OwnE E g B e a n c xs) {b : Nat} (hb : b < B) : ¬ blkOf a b := by obtain ⟨L, h1, _⟩ := h.ex; exact h1.ne hb

/-- What stands behind an append. -/
def Appd {α : Type} (P : Program) (E : El α) (g : G) (B : Nat) (e : TypeId) (a : Option Addr) (n : Nat) (xs : List α) (s : Sem Value) : Prop :=
  ∃ a' c' w', s.run P g.w = .ok (.slice a' n c') w' ∧ ∃ g', g'.w = w' ∧ Stp B nobody g g' ∧ OwnE E g' B e a' n c' xs ∧ Stp g.w.heap.size (blkOf a) g g' ∧ (∀ b, blkOf a' b → blkOf a b ∨ g.w.heap.size ≤ b)
theorem app {t : TypeId} {bytes : Nat} (Et : Elem P t e E.m bytes) (ty : TypeId) (hB : B ≤ g.w.heap.size) (h : OwnE E g B e a n c xs) {na : Option Addr} {k cn : Nat} {ys : List α} (hN : SlE E g na k cn ys)
    (hb : (n + k) * bytes ≤ 140737488355328) (hm : n + k ≤ maxLen) : Appd P E g B e a (n + k) (xs ++ ys) (Builtin.append_ #[t, t] ty #[.slice a n c, .slice na k cn]) := by
  obtain ⟨L, h1, h2⟩ := h.ex
  obtain ⟨N, h3, h4⟩ := hN.ex
  obtain ⟨a', c', w', hr, g', hw, hs, ho, hs2, hl⟩ := OwnG.app Et ty hB h1 h3 h4.one hb hm
  exact ⟨a', c', w', hr, g', hw, hs, ⟨⟨_, ho, (h2.append h4).mono hs.le⟩, by rw [List.length_append, h.len, hN.len]⟩, hs2, hl⟩
/-- .. of one element that lies in a new row. -/
theorem app1 {t : TypeId} {bytes : Nat} (Et : Elem P t e E.m bytes) (ty : TypeId) {gx : G} {L : List Value} {x : α} (hB : B ≤ gx.w.heap.size) (h : OwnE E gx B e a n c xs) (hn : NewL gx g e L) (hr : E.rep gx L x)
    (hb : (n + 1) * bytes ≤ 140737488355328) (hm : n + 1 ≤ maxLen) : Appd P E g B e a (n + 1) (xs ++ [x]) (Builtin.append_ #[t, t] ty #[.slice a n c, .slice (some ⟨gx.w.heap.size, 0, none⟩) 1 1]) :=
  app Et ty (Nat.le_trans hB hn.ex.size) (h.exm hn.ex) (hn.sle (Rws.single hr) (by unfold maxLen; simp)) hb hm
end OwnE
end Go.Vc
