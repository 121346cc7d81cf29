/- Value expressions: what they evaluate to, and how that is observed. -/
import Derived.Test.YthlcdgpemjdgnaaGreatDoorLamA
set_option linter.unusedVariables false
namespace Go.Lam
open Go Go.Vc Go.RowKit Go.Syn

mutual
def valP : E → Prop
  | .mk d l => (d.op = 2 ∨ d.op = 3 ∨ d.op = 4 ∨ d.op = 10) ∨ ((d.op = 6 ∨ d.op = 8) ∧ valPL l)
def valPL : List E → Prop
  | [] => True
  | t :: r => valP t ∧ valPL r
end
theorem valPL_iff : ∀ {l : List E}, valPL l ↔ ∀ y ∈ l, valP y
  | [] => by simp [valPL]
  | t :: r => by simp [valPL, valPL_iff (l := r)]
theorem valP_iff {d : ExpD} {l : List E} : valP (.mk d l) ↔ (d.op = 2 ∨ d.op = 3 ∨ d.op = 4 ∨ d.op = 10) ∨ ((d.op = 6 ∨ d.op = 8) ∧ ∀ y ∈ l, valP y) := by rw [valP, valPL_iff]
/-- The kind of a value as it is written; 0: there is none. -/
def wop (op : Int) : Int := if op = 2 then 1 else if op = 3 then 2 else if op = 6 then 3 else if op = 8 then 4 else 0
mutual
/-- A value as it is written. -/
def wrV : E → Sy
  | .mk d l => .mk ⟨wop d.op, d.n, d.s, []⟩ (if wop d.op = 0 then [] else wrVL l)
def wrVL : List E → List Sy
  | [] => []
  | t :: r => wrV t :: wrVL r
end
theorem wrVL_map : ∀ l : List E, wrVL l = l.map wrV
  | [] => rfl
  | t :: r => by simp [wrVL, wrVL_map r]
theorem wrV_mk (d : ExpD) (l : List E) : wrV (.mk d l) = .mk ⟨wop d.op, d.n, d.s, []⟩ (if wop d.op = 0 then [] else l.map wrV) := by rw [wrV, wrVL_map]
mutual
/-- No part of a value is a function. -/
def noF : E → Prop
  | .mk d l => wop d.op ≠ 0 ∧ noFL l
def noFL : List E → Prop
  | [] => True
  | t :: r => noF t ∧ noFL r
end
theorem noFL_iff : ∀ {l : List E}, noFL l ↔ ∀ y ∈ l, noF y
  | [] => by simp [noFL]
  | t :: r => by simp [noFL, noFL_iff (l := r)]
theorem noF_iff {d : ExpD} {l : List E} : noF (.mk d l) ↔ wop d.op ≠ 0 ∧ ∀ y ∈ l, noF y := by rw [noF, noFL_iff]
/-- What a value gives. -/
structure Gives (x : E) (d left : Nat) (out : List Lab) (t : Th) (k : Nat) : Prop where
  ev : evalN d x [] left out = .ok t (left - k) out
  le : k ≤ sizeE x
  one : 1 ≤ k
  size : noF x → k = sizeE x
  obs : ∀ D m, depthE x ≤ D → sizeE x ≤ m → ∃ (y : Sy) (j : Nat), obsN D t m = some (y, m - j) ∧ j ≤ sizeE x ∧ (noF x → y = wrV x)
theorem gives_list {l : List E} (hl : ∀ y ∈ l, ∀ (d left : Nat) (out : List Lab), sizeE y ≤ left → left ≤ d → ∃ t k, Gives y d left out t k) :
    ∀ (d left : Nat) (out : List Lab), sizeEL l ≤ left → left ≤ d → ∃ (ts : List Th) (k : Nat), evL (evalN d) l [] left out = .ok ts (left - k) out ∧ k ≤ sizeEL l ∧ ((∀ y ∈ l, noF y) → k = sizeEL l) ∧
      ∀ D m, depthEL l ≤ D → sizeEL l ≤ m → ∃ (ys : List Sy) (j : Nat), obsL (obsN D) ts m = some (ys, m - j) ∧ j ≤ sizeEL l ∧ ((∀ y ∈ l, noF y) → ys = l.map wrV) := by
  induction l with
  | nil => exact fun d left out _ _ => ⟨[], 0, rfl, by simp [sizeEL], fun _ => by simp [sizeEL], fun D m _ _ => ⟨[], 0, rfl, by simp [sizeEL], fun _ => rfl⟩⟩
  | cons x r ih =>
    intro d left out h1 h2
    simp only [sizeEL] at h1
    obtain ⟨t, k, hx⟩ := hl x (by simp) d left out (by omega) h2
    have := hx.le
    obtain ⟨ts, k2, e1, e2, e3, e4⟩ := ih (fun y hy => hl y (by simp [hy])) d (left - k) out (by omega) (by omega)
    refine ⟨t :: ts, k + k2, ?_, by simp only [sizeEL]; omega, fun h => ?_, fun D m h3 h4 => ?_⟩
    · show (evalN d x [] left out).bind _ = _
      rw [hx.ev, Res.bind_ok, e1, Res.bind_ok, show left - k - k2 = left - (k + k2) by omega]
    · have := hx.size (h x (by simp))
      have := e3 (fun y hy => h y (by simp [hy]))
      simp only [sizeEL]
      omega
    · simp only [depthEL] at h3
      simp only [sizeEL] at h4
      obtain ⟨y, j, o1, o2, o3⟩ := hx.obs D m (by omega) (by omega)
      obtain ⟨ys, j2, p1, p2, p3⟩ := e4 D (m - j) (by omega) (by omega)
      refine ⟨y :: ys, j + j2, ?_, by simp only [sizeEL]; omega, fun h => ?_⟩
      · show (obsN D t m).bind _ = _
        rw [o1, Option.bind_some]
        show (obsL (obsN D) ts (m - j)).map _ = _
        rw [p1, show m - j - j2 = m - (j + j2) by omega]
        rfl
      · rw [o3 (h x (by simp)), p3 (fun y hy => h y (by simp [hy]))]
        rfl
theorem gives (x : E) : formE x → valP x → ∀ (d left : Nat) (out : List Lab), sizeE x ≤ left → left ≤ d → ∃ t k, Gives x d left out t k := by
  induction x using Tr.ind with
  | h dx l ih =>
    intro hf hv d left out h1 h2
    have hp := sizeE_pos (.mk dx l)
    obtain ⟨d, rfl⟩ : ∃ d', d = d' + 1 := ⟨d - 1, by omega⟩
    have hev : evalN (d + 1) (.mk dx l) [] left out = stepN (evalN d) (.mk dx l) [] (left - 1) out := by
      show (if left = 0 then _ else _) = _
      rw [if_neg (by omega)]
    obtain ⟨n4, n5, n7, n9, n10, n12, n6, n1, n2, n3, nr, nk⟩ := node_len hf
    have hlen : ∀ {z : Nat}, (Tr.kids (Tr.mk dx l)).length = z → l.length = z := fun h => h
    have hss : sizeE (.mk dx l) = sizeEL l + 1 := rfl
    have hdd : depthE (.mk dx l) = depthEL l + 1 := rfl
    have leaf : ∀ (t : Th), OkT t → t.op ≠ 7 → t.l = [] → l = [] → wop dx.op = t.op → dx.n = t.n → dx.s = t.s → evalN (d + 1) (.mk dx l) [] left out = .ok t (left - 1) out → ∃ t k, Gives (.mk dx l) (d + 1) left out t k := by
      intro t _ h7 htl hl0 w1 w2 w3 he
      subst hl0
      refine ⟨t, 1, he, by omega, Nat.le_refl _, fun _ => rfl, fun D m hD hm => ?_⟩
      obtain ⟨D, rfl⟩ : ∃ D', D = D' + 1 := ⟨D - 1, by omega⟩
      refine ⟨.mk ⟨t.op, t.n, t.s, []⟩ [], 1, ?_, by omega, fun _ => ?_⟩
      · show (if m = 0 then none else if t.op = 7 then _ else (obsL (obsN D) t.l (m - 1)).map _) = _
        rw [if_neg (by omega), if_neg h7, htl]
        rfl
      · rw [wrV_mk, w1, w2, w3]
        split <;> rfl
    have func : ∀ (t : Th) (k : Nat), t.op = 7 → wop dx.op = 0 → 1 ≤ k → k ≤ sizeE (.mk dx l) → evalN (d + 1) (.mk dx l) [] left out = .ok t (left - k) out → ∃ t k, Gives (.mk dx l) (d + 1) left out t k := by
      intro t k h7 hw hk1 hk2 he
      have nf : ¬ noF (.mk dx l) := fun h => (noF_iff.1 h).1 hw
      refine ⟨t, k, he, hk2, hk1, fun h => absurd h nf, fun D m hD hm => ?_⟩
      obtain ⟨D, rfl⟩ : ∃ D', D = D' + 1 := ⟨D - 1, by omega⟩
      refine ⟨.mk ⟨7, 0, [], []⟩ [], 1, ?_, by omega, fun h => absurd h nf⟩
      show (if m = 0 then none else if t.op = 7 then _ else _) = _
      rw [if_neg (by omega), if_pos h7]
    have nS : dx.op ≠ 3 → dx.s = [] := fun h => (formE_un hf).1.1.resolve_left h
    have dop : (Tr.mk dx l).dat = dx := rfl
    rw [dop] at n4 n5 n7 n9 n10 n12 n6 n1 n2 n3 nr
    have hnode := (formE_un hf).1
    rw [dop] at hnode
    have many : ∀ (mk : List Th → Th) (wd : ∀ ts, (mk ts).l = ts), (∀ ts, (mk ts).op = wop dx.op ∧ (mk ts).n = dx.n ∧ (mk ts).s = dx.s) → wop dx.op ≠ 0 → wop dx.op ≠ 7 → (∀ y ∈ l, valP y) →
        (∀ (ts : List Th) (k : Nat), evL (evalN d) l [] (left - 1) out = .ok ts (left - 1 - k) out → evalN (d + 1) (.mk dx l) [] left out = .ok (mk ts) (left - 1 - k) out) → ∃ t k, Gives (.mk dx l) (d + 1) left out t k := by
      intro mk wd wm w0 w7 hvl he
      obtain ⟨ts, k, e1, e2, e3, e4⟩ := gives_list (l := l) (fun y hy => ih y hy ((formE_un hf).2 y hy) (hvl y hy)) d (left - 1) out (by omega) (by omega)
      obtain ⟨w1, w2, w3⟩ := wm ts
      refine ⟨mk ts, k + 1, by rw [he ts k e1, show left - 1 - k = left - (k + 1) by omega], by omega, by omega, fun h => ?_, fun D m hD hm => ?_⟩
      · have := e3 (noF_iff.1 h).2
        omega
      · obtain ⟨D, rfl⟩ : ∃ D', D = D' + 1 := ⟨D - 1, by omega⟩
        obtain ⟨ys, j, p1, p2, p3⟩ := e4 D (m - 1) (by omega) (by omega)
        refine ⟨.mk ⟨(mk ts).op, (mk ts).n, (mk ts).s, []⟩ ys, j + 1, ?_, by omega, fun h => ?_⟩
        · show (if m = 0 then none else if (mk ts).op = 7 then _ else (obsL (obsN D) (mk ts).l (m - 1)).map _) = _
          rw [if_neg (by omega), if_neg (by rw [w1]; exact w7), wd, p1, show m - 1 - j = m - (j + 1) by omega]
          rfl
        · rw [wrV_mk, w1, w2, w3, if_neg w0, p3 (noF_iff.1 h).2]
    rcases valP_iff.1 hv with (e | e | e | e) | ⟨e | e, hvl⟩
    · have hl0 : l = [] := by
        rcases hnode.2 with h | h | h | h | h | h | h | h | h | h | h <;> first | (exfalso; omega) | exact List.eq_nil_of_length_eq_zero h.2.1
      refine leaf (intT dx.n) (.int _ (n2 e).1 (n2 e).2) (by show (1 : Int) ≠ 7; omega) rfl hl0 (by unfold wop; rw [if_pos e]; rfl) rfl (nS (by omega)) ?_
      rw [hev]; unfold stepN; rw [dop, if_neg (by omega), if_pos e]
    · have hl0 : l = [] ∧ dx.n = 0 := by
        rcases hnode.2 with h | h | h | h | h | h | h | h | h | h | h <;> first | (exfalso; omega) | exact ⟨List.eq_nil_of_length_eq_zero h.2.1, h.2.2.1⟩
      refine leaf (textT dx.s) (.text _ (n3 e)) (by show (2 : Int) ≠ 7; omega) rfl hl0.1 (by unfold wop; rw [if_neg (by omega), if_pos e]; rfl) hl0.2 rfl ?_
      rw [hev]; unfold stepN; rw [dop, if_neg (by omega), if_neg (by omega), if_pos e]
    · refine func (funT (kid (.mk dx l) 0) false []) 1 rfl (by unfold wop; rw [if_neg (by omega), if_neg (by omega), if_neg (by omega), if_neg (by omega)]) (Nat.le_refl _) hp ?_
      rw [hev]; unfold stepN; rw [dop, if_neg (by omega), if_neg (by omega), if_neg (by omega), if_pos e]
    · have h10 := (n10 e).1
      have hk0 := kid_get (x := .mk dx l) (i := 0) (by omega)
      have hsz := sizeE_mem (List.mem_of_getElem? hk0)
      have hsz' : sizeE (kid (.mk dx l) 0) ≤ sizeEL l := hsz
      have hp2 := sizeE_pos (kid (.mk dx l) 0)
      refine func (funT (kid (kid (.mk dx l) 0) 0) true []) 2 rfl (by unfold wop; rw [if_neg (by omega), if_neg (by omega), if_neg (by omega), if_neg (by omega)]) (by omega) (by omega) ?_
      rw [hev]; unfold stepN; rw [dop, if_neg (by omega), if_neg (by omega), if_neg (by omega), if_neg (by omega), if_pos e, if_neg (by omega), show left - 1 - 1 = left - 2 by omega]
    · have hn0 : dx.n = 0 := by
        rcases hnode.2 with h | h | h | h | h | h | h | h | h | h | h <;> first | (exfalso; omega) | exact h.2.2
      have w3 : wop dx.op = 3 := by unfold wop; rw [if_neg (by omega), if_neg (by omega), if_pos e]
      refine many recT (fun _ => rfl) (fun ts => ⟨by rw [w3]; rfl, by rw [hn0]; rfl, by rw [nS (by omega)]; rfl⟩) (by omega) (by omega) hvl (fun ts k he => ?_)
      rw [hev]; unfold stepN; rw [dop, if_neg (by omega), if_neg (by omega), if_neg (by omega), if_neg (by omega), if_neg (by omega), if_neg (by omega), if_neg (by omega), if_neg (by omega)]
      show (evL (evalN d) l [] (left - 1) out).bind _ = _
      rw [he, Res.bind_ok]
      unfold combN
      rw [dop, if_neg (by omega), if_pos e]
    · have w4 : wop dx.op = 4 := by unfold wop; rw [if_neg (by omega), if_neg (by omega), if_neg (by omega), if_pos e]
      refine many (injT dx.n) (fun _ => rfl) (fun ts => ⟨by rw [w4]; rfl, rfl, by rw [nS (by omega)]; rfl⟩) (by omega) (by omega) hvl (fun ts k he => ?_)
      rw [hev]; unfold stepN; rw [dop, if_neg (by omega), if_neg (by omega), if_neg (by omega), if_neg (by omega), if_neg (by omega), if_neg (by omega), if_neg (by omega), if_neg (by omega)]
      show (evL (evalN d) l [] (left - 1) out).bind _ = _
      rw [he, Res.bind_ok]
      unfold combN
      rw [dop, if_neg (by omega), if_neg (by omega), if_pos e]
end Go.Lam
