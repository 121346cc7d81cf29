/- The conditions of operations on frames with private variables are sound. -/
import Derived.Test.YtlofbfbcnlgmaaaVd2
set_option linter.unusedVariables false
namespace Go.Vc
open Go Go.RowKit

/-- What has been kept since the function began. -/
structure Kp (g0 : G) (M : Nat → Prop) (g : G) : Prop where
  le : Le g0 g
  x : ∀ b, g0.X b → g.X b
  keepX : ∀ b, g0.X b → g.w.heap[b]? = g0.w.heap[b]?
  os : g.w.os = g0.w.os
  tape : g.w.tape = g0.w.tape
  output : g.w.output = g0.w.output
  same : ∀ b, b < g0.size → ¬ M b → g.w.heap[b]? = g0.w.heap[b]?
  d : ∀ b, b < g0.size → ¬ M b → ∀ i, (g.D b i ↔ g0.D b i)
theorem Kp.refl (g : G) (M : Nat → Prop) : Kp g M g := ⟨Le.refl g, fun _ h => h, fun _ _ => rfl, rfl, rfl, rfl, fun _ _ _ => rfl, fun _ _ _ _ => Iff.rfl⟩
theorem Kp.step {g0 g g' : G} {M : Nat → Prop} (h : Kp g0 M g) (k : Stp g0.size M g g') : Kp g0 M g' :=
  ⟨h.le.trans k.le, fun b hb => (k.x b).2 (h.x b hb), fun b hb => (k.keepX b (h.x b hb)).trans (h.keepX b hb), k.os.trans h.os, k.tape.trans h.tape, k.output.trans h.output,
   fun b hb hm => (k.same b hb hm).trans (h.same b hb hm), fun b hb hm i => (k.d b hb hm i).trans (h.d b hb hm i)⟩

/-- The private variables lie in the blocks β. -/
structure PAg (B : Nat) (st : St) (β : Nat → Nat) (g : G) (a : Act) : Prop where
  ptr : ∀ t p o, plook st.pe t = some (p, o) → a.tmps.getD t undef = .pointer (some ⟨β p, o, none⟩)
  cell : ∀ p cs, slook st.ps p = some cs → B ≤ β p ∧ g.X (β p) ∧ ∃ ty, Blk g.w (β p) ty cs
  inj : ∀ p q cs cs', slook st.ps p = some cs → slook st.ps q = some cs' → β p = β q → p = q

/-- .. and what was private is private. -/
def Exx (g g' : G) : Prop := Ex g g' ∧ ∀ b, g.X b → g'.X b
theorem Exx.refl (g : G) : Exx g g := ⟨Ex.refl g, fun _ h => h⟩
theorem Exx.trans {a b c : G} (h : Exx a b) (k : Exx b c) : Exx a c := ⟨h.1.trans k.1, fun x hx => k.2 x (h.2 x hx)⟩
structure OkS (g0 : G) (M : Nat → Prop) (n : Nat) (st : St) (g : G) (a : Act) (w : World) : Prop where
  agree : Agree n st.fr a
  ex : ∃ (gr : G) (β : Nat → Nat), gr.w = w ∧ Exx g gr ∧ (st.dirty = false → gr = g) ∧ Kp g0 M gr ∧ PAg g0.size st β gr a

def wpO (c : Cfg) (o : Oper) : List Nat := match o.op with
  | .alloc _ => match o.dst with
    | some d => match memN c.pv d with
      | true => [d]
      | false => []
    | none => []
  | .box _ _ => match o.dst with
    | some d => match memN c.pv d with
      | true => [d]
      | false => []
    | none => []
  | .store _ x _ => match ptOf c.pt (tmpO x) with
    | some p => [p]
    | none => []
  | _ => []
structure ExtSt (W Wp : List Nat) (st st' : St) : Prop where
  fr : ExtE W st.fr st'.fr
  pe : ∀ t p o, t ∉ W → p ∉ Wp → plook st.pe t = some (p, o) → plook st'.pe t = some (p, o)
  ps : ∀ p cs, p ∉ Wp → slook st.ps p = some cs → slook st'.ps p = some cs
theorem ExtSt.refl (W Wp : List Nat) (st : St) : ExtSt W Wp st st := ⟨ExtE.refl _ _, fun _ _ _ _ _ h => h, fun _ _ _ h => h⟩
theorem ExtSt.trans {W W' V V' : List Nat} {a b c : St} (h : ExtSt W V a b) (k : ExtSt W' V' b c) : ExtSt (W ++ W') (V ++ V') a c := by
  refine ⟨h.fr.trans k.fr, ?_, ?_⟩
  · intro t p o ht hp hl
    simp only [List.mem_append, not_or] at ht hp
    exact k.pe t p o ht.2 hp.2 (h.pe t p o ht.1 hp.1 hl)
  · intro p cs hp hl
    simp only [List.mem_append, not_or] at hp
    exact k.ps p cs hp.2 (h.ps p cs hp.1 hl)
theorem ExtSt.mono {W W' V V' : List Nat} {a b : St} (h : ExtSt W V a b) (hW : ∀ t, t ∈ W → t ∈ W') (hV : ∀ t, t ∈ V → t ∈ V') : ExtSt W' V' a b :=
  ⟨h.fr.mono hW, fun t p o ht hp => h.pe t p o (fun m => ht (hW t m)) (fun m => hp (hV p m)), fun p cs hp => h.ps p cs (fun m => hp (hV p m))⟩

theorem nbeq (a b : Nat) : Nat.beq a b = decide (a = b) := by
  by_cases h : a = b
  · subst h; simp
  · have : Nat.beq a b = false := by
      cases hb : Nat.beq a b with
      | false => rfl
      | true => exact absurd (Nat.eq_of_beq_eq_true hb) h
    simp [this, h]
theorem plook_cons (d : Nat) (e : Option (Nat × Nat)) (r : PE) (t : Nat) : plook ((d, e) :: r) t = if d = t then e else plook r t := by
  show (match Nat.beq d t with | true => e | false => plook r t) = _
  rw [nbeq]
  by_cases h : d = t <;> simp [h]
theorem slook_cons (d : Nat) (e : List Value) (r : PS) (t : Nat) : slook ((d, e) :: r) t = if d = t then some e else slook r t := by
  show (match Nat.beq d t with | true => some e | false => slook r t) = _
  rw [nbeq]
  by_cases h : d = t <;> simp [h]
theorem plook_kill (d : Nat) : ∀ (pe : PE) (t : Nat), plook (killP d pe) t = killE d (plook pe t)
  | [], _ => rfl
  | (x, e) :: r, t => by
    rw [killP, plook_cons, plook_cons, plook_kill d r t]
    by_cases h : x = t <;> simp [h]
theorem killE_some {d : Nat} {e : Option (Nat × Nat)} {p o : Nat} : killE d e = some (p, o) ↔ e = some (p, o) ∧ p ≠ d := by
  cases e with
  | none => simp [killE]
  | some q =>
    obtain ⟨q, k⟩ := q
    show (match Nat.beq q d with | true => none | false => some (q, k)) = _ ↔ _
    rw [nbeq]
    by_cases h : q = d
    · subst h
      constructor
      · intro hh; simp at hh
      · rintro ⟨h1, h2⟩
        simp only [Option.some.injEq, Prod.mk.injEq] at h1
        exact absurd h1.1.symm h2
    · simp only [h, decide_false, Option.some.injEq, Prod.mk.injEq]
      constructor
      · rintro ⟨rfl, rfl⟩; exact ⟨⟨rfl, rfl⟩, h⟩
      · rintro ⟨h1, _⟩; exact h1

theorem getD_put (a : Act) (d : Option Tmp) (v : Value) (t : Nat) (h : d ≠ some t) : (a.put d v).tmps.getD t undef = a.tmps.getD t undef := by
  cases d with
  | none => rfl
  | some d =>
    have hne : d ≠ t := fun e => h (by rw [e])
    simp [Act.put, Array.getElem?_setIfInBounds_ne hne]
theorem getD_put_same {n : Nat} {a : Act} (hs : a.tmps.size = n) {d : Tmp} (hd : dOk n (some d) = true) (v : Value) : (a.put (some d) v).tmps.getD d undef = v := by
  have hd' : d < a.tmps.size := by
    have : d < n := by simpa [dOk] using hd
    rw [hs]; exact this
  simp [Act.put, hd']

namespace PAg
variable {B : Nat} {st : St} {β : Nat → Nat} {g g' : G} {a : Act}
theorem put (h : PAg B st β g a) (d : Option Tmp) (v u : Value) : PAg B (st.put d u) β g (a.put d v) := by
  refine ⟨?_, h.cell, h.inj⟩
  intro t p o ht
  cases d with
  | none => exact h.ptr t p o ht
  | some d =>
    have ht : plook ((d, none) :: st.pe) t = some (p, o) := ht
    rw [plook_cons] at ht
    by_cases e : d = t
    · simp [e] at ht
    · simp only [e, if_false] at ht
      rw [getD_put _ _ _ _ (fun hh => e (Option.some.inj hh))]
      exact h.ptr t p o ht
theorem step (h : PAg B st β g a) (hx : ∀ b, g.X b → g'.X b) (hk : ∀ b, g.X b → g'.w.heap[b]? = g.w.heap[b]?) : PAg B st β g' a :=
  ⟨h.ptr, fun p cs hp => by
    obtain ⟨h1, h2, ty, h3⟩ := h.cell p cs hp
    exact ⟨h1, hx _ h2, ty, by unfold Blk; rw [hk _ h2]; exact h3⟩, h.inj⟩
theorem fr (h : PAg B st β g a) (fr' : Env) (dirty' : Bool) : PAg B ⟨fr', st.pe, st.ps, dirty'⟩ β g a := ⟨h.ptr, h.cell, h.inj⟩
end PAg

theorem blk_stL {w : World} {b : Nat} {t : TypeId} (off : Nat) (vs : List Value) : ∀ (i : Nat) {w : World} (L : List Value), Blk w b t L → Blk (stL ⟨b, off, none⟩ i vs w) b t (setsAt L (off + i) vs) := by
  induction vs with
  | nil => intro i w L h; exact h
  | cons v r ih =>
    intro i w L h
    rw [stL, setsAt]
    have : Blk (w.setCell (Addr.add ⟨b, off, none⟩ i) v) b t (L.set (off + i) v) := by rw [add_row]; exact h.setE _ _
    exact ih (i + 1) _ this

section
variable {c : Cfg} {g0 : G} {M : Nat → Prop} {n : Nat}

theorem flush_use {st : St} {g : G} {a : Act} {w : World} {K : St → G → Prop} (hok : OkS g0 M n st g a w) (h : flushG st g K) :
    ∃ g' β, g'.w = w ∧ Exx g g' ∧ Kp g0 M g' ∧ PAg g0.size st β g' a ∧ K ⟨st.fr, st.pe, st.ps, false⟩ g' := by
  obtain ⟨gr, β, h1, h2, h3, h4, h5⟩ := hok.ex
  unfold flushG at h
  cases hd : st.dirty <;> simp only [hd] at h
  · obtain rfl := h3 hd
    refine ⟨gr, β, h1, h2, h4, h5, ?_⟩
    obtain ⟨fr, pe, ps, dirty⟩ := st
    cases hd
    exact h
  · exact ⟨gr, β, h1, h2, h4, h5, h gr h2.1⟩

theorem extSt_put (st : St) (d : Option Tmp) (v : Value) (Wp : List Nat) : ExtSt d.toList Wp st (st.put d v) := by
  refine ⟨ExtE.put _ _ _, ?_, fun _ _ _ h => h⟩
  intro t p o ht _ hl
  cases d with
  | none => exact hl
  | some d =>
    show plook ((d, none) :: st.pe) t = _
    rw [plook_cons, if_neg (fun e => ht (by simp [e]))]
    exact hl
theorem extSt_ptr (st : St) (d : Option Tmp) (p o : Nat) (Wp : List Nat) : ExtSt d.toList Wp st (st.ptr d p o) := by
  refine ⟨ExtE.put _ _ _, ?_, fun _ _ _ h => h⟩
  intro t p' o' ht _ hl
  cases d with
  | none => exact hl
  | some d =>
    show plook ((d, some (p, o)) :: st.pe) t = _
    rw [plook_cons, if_neg (fun e => ht (by simp [e]))]
    exact hl

/-- What is asked behind an operation. -/
def BehO (c : Cfg) (g0 : G) (M : Nat → Prop) (n : Nat) (o : Oper) (st : St) (g : G) (a : Act) (K : St → G → Prop) : Act → World → Prop :=
  fun a' w' => ∃ v st' g', a' = a.put o.dst v ∧ OkS g0 M n st' g' a' w' ∧ Le g g' ∧ ExtSt o.dst.toList (wpO c o) st st' ∧ K st' g'

theorem ptr_ok {st : St} {g gr : G} {a : Act} {β : Nat → Nat} {o : Oper} {K : St → G → Prop} {p off : Nat} (hA : Agree n st.fr a) (hd : dOk n o.dst = true) (h2 : Exx g gr) (h3 : st.dirty = false → gr = g) (h4 : Kp g0 M gr)
    (h5 : PAg g0.size st β gr a) {Q : Exit → Act → World → Prop} (hrun : (execOp a.eval o).run c.P gr.w = .ok (.value (.pointer (some ⟨β p, off, none⟩))) gr.w) (hK : K (st.ptr o.dst p off) g) :
    o.wp c.P a gr.w (BehO c g0 M n o st g a K) Q := by
  refine Oper.wp_mono (K := Nx o a fun v w' => v = .pointer (some ⟨β p, off, none⟩) ∧ w' = gr.w) ?_ (upon_of_value hrun ⟨rfl, rfl⟩)
  rintro a' w' ⟨v, rfl, rfl, rfl⟩
  refine ⟨_, st.ptr o.dst p off, g, rfl, ⟨?_, gr, β, rfl, h2, h3, h4, ?_, h5.cell, h5.inj⟩, Le.refl g, extSt_ptr _ _ _ _ _, hK⟩
  · exact hA.forget _
  · intro t p' o' ht
    cases hdst : o.dst with
    | none =>
      have : plook st.pe t = some (p', o') := by simpa [St.ptr, putPE, hdst] using ht
      exact h5.ptr t p' o' this
    | some d =>
      have ht : plook ((d, some (p, off)) :: st.pe) t = some (p', o') := by simpa [St.ptr, putPE, hdst] using ht
      rw [plook_cons] at ht
      by_cases e : d = t
      · subst e
        simp only [if_true, Option.some.injEq, Prod.mk.injEq] at ht
        obtain ⟨rfl, rfl⟩ := ht
        exact getD_put_same hA.size (by rw [hdst] at hd; exact hd) _
      · simp only [e, if_false] at ht
        rw [getD_put _ _ _ _ (fun hh => e (Option.some.inj hh))]
        exact h5.ptr t p' o' ht

theorem new_ok {st : St} {g gr : G} {a : Act} {β : Nat → Nat} {o : Oper} {K : St → G → Prop} {d : Nat} {L : List Value} {e : TypeId} (hA : Agree n st.fr a) (hdst : o.dst = some d) (hd : dOk n o.dst = true) (h2 : Exx g gr) (h4 : Kp g0 M gr)
    (h5 : PAg g0.size st β gr a) {Q : Exit → Act → World → Prop} (hrun : (execOp a.eval o).run c.P gr.w = .ok (.value (.pointer (some ⟨gr.w.heap.size, 0, none⟩))) (gr.w.alloc (.cells ⟨L⟩ e))) (hw : d ∈ wpO c o) (hK : K (st.newP d L) g) :
    o.wp c.P a gr.w (BehO c g0 M n o st g a K) Q := by
  refine Oper.wp_mono (K := Nx o a fun v w' => v = .pointer (some ⟨gr.w.heap.size, 0, none⟩) ∧ w' = gr.w.alloc (.cells ⟨L⟩ e)) ?_ (upon_of_value hrun ⟨rfl, rfl⟩)
  rintro a' w' ⟨v, rfl, rfl, rfl⟩
  have hgs : g0.w.heap.size ≤ gr.w.heap.size := h4.le.size
  refine ⟨_, st.newP d L, g, rfl, ⟨?_, gr.push (.cells ⟨L⟩ e) true false, fun q => if q = d then gr.w.heap.size else β q, rfl, h2.trans ⟨push_ex _ _ _ _, fun b hb => Or.inl hb⟩, (fun h => by cases h), ?_, ?_, ?_, ?_⟩, Le.refl g, ?_, hK⟩
  · have := hA.forget (d := o.dst) (.pointer (some ⟨gr.w.heap.size, 0, none⟩))
    rw [hdst] at this ⊢
    exact this
  · refine ⟨h4.le.trans (push_ex _ _ _ _).le, fun b hb => Or.inl (h4.x b hb), fun b hb => ?_, h4.os, h4.tape, h4.output, fun b hb hm => ?_, fun b hb hm i => ?_⟩
    · exact (Below.heap_alloc _ _ _ (gr.hX b (h4.x b hb))).trans (h4.keepX b hb)
    · have hb' : b < g0.w.heap.size := hb
      exact (Below.heap_alloc _ _ _ (by omega)).trans (h4.same b hb hm)
    · rw [← h4.d b hb hm i]
      constructor
      · rintro (h | ⟨h, _⟩)
        · exact h
        · cases h
      · exact Or.inl
  · intro t p o' ht
    have ht : plook ((d, some (d, 0)) :: killP d st.pe) t = some (p, o') := ht
    rw [plook_cons] at ht
    rw [hdst]
    by_cases e' : d = t
    · subst e'
      simp only [if_true, Option.some.injEq, Prod.mk.injEq] at ht
      obtain ⟨rfl, rfl⟩ := ht
      rw [if_pos rfl]
      exact getD_put_same hA.size (by rw [hdst] at hd; exact hd) _
    · simp only [e', if_false] at ht
      rw [plook_kill, killE_some] at ht
      rw [getD_put _ _ _ _ (fun hh => e' (Option.some.inj hh)), if_neg ht.2]
      exact h5.ptr t p o' ht.1
  · intro p cs hp
    have hp : slook ((d, L) :: st.ps) p = some cs := hp
    rw [slook_cons] at hp
    by_cases e' : d = p
    · subst e'
      simp only [if_true, Option.some.injEq] at hp
      subst hp
      rw [if_pos rfl]
      exact ⟨hgs, Or.inr ⟨rfl, rfl⟩, e, push_at _ _ _ _⟩
    · simp only [e', if_false] at hp
      rw [if_neg (fun hh => e' hh.symm)]
      obtain ⟨h6, h7, ty, h8⟩ := h5.cell p cs hp
      exact ⟨h6, Or.inl h7, ty, h8.alloc _⟩
  · intro p q cs cs' hp hq he
    have hp : slook ((d, L) :: st.ps) p = some cs := hp
    have hq : slook ((d, L) :: st.ps) q = some cs' := hq
    rw [slook_cons] at hp hq
    have old : ∀ {q : Nat} {cs' : List Value}, slook st.ps q = some cs' → β q ≠ gr.w.heap.size := fun h hh => by
      obtain ⟨_, h7, _⟩ := h5.cell _ _ h
      have := gr.hX _ h7
      omega
    by_cases e1 : p = d
    · by_cases e2 : q = d
      · rw [e1, e2]
      · simp only [e1, e2, if_true, if_false] at he
        rw [if_neg (fun hh => e2 hh.symm)] at hq
        exact absurd he.symm (old hq)
    · rw [if_neg (fun hh => e1 hh.symm)] at hp
      by_cases e2 : q = d
      · simp only [e1, e2, if_true, if_false] at he
        exact absurd he (old hp)
      · simp only [e1, e2, if_false] at he
        rw [if_neg (fun hh => e2 hh.symm)] at hq
        exact h5.inj p q cs cs' hp hq he
  · rw [hdst]
    refine ⟨fun t v ht hv => ?_, ?_, ?_⟩
    · show look ((d, none) :: st.fr) t = _
      rw [look_cons, if_neg (fun e => ht (by simp [e]))]
      exact hv
    · intro t p o' ht hp hl
      show plook ((d, some (d, 0)) :: killP d st.pe) t = _
      rw [plook_cons, if_neg (fun e => ht (by simp [e])), plook_kill, killE_some]
      exact ⟨hl, fun e => hp (e ▸ hw)⟩
    · intro p cs hp hl
      show slook ((d, L) :: st.ps) p = _
      rw [slook_cons, if_neg (fun e : d = p => hp (e ▸ hw))]
      exact hl

theorem opG_sound (T : TOk c.P c.tt) (F : FOk c.P c.fns) {st : St} {g : G} {a : Act} {w : World} {o : Oper} {K : St → G → Prop} {Q : Exit → Act → World → Prop}
    (hok : OkS g0 M n st g a w) (hd : dOk n o.dst = true) (h : opG c g0.size M o st g K) : o.wp c.P a w (BehO c g0 M n o st g a K) Q := by
  have hA := hok.agree
  unfold opG at h
  cases hp : prvOp c o st with
  | none =>
    simp only [hp] at h
    cases he : effB c.tt o <;> simp only [he] at h
    · obtain ⟨v, h1, h2⟩ := pure_sound (P := c.P) T hA h
      obtain ⟨gr, β, rfl, h3, h4, h5, h6⟩ := hok.ex
      refine Oper.wp_mono (K := Nx o a fun v' w' => v' = v ∧ w' = gr.w) ?_ (upon_of_value (h1 _) ⟨rfl, rfl⟩)
      rintro a' w' ⟨v, rfl, rfl, rfl⟩
      exact ⟨v, st.put o.dst v, g, rfl, ⟨hA.put hd _, gr, β, rfl, h3, h4, h5, h6.put _ _ _⟩, Le.refl g, extSt_put _ _ _ _, h2⟩
    · obtain ⟨g', β, rfl, h2, h3, h4, h5⟩ := flush_use hok h
      refine Oper.wp_mono ?_ (effG_sound T F hA h3.le.size h5)
      rintro a' w' ⟨v, rfl, g'', rfl, hs, hK⟩
      have e := extSt_put ⟨st.fr, st.pe, st.ps, false⟩ o.dst v (wpO c o)
      exact ⟨v, (⟨st.fr, st.pe, st.ps, false⟩ : St).put o.dst v, g'', rfl, ⟨hA.put hd _, g'', β, rfl, Exx.refl _, fun _ => rfl, h3.step hs, ((h4.step (fun b hb => (hs.x b).2 hb) hs.keepX).fr _ _).put _ _ _⟩, h2.1.le.trans hs.le,
        ⟨e.fr, e.pe, e.ps⟩, hK⟩
  | some r =>
    simp only [hp] at h
    cases r with
    | none => exact h.elim
    | some st' =>
    simp only at h
    obtain ⟨gr, β, rfl, h2, h3, h4, h5⟩ := hok.ex
    unfold prvOp at hp
    cases hop : o.op <;> simp only [hop] at hp
    case alloc e =>
      cases hdst : o.dst <;> simp only [hdst] at hp
      · cases hp
      rename_i d
      cases hm : memN c.pv d <;> simp only [hm] at hp
      · cases hp
      cases hz : zeroC c.tt e <;> simp only [hz] at hp
      · cases hp
      rename_i L
      simp only [Option.some.injEq] at hp
      subst hp
      unfold zeroC at hz
      cases hs : tfind c.tt e <;> simp only [hs] at hz
      · cases hz
      rename_i ti
      cases hzz : ti.zero <;> simp only [hzz] at hz
      · cases hz
      rename_i z
      obtain rfl := Option.some.inj hz
      refine new_ok (e := e) hA hdst hd h2 h4 h5 ?_ (by simp [wpO, hop, hdst, hm]) h
      simp [execOp, hop, Instr.alloc, (T.fact hs).run_zero hzz, newVar, newRow, cellsL_eq]
    case box e x =>
      cases hdst : o.dst <;> simp only [hdst] at hp
      · cases hp
      rename_i d
      cases hm : memN c.pv d <;> simp only [hm] at hp
      · cases hp
      cases hz : ev st.fr x <;> simp only [hz] at hp
      · cases hp
      rename_i v
      simp only [Option.some.injEq] at hp
      subst hp
      refine new_ok (e := e) hA hdst hd h2 h4 h5 ?_ (by simp [wpO, hop, hdst, hm]) h
      simp [execOp, hop, Instr.box, newVar, newRow, cellsL_eq, hA.ev hz]
    case load t x =>
      cases x <;> simp only [plookO] at hp
      case tmp s =>
        cases hq : plook st.pe s <;> simp only [hq] at hp
        · cases hp
        rename_i q
        obtain ⟨p, off⟩ := q
        cases hs : slook st.ps p <;> simp only [hs] at hp
        · cases hp
        rename_i cs
        cases hl : loadP c.tt t cs off <;> simp only [hl] at hp
        · cases hp
        rename_i v
        simp only [Option.some.injEq] at hp
        subst hp
        obtain ⟨_, _, ty, hb⟩ := h5.cell p cs hs
        have hev : a.eval (.tmp s) = .pointer (some ⟨β p, off, none⟩) := h5.ptr s p off hq
        have hr := loadAt_run (P := c.P) T hl (ad := ⟨β p, off, none⟩) (w := gr.w) (fun j u hu => by rw [add_row, hb.cell]; exact hu)
        refine Oper.wp_mono (K := Nx o a fun v' w' => v' = v ∧ w' = gr.w) ?_ (upon_of_value ?_ ⟨rfl, rfl⟩)
        · rintro a' w' ⟨v, rfl, rfl, rfl⟩
          exact ⟨v, st.put o.dst v, g, rfl, ⟨hA.put hd _, gr, β, rfl, h2, h3, h4, h5.put _ _ _⟩, Le.refl g, extSt_put _ _ _ _, h⟩
        · simp [execOp, hop, hev, hr]
      all_goals cases hp
    case store t x y =>
      cases x <;> simp only [plookO] at hp
      case tmp s =>
        cases hq : plook st.pe s <;> simp only [hq] at hp
        · cases hp
        rename_i q
        obtain ⟨p, off⟩ := q
        cases hs : slook st.ps p <;> simp only [hs] at hp
        · cases hp
        rename_i cs
        cases hy : ev st.fr y <;> simp only [hy] at hp
        · cases hp
        rename_i v
        cases hl : stP c.tt t cs off v <;> simp only [hl] at hp
        · cases hp
        rename_i L
        cases hpt : eqO (ptOf c.pt (tmpO (.tmp s))) p <;> simp only [hpt] at hp
        · cases hp
        simp only [Option.some.injEq] at hp
        subst hp
        unfold stP at hl
        cases htf : tfind c.tt t <;> simp only [htf] at hl
        · cases hl
        rename_i ti
        cases hbb : (Nat.beq (cellsL v).length ti.size && (Nat.ble (off + (cellsL v).length) cs.length && onesB (cellsL v))) <;> simp only [hbb] at hl
        · cases hl
        obtain rfl := Option.some.inj hl
        simp only [Bool.and_eq_true] at hbb
        have hlen := Nat.eq_of_beq_eq_true hbb.1
        have hle := Nat.le_of_ble_eq_true hbb.2.1
        obtain ⟨hB, hX, ty, hb⟩ := h5.cell p cs hs
        have hev : a.eval (.tmp s) = .pointer (some ⟨β p, off, none⟩) := h5.ptr s p off hq
        have hr := storeAt_run (P := c.P) (w := gr.w) (a := ⟨β p, off, none⟩) T htf hlen (fun j hj => by
          rw [add_row]
          refine ⟨?_, hb.frozen _⟩
          rw [hb.cell, List.getElem?_eq_getElem (by omega)]
          rfl) (onesB_use hbb.2.2)
        have hpt' : ptOf c.pt s = some p := by
          have : eqO (ptOf c.pt s) p = true := hpt
          cases hh : ptOf c.pt s with
          | none => rw [hh] at this; cases this
          | some k => rw [hh] at this; rw [Nat.eq_of_beq_eq_true this]
        have hwp : wpO c o = [p] := by simp [wpO, hop, tmpO, hpt']
        refine Oper.wp_mono (K := Nx o a fun v' w' => v' = undef ∧ w' = (gr.store false ⟨β p, off, none⟩ (cellsL v)).w) ?_ (upon_of_skip ?_ ⟨rfl, rfl⟩)
        · rintro a' w' ⟨v', rfl, rfl, rfl⟩
          have hex : Ex gr (gr.store false ⟨β p, off, none⟩ (cellsL v)) := by
            refine ⟨by show _ ≤ (stL _ 0 _ gr.w).heap.size; rw [size_stL]; exact Nat.le_refl _, fun b hb hx => hx, fun b hb hx => heap_stL _ _ _ _ _ (fun e => hx (by rw [e]; exact hX)), fun b hb hx i => ?_⟩
            constructor
            · exact fun h => h.1
            · exact fun h => ⟨h, fun hf => (by cases hf)⟩
          obtain ⟨o1, o2, o3⟩ := stL_os ⟨β p, off, none⟩ (cellsL v) 0 gr.w
          have hB' : g0.w.heap.size ≤ β p := hB
          refine ⟨undef, (st.setP p _).put o.dst undef, g, rfl, ⟨hA.put hd _, _, β, rfl, h2.trans ⟨hex, fun b hb => hb⟩, fun hf => (by cases hf), ?_, PAg.put (st := st.setP p (setsAt cs off (cellsL v))) ⟨h5.ptr, ?_, ?_⟩ _ _ _⟩, Le.refl g, ?_, h⟩
          · refine ⟨h4.le.trans hex.le, h4.x, fun b hb => ?_, o1.trans h4.os, o2.trans h4.tape, o3.trans h4.output, fun b hb hm => ?_, fun b hb hm i => ?_⟩
            · refine (heap_stL _ _ _ _ _ (fun e => ?_)).trans (h4.keepX b hb)
              have := g0.hX b hb
              have e' : b = β p := e
              omega
            · have hb' : b < g0.w.heap.size := hb
              refine (heap_stL _ _ _ _ _ (fun e => ?_)).trans (h4.same b hb hm)
              have e' : b = β p := e
              omega
            · rw [← h4.d b hb hm i]
              constructor
              · exact fun h => h.1
              · exact fun h => ⟨h, fun hf => (by cases hf)⟩
          · intro q cs' hq'
            have hq' : slook ((p, setsAt cs off (cellsL v)) :: st.ps) q = some cs' := hq'
            rw [slook_cons] at hq'
            by_cases e : p = q
            · subst e
              simp only [if_true, Option.some.injEq] at hq'
              subst hq'
              exact ⟨hB, hX, ty, blk_stL (w := gr.w) off (cellsL v) 0 cs hb⟩
            · simp only [e, if_false] at hq'
              obtain ⟨h6, h7, ty', h8⟩ := h5.cell q cs' hq'
              refine ⟨h6, h7, ty', ?_⟩
              unfold Blk
              rw [show (gr.store false ⟨β p, off, none⟩ (cellsL v)).w.heap[β q]? = gr.w.heap[β q]? from heap_stL _ _ _ _ _ (fun e2 => e (h5.inj p q cs cs' hs hq' e2.symm))]
              exact h8
          · intro q r cs' cs'' hq' hr' he
            have ex : ∀ {q : Nat} {cs' : List Value}, slook ((p, setsAt cs off (cellsL v)) :: st.ps) q = some cs' → ∃ cs'', slook st.ps q = some cs'' := by
              intro q cs' hq'
              rw [slook_cons] at hq'
              by_cases e : p = q
              · subst e; exact ⟨cs, hs⟩
              · simp only [e, if_false] at hq'; exact ⟨cs', hq'⟩
            obtain ⟨c1, hc1⟩ := ex hq'
            obtain ⟨c2, hc2⟩ := ex hr'
            exact h5.inj q r c1 c2 hc1 hc2 he
          · have hx1 : ExtSt [] [p] st (st.setP p (setsAt cs off (cellsL v))) := by
              refine ⟨ExtE.refl _ _, fun _ _ _ _ _ h => h, fun q cs' hq' hl' => ?_⟩
              show slook ((p, _) :: st.ps) q = _
              rw [slook_cons, if_neg (fun e => hq' (by simp [e]))]
              exact hl'
            rw [hwp]
            simpa using hx1.trans (extSt_put (st.setP p (setsAt cs off (cellsL v))) o.dst undef [])
        · simp [execOp, hop, hev, hA.ev hy, hr, G.store]
      all_goals cases hp
    case fieldAddr t x f =>
      cases x <;> simp only [plookO] at hp
      case tmp s =>
        cases hq : plook st.pe s <;> simp only [hq] at hp
        · cases hp
        rename_i q
        obtain ⟨p, off⟩ := q
        cases hf : fldP c.tt t f <;> simp only [hf] at hp
        · cases hp
        rename_i k
        simp only [Option.some.injEq] at hp
        subst hp
        have hev : a.eval (.tmp s) = .pointer (some ⟨β p, off, none⟩) := h5.ptr s p off hq
        have hA2 : Agree n ((s, some (.pointer (some ⟨β p, off, none⟩))) :: st.fr) a := by
          refine ⟨hA.size, hA.defers, fun t' u hu => ?_⟩
          rw [look_cons] at hu
          by_cases e : s = t'
          · subst e
            simp only [if_true, Option.some.injEq] at hu
            rw [← hu]
            exact hev
          · simp only [e, if_false] at hu
            exact hA.at_ t' u hu
        have hpure : pureVC c.tt ((s, some (.pointer (some ⟨β p, off, none⟩))) :: st.fr) o fun v => v = .pointer (some ⟨β p, off + k, none⟩) := by
          unfold pureVC
          simp only [hop]
          have e1 : ev ((s, some (.pointer (some ⟨β p, off, none⟩))) :: st.fr) (.tmp s) = some (.pointer (some ⟨β p, off, none⟩)) := by
            show look _ s = _
            rw [look_cons, if_pos rfl]
          rw [e1]
          simp only [withV]
          unfold fldP at hf
          unfold fldAddrVC
          cases hs : tfind c.tt t <;> simp only [hs] at hf ⊢
          · cases hf
          rename_i ti
          cases hu : ti.und <;> simp only [hu] at hf ⊢
          case struct fs =>
            cases hfd : fs[f]? <;> simp only [hfd] at hf ⊢
            · cases hf
            rename_i fd
            unfold tsize
            cases hfi : tfind c.tt fd.type <;> simp only [hfi] at hf ⊢
            · cases hf
            rename_i fi
            cases hz : Nat.beq fi.size 0 <;> simp only [hz] at hf ⊢
            · obtain rfl := Option.some.inj hf
              show Value.pointer (some (Addr.add ⟨β p, off, none⟩ fd.offset)) = _
              rw [add_row]
            · cases hf
          all_goals cases hf
        obtain ⟨v, hr, rfl⟩ := pure_sound (P := c.P) T hA2 hpure
        exact ptr_ok hA hd h2 h3 h4 h5 (hr _) h
      all_goals cases hp
    case nilCheck x =>
      cases x <;> simp only [plookO] at hp
      case tmp s =>
        cases hq : plook st.pe s <;> simp only [hq] at hp
        · cases hp
        rename_i q
        obtain ⟨p, off⟩ := q
        simp only [Option.some.injEq] at hp
        subst hp
        have hev : a.eval (.tmp s) = .pointer (some ⟨β p, off, none⟩) := h5.ptr s p off hq
        refine ptr_ok hA hd h2 h3 h4 h5 ?_ h
        simp [execOp, hop, hev]
      all_goals cases hp
    case move x =>
      cases x <;> simp only [plookO] at hp
      case tmp s =>
        cases hq : plook st.pe s <;> simp only [hq] at hp
        · cases hp
        rename_i q
        obtain ⟨p, off⟩ := q
        simp only [Option.some.injEq] at hp
        subst hp
        have hev : a.eval (.tmp s) = .pointer (some ⟨β p, off, none⟩) := h5.ptr s p off hq
        refine ptr_ok hA hd h2 h3 h4 h5 ?_ h
        simp [execOp, hop, hev]
      all_goals cases hp
    case assign x =>
      cases x <;> simp only [plookO] at hp
      case tmp s =>
        cases hq : plook st.pe s <;> simp only [hq] at hp
        · cases hp
        rename_i q
        obtain ⟨p, off⟩ := q
        simp only [Option.some.injEq] at hp
        subst hp
        have hev : a.eval (.tmp s) = .pointer (some ⟨β p, off, none⟩) := h5.ptr s p off hq
        refine ptr_ok hA hd h2 h3 h4 h5 ?_ h
        simp [execOp, hop, hev]
      all_goals cases hp
    all_goals cases hp
end
end Go.Vc
