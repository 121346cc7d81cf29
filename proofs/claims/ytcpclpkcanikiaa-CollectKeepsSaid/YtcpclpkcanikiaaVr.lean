/- Code in a round of a range over a function: the conditions are sound there too (no loop, no deferred call). -/
import Derived.Test.YtcpclpkcanikiaaVda
import Derived.TacticsIn
import Derived.RangeFuncCalls
import Derived.OrdersIn
set_option linter.unusedVariables false
namespace Go.Vc
open Go Go.RowKit

def isDefer (o : Oper) : Bool := match o.op with
  | .defer _ => true
  | _ => false
/-- No loop, no deferred call. -/
def noDefer : Code → Bool
  | .region _ ops _ => ops.toList.all fun o => !isDefer o
  | .seq a b => noDefer a && noDefer b
  | .cond _ a b => noDefer a && noDefer b
  | .block _ b => noDefer b
  | .loop _ => false
  | _ => true
theorem nd_l {a b : Code} (h : noDefer (.seq a b) = true) : noDefer a = true := by simp only [noDefer, Bool.and_eq_true] at h; exact h.1
theorem nd_r {a b : Code} (h : noDefer (.seq a b) = true) : noDefer b = true := by simp only [noDefer, Bool.and_eq_true] at h; exact h.2
theorem ndc_l {c : Operand} {a b : Code} (h : noDefer (.cond c a b) = true) : noDefer a = true := by simp only [noDefer, Bool.and_eq_true] at h; exact h.1
theorem ndc_r {c : Operand} {a b : Code} (h : noDefer (.cond c a b) = true) : noDefer b = true := by simp only [noDefer, Bool.and_eq_true] at h; exact h.2

theorem rows_wide {n : Nat} {P : Program} {row : String} {args : Array Value} {w : World} {R : Value → World → Prop} (h : Rows P row args w R) : RowsIn Fence.wide n P row args w R :=
  fun c cs _ => let ⟨v, w', r, s⟩ := h c cs; ⟨v, w', r, stepsIn_wide.2 s⟩
theorem oper_round {P : Program} {o : Oper} {a : Act} {w : World} {next : Act → World → Prop} {Q : Exit → Act → World → Prop} {l n : Nat} (hd : isDefer o = false) (h : o.wp P a w next Q) : o.wpIn (Fence.wide.inRound l) n P a w next Q := by
  have hs : Oper.semAt (some l) a.eval o = execOp a.eval o := Oper.semAt_some l a.eval o (fun c hc => by unfold isDefer at hd; rw [hc] at hd; cases hd)
  unfold Oper.wpIn
  refine ⟨fun f _ => trivial, ?_⟩
  show o.uponIn (Fence.wide.inRound l) n P a next Q ((Oper.semAt (some l) a.eval o).run P w)
  rw [hs]
  unfold Oper.wp at h
  generalize (execOp a.eval o).run P w = r at h ⊢
  cases r with
  | ok x w' =>
    cases x <;> simp only [Oper.upon] at h <;> simp only [Oper.uponIn] <;>
      first
        | exact h
        | exact ⟨fun hh => (by cases hh), CallsIn.inRound l (callsIn_wide.2 h)⟩
        | exact ⟨fun hh => (by cases hh), rows_wide h⟩
  | halt x w' => cases x <;> simp only [Oper.upon] at h ⊢ <;> simp only [Oper.uponIn] <;> exact h
theorem list_round {P : Program} {ops : Array Oper} {Q : Exit → Act → World → Prop} {l n : Nat} (hl : ¬ LetsOut Q) (hnd : (ops.toList.all fun o => !isDefer o) = true) : ∀ (rest : List Oper), (∀ o, o ∈ rest → o ∈ ops.toList) → ∀ (a : Act) (w : World), wpList P ops Q rest a w → wpListIn (Fence.wide.inRound l) n P ops Q rest a w := by
  intro rest
  induction rest with
  | nil => intro _ a w h; exact h
  | cons o rest ih =>
    intro hm a w h
    have hd : isDefer o = false := by
      have := List.all_eq_true.1 hnd o (hm o (by simp))
      simpa using this
    have ih' := ih (fun o ho => hm o (by simp [ho]))
    unfold wpList at h
    unfold wpListIn
    split
    · rename_i hw
      rw [if_pos hw] at h
      rcases h with h | ⟨_, h⟩
      · exact oper_round hd (Oper.wp_mono (fun a w hh => ih' a w hh) h)
      · exact absurd h hl
    · rename_i hw
      rw [if_neg hw] at h
      exact ⟨fun f _ => trivial, ih' _ _ h⟩
theorem any_round {P : Program} {ops : Array Oper} {md : Region.Mode} {Q : Exit → Act → World → Prop} {l n : Nat} (hl : ¬ LetsOut Q) (hnd : (ops.toList.all fun o => !isDefer o) = true) : ∀ (fuel : Nat) (listed : Array Bool) (a : Act) (w : World), wpAny P md ops Q fuel listed a w → wpAnyIn (Fence.wide.inRound l) n P md ops Q fuel listed a w := by
  intro fuel
  induction fuel with
  | zero => intro listed a w h; exact h
  | succ fuel ih =>
    intro listed a w h
    refine ⟨h.1, fun i hi => ?_⟩
    have h2 := h.2 i hi
    unfold wpOp at h2
    unfold wpOpIn
    cases ho : ops[i]? with
    | none => simp only [ho] at h2 ⊢; exact ih _ _ _ h2
    | some o =>
      simp only [ho] at h2 ⊢
      have hd : isDefer o = false := by
        have := List.all_eq_true.1 hnd o (by simpa using Array.mem_of_getElem? ho)
        simpa using this
      split
      · rename_i hw
        rw [if_pos hw] at h2
        rcases h2 with h2 | ⟨_, h2⟩
        · exact oper_round hd (Oper.wp_mono (fun a w hh => ih _ a w hh) h2)
        · exact absurd h2 hl
      · rename_i hw
        rw [if_neg hw] at h2
        exact ⟨fun f _ => trivial, ih _ _ _ h2⟩

section
variable {c : Cfg} {g0 : G} {M : Nat → Prop} {n : Nat}
theorem no_out (g0 : G) (M : Nat → Prop) (n : Nat) {W V : List Nat} {st : St} {g : G} {k : KontG} : ¬ LetsOut (QKG g0 M n W V st g k) := by
  rintro ⟨a, w, h⟩
  exact h


theorem vcR_sound (T : TOk c.P c.tt) (F : FOk c.P c.fns) (hm : c.P.follows .mixedOrders = true) (l : Nat) (rm : Nat) : ∀ (cd : Code) (an : AnnG) (st : St) (g : G) (k : KontG) (a : Act) (w : World), OkS g0 M n st g a w → vcG c g0.size M n cd an st g k →
    noDefer cd = true → cd.wpIn (Fence.wide.inRound l) rm c.P (QKG g0 M n (writes cd) (writesP c cd) st g k) a w := by
  intro cd
  induction cd with
  | skip => intro an st g k a w hA h hnd; exact wpIn_skip ⟨st, g, hA, Le.refl _, ExtSt.refl _ _ _, h⟩
  | region id ops draw =>
    intro an st g k a w hA h hnd
    cases draw with
    | false =>
      refine wpIn_region_list (list_round (no_out g0 M n) hnd _ (fun o ho => ho) _ _ ?_)
      exact vcOpsG_sound T F (W0 := []) (V0 := []) (st0 := st) (g00 := g) (fun a w hb => (show BehS g0 M n (dstsL ops.toList) (wpL c ops.toList) st g k.n a w by simpa using hb)) hA (ExtSt.refl _ _ _) (Le.refl _) h
    | true =>
      have go : ∀ (wide : Bool) (m : Nat) (t : Sch), drawT ops m t = true → drawG c g0.size M n ops.toList m k.n wide t st g → (Code.region id ops true).wpIn (Fence.wide.inRound l) rm c.P (QKG g0 M n (writes (.region id ops true)) (writesP c (.region id ops true)) st g k) a w := by
        intro wide m t hB h
        have := drawP_any (n := n) T F hm (nw0 := []) (.inl rfl) (ops := ops.toList) (m := m) (t := t) (wide := wide) (N := k.n) (Q := QKG g0 M n (writes (.region id ops true)) (writesP c (.region id ops true)) st g k)
          (fun d v ch a w hq => hq) (fun a w hb => hb) hA (by simpa using hB) h
        refine wpIn_region_any hm (any_round (no_out g0 M n) hnd _ _ _ _ ?_)
        simpa using this
      cases an <;> simp only [vcG] at h
      case tree m t =>
        cases hB : drawT ops m t <;> simp only [hB] at h
        exact go false m t hB h
      case treeB m t =>
        cases hB : drawT ops m t <;> simp only [hB] at h
        exact go true m t hB h
      case treeP wide nw0 m t =>
        cases hB : drawT ops m t <;> simp only [hB] at h
        have := drawP_any (n := n) T F hm (nw0 := SENT :: nw0) (.inr (memN_iff.2 (by simp))) (ops := ops.toList) (m := m) (t := t) (wide := wide) (N := k.n) (Q := QKG g0 M n (writes (.region id ops true)) (writesP c (.region id ops true)) st g k)
          (fun d v ch a w hq => hq) (fun a w hb => hb) hA (by simpa using hB) h
        refine wpIn_region_any hm (any_round (no_out g0 M n) hnd _ _ _ _ ?_)
        simpa using this
  | seq x y ihx ihy =>
    intro an st g k a w hA h hnd
    have rest : ∀ {e : Exit} {a' : Act} {w' : World} {N : St → G → Prop}, QKG g0 M n (writes x) (writesP c x) st g ⟨N, k.x, k.r⟩ e a' w' → e ≠ .normal → QKG g0 M n (writes (.seq x y)) (writesP c (.seq x y)) st g k e a' w' := by
      intro e a' w' N hq hne
      cases e with
      | normal => exact absurd rfl hne
      | exit id => exact BehS.mono hq (fun t ht => List.mem_append.2 (.inl ht)) (fun t ht => List.mem_append.2 (.inl ht))
      | ret => exact BehS.mono hq (fun t ht => List.mem_append.2 (.inl ht)) (fun t ht => List.mem_append.2 (.inl ht))
      | panic c => exact hq
      | goto l => exact hq
      | outgrown => exact hq
    cases an <;> simp only [vcG] at h
    case seq ax ay =>
      refine wpIn_seq (Code.wpIn_mono ?_ (ihx ax st g _ a w hA h (nd_l hnd)))
      intro e a' w' hq
      cases e with
      | normal =>
        obtain ⟨st', g', h1, h2, h3, h4⟩ := hq
        exact Code.wpIn_mono (fun e a w hq => QKG.from h3 h2 hq) (ihy ay st' g' k a' w' h1 h4 (nd_r hnd))
      | exit id => exact rest hq (by simp)
      | ret => exact rest hq (by simp)
      | panic c => exact hq
      | goto l => exact hq
      | outgrown => exact hq
    case join J ax ay =>
      have h := h (jmkG (shJ J) fun vs g' => vcG c g0.size M n y ay (bindJ J vs (writes x) (writesP c x) st) g' k) jmk_ofG
      refine wpIn_seq (Code.wpIn_mono ?_ (ihx ax st g _ a w hA h (nd_l hnd)))
      intro e a' w' hq
      cases e with
      | normal =>
        obtain ⟨st', g', h1, h2, h3, h4⟩ := hq
        replace h4 : jenvG J _ st' g' := h4
        unfold jenvG at h4
        obtain ⟨g'', h5, h6, h7⟩ := flush_ok h1 h4
        cases hg : getJ J ⟨st'.fr, st'.pe, st'.ps, false⟩ with
        | none => simp only [hg] at h7
        | some vs =>
          simp only [hg] at h7
          have h9 := jmk_appG h7
          obtain ⟨h10, h11⟩ := joinG h5 h3.clean hg rfl
          exact Code.wpIn_mono (fun e a w hq => QKG.from h11 (h2.trans h6) hq) (ihy ay _ g'' k a' w' h10 h9 (nd_r hnd))
      | exit id => exact rest hq (by simp)
      | ret => exact rest hq (by simp)
      | panic c => exact hq
      | goto l => exact hq
      | outgrown => exact hq
  | cond cc x y ihx ihy =>
    intro an st g k a w hA h hnd
    cases an <;> simp only [vcG] at h
    rename_i ax ay
    obtain ⟨v, hv, h⟩ := withV_some h
    cases v <;> simp only at h
    rename_i t
    have h := brB_use h
    have hc : a.eval cc = .bool t := hA.agree.ev hv
    have hset : ∀ u, u = t → Agree n (setB cc u st.fr) a ∧ ∀ W, ExtE W st.fr (setB cc u st.fr) := by
      rintro u rfl
      cases cc with
      | tmp d => exact ⟨hA.agree.knows hv, ExtE.knows hv⟩
      | const _ => exact ⟨hA.agree, fun W => ExtE.refl _ _⟩
      | global _ => exact ⟨hA.agree, fun W => ExtE.refl _ _⟩
      | func _ => exact ⟨hA.agree, fun W => ExtE.refl _ _⟩
    cases t with
    | true =>
      simp only at h
      obtain ⟨hA', hE'⟩ := hset true rfl
      refine wpIn_cond_true hc (Code.wpIn_mono (fun e a w hq => QKG.mono ?_ ?_ (QKG.from (ExtSt.withFr hE' [] []) (Le.refl g) hq)) (ihx ax _ g k a w (hA.withFr hA') h (ndc_l hnd)))
      · intro t ht; exact List.mem_append.2 (.inl (by simpa using ht))
      · intro t ht; exact List.mem_append.2 (.inl (by simpa using ht))
    | false =>
      simp only at h
      obtain ⟨hA', hE'⟩ := hset false rfl
      refine wpIn_cond_false hc (Code.wpIn_mono (fun e a w hq => QKG.mono ?_ ?_ (QKG.from (ExtSt.withFr hE' [] []) (Le.refl g) hq)) (ihy ay _ g k a w (hA.withFr hA') h (ndc_r hnd)))
      · intro t ht; exact List.mem_append.2 (.inr (by simpa using ht))
      · intro t ht; exact List.mem_append.2 (.inr (by simpa using ht))
  | block id b ih =>
    intro an st g k a w hA h hnd
    cases an <;> simp only [vcG] at h
    rename_i x
    refine wpIn_block (Code.wpIn_mono ?_ (ih x st g _ a w hA h hnd))
    intro e a' w' hq
    cases e with
    | normal => exact hq
    | exit id' =>
      obtain ⟨st', g', h1, h2, h3, h'⟩ := hq
      by_cases hid : id' = id
      · subst hid
        simp only [Exit.inBlock, if_true]
        simp only [Nat.beq_refl] at h'
        exact ⟨st', g', h1, h2, h3, h'⟩
      · simp only [Exit.inBlock, hid, if_false]
        replace h' : (match Nat.beq id' id with | true => k.n st' g' | false => k.x id' st' g') := h'
        rw [nbeq] at h'
        simp only [hid, decide_false] at h'
        exact ⟨st', g', h1, h2, h3, h'⟩
    | ret => exact hq
    | panic c => exact hq
    | goto l => exact hq
    | outgrown => exact hq
  | loop b ih => intro an st g k a w hA h hnd; simp [noDefer] at hnd
  | exit id => intro an st g k a w hA h hnd; exact wpIn_exit ⟨st, g, hA, Le.refl _, ExtSt.refl _ _ _, h⟩
  | ret => intro an st g k a w hA h hnd; exact wpIn_ret ⟨st, g, hA, Le.refl _, ExtSt.refl _ _ _, h⟩
  | rangeFunc f p s b _ _ => intro an st g k a w hA h hnd; simp only [vcG] at h
  | scope b _ => intro an st g k a w hA h hnd; simp only [vcG] at h
  | label l => intro an st g k a w hA h hnd; simp only [vcG] at h
  | goto l => intro an st g k a w hA h hnd; simp only [vcG] at h
  | refuse s => intro an st g k a w hA h hnd; simp only [vcG] at h
end
end Go.Vc
