/- Lists of operations, and regions that draw their order, on frames with private variables. -/
import Derived.Test.YtlofbfbcnlgmaaaVd3
set_option linter.unusedVariables false
namespace Go.Vc
open Go Go.RowKit

def St.withFr (st : St) (fr : Env) : St := ⟨fr, st.pe, st.ps, st.dirty⟩
def guardG (ops : List Oper) (o : Oper) (st : St) (Y N : St → Prop) : Prop := guardVC ops o st.fr (fun fr => Y ⟨fr, st.pe, st.ps, st.dirty⟩) (fun fr => N ⟨fr, st.pe, st.ps, st.dirty⟩)
def vcOpsG (c : Cfg) (B : Nat) (M : Nat → Prop) (n : Nat) (ops : List Oper) (N : St → G → Prop) : List Oper → St → G → Prop
  | [], st, g => N st g
  | o :: r, st, g => match dOk n o.dst with
    | false => False
    | true => guardG ops o st (fun st => opG c B M o st g fun st g => vcOpsG c B M n ops N r st g) fun st => vcOpsG c B M n ops N r (st.put o.dst undef) g

def quietP : Op → Bool
  | .alloc _ => false
  | .box _ _ => false
  | .store _ _ _ => false
  | _ => true
def mrB (MR : Option (Nat → Prop)) (ad : Addr) (Q : Prop) : Prop := match MR with
  | none => Q
  | some m => ¬ m ad.block ∧ Q
def isLoad : Op → Bool
  | .load _ _ => true
  | _ => false
def opnd0 : Op → Operand
  | .load _ x => x
  | _ => .const undef
def pOf (pe : PE) (x : Operand) : Nat := match plookO pe x with
  | some (p, _) => p
  | none => 0
/-- A private operation that is quiet: no laying, no store, no read of what was laid in the head. -/
def quietN (nw : List Nat) (o : Oper) (st : St) : Bool := match quietP o.op with
  | false => false
  | true => match isLoad o.op with
    | true => !memN nw (pOf st.pe (opnd0 o.op))
    | false => true
def quietG (c : Cfg) (MR : Option (Nat → Prop)) (g1 : G) (nw : List Nat) (o : Oper) (st : St) (K : St → Prop) : Prop := match prvOp c o st with
  | some r => match quietN nw o st with
    | true => match r with
      | some st' => K st'
      | none => False
    | false => False
  | none => match o.op with
    | .load t x => withV (ev st.fr x) fun v => match v with
      | .pointer a => derefP a fun ad => mrB MR ad (loadVC c.tt t ad g1.w fun v => K (st.put o.dst v))
      | _ => False
    | _ => pureVC c.tt st.fr o fun v => K (st.put o.dst v)
def SameB (g1 g' : G) : Prop := ∀ b, b < g1.w.heap.size → ¬ g1.X b → g'.w.heap[b]? = g1.w.heap[b]?
def SameBut (m : Nat → Prop) (g1 g' : G) : Prop := ∀ b, b < g1.w.heap.size → ¬ g1.X b → ¬ m b → g'.w.heap[b]? = g1.w.heap[b]?
def clsG (MR : Option (Nat → Prop)) (g1 g' : G) (Q : Prop) : Prop := match MR with
  | none => SameB g1 g' ∧ Q
  | some m => SameBut m g1 g' ∧ Q
def autoC (c : Cfg) (cl : Call) : Bool := match cl.callee with
  | .value f => match f with
    | .func k => match memN c.fns k with
      | true => !memN c.tch k
      | false => false
    | _ => !c.tchV
  | _ => false
def autoO (c : Cfg) (o : Oper) : Bool := match o.op with
  | .alloc _ => true
  | .box _ _ => true
  | .build _ _ => true
  | .buildSlice _ _ _ => true
  | .load _ _ => true
  | .makeMap _ _ => true
  | .call cl => autoC c cl
  | _ => false
def layO : Op → Bool
  | .alloc _ => true
  | .box _ _ => true
  | _ => false
def effHG (c : Cfg) (B : Nat) (M : Nat → Prop) (MR : Option (Nat → Prop)) (g1 : G) (nw : List Nat) (o : Oper) (st : St) (g : G) (K : List Nat → St → G → Prop) : Prop := match prvOp c o st with
  | some r => match layO o.op with
    | true => match r with
      | some st' => K (dstO o.dst :: nw) st' g
      | none => False
    | false => False
  | none => match effB c.tt o with
    | false => pureVC c.tt st.fr o fun v => K nw (st.put o.dst v) g
    | true => flushG st g fun st g => match autoO c o with
      | true => effG c B M st.fr o g fun v g' => K nw (st.put o.dst v) g'
      | false => effG c B M st.fr o g fun v g' => clsG MR g1 g' (K nw (st.put o.dst v) g')
def treeG (c : Cfg) (B : Nat) (M : Nat → Prop) (n : Nat) (ops : List Oper) (m : Nat) (N : St → G → Prop) (MR : Option (Nat → Prop)) (g1 : G) : Sch → Bool → List Nat → St → G → Prop
  | .fin, al, _, st, g => match al with
    | true => True
    | false => vcOpsG c B M n ops N (ops.drop m) st g
  | .quiet i r, al, nw, st, g => match ops[i]? with
    | none => False
    | some o => match dOk n o.dst with
      | false => False
      | true => guardG ops o st (fun st => quietG c MR g1 nw o st fun st => treeG c B M n ops m N MR g1 r false nw st g) fun st => treeG c B M n ops m N MR g1 r false nw (st.put o.dst undef) g
  | .eff i r more, al, nw, st, g => match more with
    | .fin => match ops[i]? with
      | none => False
      | some o => match dOk n o.dst with
        | false => False
        | true => guardG ops o st (fun st => effHG c B M MR g1 nw o st g fun nw st g => treeG c B M n ops m N MR g1 r false nw st g) fun st => treeG c B M n ops m N MR g1 r false nw (st.put o.dst undef) g
    | more => (match ops[i]? with
      | none => False
      | some o => match dOk n o.dst with
        | false => False
        | true => guardG ops o st (fun st => effHG c B M MR g1 nw o st g fun nw st g => treeG c B M n ops m N MR g1 r false nw st g) fun st => treeG c B M n ops m N MR g1 r false nw (st.put o.dst undef) g) ∧ treeG c B M n ops m N MR g1 more true nw st g

/-- What is asked behind a piece of code. -/
def BehS (g0 : G) (M : Nat → Prop) (n : Nat) (W Wp : List Nat) (st : St) (g : G) (N : St → G → Prop) (a : Act) (w : World) : Prop := ∃ st' g', OkS g0 M n st' g' a w ∧ Le g g' ∧ ExtSt W Wp st st' ∧ N st' g'
def wpL (c : Cfg) (l : List Oper) : List Nat := l.flatMap (wpO c)
theorem BehS.from {g0 : G} {M : Nat → Prop} {n : Nat} {W W' V V' : List Nat} {st st0 : St} {g g00 : G} {N : St → G → Prop} {a : Act} {w : World} (h : BehS g0 M n W V st g N a w) (h0 : ExtSt W' V' st0 st) (hg : Le g00 g) : BehS g0 M n (W' ++ W) (V' ++ V) st0 g00 N a w :=
  let ⟨st', g', h1, h2, h3, h4⟩ := h
  ⟨st', g', h1, hg.trans h2, h0.trans h3, h4⟩
theorem BehS.mono {g0 : G} {M : Nat → Prop} {n : Nat} {W W' V V' : List Nat} {st : St} {g : G} {N : St → G → Prop} {a : Act} {w : World} (h : BehS g0 M n W V st g N a w) (hW : ∀ t, t ∈ W → t ∈ W') (hV : ∀ t, t ∈ V → t ∈ V') : BehS g0 M n W' V' st g N a w :=
  let ⟨st', g', h1, h2, h3, h4⟩ := h
  ⟨st', g', h1, h2, h3.mono hW hV, h4⟩

section
variable {c : Cfg} {g0 : G} {M : Nat → Prop} {n : Nat}

theorem OkS.put {st : St} {g : G} {a : Act} {w : World} (h : OkS g0 M n st g a w) {d : Option Tmp} (hd : dOk n d = true) (v : Value) : OkS g0 M n (st.put d v) g (a.put d v) w := by
  obtain ⟨gr, β, h1, h2, h3, h4, h5⟩ := h.ex
  exact ⟨h.agree.put hd v, gr, β, h1, h2, h3, h4, h5.put _ _ _⟩
theorem OkS.withFr {st : St} {g : G} {a : Act} {w : World} (h : OkS g0 M n st g a w) {fr : Env} (hf : Agree n fr a) : OkS g0 M n ⟨fr, st.pe, st.ps, st.dirty⟩ g a w := by
  obtain ⟨gr, β, h1, h2, h3, h4, h5⟩ := h.ex
  exact ⟨hf, gr, β, h1, h2, h3, h4, h5.fr _ _⟩
theorem ExtSt.withFr {st : St} {fr : Env} (h : ∀ W, ExtE W st.fr fr) (W V : List Nat) : ExtSt W V st ⟨fr, st.pe, st.ps, st.dirty⟩ := ⟨h W, fun _ _ _ _ _ h => h, fun _ _ _ h => h⟩

theorem vcOpsG_sound (T : TOk c.P c.tt) (F : FOk c.P c.fns) {ops : List Oper} {N : St → G → Prop} {Q : Exit → Act → World → Prop} :
    ∀ {l : List Oper} {st : St} {g : G} {a : Act} {w : World} {st0 : St} {g00 : G} {W0 V0 : List Nat}, (∀ a w, BehS g0 M n (W0 ++ dstsL l) (V0 ++ wpL c l) st0 g00 N a w → Q .normal a w) → OkS g0 M n st g a w → ExtSt W0 V0 st0 st → Le g00 g →
      vcOpsG c g0.size M n ops N l st g → wpList c.P ops.toArray Q l a w
  | [], st, g, a, w, st0, g00, W0, V0, hN, hA, hE, hL, h => hN a w ⟨st, g, hA, hL, by simpa [dstsL, wpL] using hE, h⟩
  | o :: r, st, g, a, w, st0, g00, W0, V0, hN, hA, hE, hL, h => by
    unfold vcOpsG at h
    cases hd : dOk n o.dst <;> simp only [hd] at h
    obtain ⟨fr', hA', hE', h⟩ := guard_use hA.agree h
    have hok' := hA.withFr hA'
    have hN' : ∀ a w, BehS g0 M n ((W0 ++ o.dst.toList) ++ dstsL r) ((V0 ++ wpO c o) ++ wpL c r) st0 g00 N a w → Q .normal a w := fun a w hb => hN a w (by
      simpa [dstsL, wpL, List.append_assoc] using hb)
    have hE2 : ExtSt W0 V0 st0 ⟨fr', st.pe, st.ps, st.dirty⟩ := (hE.trans (ExtSt.withFr hE' [] [])).mono (by simp) (by simp)
    unfold wpList
    rcases h with ⟨hw, h⟩ | ⟨hw, h⟩
    · rw [if_pos hw]
      refine .inl (Oper.wp_mono ?_ (opG_sound T F hok' hd h))
      rintro a' w' ⟨v, st', g', rfl, h1, h2, h3, hK⟩
      exact vcOpsG_sound T F hN' h1 (hE2.trans h3) (hL.trans h2) hK
    · rw [if_neg (by simp [hw])]
      exact vcOpsG_sound T F hN' (hok'.put hd undef) (hE2.trans (extSt_put _ _ _ _)) hL h

theorem memN_iff : ∀ {l : List Nat} {k : Nat}, memN l k = true ↔ k ∈ l
  | [], k => by simp [memN]
  | x :: r, k => by
    show (match Nat.beq x k with | true => true | false => memN r k) = true ↔ _
    rw [nbeq]
    by_cases h : x = k
    · simp [h]
    · have : ¬ k = x := fun e => h e.symm
      simp [h, this, memN_iff (l := r)]
/-! ### Draws -/
def mrC (MR : Option (Nat → Prop)) (b : Nat) : Prop := match MR with
  | none => True
  | some m => ¬ m b
def clsW (MR : Option (Nat → Prop)) (g1 : G) (w : World) : Prop := (∀ b, b < g1.w.heap.size → ¬ g1.X b → mrC MR b → w.heap[b]? = g1.w.heap[b]?) ∧ ∀ b, g1.X b → w.heap[b]? = g1.w.heap[b]?
theorem clsG_use {MR : Option (Nat → Prop)} {g1 g' : G} {Q : Prop} (h : clsG MR g1 g' Q) : (∀ b, b < g1.w.heap.size → ¬ g1.X b → mrC MR b → g'.w.heap[b]? = g1.w.heap[b]?) ∧ Q := by
  cases MR with
  | none => exact ⟨fun b hb hx _ => h.1 b hb hx, h.2⟩
  | some m => exact ⟨fun b hb hx hm => h.1 b hb hx hm, h.2⟩

/-- A state in a head: the private variables that were there at its beginning lie where they lay. -/
structure OkC (g0 : G) (M : Nat → Prop) (n : Nat) (g1 : G) (nw : List Nat) (st : St) (g : G) (a : Act) (w : World) : Prop where
  oks : OkS g0 M n st g a w
  old : ∀ p cs, p ∉ nw → slook st.ps p = some cs → ∃ b ty, g1.X b ∧ Blk g1.w b ty cs ∧ ∀ t o, plook st.pe t = some (p, o) → a.tmps.getD t undef = .pointer (some ⟨b, o, none⟩)
  sz : g1.w.heap.size ≤ w.heap.size
  xx : ∀ b, g1.X b → g.X b
theorem OkC.put {g1 : G} {nw : List Nat} {st : St} {g : G} {a : Act} {w : World} (h : OkC g0 M n g1 nw st g a w) {d : Option Tmp} (hd : dOk n d = true) (v : Value) : OkC g0 M n g1 nw (st.put d v) g (a.put d v) w := by
  refine ⟨h.oks.put hd v, fun p cs hp hs => ?_, h.sz, h.xx⟩
  obtain ⟨b, ty, h1, h2, h3⟩ := h.old p cs hp hs
  refine ⟨b, ty, h1, h2, fun t o ht => ?_⟩
  cases d with
  | none => exact h3 t o ht
  | some d =>
    have ht : plook ((d, none) :: st.pe) t = some (p, o) := ht
    rw [plook_cons] at ht
    by_cases e : d = t
    · simp [e] at ht
    · simp only [e, if_false] at ht
      rw [getD_put _ _ _ _ (fun hh => e (Option.some.inj hh))]
      exact h3 t o ht
theorem OkC.withFr {g1 : G} {nw : List Nat} {st : St} {g : G} {a : Act} {w : World} (h : OkC g0 M n g1 nw st g a w) {fr : Env} (hf : Agree n fr a) : OkC g0 M n g1 nw ⟨fr, st.pe, st.ps, st.dirty⟩ g a w :=
  ⟨h.oks.withFr hf, h.old, h.sz, h.xx⟩

/-- A quiet operation yields the same in every world of the class. -/
theorem quietG_use (T : TOk c.P c.tt) {MR : Option (Nat → Prop)} {g1 g : G} {nw : List Nat} {st : St} {a : Act} {w : World} (hX : ∀ m, MR = some m → ∀ b, m b → ¬ g1.X b) (hok : OkC g0 M n g1 nw st g a w) {o : Oper} (hd : dOk n o.dst = true) {K : St → Prop} (h : quietG c MR g1 nw o st K) :
    ∃ v st', (∀ w', clsW MR g1 w' → (execOp a.eval o).run c.P w' = .ok (.value v) w') ∧ OkC g0 M n g1 nw st' g (a.put o.dst v) w ∧ ExtSt o.dst.toList [] st st' ∧ K st' := by
  unfold quietG at h
  cases hp : prvOp c o st with
  | none =>
    simp only [hp] at h
    split at h
    · rename_i t x ho
      obtain ⟨v, hv, h⟩ := withV_some h
      cases v <;> simp only at h
      obtain ⟨ad, rfl, h⟩ := derefP_some h
      have hB : (∀ m, MR = some m → ¬ m ad.block) ∧ loadVC c.tt t ad g1.w fun v => K (st.put o.dst v) := by
        cases MR with
        | none => exact ⟨fun _ h => (by cases h), h⟩
        | some b => exact ⟨fun _ e => (by cases e; exact h.1), h.2⟩
      obtain ⟨u, h1, h2, h3⟩ := loadVC_sound (P := c.P) T hB.2
      refine ⟨u, st.put o.dst u, fun w' hb => ?_, hok.put hd u, extSt_put _ _ _ _, h2⟩
      have := h3 w' (fun p u hp hu => by
        have hlt := cell_lt hu
        rw [cell_same (w := g1.w) (show w'.heap[p.block]? = g1.w.heap[p.block]? from (Classical.em (g1.X p.block)).elim (fun hx => hb.2 _ hx) (fun hx => hb.1 _ hlt hx (by cases MR with | none => trivial | some m => show ¬ m p.block; rw [hp]; exact hB.1 m rfl)))]
        exact hu)
      simp [execOp, ho, hok.oks.agree.ev hv, this]
    · obtain ⟨v, h1, h2⟩ := pure_sound (P := c.P) T hok.oks.agree h
      exact ⟨v, st.put o.dst v, fun w' _ => h1 w', hok.put hd v, extSt_put _ _ _ _, h2⟩
  | some r =>
    simp only [hp] at h
    cases hq' : quietN nw o st <;> simp only [hq'] at h
    have hq : quietP o.op = true := by
      unfold quietN at hq'
      cases hh : quietP o.op
      · simp [hh] at hq'
      · rfl
    obtain ⟨gr, β, e1, e2, e3, e4, e5⟩ := hok.oks.ex
    cases r with
    | none => exact h.elim
    | some st' =>
    simp only at h
    -- the operation runs at the world at hand; its value is read off there
    have hptr : ∀ (p off : Nat), (∃ t o', plook st.pe t = some (p, o')) → (∀ w', clsW MR g1 w' → (execOp a.eval o).run c.P w' = .ok (.value (.pointer (some ⟨β p, off, none⟩))) w') → st' = st.ptr o.dst p off →
        ∃ v st', (∀ w', clsW MR g1 w' → (execOp a.eval o).run c.P w' = .ok (.value v) w') ∧ OkC g0 M n g1 nw st' g (a.put o.dst v) w ∧ ExtSt o.dst.toList [] st st' ∧ K st' := by
      rintro p off hsrc hr rfl
      have key : ∀ (f : Nat → Nat → Value), (∀ t p' o', plook st.pe t = some (p', o') → a.tmps.getD t undef = f p' o') → f p off = .pointer (some ⟨β p, off, none⟩) → ∀ t p' o', plook (st.ptr o.dst p off).pe t = some (p', o') → (a.put o.dst (.pointer (some ⟨β p, off, none⟩))).tmps.getD t undef = f p' o' := by
        intro f hf hfp t p' o' ht
        cases hdst : o.dst with
        | none =>
          have : plook st.pe t = some (p', o') := by simpa [St.ptr, putPE, hdst] using ht
          exact hf t p' o' this
        | some d =>
          have ht : plook ((d, some (p, off)) :: st.pe) t = some (p', o') := by simpa [St.ptr, putPE, hdst] using ht
          rw [plook_cons] at ht
          by_cases e : d = t
          · subst e
            simp only [if_true, Option.some.injEq, Prod.mk.injEq] at ht
            obtain ⟨rfl, rfl⟩ := ht
            rw [hfp]
            exact getD_put_same hok.oks.agree.size (by rw [hdst] at hd; exact hd) _
          · simp only [e, if_false] at ht
            rw [getD_put _ _ _ _ (fun hh => e (Option.some.inj hh))]
            exact hf t p' o' ht
      have hpag := key (fun p' o' => .pointer (some ⟨β p', o', none⟩)) e5.ptr rfl
      refine ⟨_, st.ptr o.dst p off, hr, ⟨⟨hok.oks.agree.forget _, gr, β, e1, e2, e3, e4, ⟨hpag, e5.cell, e5.inj⟩⟩, fun q cs hqn hs => ?_, hok.sz, hok.xx⟩, extSt_ptr _ _ _ _ _, h⟩
      obtain ⟨b, ty, k1, k2, k3⟩ := hok.old q cs hqn hs
      by_cases hany : ∃ t o', plook st.pe t = some (q, o')
      · obtain ⟨t0, o0, ht0⟩ := hany
        have hb : b = β q := by
          have h1 := k3 t0 o0 ht0
          rw [e5.ptr t0 q o0 ht0] at h1
          simp at h1
          exact h1.symm
        subst hb
        exact ⟨_, ty, k1, k2, fun t o' ht => hpag t q o' ht⟩
      · exact ⟨b, ty, k1, k2, fun t o' ht => by
          exfalso
          apply hany
          cases hdst : o.dst with
          | none => exact ⟨t, o', by simpa [St.ptr, putPE, hdst] using ht⟩
          | some d =>
            have ht : plook ((d, some (p, off)) :: st.pe) t = some (q, o') := by simpa [St.ptr, putPE, hdst] using ht
            rw [plook_cons] at ht
            by_cases e : d = t
            · simp only [e, if_true, Option.some.injEq, Prod.mk.injEq] at ht
              obtain ⟨rfl, rfl⟩ := ht
              exact hsrc
            · simp only [e, if_false] at ht
              exact ⟨t, o', ht⟩⟩
    have hev : ∀ {s p off : Nat}, plook st.pe s = some (p, off) → a.eval (.tmp s) = .pointer (some ⟨β p, off, none⟩) := fun hq => e5.ptr _ _ _ hq
    unfold prvOp at hp
    cases hop : o.op <;> simp only [hop] at hp hq
    case alloc e => cases hq
    case box e x => cases hq
    case store t x y => cases hq
    case load t x =>
      cases x <;> simp only [plookO] at hp
      case tmp s =>
        cases hq : plook st.pe s <;> simp only [hq] at hp
        · cases hp
        rename_i q
        obtain ⟨p, off⟩ := q
        cases hs : slook st.ps p <;> simp only [hs] at hp
        · cases hp
        rename_i cs
        cases hl : loadP c.tt t cs off <;> simp only [hl] at hp
        · cases hp
        rename_i v
        simp only [Option.some.injEq] at hp
        subst hp
        have hpn : p ∉ nw := by
          intro hm
          unfold quietN at hq'
          simp [hop, quietP, isLoad, opnd0, pOf, plookO, hq, memN_iff.2 hm] at hq'
        obtain ⟨bb, ty, hx1, hb, hbt⟩ := hok.old p cs hpn hs
        refine ⟨v, st.put o.dst v, fun w' hw' => ?_, hok.put hd v, extSt_put _ _ _ _, h⟩
        have hev' : a.eval (.tmp s) = .pointer (some ⟨bb, off, none⟩) := hbt s off hq
        have hb' : Blk w' bb ty cs := by
          unfold Blk
          rw [hw'.2 _ hx1]
          exact hb
        have hr := loadAt_run (P := c.P) T hl (ad := ⟨bb, off, none⟩) (w := w') (fun j u hu => by rw [add_row, hb'.cell]; exact hu)
        simp [execOp, hop, hev', hr]
      all_goals cases hp
    case fieldAddr t x f =>
      cases x <;> simp only [plookO] at hp
      case tmp s =>
        cases hq : plook st.pe s <;> simp only [hq] at hp
        · cases hp
        rename_i q
        obtain ⟨p, off⟩ := q
        cases hf : fldP c.tt t f <;> simp only [hf] at hp
        · cases hp
        rename_i k
        simp only [Option.some.injEq] at hp
        subst hp
        refine hptr p (off + k) ⟨_, _, hq⟩ (fun w' _ => ?_) rfl
        have hA2 : Agree n ((s, some (.pointer (some ⟨β p, off, none⟩))) :: st.fr) a := by
          refine ⟨hok.oks.agree.size, hok.oks.agree.defers, fun t' u hu => ?_⟩
          rw [look_cons] at hu
          by_cases e : s = t'
          · subst e
            simp only [if_true, Option.some.injEq] at hu
            rw [← hu]
            exact hev hq
          · simp only [e, if_false] at hu
            exact hok.oks.agree.at_ t' u hu
        have hpure : pureVC c.tt ((s, some (.pointer (some ⟨β p, off, none⟩))) :: st.fr) o fun v => v = .pointer (some ⟨β p, off + k, none⟩) := by
          unfold pureVC
          simp only [hop]
          have e1 : ev ((s, some (.pointer (some ⟨β p, off, none⟩))) :: st.fr) (.tmp s) = some (.pointer (some ⟨β p, off, none⟩)) := by
            show look _ s = _
            rw [look_cons, if_pos rfl]
          rw [e1]
          simp only [withV]
          unfold fldP at hf
          unfold fldAddrVC
          cases hs : tfind c.tt t <;> simp only [hs] at hf ⊢
          · cases hf
          rename_i ti
          cases hu : ti.und <;> simp only [hu] at hf ⊢
          case struct fs =>
            cases hfd : fs[f]? <;> simp only [hfd] at hf ⊢
            · cases hf
            rename_i fd
            unfold tsize
            cases hfi : tfind c.tt fd.type <;> simp only [hfi] at hf ⊢
            · cases hf
            rename_i fi
            cases hz : Nat.beq fi.size 0 <;> simp only [hz] at hf ⊢
            · obtain rfl := Option.some.inj hf
              show Value.pointer (some (Addr.add ⟨β p, off, none⟩ fd.offset)) = _
              rw [add_row]
            · cases hf
          all_goals cases hf
        obtain ⟨v, hr, rfl⟩ := pure_sound (P := c.P) T hA2 hpure
        exact hr w'
      all_goals cases hp
    case nilCheck x =>
      cases x <;> simp only [plookO] at hp
      case tmp s =>
        cases hq : plook st.pe s <;> simp only [hq] at hp
        · cases hp
        rename_i q
        obtain ⟨p, off⟩ := q
        simp only [Option.some.injEq] at hp
        subst hp
        refine hptr p off ⟨_, _, hq⟩ (fun w' _ => ?_) rfl
        simp [execOp, hop, hev hq]
      all_goals cases hp
    case move x =>
      cases x <;> simp only [plookO] at hp
      case tmp s =>
        cases hq : plook st.pe s <;> simp only [hq] at hp
        · cases hp
        rename_i q
        obtain ⟨p, off⟩ := q
        simp only [Option.some.injEq] at hp
        subst hp
        refine hptr p off ⟨_, _, hq⟩ (fun w' _ => ?_) rfl
        simp [execOp, hop, hev hq]
      all_goals cases hp
    case assign x =>
      cases x <;> simp only [plookO] at hp
      case tmp s =>
        cases hq : plook st.pe s <;> simp only [hq] at hp
        · cases hp
        rename_i q
        obtain ⟨p, off⟩ := q
        simp only [Option.some.injEq] at hp
        subst hp
        refine hptr p off ⟨_, _, hq⟩ (fun w' _ => ?_) rfl
        simp [execOp, hop, hev hq]
      all_goals cases hp
    all_goals cases hp

theorem wp_both {o : Oper} {a : Act} {w w1 : World} {v : Value} {st st' : St} {g : G} {Q : Exit → Act → World → Prop} {R : World → Prop} (hrun : (execOp a.eval o).run c.P w = .ok (.value v) w1) (h1 : o.wp c.P a w (BehO c g0 M n o st g a fun s x => s = st' ∧ x = g) Q) (hR : R w1) :
    o.wp c.P a w (fun a' w' => ∃ v, a' = a.put o.dst v ∧ (OkS g0 M n st' g a' w' ∧ ExtSt o.dst.toList (wpO c o) st st') ∧ R w') Q := by
  unfold Oper.wp at h1 ⊢
  rw [hrun] at h1 ⊢
  obtain ⟨v', s, x, e1, e2, e3, e4, rfl, rfl⟩ := h1
  exact ⟨v', e1, ⟨e2, e4⟩, hR⟩

theorem auto_eq {o : Oper} (h : autoO c o = true) (he : effB c.tt o = true) (B B' : Nat) (M M' : Nat → Prop) (fr : Env) (g : G) (K : Value → G → Prop) : effG c B M fr o g K = effG c B' M' fr o g K := by
  obtain ⟨dst, op, type, pos, after, guard⟩ := o
  cases op <;> simp only [autoO] at h
  case call cl =>
    obtain ⟨callee, args, argTypes⟩ := cl
    cases callee <;> simp only [autoC] at h
    case value f =>
      cases f <;> simp only at h
      case func k =>
        cases hm : memN c.fns k <;> simp only [hm] at h
        · cases h
        · have ht : memN c.tch k = false := by simpa using h
          simp only [effG, callG, hm, ht, callK]
      all_goals
        have ht : c.tchV = false := by simpa using h
        simp only [effG, callG, ht, callK]
    all_goals cases h
  all_goals first | rfl | cases h

theorem effHG_use (T : TOk c.P c.tt) (F : FOk c.P c.fns) {MR : Option (Nat → Prop)} {g1 g : G} {nw : List Nat} {st : St} {a : Act} {w : World} (hok : OkC g0 M n g1 nw st g a w) (hS : clsW MR g1 w) {o : Oper} (hd : dOk n o.dst = true) {K : List Nat → St → G → Prop} {Q : Exit → Act → World → Prop}
    (h : effHG c g0.size M MR g1 nw o st g K) : o.wp c.P a w (fun a' w' => ∃ v nw' st' g', a' = a.put o.dst v ∧ OkC g0 M n g1 nw' st' g' a' w' ∧ clsW MR g1 w' ∧ Le g g' ∧ ExtSt o.dst.toList (wpO c o) st st' ∧ K nw' st' g') Q := by
  unfold effHG at h
  cases hp : prvOp c o st with
  | some r =>
    simp only [hp] at h
    cases hl : layO o.op <;> simp only [hl] at h
    cases r with
    | none => exact h.elim
    | some st' =>
    simp only at h
    -- a private variable is laid
    have hlay : ∃ d L, o.dst = some d ∧ st' = st.newP d L ∧ prvOp c o st = some (some (st.newP d L)) := by
      have hp' := hp
      unfold prvOp at hp
      cases hop : o.op <;> simp only [hop] at hp hl
      case alloc e =>
        cases hdst : o.dst <;> simp only [hdst] at hp
        · cases hp
        rename_i d
        cases hm : memN c.pv d <;> simp only [hm] at hp
        · cases hp
        cases hz : zeroC c.tt e <;> simp only [hz] at hp
        · cases hp
        rename_i L
        simp only [Option.some.injEq] at hp
        subst hp
        exact ⟨d, L, rfl, rfl, hp'⟩
      case box e x =>
        cases hdst : o.dst <;> simp only [hdst] at hp
        · cases hp
        rename_i d
        cases hm : memN c.pv d <;> simp only [hm] at hp
        · cases hp
        cases hz : ev st.fr x <;> simp only [hz] at hp
        · cases hp
        rename_i v
        simp only [Option.some.injEq] at hp
        subst hp
        exact ⟨d, cellsL v, rfl, rfl, hp'⟩
      all_goals cases hl
    obtain ⟨d, L, hdst, rfl, hp'⟩ := hlay
    have hop : opG c g0.size M o st g fun s x => s = st.newP d L ∧ x = g := by
      unfold opG
      rw [hp']
      exact ⟨rfl, rfl⟩
    obtain ⟨gr, β, rfl, e2, e3, e4, e5⟩ := hok.oks.ex
    -- the world grows by one block
    have hgrow : o.wp c.P a gr.w (fun a' w' => ∃ v, a' = a.put o.dst v ∧ (OkS g0 M n (st.newP d L) g a' w' ∧ ExtSt o.dst.toList (wpO c o) st (st.newP d L)) ∧ (gr.w.heap.size ≤ w'.heap.size ∧ ∀ b, b < gr.w.heap.size → w'.heap[b]? = gr.w.heap[b]?)) Q := by
      unfold prvOp at hp
      cases hop2 : o.op <;> simp only [hop2] at hp hl
      case alloc e =>
        simp only [hdst] at hp
        cases hm : memN c.pv d <;> simp only [hm] at hp
        · cases hp
        cases hz : zeroC c.tt e <;> simp only [hz] at hp
        · cases hp
        rename_i L'
        have hL : L' = L := by
          simp only [Option.some.injEq] at hp
          have := congrArg St.ps hp
          simp only [St.newP, List.cons.injEq, Prod.mk.injEq, true_and, and_true] at this
          exact this
        subst hL
        unfold zeroC at hz
        cases hs : tfind c.tt e <;> simp only [hs] at hz
        · cases hz
        rename_i ti
        cases hzz : ti.zero <;> simp only [hzz] at hz
        · cases hz
        rename_i z
        obtain rfl := Option.some.inj hz
        have hrun : (execOp a.eval o).run c.P gr.w = .ok (.value (.pointer (some ⟨gr.w.heap.size, 0, none⟩))) (gr.w.alloc (.cells ⟨cellsL z⟩ e)) := by
          simp [execOp, hop2, Instr.alloc, (T.fact hs).run_zero hzz, newVar, newRow, cellsL_eq]
        have h1 := new_ok (g0 := g0) (M := M) (n := n) (c := c) (Q := Q) (e := e) (K := fun s x => s = st.newP d (cellsL z) ∧ x = g) hok.oks.agree hdst hd e2 e4 e5 hrun (by simp [wpO, hop2, hdst, hm]) ⟨rfl, rfl⟩
        have h2 : o.wp c.P a gr.w (Nx o a fun v w' => v = .pointer (some ⟨gr.w.heap.size, 0, none⟩) ∧ w' = gr.w.alloc (.cells ⟨cellsL z⟩ e)) Q := upon_of_value hrun ⟨rfl, rfl⟩
        exact wp_both hrun h1 ⟨by simp, fun b hb => Below.heap_alloc _ _ _ hb⟩
      case box e x =>
        simp only [hdst] at hp
        cases hm : memN c.pv d <;> simp only [hm] at hp
        · cases hp
        cases hz : ev st.fr x <;> simp only [hz] at hp
        · cases hp
        rename_i v
        have hL : cellsL v = L := by
          simp only [Option.some.injEq] at hp
          have := congrArg St.ps hp
          simp only [St.newP, List.cons.injEq, Prod.mk.injEq, true_and, and_true] at this
          exact this
        subst hL
        have hrun : (execOp a.eval o).run c.P gr.w = .ok (.value (.pointer (some ⟨gr.w.heap.size, 0, none⟩))) (gr.w.alloc (.cells ⟨cellsL v⟩ e)) := by
          simp [execOp, hop2, Instr.box, newVar, newRow, cellsL_eq, hok.oks.agree.ev hz]
        have h1 := new_ok (g0 := g0) (M := M) (n := n) (c := c) (Q := Q) (e := e) (K := fun s x => s = st.newP d (cellsL v) ∧ x = g) hok.oks.agree hdst hd e2 e4 e5 hrun (by simp [wpO, hop2, hdst, hm]) ⟨rfl, rfl⟩
        exact wp_both hrun h1 ⟨by simp, fun b hb => Below.heap_alloc _ _ _ hb⟩
      all_goals cases hl
    refine Oper.wp_mono ?_ hgrow
    rintro a' w' ⟨v, rfl, ⟨h1, h2⟩, h3, h4⟩
    have hdd : dstO o.dst = d := by rw [hdst]; rfl
    refine ⟨v, d :: nw, st.newP d L, g, rfl, ⟨h1, fun p cs hp hs => ?_, Nat.le_trans hok.sz h3, hok.xx⟩, ⟨fun b hb hx hm => (h4 b (Nat.lt_of_lt_of_le hb hok.sz)).trans (hS.1 b hb hx hm), fun b hx => (h4 b (Nat.lt_of_lt_of_le (g1.hX b hx) hok.sz)).trans (hS.2 b hx)⟩, Le.refl g, h2, by have h' := h; rw [hdd] at h'; exact h'⟩
    have hpd : p ≠ d := fun e => hp (by simp [e])
    have hpn : p ∉ nw := fun e => hp (by simp [e])
    have hs : slook ((d, L) :: st.ps) p = some cs := hs
    rw [slook_cons, if_neg (fun e => hpd e.symm)] at hs
    obtain ⟨b, ty, k1, k2, k3⟩ := hok.old p cs hpn hs
    refine ⟨b, ty, k1, k2, fun t o' ht => ?_⟩
    have ht : plook ((d, some (d, 0)) :: killP d st.pe) t = some (p, o') := ht
    rw [plook_cons] at ht
    by_cases e : d = t
    · simp only [e, if_true, Option.some.injEq, Prod.mk.injEq] at ht
      exact absurd (ht.1.symm.trans e.symm) hpd
    · simp only [e, if_false] at ht
      rw [plook_kill, killE_some] at ht
      rw [hdst, getD_put _ _ _ _ (fun hh => e (Option.some.inj hh))]
      exact k3 t o' ht.1
  | none =>
    simp only [hp] at h
    cases he : effB c.tt o <;> simp only [he] at h
    · obtain ⟨v, h1, h2⟩ := pure_sound (P := c.P) T hok.oks.agree h
      refine Oper.wp_mono (K := Nx o a fun v' w' => v' = v ∧ w' = w) ?_ (upon_of_value (h1 _) ⟨rfl, rfl⟩)
      rintro a' w' ⟨v, rfl, rfl, rfl⟩
      exact ⟨v, nw, st.put o.dst v, g, rfl, hok.put hd v, hS, Le.refl g, extSt_put _ _ _ _, h2⟩
    · obtain ⟨g2, β, rfl, h2, h3, h4, h5⟩ := flush_use hok.oks h
      have hx2 : ∀ b, g1.X b → g2.X b := fun b hb => h2.2 b (hok.xx b hb)
      have fin : ∀ v g', Stp g0.size M g2 g' → (∀ b, b < g1.w.heap.size → ¬ g1.X b → mrC MR b → g'.w.heap[b]? = g1.w.heap[b]?) → K nw ((⟨st.fr, st.pe, st.ps, false⟩ : St).put o.dst v) g' → ∃ v' nw' st' g'', a.put o.dst v = a.put o.dst v' ∧ OkC g0 M n g1 nw' st' g'' (a.put o.dst v) g'.w ∧ clsW MR g1 g'.w ∧ Le g g'' ∧ ExtSt o.dst.toList (wpO c o) st st' ∧ K nw' st' g'' := by
        intro v g' hs hc1 hK
        have hc : clsW MR g1 g'.w := ⟨hc1, fun b hb => (hs.keepX b (hx2 b hb)).trans (hS.2 b hb)⟩
        have e := extSt_put ⟨st.fr, st.pe, st.ps, false⟩ o.dst v (wpO c o)
        have hc0 : OkC g0 M n g1 nw ⟨st.fr, st.pe, st.ps, false⟩ g' a g'.w := ⟨⟨hok.oks.agree, g', β, rfl, Exx.refl _, fun _ => rfl, h3.step hs, (h4.step (fun b hb => (hs.x b).2 hb) hs.keepX).fr _ _⟩, hok.old, Nat.le_trans hok.sz hs.le.size, fun b hb => (hs.x b).2 (hx2 b hb)⟩
        exact ⟨v, nw, (⟨st.fr, st.pe, st.ps, false⟩ : St).put o.dst v, g', rfl, hc0.put hd v, hc, h2.1.le.trans hs.le, ⟨e.fr, e.pe, e.ps⟩, hK⟩
      cases ha : autoO c o <;> simp only [ha] at h5
      · refine Oper.wp_mono ?_ (effG_sound T F hok.oks.agree h3.le.size h5)
        rintro a' w' ⟨v, rfl, g', rfl, hs, hK⟩
        obtain ⟨hc, hK⟩ := clsG_use hK
        exact fin v g' hs hc hK
      · rw [auto_eq ha he g0.size g2.size M nobody] at h5
        refine Oper.wp_mono ?_ (effG_sound T F hok.oks.agree (Nat.le_refl _) h5)
        rintro a' w' ⟨v, rfl, g', rfl, hs, hK⟩
        refine fin v g' (hs.mono h3.le.size (fun b _ h => h.elim)) (fun b hb hx hm => ?_) hK
        rw [hs.same b (Nat.lt_of_lt_of_le hb hok.sz) (fun h => h), hS.1 b hb hx hm]
end
end Go.Vc
