/- The condition of a function with private variables is sound: it gives the call. -/
import Derived.Test.YtlofbfbcnlgmaaaVd5
import Derived.Deep.LoopGhost
set_option linter.unusedVariables false
namespace Go.Vc
open Go Go.RowKit

/-! ### Functions of typed slots, over worlds with private blocks -/
def jmkG : (l : List Sh1) → (List Value → G → Prop) → JTy (G → Prop) l
  | [], B => fun w => B [] w
  | s :: r, B => cur1 s r fun v => jmkG r fun vs => B (v :: vs)

def nayG : G → Prop := fun _ => False

/-- A step that is taken is taken at a value of the shape. -/
theorem jstep_fitsG {s : Sh1} {r : List Sh1} {J : JTy (G → Prop) (s :: r)} {v : Value} {k : JTy (G → Prop) r → G → Prop} {w : G}
    (h : jstep nayG s r J v k w) : fits1 s v := by
  intro Q hQ
  cases s
  case any => exact hQ v
  case int i =>
    cases v
    case int i' n =>
      by_cases hi : i = i'
      · subst hi; exact hQ n
      · simp only [jstep, decide_eq_false hi] at h; exact h.elim
    all_goals exact h.elim
  case fn =>
    cases v
    case func f a c =>
      cases f
      case func f =>
        rcases a with ⟨_ | ⟨x, a⟩⟩
        · exact hQ f c
        · exact h.elim
      all_goals exact h.elim
    all_goals exact h.elim
  case sl => cases v <;> first | exact hQ _ _ _ | exact h.elim
  all_goals (cases v <;> first | exact hQ _ | exact h.elim)
theorem jstep_curG {s : Sh1} {r : List Sh1} {f : Value → JTy (G → Prop) r} {v : Value} {k : JTy (G → Prop) r → G → Prop} {w : G}
    (h : jstep nayG s r (cur1 s r f) v k w) : k (f v) w := by
  cases s
  case any => exact h
  case int i =>
    cases v
    case int i' n =>
      by_cases hi : i = i'
      · subst hi; simp only [jstep, cur1, decide_true] at h; exact h
      · simp only [jstep, decide_eq_false hi] at h; exact h.elim
    all_goals exact h.elim
  case fn =>
    cases v
    case func f a c =>
      cases f
      case func f =>
        rcases a with ⟨_ | ⟨x, a⟩⟩
        · exact h
        · exact h.elim
      all_goals exact h.elim
    all_goals exact h.elim
  all_goals (cases v <;> first | exact h | exact h.elim)
theorem jstep_cur_ofG {s : Sh1} {r : List Sh1} {f : Value → JTy (G → Prop) r} {k : JTy (G → Prop) r → G → Prop} {B : Value → G → Prop}
    (h : ∀ v w, B v w → k (f v) w) : all1 s fun v => ∀ w, B v w → jstep nayG s r (cur1 s r f) v k w := by
  cases s
  case any => exact fun v w hb => h _ _ hb
  case int i => intro n w hb; simp only [jstep, cur1, decide_true]; exact h _ _ hb
  case sl => exact fun a l c w hb => h _ _ hb
  case fn => exact fun a c w hb => h _ _ hb
  all_goals exact fun n w hb => h _ _ hb

theorem fits_of_jappG : ∀ {l : List Sh1} {J : JTy (G → Prop) l} {vs : List Value} {w : G}, japp nayG l J vs w → fitsL l vs := by
  intro l
  induction l with
  | nil => intro J vs w h; cases vs with
    | nil => rfl
    | cons => exact h.elim
  | cons s r ih =>
    intro J vs w h
    cases vs with
    | nil => exact h.elim
    | cons v vs =>
      have h' : jstep nayG s r J v (fun J' => japp nayG r J' vs) w := h
      refine ⟨v, vs, rfl, jstep_fitsG h', ?_⟩
      have := jstep_fitsG h'
      clear h
      -- the rest fits too
      cases s
      case any => exact ih h'
      case int i =>
        cases v
        case int i' n =>
          by_cases hi : i = i'
          · subst hi; simp only [jstep, decide_true] at h'; exact ih h'
          · simp only [jstep, decide_eq_false hi] at h'; exact h'.elim
        all_goals exact h'.elim
      case fn =>
        cases v
        case func f a c =>
          cases f
          case func f =>
            rcases a with ⟨_ | ⟨x, a⟩⟩
            · exact ih h'
            · exact h'.elim
          all_goals exact h'.elim
        all_goals exact h'.elim
      all_goals (cases v <;> first | exact ih h' | exact h'.elim)
theorem jmk_appG : ∀ {l : List Sh1} {B : List Value → G → Prop} {vs : List Value} {w : G}, japp nayG l (jmkG l B) vs w → B vs w := by
  intro l
  induction l with
  | nil => intro B vs w h; cases vs with
    | nil => exact h
    | cons => exact h.elim
  | cons s r ih =>
    intro B vs w h
    cases vs with
    | nil => exact h.elim
    | cons v vs => exact ih (B := fun vs => B (v :: vs)) (jstep_curG (k := fun J' => japp nayG r J' vs) h)



theorem jmk_ofG : ∀ {l : List Sh1} {B : List Value → G → Prop}, jall l (fun vs => ∀ w, B vs w → japp nayG l (jmkG l B) vs w) := by
  intro l
  induction l with
  | nil => intro B w h; exact h
  | cons s r ih =>
    intro B
    refine jall_swap fun v hv => ?_
    refine jall_mono ?_ (ih (B := fun vs => B (v :: vs)))
    intro vs h w hb
    exact hv (fun v => ∀ w, (japp nayG r (jmkG r fun vs => B (v :: vs)) vs w) → jstep nayG s r (jmkG (s :: r) B) v (fun J' => japp nayG r J' vs) w)
      (jstep_cur_ofG (f := fun v => jmkG r fun vs => B (v :: vs)) (k := fun J' => japp nayG r J' vs) (B := fun v w => japp nayG r (jmkG r fun vs => B (v :: vs)) vs w) (fun v w h => h)) w (h w hb)

/-! ### Code -/
structure JI where
  tl : List (Nat × Sh1)
  lp : List (Nat × Nat × Nat)
  lc : List (Nat × List Sh1)
inductive AnnG where
  | leaf
  | tree (m : Nat) (t : Sch)
  | treeB (m : Nat) (t : Sch)
  | seq (a b : AnnG)
  | join (J : JI) (a b : AnnG)
  | cond (a b : AnnG)
  | blk (a : AnnG)
  | loop (J : JI) (a : AnnG)
def writesP (c : Cfg) : Code → List Nat
  | .region _ ops _ => wpL c ops.toList
  | .seq a b => writesP c a ++ writesP c b
  | .cond _ a b => writesP c a ++ writesP c b
  | .block _ b => writesP c b
  | .loop b => writesP c b
  | _ => []
structure KontG where
  n : St → G → Prop
  x : Nat → St → G → Prop
  r : St → G → Prop

def shC : List (Nat × List Sh1) → List Sh1
  | [] => []
  | (_, ss) :: r => ss ++ shC r
def shJ (J : JI) : List Sh1 := shs J.tl ++ shC J.lc
def getS : PS → List (Nat × List Sh1) → Option (List Value)
  | _, [] => some []
  | ps, (p, ss) :: r => match slook ps p with
    | none => none
    | some cs => match Nat.beq cs.length ss.length with
      | false => none
      | true => match getS ps r with
        | none => none
        | some vs => some (cs ++ vs)
def chkP : PE → List (Nat × Nat × Nat) → Bool
  | _, [] => true
  | pe, (t, p, o) :: r => match plook pe t with
    | some (q, k) => Nat.beq q p && (Nat.beq k o && chkP pe r)
    | none => false
def getJ (J : JI) (st : St) : Option (List Value) := match chkP st.pe J.lp with
  | false => none
  | true => match getL st.fr J.tl with
    | none => none
    | some vs => match getS st.ps J.lc with
      | none => none
      | some us => some (vs ++ us)
def killL : List Nat → PE → PE
  | [], pe => pe
  | p :: r, pe => killP p (killL r pe)
def forgetPE : List Nat → PE → PE
  | [], pe => pe
  | t :: r, pe => (t, none) :: forgetPE r pe
def forgetS (V : List Nat) : PS → PS
  | [] => []
  | (p, cs) :: r => match memN V p with
    | true => forgetS V r
    | false => (p, cs) :: forgetS V r
def bindP : List (Nat × Nat × Nat) → PE → PE
  | [], pe => pe
  | (t, p, o) :: r, pe => (t, some (p, o)) :: bindP r pe
def bindS : List (Nat × List Sh1) → List Value → PS → PS
  | [], _, ps => ps
  | (p, ss) :: r, vs, ps => (p, vs.take ss.length) :: bindS r (vs.drop ss.length) ps
def bindJ (J : JI) (vs : List Value) (W V : List Nat) (st : St) : St :=
  ⟨bindL J.tl (vs.take J.tl.length) (forgetE W st.fr), bindP J.lp (forgetPE W (killL V st.pe)), bindS J.lc (vs.drop J.tl.length) (forgetS V st.ps), false⟩
def jenvG (J : JI) (Jp : JTy (G → Prop) (shJ J)) (st : St) (g : G) : Prop := flushG st g fun st g => match getJ J st with
  | some vs => japp nayG (shJ J) Jp vs g
  | none => False
def jenvM (J : JI) (I : Nat → JTy (G → Prop) (shJ J)) (m : Nat) (st : St) (g : G) : Prop := flushG st g fun st g => match getJ J st with
  | some vs => ∃ m', m' < m ∧ japp nayG (shJ J) (I m') vs g
  | none => False
def jenvI (J : JI) (I : Nat → JTy (G → Prop) (shJ J)) (st : St) (g : G) : Prop := flushG st g fun st g => match getJ J st with
  | some vs => ∃ m', japp nayG (shJ J) (I m') vs g
  | none => False

def vcG (c : Cfg) (B : Nat) (M : Nat → Prop) (n : Nat) : Code → AnnG → St → G → KontG → Prop
  | .skip, _, st, g, k => k.n st g
  | .region _ ops draw, an, st, g, k => match draw with
    | false => vcOpsG c B M n ops.toList k.n ops.toList st g
    | true => match an with
      | .tree m t => match drawT ops m t with
        | true => drawG c B M n ops.toList m k.n false t st g
        | false => False
      | .treeB m t => match drawT ops m t with
        | true => drawG c B M n ops.toList m k.n true t st g
        | false => False
      | _ => False
  | .seq a b, an, st, g, k => match an with
    | .seq x y => vcG c B M n a x st g ⟨fun st' g' => vcG c B M n b y st' g' k, k.x, k.r⟩
    | .join J x y => ∀ Jp : JTy (G → Prop) (shJ J), (jall (shJ J) fun vs => ∀ g', vcG c B M n b y (bindJ J vs (writes a) (writesP c a) st) g' k → japp nayG (shJ J) Jp vs g') →
        vcG c B M n a x st g ⟨jenvG J Jp, k.x, k.r⟩
    | _ => False
  | .cond cd a b, an, st, g, k => match an with
    | .cond x y => withV (ev st.fr cd) fun v => match v with
      | .bool t => brB t fun t' => match t' with
        | true => vcG c B M n a x ⟨setB cd true st.fr, st.pe, st.ps, st.dirty⟩ g k
        | false => vcG c B M n b y ⟨setB cd false st.fr, st.pe, st.ps, st.dirty⟩ g k
      | _ => False
    | _ => False
  | .block id b, an, st, g, k => match an with
    | .blk x => vcG c B M n b x st g ⟨k.n, fun i st' g' => match Nat.beq i id with
      | true => k.n st' g'
      | false => k.x i st' g', k.r⟩
    | _ => False
  | .loop b, an, st, g, k => match an with
    | .loop J x => ∃ I : Nat → JTy (G → Prop) (shJ J), jenvI J I st g ∧
        ∀ m, jall (shJ J) fun vs => ∀ g', Le g g' → japp nayG (shJ J) (I m) vs g' → vcG c B M n b x (bindJ J vs (writes b) (writesP c b) st) g'
          ⟨jenvM J I m, k.x, k.r⟩
    | _ => False
  | .exit id, _, st, g, k => k.x id st g
  | .ret, _, st, g, k => k.r st g
  | _, _, _, _, _ => False

section
variable {c : Cfg} {g0 : G} {M : Nat → Prop} {n : Nat}

def QKG (g0 : G) (M : Nat → Prop) (n : Nat) (W V : List Nat) (st : St) (g : G) (k : KontG) : Exit → Act → World → Prop
  | .normal, a, w => BehS g0 M n W V st g k.n a w
  | .exit id, a, w => BehS g0 M n W V st g (k.x id) a w
  | .ret, a, w => BehS g0 M n W V st g k.r a w
  | _, _, _ => False

theorem QKG.from {W W' V V' : List Nat} {st st0 : St} {g g00 : G} {k : KontG} (h0 : ExtSt W' V' st0 st) (hL : Le g00 g) {e : Exit} {a : Act} {w : World} (h : QKG g0 M n W V st g k e a w) : QKG g0 M n (W' ++ W) (V' ++ V) st0 g00 k e a w := by
  cases e with
  | normal => exact BehS.from h h0 hL
  | exit id => exact BehS.from h h0 hL
  | ret => exact BehS.from h h0 hL
  | panic c => exact h
  | goto l => exact h
  | outgrown => exact h
theorem QKG.mono {W W' V V' : List Nat} {st : St} {g : G} {k : KontG} (hs : ∀ t, t ∈ W → t ∈ W') (hv : ∀ t, t ∈ V → t ∈ V') {e : Exit} {a : Act} {w : World} (h : QKG g0 M n W V st g k e a w) : QKG g0 M n W' V' st g k e a w := by
  cases e with
  | normal => exact BehS.mono h hs hv
  | exit id => exact BehS.mono h hs hv
  | ret => exact BehS.mono h hs hv
  | panic c => exact h
  | goto l => exact h
  | outgrown => exact h

theorem plook_killL {V : List Nat} : ∀ {pe : PE} {t p o : Nat}, plook (killL V pe) t = some (p, o) ↔ plook pe t = some (p, o) ∧ p ∉ V := by
  induction V with
  | nil => intro pe t p o; simp [killL]
  | cons d r ih =>
    intro pe t p o
    rw [killL, plook_kill, killE_some, ih]
    simp only [List.mem_cons, not_or]
    constructor
    · rintro ⟨⟨h1, h2⟩, h3⟩; exact ⟨h1, h3, h2⟩
    · rintro ⟨h1, h3, h2⟩; exact ⟨⟨h1, h2⟩, h3⟩
theorem plook_forget {W : List Nat} : ∀ {pe : PE} {t : Nat}, plook (forgetPE W pe) t = if t ∈ W then none else plook pe t := by
  induction W with
  | nil => intro pe t; simp [forgetPE]
  | cons d r ih =>
    intro pe t
    rw [forgetPE, plook_cons, ih]
    by_cases h : d = t
    · simp [h]
    · have : ¬ t = d := fun e => h e.symm
      simp [h, this]
theorem slook_forget {V : List Nat} : ∀ {ps : PS} {p : Nat}, slook (forgetS V ps) p = if p ∈ V then none else slook ps p
  | [], p => by simp [forgetS, slook]
  | (q, cs) :: r, p => by
    unfold forgetS
    cases hm : memN V q
    · have hq : q ∉ V := fun h => by rw [memN_iff.2 h] at hm; cases hm
      simp only [slook_cons, slook_forget (ps := r)]
      by_cases h : q = p
      · subst h; simp [hq]
      · simp [h]
    · have hq : q ∈ V := memN_iff.1 hm
      simp only [slook_forget (ps := r), slook_cons]
      by_cases h : q = p
      · subst h; simp [hq]
      · simp [h]
theorem plook_bind : ∀ {lp : List (Nat × Nat × Nat)} {pe : PE} {t : Nat}, plook (bindP lp pe) t = plook pe t ∨ ∃ p o, (t, p, o) ∈ lp ∧ plook (bindP lp pe) t = some (p, o)
  | [], pe, t => .inl rfl
  | (d, p, o) :: r, pe, t => by
    rw [bindP, plook_cons]
    by_cases h : d = t
    · subst h; exact .inr ⟨p, o, by simp, by simp⟩
    · simp only [h, if_false]
      rcases plook_bind (lp := r) (pe := pe) (t := t) with h1 | ⟨p', o', h1, h2⟩
      · exact .inl h1
      · exact .inr ⟨p', o', by simp [h1], h2⟩
theorem chkP_mem : ∀ {lp : List (Nat × Nat × Nat)} {pe : PE}, chkP pe lp = true → ∀ {t p o}, (t, p, o) ∈ lp → plook pe t = some (p, o)
  | [], pe, _, t, p, o, hm => by cases hm
  | (d, q, k) :: r, pe, h, t, p, o, hm => by
    unfold chkP at h
    cases hp : plook pe d with
    | none => simp [hp] at h
    | some e =>
      obtain ⟨q', k'⟩ := e
      simp only [hp, Bool.and_eq_true] at h
      rcases List.mem_cons.1 hm with e | hm
      · cases e
        rw [hp, Nat.eq_of_beq_eq_true h.1, Nat.eq_of_beq_eq_true h.2.1]
      · exact chkP_mem h.2.2 hm
theorem getS_bind : ∀ {lc : List (Nat × List Sh1)} {ps ps0 : PS} {us : List Value}, getS ps lc = some us → ∀ p, slook (bindS lc us ps0) p = slook ps0 p ∧ (∀ ss, (p, ss) ∉ lc) ∨ (slook (bindS lc us ps0) p = slook ps p ∧ ∃ cs, slook ps p = some cs)
  | [], ps, ps0, us, h, p => .inl ⟨rfl, fun _ h => by cases h⟩
  | (q, ss) :: r, ps, ps0, us, h, p => by
    unfold getS at h
    cases hq : slook ps q with
    | none => simp [hq] at h
    | some cs =>
      simp only [hq] at h
      cases hb : Nat.beq cs.length ss.length <;> simp only [hb] at h
      · cases h
      cases hr : getS ps r with
      | none => simp [hr] at h
      | some vs =>
        simp only [hr, Option.some.injEq] at h
        subst h
        have hl := Nat.eq_of_beq_eq_true hb
        rw [bindS, ← hl, List.take_left, List.drop_left, slook_cons]
        by_cases e : q = p
        · subst e; simp only [if_true]; exact .inr ⟨hq.symm, cs, hq⟩
        · simp only [e, if_false]
          rcases getS_bind hr (ps0 := ps0) p with ⟨h1, h2⟩ | h1
          · refine .inl ⟨h1, fun ss' hm => ?_⟩
            rcases List.mem_cons.1 hm with e' | hm
            · cases e'; exact e rfl
            · exact h2 _ hm
          · exact .inr h1
theorem getL_len : ∀ {live : List (Nat × Sh1)} {fr : Env} {vs : List Value}, getL fr live = some vs → vs.length = live.length
  | [], fr, vs, h => by have : vs = [] := by simpa [getL] using h.symm
                        subst this; rfl
  | (d, s) :: r, fr, vs, h => by
    unfold getL at h
    cases hd : look fr d with
    | none => simp [hd] at h
    | some u =>
      cases hr : getL fr r with
      | none => simp [hd, hr] at h
      | some us =>
        simp only [hd, hr, Option.some.injEq] at h
        subst h
        simp [getL_len hr]

/-- The state behind a join. -/
theorem joinG {W V : List Nat} {st st' : St} {g' : G} {a : Act} {w : World} {J : JI} {xs : List Value} (hok : OkS g0 M n st' g' a w) (hE : ExtSt W V st st') (hg : getJ J st' = some xs) (hc : st'.dirty = false) :
    OkS g0 M n (bindJ J xs W V st) g' a w ∧ ExtSt W V st (bindJ J xs W V st) := by
  unfold getJ at hg
  cases hp : chkP st'.pe J.lp <;> simp only [hp] at hg
  · cases hg
  cases hl : getL st'.fr J.tl <;> simp only [hl] at hg
  · cases hg
  rename_i vs
  cases hs : getS st'.ps J.lc <;> simp only [hs] at hg
  · cases hg
  rename_i us
  obtain rfl := Option.some.inj hg
  have hlen := getL_len hl
  have e1 : (vs ++ us).take J.tl.length = vs := by rw [← hlen, List.take_left]
  have e2 : (vs ++ us).drop J.tl.length = us := by rw [← hlen, List.drop_left]
  obtain ⟨hA, hE1⟩ := join_agree hok.agree hE.fr hl
  have hps : ∀ p cs, slook (bindS J.lc us (forgetS V st.ps)) p = some cs → slook st'.ps p = some cs := by
    intro p cs h
    rcases getS_bind hs (ps0 := forgetS V st.ps) p with ⟨h1, _⟩ | ⟨h1, _⟩
    · rw [h1, slook_forget] at h
      by_cases hv : p ∈ V
      · simp [hv] at h
      · simp only [hv, if_false] at h
        exact hE.ps p cs hv h
    · rw [h1] at h; exact h
  have hpe : ∀ t p o, plook (bindP J.lp (forgetPE W (killL V st.pe))) t = some (p, o) → plook st'.pe t = some (p, o) := by
    intro t p o h
    rcases plook_bind (lp := J.lp) (pe := forgetPE W (killL V st.pe)) (t := t) with h1 | ⟨p', o', h1, h2⟩
    · rw [h1, plook_forget] at h
      by_cases hw : t ∈ W
      · simp [hw] at h
      · simp only [hw, if_false] at h
        obtain ⟨h3, h4⟩ := plook_killL.1 h
        exact hE.pe t p o hw h4 h3
    · rw [h2] at h
      cases h
      exact chkP_mem hp h1
  obtain ⟨gr, β, h1, h2, h3, h4, h5⟩ := hok.ex
  unfold bindJ
  rw [e1, e2]
  refine ⟨⟨hA, gr, β, h1, h2, fun _ => h3 hc, h4, ⟨fun t p o h => h5.ptr t p o (hpe t p o h), fun p cs h => h5.cell p cs (hps p cs h), fun p q cs cs' h h' => h5.inj p q cs cs' (hps p cs h) (hps q cs' h')⟩⟩, hE1, ?_, ?_⟩
  · intro t p o ht hv h
    show plook (bindP J.lp (forgetPE W (killL V st.pe))) t = _
    rcases plook_bind (lp := J.lp) (pe := forgetPE W (killL V st.pe)) (t := t) with h1 | ⟨p', o', h1, h2⟩
    · rw [h1, plook_forget, if_neg ht]
      exact plook_killL.2 ⟨h, hv⟩
    · rw [h2, ← chkP_mem hp h1]
      exact hE.pe t p o ht hv h
  · intro p cs hv h
    show slook (bindS J.lc us (forgetS V st.ps)) p = _
    rcases getS_bind hs (ps0 := forgetS V st.ps) p with ⟨h1, _⟩ | ⟨h1, _⟩
    · rw [h1, slook_forget, if_neg hv]; exact h
    · rw [h1]; exact hE.ps p cs hv h

theorem flush_ok {st : St} {g : G} {a : Act} {w : World} {K : St → G → Prop} (hok : OkS g0 M n st g a w) (h : flushG st g K) :
    ∃ g', OkS g0 M n ⟨st.fr, st.pe, st.ps, false⟩ g' a w ∧ Le g g' ∧ K ⟨st.fr, st.pe, st.ps, false⟩ g' := by
  obtain ⟨g', β, h1, h2, h3, h4, h5⟩ := flush_use hok h
  exact ⟨g', ⟨hok.agree, g', β, h1, Exx.refl _, fun _ => rfl, h3, h4.fr _ _⟩, h2.1.le, h5⟩
theorem ExtSt.clean {W V : List Nat} {st st' : St} (h : ExtSt W V st st') : ExtSt W V st ⟨st'.fr, st'.pe, st'.ps, false⟩ := ⟨h.fr, h.pe, h.ps⟩

theorem vcG_sound (T : TOk c.P c.tt) (F : FOk c.P c.fns) (hm : c.P.follows .mixedOrders = true) : ∀ (cd : Code) (an : AnnG) (st : St) (g : G) (k : KontG) (a : Act) (w : World), OkS g0 M n st g a w → vcG c g0.size M n cd an st g k →
    cd.wp c.P (QKG g0 M n (writes cd) (writesP c cd) st g k) a w := by
  intro cd
  induction cd with
  | skip => intro an st g k a w hA h; exact wp_skip ⟨st, g, hA, Le.refl _, ExtSt.refl _ _ _, h⟩
  | region id ops draw =>
    intro an st g k a w hA h
    cases draw with
    | false =>
      refine wp_region_list ?_
      exact vcOpsG_sound T F (W0 := []) (V0 := []) (st0 := st) (g00 := g) (fun a w hb => (show BehS g0 M n (dstsL ops.toList) (wpL c ops.toList) st g k.n a w by simpa using hb)) hA (ExtSt.refl _ _ _) (Le.refl _) h
    | true =>
      have go : ∀ (wide : Bool) (m : Nat) (t : Sch), drawT ops m t = true → drawG c g0.size M n ops.toList m k.n wide t st g → (Code.region id ops true).wp c.P (QKG g0 M n (writes (.region id ops true)) (writesP c (.region id ops true)) st g k) a w := by
        intro wide m t hB h
        have := drawG_sound (n := n) T F hm (ops := ops.toList) (m := m) (t := t) (wide := wide) (N := k.n) (Q := QKG g0 M n (writes (.region id ops true)) (writesP c (.region id ops true)) st g k) (id := id)
          (fun d v ch a w hq => hq) (fun a w hb => hb) hA (by simpa using hB) h
        simpa using this
      cases an <;> simp only [vcG] at h
      case tree m t =>
        cases hB : drawT ops m t <;> simp only [hB] at h
        exact go false m t hB h
      case treeB m t =>
        cases hB : drawT ops m t <;> simp only [hB] at h
        exact go true m t hB h
  | seq x y ihx ihy =>
    intro an st g k a w hA h
    have rest : ∀ {e : Exit} {a' : Act} {w' : World} {N : St → G → Prop}, QKG g0 M n (writes x) (writesP c x) st g ⟨N, k.x, k.r⟩ e a' w' → e ≠ .normal → QKG g0 M n (writes (.seq x y)) (writesP c (.seq x y)) st g k e a' w' := by
      intro e a' w' N hq hne
      cases e with
      | normal => exact absurd rfl hne
      | exit id => exact BehS.mono hq (fun t ht => List.mem_append.2 (.inl ht)) (fun t ht => List.mem_append.2 (.inl ht))
      | ret => exact BehS.mono hq (fun t ht => List.mem_append.2 (.inl ht)) (fun t ht => List.mem_append.2 (.inl ht))
      | panic c => exact hq
      | goto l => exact hq
      | outgrown => exact hq
    cases an <;> simp only [vcG] at h
    case seq ax ay =>
      refine wp_seq (Code.wp_mono ?_ (ihx ax st g _ a w hA h))
      intro e a' w' hq
      cases e with
      | normal =>
        obtain ⟨st', g', h1, h2, h3, h4⟩ := hq
        exact Code.wp_mono (fun e a w hq => QKG.from h3 h2 hq) (ihy ay st' g' k a' w' h1 h4)
      | exit id => exact rest hq (by simp)
      | ret => exact rest hq (by simp)
      | panic c => exact hq
      | goto l => exact hq
      | outgrown => exact hq
    case join J ax ay =>
      have h := h (jmkG (shJ J) fun vs g' => vcG c g0.size M n y ay (bindJ J vs (writes x) (writesP c x) st) g' k) jmk_ofG
      refine wp_seq (Code.wp_mono ?_ (ihx ax st g _ a w hA h))
      intro e a' w' hq
      cases e with
      | normal =>
        obtain ⟨st', g', h1, h2, h3, h4⟩ := hq
        replace h4 : jenvG J _ st' g' := h4
        unfold jenvG at h4
        obtain ⟨g'', h5, h6, h7⟩ := flush_ok h1 h4
        cases hg : getJ J ⟨st'.fr, st'.pe, st'.ps, false⟩ with
        | none => simp only [hg] at h7
        | some vs =>
          simp only [hg] at h7
          have h9 := jmk_appG h7
          obtain ⟨h10, h11⟩ := joinG h5 h3.clean hg rfl
          exact Code.wp_mono (fun e a w hq => QKG.from h11 (h2.trans h6) hq) (ihy ay _ g'' k a' w' h10 h9)
      | exit id => exact rest hq (by simp)
      | ret => exact rest hq (by simp)
      | panic c => exact hq
      | goto l => exact hq
      | outgrown => exact hq
  | cond cc x y ihx ihy =>
    intro an st g k a w hA h
    cases an <;> simp only [vcG] at h
    rename_i ax ay
    obtain ⟨v, hv, h⟩ := withV_some h
    cases v <;> simp only at h
    rename_i t
    have h := brB_use h
    have hc : a.eval cc = .bool t := hA.agree.ev hv
    have hset : ∀ u, u = t → Agree n (setB cc u st.fr) a ∧ ∀ W, ExtE W st.fr (setB cc u st.fr) := by
      rintro u rfl
      cases cc with
      | tmp d => exact ⟨hA.agree.knows hv, ExtE.knows hv⟩
      | const _ => exact ⟨hA.agree, fun W => ExtE.refl _ _⟩
      | global _ => exact ⟨hA.agree, fun W => ExtE.refl _ _⟩
      | func _ => exact ⟨hA.agree, fun W => ExtE.refl _ _⟩
    cases t with
    | true =>
      simp only at h
      obtain ⟨hA', hE'⟩ := hset true rfl
      refine wp_cond_true hc (Code.wp_mono (fun e a w hq => QKG.mono ?_ ?_ (QKG.from (ExtSt.withFr hE' [] []) (Le.refl g) hq)) (ihx ax _ g k a w (hA.withFr hA') h))
      · intro t ht; exact List.mem_append.2 (.inl (by simpa using ht))
      · intro t ht; exact List.mem_append.2 (.inl (by simpa using ht))
    | false =>
      simp only at h
      obtain ⟨hA', hE'⟩ := hset false rfl
      refine wp_cond_false hc (Code.wp_mono (fun e a w hq => QKG.mono ?_ ?_ (QKG.from (ExtSt.withFr hE' [] []) (Le.refl g) hq)) (ihy ay _ g k a w (hA.withFr hA') h))
      · intro t ht; exact List.mem_append.2 (.inr (by simpa using ht))
      · intro t ht; exact List.mem_append.2 (.inr (by simpa using ht))
  | block id b ih =>
    intro an st g k a w hA h
    cases an <;> simp only [vcG] at h
    rename_i x
    refine wp_block (Code.wp_mono ?_ (ih x st g _ a w hA h))
    intro e a' w' hq
    cases e with
    | normal => exact hq
    | exit id' =>
      obtain ⟨st', g', h1, h2, h3, h'⟩ := hq
      by_cases hid : id' = id
      · subst hid
        simp only [Exit.inBlock, if_true]
        simp only [Nat.beq_refl] at h'
        exact ⟨st', g', h1, h2, h3, h'⟩
      · simp only [Exit.inBlock, hid, if_false]
        replace h' : (match Nat.beq id' id with | true => k.n st' g' | false => k.x id' st' g') := h'
        rw [nbeq] at h'
        simp only [hid, decide_false] at h'
        exact ⟨st', g', h1, h2, h3, h'⟩
    | ret => exact hq
    | panic c => exact hq
    | goto l => exact hq
    | outgrown => exact hq
  | loop b ih =>
    intro an st g k a w hA h
    cases an <;> simp only [vcG] at h
    rename_i J x
    obtain ⟨I, h0, hround⟩ := h
    unfold jenvI at h0
    obtain ⟨g1, h1, h2, h3⟩ := flush_ok hA h0
    cases hg : getJ J ⟨st.fr, st.pe, st.ps, false⟩ with
    | none => simp only [hg] at h3
    | some vs0 =>
    simp only [hg] at h3
    obtain ⟨m0, h3⟩ := h3
    refine wp_loop_ghost (fun m a' w' => ∃ st' g' vs, OkS g0 M n st' g' a' w' ∧ Le g g' ∧ ExtSt (writes b) (writesP c b) st st' ∧ st'.dirty = false ∧ getJ J st' = some vs ∧ japp nayG (shJ J) (I m) vs g') m0
      ⟨⟨st.fr, st.pe, st.ps, false⟩, g1, vs0, h1, h2, (ExtSt.refl _ _ st).clean, rfl, hg, h3⟩ ?_
    rintro m a' w' ⟨st', g', vs, h4, h5, h6, h7, h8, h9⟩
    obtain ⟨h10, h11⟩ := joinG h4 h6 h8 h7
    have hbody := jall_fits (hround m) vs (fits_of_jappG h9) g' h5 h9
    refine Code.wp_mono ?_ (ih x _ g' _ a' w' h10 hbody)
    intro e a'' w'' hq
    cases e with
    | normal =>
      obtain ⟨st2, g2, k1, k2, k3, k4⟩ := hq
      replace k4 : jenvM J I m st2 g2 := k4
      unfold jenvM at k4
      obtain ⟨g3, k5, k6, k7⟩ := flush_ok k1 k4
      cases hg2 : getJ J ⟨st2.fr, st2.pe, st2.ps, false⟩ with
      | none => simp only [hg2] at k7
      | some vs2 =>
        simp only [hg2] at k7
        obtain ⟨m', hlt, k7⟩ := k7
        exact ⟨m', hlt, ⟨st2.fr, st2.pe, st2.ps, false⟩, g3, vs2, k5, (h5.trans k2).trans k6, ((h11.trans k3).mono (by simp) (by simp)).clean, rfl, hg2, k7⟩
    | exit id => exact (BehS.from hq h11 h5).mono (by simp [writes]) (by simp [writesP])
    | ret => exact (BehS.from hq h11 h5).mono (by simp [writes]) (by simp [writesP])
    | panic c => exact hq
    | goto l => exact hq
    | outgrown => exact hq
  | exit id => intro an st g k a w hA h; exact wp_exit ⟨st, g, hA, Le.refl _, ExtSt.refl _ _ _, h⟩
  | ret => intro an st g k a w hA h; exact wp_ret ⟨st, g, hA, Le.refl _, ExtSt.refl _ _ _, h⟩
  | rangeFunc f p s b _ _ => intro an st g k a w hA h; simp only [vcG] at h
  | scope b _ => intro an st g k a w hA h; simp only [vcG] at h
  | label l => intro an st g k a w hA h; simp only [vcG] at h
  | goto l => intro an st g k a w hA h; simp only [vcG] at h
  | refuse s => intro an st g k a w hA h; simp only [vcG] at h
end

/-! ### Functions -/
def resGL (tt : List TI) (st : St) (g : G) : List ResultVar → (List Value → Prop) → Prop
  | [], K => K []
  | .tmp t :: r, K => withV (look st.fr t) fun v => resGL tt st g r fun vs => K (v :: vs)
  | .cell t ty :: r, K => match plook st.pe t with
    | some (p, o) => match slook st.ps p with
      | some cs => match loadP tt ty cs o with
        | some v => resGL tt st g r fun vs => K (v :: vs)
        | none => False
      | none => False
    | none => withV (look st.fr t) fun v => match v with
      | .pointer a => derefP a fun ad => loadVC tt ty ad g.w fun v => resGL tt st g r fun vs => K (v :: vs)
      | _ => False
def prvR (st : St) : List ResultVar → Bool
  | [] => true
  | .tmp _ :: r => prvR st r
  | .cell t _ :: r => match plook st.pe t with
    | some _ => prvR st r
    | none => false
/-- The step at a function's end, where all that it has laid is mutable no more. -/
structure PubG (B : Nat) (g g' : G) : Prop where
  size : g.w.heap.size ≤ g'.w.heap.size
  x : ∀ b, b < g.w.heap.size → ¬ g.X b → ¬ g'.X b
  same : ∀ b, b < g.w.heap.size → ¬ g.X b → g'.w.heap[b]? = g.w.heap[b]?
  d : ∀ b, b < g.w.heap.size → ¬ g.X b → ∀ i, (g'.D b i ↔ (g.D b i ∧ b < B))
def finG (pub : Bool) (B : Nat) (g : G) (K : G → Prop) : Prop := match pub with
  | false => ∀ g', Ex g g' → K g'
  | true => ∀ g', PubG B g g' → K g'
def retF (c : Cfg) (B : Nat) (rs : List ResultVar) (R : Value → G → Prop) (st : St) (g : G) : Prop := match prvR st rs with
  | true => resGL c.tt st g rs fun vs => finG c.pubAll B g fun g' => R (tupV vs) g'
  | false => flushG st g fun st g => resGL c.tt st g rs fun vs => finG c.pubAll B g fun g' => R (tupV vs) g'
def noXG : Nat → St → G → Prop := fun _ _ _ => False
/-- The condition of a function. -/
def fnG (c : Cfg) (n : Nat) (rs : List ResultVar) (cd : Code) (an : AnnG) (args : List Value) (g : G) (M : Nat → Prop) (R : Value → G → Prop) : Prop :=
  vcG c g.w.heap.size M n cd an ⟨argE 0 args, [], [], false⟩ g ⟨retF c g.w.heap.size rs R, noXG, retF c g.w.heap.size rs R⟩

section
variable {c : Cfg} {g0 : G} {M : Nat → Prop} {n : Nat}

/-- The world at a function's end, as its caller sees it. -/
def G.leave (g0 g : G) (h : ∀ b, g0.X b → b < g.w.heap.size) (pub : Bool) : G where
  w := g.w
  X := g0.X
  D b i := g.D b i ∧ (pub = true → b < g0.w.heap.size)
  hX := h
  hD b i h := g.hD b i h.1

theorem resGL_run (T : TOk c.P c.tt) {rs0 : List ResultVar} {st : St} {g gr : G} {a : Act} {β : Nat → Nat} (hA : Agree n st.fr a) (hp : PAg g0.size st β gr a) (hw : prvR st rs0 = true ∨ gr = g) :
    ∀ {rs : List ResultVar} {K : List Value → Prop}, (∀ r, r ∈ rs → r ∈ rs0) → resGL c.tt st g rs K → ∃ vs, (rs.mapM (resR a.tmps)).run c.P gr.w = .ok vs gr.w ∧ K vs
  | [], K, _, h => ⟨[], rfl, h⟩
  | .tmp t :: r, K, hm, h => by
    obtain ⟨v, hv, h⟩ := withV_some h
    obtain ⟨vs, h1, h2⟩ := resGL_run T hA hp hw (fun x hx => hm x (by simp [hx])) h
    refine ⟨v :: vs, ?_, h2⟩
    rw [List.mapM_cons]
    simp only [resR, Sem.run_bind, Sem.run_pure, Result.andThen_ok, hA.at_ t v hv]
    rw [h1]
    rfl
  | .cell b t :: r, K, hm, h => by
    have fin : ∀ (ad : Addr) (u : Value), (asAddr (a.tmps.getD b undef)).run c.P gr.w = .ok ad gr.w → (Instr.loadAt t (.pointer (some ad))).run c.P gr.w = .ok u gr.w → (∃ vs, (r.mapM (resR a.tmps)).run c.P gr.w = .ok vs gr.w ∧ K (u :: vs)) → ∃ vs, ((ResultVar.cell b t :: r).mapM (resR a.tmps)).run c.P gr.w = .ok vs gr.w ∧ K vs := by
      rintro ad u e h1 ⟨vs, h3, h4⟩
      refine ⟨u :: vs, ?_, h4⟩
      rw [List.mapM_cons]
      have h1' : (loadVar t ad).run c.P gr.w = .ok u gr.w := by simpa [Instr.loadAt, Instr.sureAddr] using h1
      have e2 : (resR a.tmps (.cell b t)).run c.P gr.w = .ok u gr.w := by simp only [resR, Sem.run_bind, e, Result.andThen_ok, h1']
      simp only [Sem.run_bind, e2, Result.andThen_ok, h3]
      rfl
    unfold resGL at h
    cases hq : plook st.pe b with
    | some q =>
      obtain ⟨p, o⟩ := q
      simp only [hq] at h
      cases hs : slook st.ps p <;> simp only [hs] at h
      rename_i cs
      cases hl : loadP c.tt t cs o <;> simp only [hl] at h
      rename_i u
      obtain ⟨_, _, ty, hb⟩ := hp.cell p cs hs
      have hr := loadAt_run (P := c.P) T hl (ad := ⟨β p, o, none⟩) (w := gr.w) (fun j u hu => by rw [add_row, hb.cell]; exact hu)
      refine fin ⟨β p, o, none⟩ u ?_ hr (resGL_run T hA hp hw (fun x hx => hm x (by simp [hx])) h)
      rw [hp.ptr b p o hq]
      rfl
    | none =>
      simp only [hq] at h
      have hgr : gr = g := by
        rcases hw with hw | hw
        · exfalso
          have : ∀ {l : List ResultVar}, prvR st l = true → ResultVar.cell b t ∈ l → False := by
            intro l
            induction l with
            | nil => intro _ h; cases h
            | cons x l ih =>
              intro h hm
              cases x with
              | tmp t' =>
                rcases List.mem_cons.1 hm with e | hm
                · cases e
                · exact ih h hm
              | cell t' ty' =>
                unfold prvR at h
                cases hq' : plook st.pe t' with
                | none => simp [hq'] at h
                | some q =>
                  simp only [hq'] at h
                  rcases List.mem_cons.1 hm with e | hm
                  · cases e; rw [hq] at hq'; cases hq'
                  · exact ih h hm
          exact this hw (hm _ (by simp))
        · exact hw
      subst hgr
      obtain ⟨v, hv, h⟩ := withV_some h
      cases v <;> simp only at h
      obtain ⟨ad, rfl, h⟩ := derefP_some h
      obtain ⟨u, h1, h2, _⟩ := loadVC_sound (P := c.P) T h
      refine fin ad u ?_ h1 (resGL_run T hA hp (.inr rfl) (fun x hx => hm x (by simp [hx])) h2)
      rw [hA.at_ b _ hv]
      rfl

theorem ret_run (T : TOk c.P c.tt) {st : St} {g : G} {a : Act} {w : World} {fn : Func} {rs : List ResultVar} (hrs : fn.results.toList = rs) {R : Value → G → Prop} (hok : OkS g0 M n st g a w) (h : retF c g0.size rs R st g) :
    ∃ v g', (results fn a.tmps).run c.P w = .ok v w ∧ g'.w = w ∧ Stp g0.size M g0 g' ∧ R v g' := by
  have main : ∃ (g1 gr : G) (vs : List Value), gr.w = w ∧ Ex g1 gr ∧ Kp g0 M gr ∧ (rs.mapM (resR a.tmps)).run c.P gr.w = .ok vs gr.w ∧ finG c.pubAll g0.size g1 fun g' => R (tupV vs) g' := by
    unfold retF at h
    cases hp : prvR st rs <;> simp only [hp] at h
    · obtain ⟨g', β, rfl, h2, h3, h4, h5⟩ := flush_use hok h
      obtain ⟨vs, h6, h7⟩ := resGL_run (rs0 := rs) T (st := ⟨st.fr, st.pe, st.ps, false⟩) hok.agree (h4.fr _ _) (.inr rfl) (fun _ h => h) h5
      exact ⟨g', g', vs, rfl, Ex.refl _, h3, h6, h7⟩
    · obtain ⟨gr, β, rfl, h2, h3, h4, h5⟩ := hok.ex
      obtain ⟨vs, h6, h7⟩ := resGL_run (rs0 := rs) T hok.agree h5 (.inl hp) (fun _ h => h) h
      exact ⟨g, gr, vs, rfl, h2.1, h4, h6, h7⟩
  obtain ⟨g1, gr, vs, rfl, hex, hk, hrun, hfin⟩ := main
  have hgs : g0.w.heap.size ≤ gr.w.heap.size := hk.le.size
  have hX : ∀ b, g0.X b → b < gr.w.heap.size := fun b hb => gr.hX b (hk.x b hb)
  refine ⟨tupV vs, G.leave g0 gr hX c.pubAll, ?_, rfl, ?_, ?_⟩
  · rw [results_resR, Array.mapM_eq_mapM_toList, hrs]
    simp only [Sem.run_bind, Sem.run_map, hrun, Result.andThen_ok]
    rcases vs with _ | ⟨v, _ | ⟨u, r⟩⟩ <;> rfl
  · have hle : Le gr (G.leave g0 gr hX c.pubAll) := by
      refine ⟨Nat.le_refl _, ?_, ?_⟩
      · rintro p v ⟨h1, h2, h3⟩
        exact ⟨h1, fun hx => h2 (hk.x _ hx), fun hd => h3 hd.1⟩
      · rintro b m k ⟨h1, h2, h3⟩
        exact ⟨h1, fun hx => h2 (hk.x _ hx), fun hd => h3 hd.1⟩
    refine ⟨hk.le.trans hle, fun _ => Iff.rfl, hk.keepX, hk.os, hk.tape, hk.output, hk.same, fun b hb hM i => ?_⟩
    rw [← hk.d b hb hM i]
    constructor
    · exact fun h => h.1
    · exact fun h => ⟨h, fun _ => hb⟩
  · have hlt : ∀ {b}, b < g1.w.heap.size → b < gr.w.heap.size := fun hb => Nat.lt_of_lt_of_le hb hex.size
    unfold finG at hfin
    cases hpub : c.pubAll <;> simp only [hpub] at hfin
    · refine hfin _ ⟨hex.size, fun b hb hx hx' => hex.x b hb hx (hk.x b hx'), hex.same, fun b hb hx i => ?_⟩
      rw [← hex.d b hb hx i]
      constructor
      · exact fun h => h.1
      · exact fun h => ⟨h, fun hf => (by cases hf)⟩
    · refine hfin _ ⟨hex.size, fun b hb hx hx' => hex.x b hb hx (hk.x b hx'), hex.same, fun b hb hx i => ?_⟩
      rw [← hex.d b hb hx i]
      constructor
      · exact fun h => ⟨h.1, h.2 rfl⟩
      · exact fun h => ⟨h.1, fun _ => h.2⟩

/-- **The condition of a function gives its call.** -/
theorem fn_soundG (T : TOk c.P c.tt) (F : FOk c.P c.fns) (hm : c.P.follows .mixedOrders = true) {k : FuncId} {fn : Func} {cd : Code} {n : Nat} {rs : List ResultVar} {an : AnnG} {args : List Value} {g : G} {M : Nat → Prop} {R : Value → G → Prop}
    (hf : c.P.funcs[k]? = some fn) (hb : fn.body = some cd) (hn : fn.ntmps = n) (hrs : fn.results.toList = rs) (hlen : Nat.ble args.length n = true) (h : fnG c n rs cd an args g M R) :
    CallsG c.P k ⟨args⟩ g M R := by
  have hlen' : args.length ≤ n := Nat.le_of_ble_eq_true hlen
  refine calls_of_wp hf hb (Code.wp_mono ?_ (vcG_sound (g0 := g) (M := M) (n := n) T F hm cd an _ g _ _ g.w ?_ h))
  · intro e a w' hq
    have fin : BehS g M n (writes cd) (writesP c cd) ⟨argE 0 args, [], [], false⟩ g (retF c g.w.heap.size rs R) a w' → a.defers = [] ∧ ∃ v, (results fn a.tmps).run c.P w' = .ok v w' ∧ ∃ v' g', Ending.returned v = .returned v' ∧ g'.w = w' ∧ Stp g.size M g g' ∧ R v' g' := by
      rintro ⟨st', g', h1, _, _, h'⟩
      obtain ⟨v, g2, h2, h3, h4, h5⟩ := ret_run T hrs h1 h'
      exact ⟨h1.agree.defers, v, h2, v, g2, rfl, h3, h4, h5⟩
    cases e with
    | normal => exact fin hq
    | ret => exact fin hq
    | exit id => obtain ⟨_, _, _, _, _, h'⟩ := hq; exact h'.elim
    | goto l => exact hq.elim
    | panic ch => exact hq.elim
    | outgrown => exact hq.elim
  · have key : ∀ (l : List Value) (i t : Nat) (v : Value), look (argE i l) t = some v → i ≤ t ∧ l[t - i]? = some v := by
      intro l
      induction l with
      | nil => intro i t v h; simp [argE, look] at h
      | cons u r ih =>
        intro i t v h
        simp only [argE, look_cons] at h
        by_cases e : i = t
        · simp only [e, if_true] at h
          subst e
          simp [h]
        · simp only [e, if_false] at h
          obtain ⟨h1, h2⟩ := ih _ _ _ h
          refine ⟨by omega, ?_⟩
          rw [show t - i = (t - (i + 1)) + 1 by omega]
          simpa using h2
    refine ⟨⟨by simp [hn]; omega, rfl, fun t v ht => ?_⟩, g, fun _ => 0, rfl, Exx.refl g, fun _ => rfl, Kp.refl g M, ⟨fun t p o h => (by cases h), fun p cs h => (by cases h), fun p q cs cs' h => (by cases h)⟩⟩
    obtain ⟨_, h2⟩ := key args 0 t v ht
    have h2' : args[t]? = some v := by simpa using h2
    obtain ⟨hlt, hv⟩ := List.getElem?_eq_some_iff.1 h2'
    simp [Array.getElem?_append, hlt, hv]
end
end Go.Vc
