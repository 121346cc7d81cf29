/- Joined texts. -/
import Derived.Test.YthlcdgpemjdgnaaGreatDoorVcb
/- The condition of a region that draws its order is sound. -/
set_option linter.unusedVariables false
namespace Go.Vc
open Go Go.RowKit
section
variable {P : Program} {tt : List TI} {fns : List Nat}
def wpT (P : Program) (ops : Array Oper) (Q : Exit → Act → World → Prop) (S : World → Prop) (m : Nat) (L : Array Bool → Act → World → Prop) : Nat → Array Bool → Act → World → Prop
  | 0, listed, a, w => L listed a w
  | f + 1, listed, a, w => Region.ready .any ops listed ≠ [] ∧ ∀ i ∈ Region.ready .any ops listed, i < m ∧ wpOp P ops Q i (fun a' w' => S w' ∧ wpT P ops Q S m L f (listed.setIfInBounds i true) a' w') a w
theorem wpAny_of_T {ops : Array Oper} {Q : Exit → Act → World → Prop} {S : World → Prop} {m g : Nat} {L : Array Bool → Act → World → Prop} (hL : ∀ listed a w, L listed a w → wpAny P .any ops Q g listed a w) :
    ∀ (f : Nat) (listed : Array Bool) (a : Act) (w : World), wpT P ops Q S m L f listed a w → wpAny P .any ops Q (f + g) listed a w
  | 0, listed, a, w, h => by rw [Nat.zero_add]; exact hL _ _ _ h
  | f + 1, listed, a, w, h => by
    rw [show f + 1 + g = (f + g) + 1 by omega]
    exact ⟨fun h0 => absurd h0 h.1, fun i hi => wpOp_mono (fun a' w' h' => wpAny_of_T hL f _ a' w' h'.2) (h.2 i hi).2⟩
def HeadFirst (ops : Array Oper) (m : Nat) (listed : Array Bool) : Prop := ∀ i, i < m → listed.getD i true = false → ∀ t ∈ Region.ready .any ops listed, t < m
theorem wpT_first {ops : Array Oper} {Q : Exit → Act → World → Prop} {S : World → Prop} {m : Nat} {L : Array Bool → Act → World → Prop} {i : Nat} {oi : Oper} {v : Value} (hi : ops[i]? = some oi)
    (hsel : ∀ (j : Nat) (o : Oper) cs b, ops[j]? = some o → o.op ≠ .select cs b) (hQ : ∀ c a w, Q (.panic c) (a.put oi.dst v) w → Q (.panic c) a w) (him : i < m)
    (hdone : ∀ listed a w, L listed a w → ∀ j ∈ Region.ready .any ops listed, m ≤ j) (G : Array Bool → Prop) (hG : ∀ listed j, G listed → j ∈ Region.ready .any ops listed → j < m → G (listed.setIfInBounds j true))
    (hF : ∀ listed, G listed → HeadFirst ops m listed) :
    ∀ (f : Nat) (listed : Array Bool) (a : Act) (w : World), G listed →
      (∀ j oj, ops[j]? = some oj → j ≠ i → listed.getD j true = false → (∀ e ∈ oj.after, Region.binds .any e = true → e.on ≠ i) → oi.apart ops oj = true) →
      i ∈ Region.ready .any ops listed → YieldsIf P ops S oi v a → S w →
      wpT P ops Q S m L f (listed.setIfInBounds i true) (a.put oi.dst v) w → wpT P ops Q S m L (f + 1) listed a w := by
  intro f
  induction f with
  | zero =>
    intro listed a w hg hfree hr hy hS H
    refine ⟨fun h => (by rw [h] at hr; cases hr), fun j hj => ?_⟩
    have hjm : j < m := hF listed hg i him (mem_ready.1 hr).1 j hj
    refine ⟨hjm, ?_⟩
    by_cases hji : j = i
    · subst hji; exact hy.wpOp hi hS ⟨hS, H⟩
    · have := hdone _ _ _ H j (ready_mono hj hji)
      omega
  | succ f ih =>
    intro listed a w hg hfree hr hy hS H
    refine ⟨fun h => (by rw [h] at hr; cases hr), fun j hj => ?_⟩
    have hjm : j < m := hF listed hg i him (mem_ready.1 hr).1 j hj
    refine ⟨hjm, ?_⟩
    by_cases hji : j = i
    · subst hji; exact hy.wpOp hi hS ⟨hS, H⟩
    · have h1 := (H.2 j (ready_mono hj hji)).2
      obtain ⟨hjun, oj, hoj, hall⟩ := mem_ready.1 hj
      have hnot : ∀ e ∈ oj.after, Region.binds .any e = true → e.on ≠ i := fun e he hb heq => by
        have h1 := hall e he hb
        have h0 := (mem_ready.1 hr).1
        rw [heq] at h1
        rcases Nat.lt_or_ge i listed.size with h' | h'
        · simp [h'] at h0 h1; rw [h0] at h1; cases h1
        · simp [Array.getElem?_eq_none h'] at h1
      have h2 := wpOp_putIf hoj (hfree j oj hoj hji hjun hnot) (fun cs b => hsel i oi cs b hi) (fun cs b => hsel j oj cs b hoj) hQ hy h1
      have hfree' : ∀ k ok, ops[k]? = some ok → k ≠ i → (listed.setIfInBounds j true).getD k true = false →
          (∀ e ∈ ok.after, Region.binds .any e = true → e.on ≠ i) → oi.apart ops ok = true := fun k ok hk hki hun hno => by
        refine hfree k ok hk hki ?_ hno
        by_cases hjk : j = k
        · subst hjk; exact hjun
        · rw [getD_set_ne true hjk] at hun; exact hun
      refine wpOp_mono (fun a' w' h3 => ⟨h3.2.1, ih (listed.setIfInBounds j true) a' w' (hG _ _ hg hj hjm) hfree' (ready_mono hr (Ne.symm hji)) h3.1 h3.2.1 ?_⟩) h2
      rw [Array.setIfInBounds_comm _ _ hji]
      exact h3.2.2
theorem head_inv {ops : Array Oper} {m : Nat} (h : (Nat.beq m ops.size || (Nat.blt m ops.size && (Region.sinkB .any ops m && Region.chainB .any ops m))) = true) :
    ∃ G : Array Bool → Prop, G (Array.replicate ops.size false) ∧ (∀ listed j, G listed → j ∈ Region.ready .any ops listed → j < m → G (listed.setIfInBounds j true)) ∧ (∀ listed, G listed → HeadFirst ops m listed) := by
  simp only [Bool.or_eq_true, Bool.and_eq_true] at h
  rcases h with h | ⟨h0, h1, h2⟩
  · have hm := Nat.eq_of_beq_eq_true h
    refine ⟨fun _ => True, trivial, fun _ _ _ _ _ => trivial, fun listed _ i _ _ t ht => ?_⟩
    obtain ⟨_, o, ho, _⟩ := mem_ready.1 ht
    rw [hm]
    exact (Array.getElem?_eq_some_iff.1 ho).1
  · have hlt : m < ops.size := Nat.lt_of_succ_le (Nat.le_of_ble_eq_true h0)
    refine ⟨HeadInv .any ops m, ⟨by simp, fun j oj _ hl => ?_, fun t ht ht' => ?_⟩, fun listed j hg hj hjm => hg.set hj hjm, fun listed hg i hi hun t ht => ?_⟩
    · rw [getD_replicate_false] at hl; cases hl
    · simp [ht']
    · rcases Nat.lt_or_ge t m with h | h
      · exact h
      · exact absurd ht (tail_waits h1 h2 hlt hg _ i rfl hi hun t h)
theorem mem_dsts {ops : List Oper} {i : Nat} {o : Oper} (h : ops[i]? = some o) {t : Nat} (ht : t ∈ o.dst.toList) : t ∈ dstsL ops :=
  List.mem_flatMap.2 ⟨o, List.mem_of_getElem? h, ht⟩
end
end Go.Vc
/- The condition of a region that draws its order, where more than one operation with effects may come next: each way is asked. -/
set_option linter.unusedVariables false
namespace Go.Vc
open Go Go.RowKit
inductive Sch where
  | fin
  | quiet (i : Nat) (r : Sch)
  | eff (i : Nat) (r more : Sch)
def cands : Sch → List Nat
  | .eff i _ more => i :: cands more
  | _ => []
def schT (ops : Array Oper) (m : Nat) : Sch → Bool → Nat → Array Bool → Bool
  | .fin, al, f, listed => match al with
    | true => true
    | false => Nat.beq f 0 && Region.seqB .any ops (ops.size - m) m listed
  | .quiet i r, al, f, listed => match al with
    | true => false
    | false => match f with
      | 0 => false
      | f + 1 => Nat.blt i m && ((Region.ready .any ops listed).contains i && (Region.free .any ops listed i && schT ops m r false f (listed.setIfInBounds i true)))
  | .eff i r more, al, f, listed => match f with
    | 0 => false
    | f + 1 => Nat.blt i m && ((al || Region.ready .any ops listed == i :: cands more) && (schT ops m r false f (listed.setIfInBounds i true) && schT ops m more true (f + 1) listed))
def drawT (ops : Array Oper) (m : Nat) (t : Sch) : Bool :=
  Region.noSelect ops && (((Nat.beq m ops.size || (Nat.blt m ops.size && (Region.sinkB .any ops m && Region.chainB .any ops m))) && schT ops m t false m (Array.replicate ops.size false)))
section
variable {P : Program} {tt : List TI} {fns : List Nat}
end
end Go.Vc
/- The condition of a function is sound: it gives the call. -/
set_option linter.unusedVariables false
namespace Go.Vc
open Go Go.RowKit
inductive Ann where
  | leaf
  | draw (m : Nat) (sched : List (Nat × Bool))
  | drawB (m : Nat) (sched : List (Nat × Bool))
  | tree (m : Nat) (t : Sch)
  | treeB (m : Nat) (t : Sch)
  | seq (a b : Ann)
  | join (live : List (Nat × Sh1)) (a b : Ann)
  | cond (a b : Ann)
  | blk (a : Ann)
  | loop (live : List (Nat × Sh1)) (a : Ann)
def writes : Code → List Nat
  | .region _ ops _ => dstsL ops.toList
  | .seq a b => writes a ++ writes b
  | .cond _ a b => writes a ++ writes b
  | .block _ b => writes b
  | .loop b => writes b
  | _ => []
structure Kont where
  n : Env → World → Prop
  x : Nat → Env → World → Prop
  r : Env → World → Prop
  pn : Pn
def forgetE (l : List Nat) (fr : Env) : Env := match l with
  | [] => fr
  | d :: r => (d, none) :: forgetE r fr
def getL (fr : Env) : List (Nat × Sh1) → Option (List Value)
  | [] => some []
  | (d, _) :: r => match look fr d with
    | none => none
    | some v => match getL fr r with
      | none => none
      | some vs => some (v :: vs)
def bindL : List (Nat × Sh1) → List Value → Env → Env
  | (d, _) :: r, v :: vs, fr => (d, some v) :: bindL r vs fr
  | _, _, fr => fr
def shs : List (Nat × Sh1) → List Sh1
  | [] => []
  | (_, s) :: r => s :: shs r
def setB (c : Operand) (b : Bool) (fr : Env) : Env := match c with
  | .tmp d => (d, some (.bool b)) :: fr
  | _ => fr
section
variable {P : Program} {tt : List TI} {fns : List Nat}
theorem Beh.mono {n : Nat} {W W' : List Nat} {fr : Env} {N : Env → World → Prop} {a : Act} {w : World} (h : Beh n W fr N a w) (hs : ∀ t, t ∈ W → t ∈ W') : Beh n W' fr N a w :=
  let ⟨fr', h1, h2, h3⟩ := h
  ⟨fr', h1, h2.mono hs, h3⟩
theorem look_forget : ∀ (l : List Nat) (fr : Env) (t : Nat), look (forgetE l fr) t = if t ∈ l then none else look fr t
  | [], fr, t => by simp [forgetE]
  | d :: r, fr, t => by
    simp only [forgetE, look_cons, look_forget r fr t, List.mem_cons]
    by_cases h : d = t
    · simp [h]
    · have : ¬ t = d := fun e => h e.symm
      simp [h, this]
theorem getL_look : ∀ {live : List (Nat × Sh1)} {fr : Env} {vs : List Value}, getL fr live = some vs → ∀ (base : Env) (t : Nat) (v : Value), look (bindL live vs base) t = some v → look fr t = some v ∨ look base t = some v
  | [], fr, vs, h, base, t, v, hv => by
    have : vs = [] := by simpa [getL] using h.symm
    subst this
    exact .inr hv
  | (d, s) :: r, fr, vs, h, base, t, v, hv => by
    unfold getL at h
    cases hd : look fr d with
    | none => simp [hd] at h
    | some u =>
      cases hr : getL fr r with
      | none => simp [hd, hr] at h
      | some us =>
        simp only [hd, hr, Option.some.injEq] at h
        subst h
        simp only [bindL, look_cons] at hv
        by_cases e : d = t
        · simp only [e, if_true] at hv
          rw [← e, hd]
          exact .inl hv
        · simp only [e, if_false] at hv
          exact getL_look hr base t v hv
theorem getL_bind_dom : ∀ {live : List (Nat × Sh1)} {fr : Env} {vs : List Value}, getL fr live = some vs → ∀ (base : Env) (t : Nat), look (bindL live vs base) t = look fr t ∨ look (bindL live vs base) t = look base t
  | [], fr, vs, h, base, t => by
    have : vs = [] := by simpa [getL] using h.symm
    subst this
    exact .inr rfl
  | (d, s) :: r, fr, vs, h, base, t => by
    unfold getL at h
    cases hd : look fr d with
    | none => simp [hd] at h
    | some u =>
      cases hr : getL fr r with
      | none => simp [hd, hr] at h
      | some us =>
        simp only [hd, hr, Option.some.injEq] at h
        subst h
        simp only [bindL, look_cons]
        by_cases e : d = t
        · subst e; simp only [if_true]; exact .inl hd.symm
        · simp only [e, if_false]
          exact getL_bind_dom hr base t
theorem join_agree {n : Nat} {W : List Nat} {fr fr' : Env} {a : Act} {live : List (Nat × Sh1)} {vs : List Value} (hA : Agree n fr' a) (hE : ExtE W fr fr') (hg : getL fr' live = some vs) :
    Agree n (bindL live vs (forgetE W fr)) a ∧ ExtE W fr (bindL live vs (forgetE W fr)) := by
  constructor
  · refine ⟨hA.size, hA.defers, fun t v hv => ?_⟩
    rcases getL_look hg _ t v hv with h | h
    · exact hA.at_ t v h
    · rw [look_forget] at h
      by_cases ht : t ∈ W
      · simp [ht] at h
      · simp only [ht, if_false] at h
        exact hA.at_ t v (hE t v ht h)
  · intro t v ht hv
    rcases getL_bind_dom hg (forgetE W fr) t with h | h
    · rw [h]; exact hE t v ht hv
    · rw [h, look_forget, if_neg ht]; exact hv
end
def argE : Nat → List Value → Env
  | _, [] => []
  | i, v :: r => (i, some v) :: argE (i + 1) r
def tupV (vs : List Value) : Value := match vs with
  | [v] => v
  | vs => .tuple ⟨vs⟩
section
variable {P : Program} {tt : List TI} {fns : List Nat}
def resR (tmps : Array Value) : ResultVar → Sem Value
  | .tmp t => pure (tmps.getD t undef)
  | .cell b t => do loadVar t (← asAddr (tmps.getD b undef))
theorem results_resR (fn : Func) (tmps : Array Value) : results fn tmps = (do let vs ← fn.results.mapM (resR tmps); pure (if h : vs.size = 1 then vs[0] else .tuple vs)) := by
  unfold results
  have e : (fun (x : ResultVar) => match x with
    | .tmp t => pure (tmps.getD t undef)
    | .cell a t => do loadVar t (← asAddr (tmps.getD a undef))) = resR tmps := by
    funext x; cases x <;> rfl
  rw [← e]
  rfl
end
end Go.Vc
/- Two helps for printed conditions. -/
set_option linter.unusedVariables false
namespace Go.Vc
open Go Go.RowKit
def bs (l : List UInt8) : ByteArray := ⟨l.toArray⟩
@[simp] theorem derefP_of_some {a : Addr} {K : Addr → Prop} : derefP (some a) K = K a := rfl
end Go.Vc
