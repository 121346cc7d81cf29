/- Joined texts. -/
import Derived.Test.YtmakoecgogjemaaDoorVcb
/- The condition of a region that draws its order is sound. -/
set_option linter.unusedVariables false
namespace Go.Vc
open Go Go.RowKit

/-! ### Regions that draw their order -/
/-- The worlds that a region that draws its order may pass: nothing has turned below the old size, or below a block that the prover names. -/
def cls (w1 : World) (B : Option Nat) (w : World) : Prop := match B with
  | none => Below w1.heap.size w1 w
  | some b => Below b w1 w
def inB (B : Option Nat) (ad : Addr) (Q : Prop) : Prop := match B with
  | none => Q
  | some b => ad.block < b ∧ Q
theorem cls_refl (w : World) (B : Option Nat) : cls w B w := by
  cases B
  · exact Below.refl _ _
  · exact Below.refl _ _
def quietVC (tt : List TI) (fr : Env) (o : Oper) (B : Option Nat) (w : World) (K : Value → Prop) : Prop := match o.op with
  | .load t x => withV (ev fr x) fun v => match v with
    | .pointer a => derefP a fun ad => inB B ad (loadVC tt t ad w K)
    | _ => False
  | _ => pureVC tt fr o K
def schedB (ops : Array Oper) (m : Nat) : List (Nat × Bool) → Array Bool → Bool
  | [], listed => Region.seqB .any ops (ops.size - m) m listed
  | (i, true) :: r, listed => Nat.blt i m && ((Region.ready .any ops listed).contains i && (Region.free .any ops listed i && schedB ops m r (listed.setIfInBounds i true)))
  | (i, false) :: r, listed => Nat.blt i m && (Region.ready .any ops listed == [i] && schedB ops m r (listed.setIfInBounds i true))
def drawB (ops : Array Oper) (m : Nat) (sched : List (Nat × Bool)) : Bool :=
  Region.noSelect ops && (Nat.beq (m - sched.length) 0 && (Nat.beq (sched.length - m) 0 && ((Nat.beq m ops.size || (Nat.blt m ops.size && (Region.sinkB .any ops m && Region.chainB .any ops m))) && schedB ops m sched (Array.replicate ops.size false))))
def drawVC (P : Program) (tt : List TI) (fns : List Nat) (n : Nat) (ops : List Oper) (m : Nat) (pn : Pn) (N : Env → World → Prop) (B : Option Nat) (w1 : World) : List (Nat × Bool) → Env → World → Prop
  | [], fr, w => vcOps P tt fns n ops pn N (ops.drop m) fr w
  | (i, q) :: r, fr, w => match ops[i]? with
    | none => False
    | some o => match dOk n o.dst with
      | false => False
      | true => guardVC ops o fr (fun fr => match q with
          | true => quietVC tt fr o B w1 fun v => drawVC P tt fns n ops m pn N B w1 r (putE o.dst (some v) fr) w
          | false => opVC P tt fns fr o w pn fun v w' => cls w1 B w' ∧ drawVC P tt fns n ops m pn N B w1 r (putE o.dst (some v) fr) w') fun fr =>
          drawVC P tt fns n ops m pn N B w1 r (putE o.dst (some undef) fr) w

section
variable {P : Program} {tt : List TI} {fns : List Nat}

/-- Head operations in whatever order, each leaving a world of the class; then 'L'. -/
def wpT (P : Program) (ops : Array Oper) (Q : Exit → Act → World → Prop) (S : World → Prop) (m : Nat) (L : Array Bool → Act → World → Prop) : Nat → Array Bool → Act → World → Prop
  | 0, listed, a, w => L listed a w
  | f + 1, listed, a, w => Region.ready .any ops listed ≠ [] ∧ ∀ i ∈ Region.ready .any ops listed, i < m ∧ wpOp P ops Q i (fun a' w' => S w' ∧ wpT P ops Q S m L f (listed.setIfInBounds i true) a' w') a w

theorem wpAny_of_T {ops : Array Oper} {Q : Exit → Act → World → Prop} {S : World → Prop} {m g : Nat} {L : Array Bool → Act → World → Prop} (hL : ∀ listed a w, L listed a w → wpAny P .any ops Q g listed a w) :
    ∀ (f : Nat) (listed : Array Bool) (a : Act) (w : World), wpT P ops Q S m L f listed a w → wpAny P .any ops Q (f + g) listed a w
  | 0, listed, a, w, h => by rw [Nat.zero_add]; exact hL _ _ _ h
  | f + 1, listed, a, w, h => by
    rw [show f + 1 + g = (f + g) + 1 by omega]
    exact ⟨fun h0 => absurd h0 h.1, fun i hi => wpOp_mono (fun a' w' h' => wpAny_of_T hL f _ a' w' h'.2) (h.2 i hi).2⟩

/-- While a head operation has not come up, none of the tail's may. -/
def HeadFirst (ops : Array Oper) (m : Nat) (listed : Array Bool) : Prop := ∀ i, i < m → listed.getD i true = false → ∀ t ∈ Region.ready .any ops listed, t < m

theorem wpT_first {ops : Array Oper} {Q : Exit → Act → World → Prop} {S : World → Prop} {m : Nat} {L : Array Bool → Act → World → Prop} {i : Nat} {oi : Oper} {v : Value} (hi : ops[i]? = some oi)
    (hsel : ∀ (j : Nat) (o : Oper) cs b, ops[j]? = some o → o.op ≠ .select cs b) (hQ : ∀ c a w, Q (.panic c) (a.put oi.dst v) w → Q (.panic c) a w) (him : i < m)
    (hdone : ∀ listed a w, L listed a w → ∀ j ∈ Region.ready .any ops listed, m ≤ j) (G : Array Bool → Prop) (hG : ∀ listed j, G listed → j ∈ Region.ready .any ops listed → j < m → G (listed.setIfInBounds j true))
    (hF : ∀ listed, G listed → HeadFirst ops m listed) :
    ∀ (f : Nat) (listed : Array Bool) (a : Act) (w : World), G listed →
      (∀ j oj, ops[j]? = some oj → j ≠ i → listed.getD j true = false → (∀ e ∈ oj.after, Region.binds .any e = true → e.on ≠ i) → oi.apart ops oj = true) →
      i ∈ Region.ready .any ops listed → YieldsIf P ops S oi v a → S w →
      wpT P ops Q S m L f (listed.setIfInBounds i true) (a.put oi.dst v) w → wpT P ops Q S m L (f + 1) listed a w := by
  intro f
  induction f with
  | zero =>
    intro listed a w hg hfree hr hy hS H
    refine ⟨fun h => (by rw [h] at hr; cases hr), fun j hj => ?_⟩
    have hjm : j < m := hF listed hg i him (mem_ready.1 hr).1 j hj
    refine ⟨hjm, ?_⟩
    by_cases hji : j = i
    · subst hji; exact hy.wpOp hi hS ⟨hS, H⟩
    · have := hdone _ _ _ H j (ready_mono hj hji)
      omega
  | succ f ih =>
    intro listed a w hg hfree hr hy hS H
    refine ⟨fun h => (by rw [h] at hr; cases hr), fun j hj => ?_⟩
    have hjm : j < m := hF listed hg i him (mem_ready.1 hr).1 j hj
    refine ⟨hjm, ?_⟩
    by_cases hji : j = i
    · subst hji; exact hy.wpOp hi hS ⟨hS, H⟩
    · have h1 := (H.2 j (ready_mono hj hji)).2
      obtain ⟨hjun, oj, hoj, hall⟩ := mem_ready.1 hj
      have hnot : ∀ e ∈ oj.after, Region.binds .any e = true → e.on ≠ i := fun e he hb heq => by
        have h1 := hall e he hb
        have h0 := (mem_ready.1 hr).1
        rw [heq] at h1
        rcases Nat.lt_or_ge i listed.size with h' | h'
        · simp [h'] at h0 h1; rw [h0] at h1; cases h1
        · simp [Array.getElem?_eq_none h'] at h1
      have h2 := wpOp_putIf hoj (hfree j oj hoj hji hjun hnot) (fun cs b => hsel i oi cs b hi) (fun cs b => hsel j oj cs b hoj) hQ hy h1
      have hfree' : ∀ k ok, ops[k]? = some ok → k ≠ i → (listed.setIfInBounds j true).getD k true = false →
          (∀ e ∈ ok.after, Region.binds .any e = true → e.on ≠ i) → oi.apart ops ok = true := fun k ok hk hki hun hno => by
        refine hfree k ok hk hki ?_ hno
        by_cases hjk : j = k
        · subst hjk; exact hjun
        · rw [getD_set_ne true hjk] at hun; exact hun
      refine wpOp_mono (fun a' w' h3 => ⟨h3.2.1, ih (listed.setIfInBounds j true) a' w' (hG _ _ hg hj hjm) hfree' (ready_mono hr (Ne.symm hji)) h3.1 h3.2.1 ?_⟩) h2
      rw [Array.setIfInBounds_comm _ _ hji]
      exact h3.2.2

theorem quiet_sound (T : TOk P tt) {n : Nat} {fr : Env} {a : Act} (hA : Agree n fr a) {o : Oper} {w : World} {K : Value → Prop} {B : Option Nat} (h : quietVC tt fr o B w K) :
    ∃ v, (∀ w', cls w B w' → (execOp a.eval o).run P w' = .ok (.value v) w') ∧ K v := by
  unfold quietVC at h
  split at h
  · rename_i t x ho
    obtain ⟨v, hv, h⟩ := withV_some h
    cases v <;> simp only at h
    obtain ⟨ad, rfl, h⟩ := derefP_some h
    have hB : (∀ b, B = some b → ad.block < b) ∧ loadVC tt t ad w K := by
      cases B with
      | none => exact ⟨fun _ h => (by cases h), h⟩
      | some b => exact ⟨fun _ e => (by cases e; exact h.1), h.2⟩
    obtain ⟨u, h1, h2, h3⟩ := loadVC_sound (P := P) T hB.2
    refine ⟨u, fun w' hb => ?_, h2⟩
    have := h3 w' (fun p u hp hu => by
      cases B with
      | none =>
        have hlt := block_lt_of_cell hu
        rw [Below.cell hb hlt]; exact hu
      | some b =>
        rw [Below.cell hb (p := p) (by rw [hp]; exact hB.1 b rfl)]; exact hu)
    simp [execOp, ho, hA.ev hv, this]
  · obtain ⟨v, h1, h2⟩ := pure_sound (P := P) T hA h
    exact ⟨v, fun w' _ => h1 w', h2⟩

theorem head_inv {ops : Array Oper} {m : Nat} (h : (Nat.beq m ops.size || (Nat.blt m ops.size && (Region.sinkB .any ops m && Region.chainB .any ops m))) = true) :
    ∃ G : Array Bool → Prop, G (Array.replicate ops.size false) ∧ (∀ listed j, G listed → j ∈ Region.ready .any ops listed → j < m → G (listed.setIfInBounds j true)) ∧ (∀ listed, G listed → HeadFirst ops m listed) := by
  simp only [Bool.or_eq_true, Bool.and_eq_true] at h
  rcases h with h | ⟨h0, h1, h2⟩
  · have hm := Nat.eq_of_beq_eq_true h
    refine ⟨fun _ => True, trivial, fun _ _ _ _ _ => trivial, fun listed _ i _ _ t ht => ?_⟩
    obtain ⟨_, o, ho, _⟩ := mem_ready.1 ht
    rw [hm]
    exact (Array.getElem?_eq_some_iff.1 ho).1
  · have hlt : m < ops.size := Nat.lt_of_succ_le (Nat.le_of_ble_eq_true h0)
    refine ⟨HeadInv .any ops m, ⟨by simp, fun j oj _ hl => ?_, fun t ht ht' => ?_⟩, fun listed j hg hj hjm => hg.set hj hjm, fun listed hg i hi hun t ht => ?_⟩
    · rw [getD_replicate_false] at hl; cases hl
    · simp [ht']
    · rcases Nat.lt_or_ge t m with h | h
      · exact h
      · exact absurd ht (tail_waits h1 h2 hlt hg _ i rfl hi hun t h)

theorem mem_dsts {ops : List Oper} {i : Nat} {o : Oper} (h : ops[i]? = some o) {t : Nat} (ht : t ∈ o.dst.toList) : t ∈ dstsL ops :=
  List.mem_flatMap.2 ⟨o, List.mem_of_getElem? h, ht⟩

theorem sched_sound (T : TOk P tt) (F : FOk P fns) {n : Nat} {ops : List Oper} {m : Nat} {pn : Pn} {N : Env → World → Prop} {w1 : World} {B : Option Nat} {Q : Exit → Act → World → Prop} (hQ : ∀ a : Act, a.defers = [] → QPn pn Q a)
    (hQp : ∀ d v c a w, Q (.panic c) (a.put d v) w → Q (.panic c) a w) (hsel : Region.noSelect ops.toArray = true)
    {G : Array Bool → Prop} (hG : ∀ listed j, G listed → j ∈ Region.ready .any ops.toArray listed → j < m → G (listed.setIfInBounds j true)) (hF : ∀ listed, G listed → HeadFirst ops.toArray m listed)
    {fr0 : Env} (hN : ∀ a w, Beh n (dstsL ops) fr0 N a w → Q .normal a w) (hmle : m ≤ ops.length) :
    ∀ (sched : List (Nat × Bool)) (listed : Array Bool) (fr : Env) (a : Act) (w : World), G listed → schedB ops.toArray m sched listed = true → Agree n fr a → ExtE (dstsL ops) fr0 fr → cls w1 B w →
      drawVC P tt fns n ops m pn N B w1 sched fr w →
      wpT P ops.toArray Q (cls w1 B) m (fun listed a w => wpAny P .any ops.toArray Q (ops.length - m) listed a w ∧ ∀ j ∈ Region.ready .any ops.toArray listed, m ≤ j) sched.length listed a w
  | [], listed, fr, a, w, _, hB, hA, hE, _, h => by
    have hB' : Region.seqB .any ops.toArray (ops.length - m) m listed = true := by simpa [schedB] using hB
    refine ⟨?_, ?_⟩
    · have hl : (ops.drop m).length = ops.length - m := by simp
      have := wpAny_of_seq (P := P) (md := .any) (ops := ops.toArray) (Q' := Q) (ops.drop m) m listed a w (fun j => by simp [List.getElem?_drop]) (by rw [hl]; exact hB')
        (vcOps_sound T F hQ (W0 := dstsL ops) (fr0 := fr0) (fun a w hb => hN a w ?_) hA hE h)
      · rw [hl] at this; exact this
      · obtain ⟨fr', h1, h2, h3⟩ := hb
        refine ⟨fr', h1, h2.mono fun t ht => ?_, h3⟩
        rcases List.mem_append.1 ht with ht | ht
        · exact ht
        · obtain ⟨o, ho, ht⟩ := List.mem_flatMap.1 ht
          exact List.mem_flatMap.2 ⟨o, List.mem_of_mem_drop ho, ht⟩
    · intro j hj
      cases hg : ops.length - m with
      | zero => rw [hg] at hB'; simp only [Region.seqB, List.isEmpty_iff] at hB'; rw [hB'] at hj; cases hj
      | succ g =>
        rw [hg] at hB'
        simp only [Region.seqB, Bool.and_eq_true, decide_eq_true_eq] at hB'
        rw [hB'.1] at hj
        simp at hj
        omega
  | (i, q) :: r, listed, fr, a, w, hg, hB, hA, hE, hS, h => by
    unfold drawVC at h
    cases ho : ops[i]? <;> simp only [ho] at h
    rename_i o
    have ho' : ops.toArray[i]? = some o := by simpa using ho
    cases hd : dOk n o.dst <;> simp only [hd] at h
    obtain ⟨fr', hA', hE', h⟩ := guard_use hA h
    have hE2 : ExtE (dstsL ops) fr0 fr' := (hE.trans (hE' [])).mono (by simp)
    have step : ∀ v, ExtE (dstsL ops) fr0 (putE o.dst v fr') := fun v => (hE2.trans (ExtE.put o.dst v fr')).mono fun t ht => by
      rcases List.mem_append.1 ht with ht | ht
      · exact ht
      · exact mem_dsts ho ht
    cases q with
    | true =>
      simp only [schedB, Bool.and_eq_true] at hB
      obtain ⟨him, hr, hfree, hB⟩ := hB
      have him' : i < m := by
        have := Nat.le_of_ble_eq_true him
        omega
      have hr' : i ∈ Region.ready .any ops.toArray listed := by simpa using hr
      have take : ∀ v, YieldsIf P ops.toArray (cls w1 B) o v a →
          wpT P ops.toArray Q (cls w1 B) m (fun listed a w => wpAny P .any ops.toArray Q (ops.length - m) listed a w ∧ ∀ j ∈ Region.ready .any ops.toArray listed, m ≤ j) r.length (listed.setIfInBounds i true) (a.put o.dst v) w →
          wpT P ops.toArray Q (cls w1 B) m (fun listed a w => wpAny P .any ops.toArray Q (ops.length - m) listed a w ∧ ∀ j ∈ Region.ready .any ops.toArray listed, m ≤ j) (r.length + 1) listed a w := fun v hy H =>
        wpT_first ho' (Region.noSelect_spec hsel) (hQp _ _) him' (fun _ _ _ h => h.2) G hG hF r.length listed a w hg (Region.free_spec ho' hfree) hr' hy hS H
      rcases h with ⟨hw, h⟩ | ⟨hw, h⟩
      · obtain ⟨v, h1, h2⟩ := quiet_sound (P := P) T hA' h
        exact take v (.inl ⟨hw, h1⟩) (sched_sound T F hQ hQp hsel hG hF hN hmle r _ _ _ w (hG _ _ hg hr' him') hB (hA'.put hd v) (step _) hS h2)
      · exact take undef (.inr ⟨hw, rfl⟩) (sched_sound T F hQ hQp hsel hG hF hN hmle r _ _ _ w (hG _ _ hg hr' him') hB (hA'.put hd undef) (step _) hS h)
    | false =>
      simp only [schedB, Bool.and_eq_true, beq_iff_eq] at hB
      obtain ⟨him, hr, hB⟩ := hB
      have him' : i < m := by
        have := Nat.le_of_ble_eq_true him
        omega
      have hr' : i ∈ Region.ready .any ops.toArray listed := by simp [hr]
      show Region.ready .any ops.toArray listed ≠ [] ∧ _
      refine ⟨by simp [hr], fun j hj => ?_⟩
      rw [hr] at hj
      obtain rfl : j = i := by simpa using hj
      refine ⟨him', ?_⟩
      unfold wpOp
      simp only [ho']
      rcases h with ⟨hw, h⟩ | ⟨hw, h⟩
      · rw [if_pos hw]
        refine .inl (Oper.wp_mono ?_ (op_sound T F hA' h (hQ a hA.defers)))
        rintro a' w' ⟨v, rfl, hb, hK⟩
        exact ⟨hb, sched_sound T F hQ hQp hsel hG hF hN hmle r _ _ _ w' (hG _ _ hg hr' him') hB (hA'.put hd v) (step _) hb hK⟩
      · rw [if_neg (by simp [hw])]
        exact ⟨hS, sched_sound T F hQ hQp hsel hG hF hN hmle r _ _ _ w (hG _ _ hg hr' him') hB (hA'.put hd undef) (step _) hS h⟩

theorem draw_sound (T : TOk P tt) (F : FOk P fns) (hm : P.follows .mixedOrders = true) {n : Nat} {ops : List Oper} {m : Nat} {sched : List (Nat × Bool)} {pn : Pn} {N : Env → World → Prop} {B : Option Nat} {w : World} {Q : Exit → Act → World → Prop} (hQ : ∀ a : Act, a.defers = [] → QPn pn Q a)
    (hQp : ∀ d v c a w, Q (.panic c) (a.put d v) w → Q (.panic c) a w) {fr : Env} {a : Act} {id : Nat} (hN : ∀ a w, Beh n (dstsL ops) fr N a w → Q .normal a w) (hA : Agree n fr a) (hB : drawB ops.toArray m sched = true)
    (h : drawVC P tt fns n ops m pn N B w.drew sched fr w.drew) : (Code.region id ops.toArray true).wp P Q a w := by
  simp only [drawB, Bool.and_eq_true] at hB
  obtain ⟨hsel, h1, h2, h3, h4⟩ := hB
  have hlen : sched.length = m := by
    have := Nat.eq_of_beq_eq_true h1
    have := Nat.eq_of_beq_eq_true h2
    omega
  obtain ⟨G, hG0, hG, hF⟩ := head_inv h3
  have hmle : m ≤ ops.length := by
    simp only [Bool.or_eq_true, Bool.and_eq_true] at h3
    rcases h3 with h3 | h3
    · have := Nat.eq_of_beq_eq_true h3; simp at this; omega
    · have := Nat.le_of_ble_eq_true h3.1; simp at this; omega
  refine wp_region_any hm ?_
  have := wpAny_of_T (P := P) (ops := ops.toArray) (Q := Q) (S := cls w.drew B) (m := m) (g := ops.length - m) (fun _ _ _ h => h.1) sched.length (Array.replicate ops.toArray.size false) a w.drew
    (sched_sound T F hQ hQp hsel hG hF hN hmle sched _ fr a w.drew hG0 h4 hA (ExtE.refl _ _) (cls_refl _ _) h)
  rw [hlen, show m + (ops.length - m) = ops.toArray.size by simp; omega] at this
  exact this
end
end Go.Vc
/- The condition of a region that draws its order, where more than one operation with effects may come next: each way is asked. -/
set_option linter.unusedVariables false
namespace Go.Vc
open Go Go.RowKit

/-- A tree of orders: a quiet operation taken first, or all that may come next, each with its own rest. -/
inductive Sch where
  | fin
  | quiet (i : Nat) (r : Sch)
  | eff (i : Nat) (r more : Sch)

def cands : Sch → List Nat
  | .eff i _ more => i :: cands more
  | _ => []

def schT (ops : Array Oper) (m : Nat) : Sch → Bool → Nat → Array Bool → Bool
  | .fin, al, f, listed => match al with
    | true => true
    | false => Nat.beq f 0 && Region.seqB .any ops (ops.size - m) m listed
  | .quiet i r, al, f, listed => match al with
    | true => false
    | false => match f with
      | 0 => false
      | f + 1 => Nat.blt i m && ((Region.ready .any ops listed).contains i && (Region.free .any ops listed i && schT ops m r false f (listed.setIfInBounds i true)))
  | .eff i r more, al, f, listed => match f with
    | 0 => false
    | f + 1 => Nat.blt i m && ((al || Region.ready .any ops listed == i :: cands more) && (schT ops m r false f (listed.setIfInBounds i true) && schT ops m more true (f + 1) listed))

def drawT (ops : Array Oper) (m : Nat) (t : Sch) : Bool :=
  Region.noSelect ops && (((Nat.beq m ops.size || (Nat.blt m ops.size && (Region.sinkB .any ops m && Region.chainB .any ops m))) && schT ops m t false m (Array.replicate ops.size false)))

def treeVC (P : Program) (tt : List TI) (fns : List Nat) (n : Nat) (ops : List Oper) (m : Nat) (pn : Pn) (N : Env → World → Prop) (B : Option Nat) (w1 : World) : Sch → Bool → Env → World → Prop
  | .fin, al, fr, w => match al with
    | true => True
    | false => vcOps P tt fns n ops pn N (ops.drop m) fr w
  | .quiet i r, al, fr, w => match ops[i]? with
    | none => False
    | some o => match dOk n o.dst with
      | false => False
      | true => guardVC ops o fr (fun fr => quietVC tt fr o B w1 fun v => treeVC P tt fns n ops m pn N B w1 r false (putE o.dst (some v) fr) w) fun fr =>
          treeVC P tt fns n ops m pn N B w1 r false (putE o.dst (some undef) fr) w
  | .eff i r more, al, fr, w => (match ops[i]? with
    | none => False
    | some o => match dOk n o.dst with
      | false => False
      | true => guardVC ops o fr (fun fr => opVC P tt fns fr o w pn fun v w' => cls w1 B w' ∧ treeVC P tt fns n ops m pn N B w1 r false (putE o.dst (some v) fr) w') fun fr =>
          treeVC P tt fns n ops m pn N B w1 r false (putE o.dst (some undef) fr) w) ∧ treeVC P tt fns n ops m pn N B w1 more true fr w

section
variable {P : Program} {tt : List TI} {fns : List Nat}

theorem tree_sound (T : TOk P tt) (F : FOk P fns) {n : Nat} {ops : List Oper} {m : Nat} {pn : Pn} {N : Env → World → Prop} {w1 : World} {B : Option Nat} {Q : Exit → Act → World → Prop} (hQ : ∀ a : Act, a.defers = [] → QPn pn Q a)
    (hQp : ∀ d v c a w, Q (.panic c) (a.put d v) w → Q (.panic c) a w) (hsel : Region.noSelect ops.toArray = true)
    {G : Array Bool → Prop} (hG : ∀ listed j, G listed → j ∈ Region.ready .any ops.toArray listed → j < m → G (listed.setIfInBounds j true)) (hF : ∀ listed, G listed → HeadFirst ops.toArray m listed)
    {fr0 : Env} (hN : ∀ a w, Beh n (dstsL ops) fr0 N a w → Q .normal a w) (hmle : m ≤ ops.length) :
    ∀ (t : Sch),
      (∀ (f : Nat) (listed : Array Bool) (fr : Env) (a : Act) (w : World), G listed → schT ops.toArray m t false f listed = true → Agree n fr a → ExtE (dstsL ops) fr0 fr → cls w1 B w →
        treeVC P tt fns n ops m pn N B w1 t false fr w →
        wpT P ops.toArray Q (cls w1 B) m (fun listed a w => wpAny P .any ops.toArray Q (ops.length - m) listed a w ∧ ∀ j ∈ Region.ready .any ops.toArray listed, m ≤ j) f listed a w) ∧
      (∀ (f : Nat) (listed : Array Bool) (fr : Env) (a : Act) (w : World), G listed → schT ops.toArray m t true (f + 1) listed = true → Agree n fr a → ExtE (dstsL ops) fr0 fr → cls w1 B w →
        treeVC P tt fns n ops m pn N B w1 t true fr w → (∀ j ∈ cands t, j ∈ Region.ready .any ops.toArray listed) →
        ∀ j ∈ cands t, j < m ∧ wpOp P ops.toArray Q j (fun a' w' => cls w1 B w' ∧ wpT P ops.toArray Q (cls w1 B) m (fun listed a w => wpAny P .any ops.toArray Q (ops.length - m) listed a w ∧ ∀ j ∈ Region.ready .any ops.toArray listed, m ≤ j) f (listed.setIfInBounds j true) a' w') a w) := by
  intro t
  induction t with
  | fin =>
    refine ⟨?_, fun f listed fr a w _ _ _ _ _ _ _ j hj => by cases hj⟩
    intro f listed fr a w _ hB hA hE _ h
    simp only [schT, Bool.and_eq_true] at hB
    have hf := Nat.eq_of_beq_eq_true hB.1
    subst hf
    have hB' : Region.seqB .any ops.toArray (ops.length - m) m listed = true := by simpa using hB.2
    refine ⟨?_, ?_⟩
    · have hl : (ops.drop m).length = ops.length - m := by simp
      have := wpAny_of_seq (P := P) (md := .any) (ops := ops.toArray) (Q' := Q) (ops.drop m) m listed a w (fun j => by simp [List.getElem?_drop]) (by rw [hl]; exact hB')
        (vcOps_sound T F hQ (W0 := dstsL ops) (fr0 := fr0) (fun a w hb => hN a w ?_) hA hE h)
      · rw [hl] at this; exact this
      · obtain ⟨fr', h1, h2, h3⟩ := hb
        refine ⟨fr', h1, h2.mono fun t ht => ?_, h3⟩
        rcases List.mem_append.1 ht with ht | ht
        · exact ht
        · obtain ⟨o, ho, ht⟩ := List.mem_flatMap.1 ht
          exact List.mem_flatMap.2 ⟨o, List.mem_of_mem_drop ho, ht⟩
    · intro j hj
      cases hg : ops.length - m with
      | zero => rw [hg] at hB'; simp only [Region.seqB, List.isEmpty_iff] at hB'; rw [hB'] at hj; cases hj
      | succ g =>
        rw [hg] at hB'
        simp only [Region.seqB, Bool.and_eq_true, decide_eq_true_eq] at hB'
        rw [hB'.1] at hj
        simp at hj
        omega
  | quiet i r ih =>
    refine ⟨?_, fun f listed fr a w _ _ _ _ _ _ _ j hj => by cases hj⟩
    intro f listed fr a w hg hB hA hE hS h
    cases f with
    | zero => simp [schT] at hB
    | succ f =>
    unfold treeVC at h
    cases ho : ops[i]? <;> simp only [ho] at h
    rename_i o
    have ho' : ops.toArray[i]? = some o := by simpa using ho
    cases hd : dOk n o.dst <;> simp only [hd] at h
    obtain ⟨fr', hA', hE', h⟩ := guard_use hA h
    have hE2 : ExtE (dstsL ops) fr0 fr' := (hE.trans (hE' [])).mono (by simp)
    have step : ∀ v, ExtE (dstsL ops) fr0 (putE o.dst v fr') := fun v => (hE2.trans (ExtE.put o.dst v fr')).mono fun t ht => by
      rcases List.mem_append.1 ht with ht | ht
      · exact ht
      · exact mem_dsts ho ht
    simp only [schT, Bool.and_eq_true] at hB
    obtain ⟨him, hr, hfree, hB⟩ := hB
    have him' : i < m := by
      have := Nat.le_of_ble_eq_true him
      omega
    have hr' : i ∈ Region.ready .any ops.toArray listed := by simpa using hr
    have take : ∀ v, YieldsIf P ops.toArray (cls w1 B) o v a →
        wpT P ops.toArray Q (cls w1 B) m (fun listed a w => wpAny P .any ops.toArray Q (ops.length - m) listed a w ∧ ∀ j ∈ Region.ready .any ops.toArray listed, m ≤ j) f (listed.setIfInBounds i true) (a.put o.dst v) w →
        wpT P ops.toArray Q (cls w1 B) m (fun listed a w => wpAny P .any ops.toArray Q (ops.length - m) listed a w ∧ ∀ j ∈ Region.ready .any ops.toArray listed, m ≤ j) (f + 1) listed a w := fun v hy H =>
      wpT_first ho' (Region.noSelect_spec hsel) (hQp _ _) him' (fun _ _ _ h => h.2) G hG hF f listed a w hg (Region.free_spec ho' hfree) hr' hy hS H
    rcases h with ⟨hw, h⟩ | ⟨hw, h⟩
    · obtain ⟨v, h1, h2⟩ := quiet_sound (P := P) T hA' h
      exact take v (.inl ⟨hw, h1⟩) (ih.1 f _ _ _ w (hG _ _ hg hr' him') hB (hA'.put hd v) (step _) hS h2)
    · exact take undef (.inr ⟨hw, rfl⟩) (ih.1 f _ _ _ w (hG _ _ hg hr' him') hB (hA'.put hd undef) (step _) hS h)
  | eff i r more ihr ihm =>
    have one : ∀ (f : Nat) (listed : Array Bool) (fr : Env) (a : Act) (w : World) (al : Bool), G listed → schT ops.toArray m (.eff i r more) al (f + 1) listed = true → Agree n fr a → ExtE (dstsL ops) fr0 fr → cls w1 B w →
        treeVC P tt fns n ops m pn N B w1 (.eff i r more) al fr w → (∀ j ∈ i :: cands more, j ∈ Region.ready .any ops.toArray listed) →
        ∀ j ∈ i :: cands more, j < m ∧ wpOp P ops.toArray Q j (fun a' w' => cls w1 B w' ∧ wpT P ops.toArray Q (cls w1 B) m (fun listed a w => wpAny P .any ops.toArray Q (ops.length - m) listed a w ∧ ∀ j ∈ Region.ready .any ops.toArray listed, m ≤ j) f (listed.setIfInBounds j true) a' w') a w := by
      intro f listed fr a w al hg hB hA hE hS h hrd j hj
      simp only [schT, Bool.and_eq_true] at hB
      obtain ⟨him, _, hBr, hBm⟩ := hB
      unfold treeVC at h
      obtain ⟨h, hmore⟩ := h
      rcases List.mem_cons.1 hj with rfl | hj
      · cases ho : ops[j]? <;> simp only [ho] at h
        rename_i o
        have ho' : ops.toArray[j]? = some o := by simpa using ho
        cases hd : dOk n o.dst <;> simp only [hd] at h
        obtain ⟨fr', hA', hE', h⟩ := guard_use hA h
        have hE2 : ExtE (dstsL ops) fr0 fr' := (hE.trans (hE' [])).mono (by simp)
        have step : ∀ v, ExtE (dstsL ops) fr0 (putE o.dst v fr') := fun v => (hE2.trans (ExtE.put o.dst v fr')).mono fun t ht => by
          rcases List.mem_append.1 ht with ht | ht
          · exact ht
          · exact mem_dsts ho ht
        have him' : j < m := by
          have := Nat.le_of_ble_eq_true him
          omega
        have hr' := hrd j (by simp)
        refine ⟨him', ?_⟩
        unfold wpOp
        simp only [ho']
        rcases h with ⟨hw, h⟩ | ⟨hw, h⟩
        · rw [if_pos hw]
          refine .inl (Oper.wp_mono ?_ (op_sound T F hA' h (hQ a hA.defers)))
          rintro a' w' ⟨v, rfl, hb, hK⟩
          exact ⟨hb, ihr.1 f _ _ _ w' (hG _ _ hg hr' him') hBr (hA'.put hd v) (step _) hb hK⟩
        · rw [if_neg (by simp [hw])]
          exact ⟨hS, ihr.1 f _ _ _ w (hG _ _ hg hr' him') hBr (hA'.put hd undef) (step _) hS h⟩
      · exact ihm.2 f listed fr a w hg hBm hA hE hS hmore (fun k hk => hrd k (by simp [hk])) j hj
    refine ⟨?_, fun f listed fr a w hg hB hA hE hS h hrd => one f listed fr a w true hg hB hA hE hS h hrd⟩
    intro f listed fr a w hg hB hA hE hS h
    cases f with
    | zero => simp [schT] at hB
    | succ f =>
      have hrd : Region.ready .any ops.toArray listed = i :: cands more := by
        simp only [schT, Bool.and_eq_true, Bool.false_or, beq_iff_eq] at hB
        exact hB.2.1
      show Region.ready .any ops.toArray listed ≠ [] ∧ _
      refine ⟨by simp [hrd], fun j hj => ?_⟩
      exact one f listed fr a w false hg hB hA hE hS h (fun k hk => by rw [hrd]; exact hk) j (by rw [← hrd]; exact hj)

theorem drawT_sound (T : TOk P tt) (F : FOk P fns) (hm : P.follows .mixedOrders = true) {n : Nat} {ops : List Oper} {m : Nat} {t : Sch} {pn : Pn} {N : Env → World → Prop} {B : Option Nat} {w : World} {Q : Exit → Act → World → Prop} (hQ : ∀ a : Act, a.defers = [] → QPn pn Q a)
    (hQp : ∀ d v c a w, Q (.panic c) (a.put d v) w → Q (.panic c) a w) {fr : Env} {a : Act} {id : Nat} (hN : ∀ a w, Beh n (dstsL ops) fr N a w → Q .normal a w) (hA : Agree n fr a) (hB : drawT ops.toArray m t = true)
    (h : treeVC P tt fns n ops m pn N B w.drew t false fr w.drew) : (Code.region id ops.toArray true).wp P Q a w := by
  simp only [drawT, Bool.and_eq_true] at hB
  obtain ⟨hsel, h3, h4⟩ := hB
  obtain ⟨G, hG0, hG, hF⟩ := head_inv h3
  have hmle : m ≤ ops.length := by
    simp only [Bool.or_eq_true, Bool.and_eq_true] at h3
    rcases h3 with h3 | h3
    · have := Nat.eq_of_beq_eq_true h3; simp at this; omega
    · have := Nat.le_of_ble_eq_true h3.1; simp at this; omega
  refine wp_region_any hm ?_
  have := wpAny_of_T (P := P) (ops := ops.toArray) (Q := Q) (S := cls w.drew B) (m := m) (g := ops.length - m) (fun _ _ _ h => h.1) m (Array.replicate ops.toArray.size false) a w.drew
    ((tree_sound T F hQ hQp hsel hG hF hN hmle t).1 m _ fr a w.drew hG0 h4 hA (ExtE.refl _ _) (cls_refl _ _) h)
  rw [show m + (ops.length - m) = ops.toArray.size by simp; omega] at this
  exact this
end
end Go.Vc
/- The condition of a function is sound: it gives the call. -/
set_option linter.unusedVariables false
namespace Go.Vc
open Go Go.RowKit

/-! ### Code -/
inductive Ann where
  | leaf
  | draw (m : Nat) (sched : List (Nat × Bool))
  | drawB (m : Nat) (sched : List (Nat × Bool))
  | tree (m : Nat) (t : Sch)
  | treeB (m : Nat) (t : Sch)
  | seq (a b : Ann)
  | join (live : List (Nat × Sh1)) (a b : Ann)
  | cond (a b : Ann)
  | blk (a : Ann)
  | loop (live : List (Nat × Sh1)) (a : Ann)

def writes : Code → List Nat
  | .region _ ops _ => dstsL ops.toList
  | .seq a b => writes a ++ writes b
  | .cond _ a b => writes a ++ writes b
  | .block _ b => writes b
  | .loop b => writes b
  | _ => []

structure Kont where
  n : Env → World → Prop
  x : Nat → Env → World → Prop
  r : Env → World → Prop
  pn : Pn

def forgetE (l : List Nat) (fr : Env) : Env := match l with
  | [] => fr
  | d :: r => (d, none) :: forgetE r fr
def getL (fr : Env) : List (Nat × Sh1) → Option (List Value)
  | [] => some []
  | (d, _) :: r => match look fr d with
    | none => none
    | some v => match getL fr r with
      | none => none
      | some vs => some (v :: vs)
def bindL : List (Nat × Sh1) → List Value → Env → Env
  | (d, _) :: r, v :: vs, fr => (d, some v) :: bindL r vs fr
  | _, _, fr => fr
def shs : List (Nat × Sh1) → List Sh1
  | [] => []
  | (_, s) :: r => s :: shs r
def jenv (live : List (Nat × Sh1)) (J : JTy (World → Prop) (shs live)) (fr : Env) (w : World) : Prop := match getL fr live with
  | some vs => japp nay (shs live) J vs w
  | none => False
def nil0 : World → Nat := fun _ => 0
def jenvN (live : List (Nat × Sh1)) (J : JTy (World → Nat) (shs live)) (fr : Env) (w : World) : Nat := match getL fr live with
  | some vs => japp nil0 (shs live) J vs w
  | none => 0

def setB (c : Operand) (b : Bool) (fr : Env) : Env := match c with
  | .tmp d => (d, some (.bool b)) :: fr
  | _ => fr

def vc (chk : Bool) (P : Program) (tt : List TI) (fns : List Nat) (n : Nat) : Code → Ann → Env → World → Kont → Prop
  | .skip, _, fr, w, k => k.n fr w
  | .region _ ops draw, an, fr, w, k => match draw with
    | false => vcOps P tt fns n ops.toList k.pn k.n ops.toList fr w
    | true => match an with
      | .draw m sched => match (!chk || drawB ops m sched) with
        | true => letW w.drew fun w1 => drawVC P tt fns n ops.toList m k.pn k.n none w1 sched fr w1
        | false => False
      | .drawB m sched => match (!chk || Go.Vc.drawB ops m sched) with
        | true => letW w.drew fun w1 => ∃ B : Nat, drawVC P tt fns n ops.toList m k.pn k.n (some B) w1 sched fr w1
        | false => False
      | .tree m t => match (!chk || drawT ops m t) with
        | true => letW w.drew fun w1 => treeVC P tt fns n ops.toList m k.pn k.n none w1 t false fr w1
        | false => False
      | .treeB m t => match (!chk || drawT ops m t) with
        | true => letW w.drew fun w1 => ∃ B : Nat, treeVC P tt fns n ops.toList m k.pn k.n (some B) w1 t false fr w1
        | false => False
      | _ => False
  | .seq a b, an, fr, w, k => match an with
    | .seq x y => vc chk P tt fns n a x fr w ⟨fun fr' w' => vc chk P tt fns n b y fr' w' k, k.x, k.r, k.pn⟩
    | .join live x y => ∀ J : JTy (World → Prop) (shs live), (jall (shs live) fun vs => ∀ w', vc chk P tt fns n b y (bindL live vs (forgetE (writes a) fr)) w' k → japp nay (shs live) J vs w') →
        vc chk P tt fns n a x fr w ⟨jenv live J, k.x, k.r, k.pn⟩
    | _ => False
  | .cond c a b, an, fr, w, k => match an with
    | .cond x y => withV (ev fr c) fun v => match v with
      | .bool t => brB t fun t' => match t' with
        | true => vc chk P tt fns n a x (setB c true fr) w k
        | false => vc chk P tt fns n b y (setB c false fr) w k
      | _ => False
    | _ => False
  | .block id b, an, fr, w, k => match an with
    | .blk x => vc chk P tt fns n b x fr w ⟨k.n, fun i fr' w' => match Nat.beq i id with
      | true => k.n fr' w'
      | false => k.x i fr' w', k.r, k.pn⟩
    | _ => False
  | .loop b, an, fr, w, k => match an with
    | .loop live x => ∃ I : JTy (World → Prop) (shs live), ∃ μ : JTy (World → Nat) (shs live), jenv live I fr w ∧
        jall (shs live) fun vs => ∀ w', japp nay (shs live) I vs w' → vc chk P tt fns n b x (bindL live vs (forgetE (writes b) fr)) w'
          ⟨fun fr' w'' => jenv live I fr' w'' ∧ jenvN live μ fr' w'' < japp nil0 (shs live) μ vs w', k.x, k.r, k.pn⟩
    | _ => False
  | .exit id, _, fr, w, k => k.x id fr w
  | .ret, _, fr, w, k => k.r fr w
  | _, _, _, _, _ => False

section
variable {P : Program} {tt : List TI} {fns : List Nat}

def QK (n : Nat) (W : List Nat) (fr : Env) (k : Kont) : Exit → Act → World → Prop
  | .normal, a, w => Beh n W fr k.n a w
  | .exit id, a, w => Beh n W fr (k.x id) a w
  | .ret, a, w => Beh n W fr k.r a w
  | .panic c, a, w => a.defers = [] ∧ ∃ p, k.pn = some p ∧ p c w
  | _, _, _ => False

theorem QK.from {n : Nat} {W W' : List Nat} {fr fr0 : Env} {k : Kont} (h0 : ExtE W' fr0 fr) {e : Exit} {a : Act} {w : World} (h : QK n W fr k e a w) : QK n (W' ++ W) fr0 k e a w := by
  cases e with
  | normal => exact Beh.from h h0
  | exit id => exact Beh.from h h0
  | ret => exact Beh.from h h0
  | panic c => exact h
  | goto l => exact h
  | outgrown => exact h
theorem Beh.mono {n : Nat} {W W' : List Nat} {fr : Env} {N : Env → World → Prop} {a : Act} {w : World} (h : Beh n W fr N a w) (hs : ∀ t, t ∈ W → t ∈ W') : Beh n W' fr N a w :=
  let ⟨fr', h1, h2, h3⟩ := h
  ⟨fr', h1, h2.mono hs, h3⟩
theorem QK.mono {n : Nat} {W W' : List Nat} {fr : Env} {k : Kont} (hs : ∀ t, t ∈ W → t ∈ W') {e : Exit} {a : Act} {w : World} (h : QK n W fr k e a w) : QK n W' fr k e a w := by
  cases e with
  | normal => exact Beh.mono h hs
  | exit id => exact Beh.mono h hs
  | ret => exact Beh.mono h hs
  | panic c => exact h
  | goto l => exact h
  | outgrown => exact h

theorem look_forget : ∀ (l : List Nat) (fr : Env) (t : Nat), look (forgetE l fr) t = if t ∈ l then none else look fr t
  | [], fr, t => by simp [forgetE]
  | d :: r, fr, t => by
    simp only [forgetE, look_cons, look_forget r fr t, List.mem_cons]
    by_cases h : d = t
    · simp [h]
    · have : ¬ t = d := fun e => h e.symm
      simp [h, this]
theorem getL_look : ∀ {live : List (Nat × Sh1)} {fr : Env} {vs : List Value}, getL fr live = some vs → ∀ (base : Env) (t : Nat) (v : Value), look (bindL live vs base) t = some v → look fr t = some v ∨ look base t = some v
  | [], fr, vs, h, base, t, v, hv => by
    have : vs = [] := by simpa [getL] using h.symm
    subst this
    exact .inr hv
  | (d, s) :: r, fr, vs, h, base, t, v, hv => by
    unfold getL at h
    cases hd : look fr d with
    | none => simp [hd] at h
    | some u =>
      cases hr : getL fr r with
      | none => simp [hd, hr] at h
      | some us =>
        simp only [hd, hr, Option.some.injEq] at h
        subst h
        simp only [bindL, look_cons] at hv
        by_cases e : d = t
        · simp only [e, if_true] at hv
          rw [← e, hd]
          exact .inl hv
        · simp only [e, if_false] at hv
          exact getL_look hr base t v hv
theorem getL_bind_dom : ∀ {live : List (Nat × Sh1)} {fr : Env} {vs : List Value}, getL fr live = some vs → ∀ (base : Env) (t : Nat), look (bindL live vs base) t = look fr t ∨ look (bindL live vs base) t = look base t
  | [], fr, vs, h, base, t => by
    have : vs = [] := by simpa [getL] using h.symm
    subst this
    exact .inr rfl
  | (d, s) :: r, fr, vs, h, base, t => by
    unfold getL at h
    cases hd : look fr d with
    | none => simp [hd] at h
    | some u =>
      cases hr : getL fr r with
      | none => simp [hd, hr] at h
      | some us =>
        simp only [hd, hr, Option.some.injEq] at h
        subst h
        simp only [bindL, look_cons]
        by_cases e : d = t
        · subst e; simp only [if_true]; exact .inl hd.symm
        · simp only [e, if_false]
          exact getL_bind_dom hr base t

/-- The frame behind a join. -/
theorem join_agree {n : Nat} {W : List Nat} {fr fr' : Env} {a : Act} {live : List (Nat × Sh1)} {vs : List Value} (hA : Agree n fr' a) (hE : ExtE W fr fr') (hg : getL fr' live = some vs) :
    Agree n (bindL live vs (forgetE W fr)) a ∧ ExtE W fr (bindL live vs (forgetE W fr)) := by
  constructor
  · refine ⟨hA.size, hA.defers, fun t v hv => ?_⟩
    rcases getL_look hg _ t v hv with h | h
    · exact hA.at_ t v h
    · rw [look_forget] at h
      by_cases ht : t ∈ W
      · simp [ht] at h
      · simp only [ht, if_false] at h
        exact hA.at_ t v (hE t v ht h)
  · intro t v ht hv
    rcases getL_bind_dom hg (forgetE W fr) t with h | h
    · rw [h]; exact hE t v ht hv
    · rw [h, look_forget, if_neg ht]; exact hv
theorem jenv_some {live : List (Nat × Sh1)} {J : JTy (World → Prop) (shs live)} {fr : Env} {w : World} (h : jenv live J fr w) : ∃ vs, getL fr live = some vs ∧ japp nay (shs live) J vs w := by
  unfold jenv at h
  cases hg : getL fr live with
  | none => simp only [hg] at h
  | some vs => simp only [hg] at h; exact ⟨vs, rfl, h⟩
theorem getL_map : ∀ {live : List (Nat × Sh1)} {fr : Env} {vs : List Value} {n : Nat} {a : Act}, Agree n fr a → getL fr live = some vs → live.map (fun p => a.tmps.getD p.1 undef) = vs
  | [], fr, vs, n, a, _, h => by simpa [getL] using h
  | (d, s) :: r, fr, vs, n, a, hA, h => by
    unfold getL at h
    cases hd : look fr d with
    | none => simp [hd] at h
    | some u =>
      cases hr : getL fr r with
      | none => simp [hd, hr] at h
      | some us =>
        simp only [hd, hr, Option.some.injEq] at h
        subst h
        simp only [List.map_cons, getL_map hA hr, hA.at_ d u hd]

theorem vc_sound (T : TOk P tt) (F : FOk P fns) (hm : P.follows .mixedOrders = true) {n : Nat} : ∀ (c : Code) (an : Ann) (fr : Env) (w : World) (k : Kont) (a : Act), Agree n fr a → vc true P tt fns n c an fr w k →
    c.wp P (QK n (writes c) fr k) a w := by
  intro c
  induction c with
  | skip => intro an fr w k a hA h; exact wp_skip ⟨fr, hA, ExtE.refl _ _, h⟩
  | region id ops draw =>
    intro an fr w k a hA h
    have hQ : ∀ a : Act, a.defers = [] → QPn k.pn (QK n (writes (.region id ops draw)) fr k) a := fun a ha p c w hp hc => ⟨ha, p, hp, hc⟩
    cases draw with
    | false =>
      refine wp_region_list ?_
      exact vcOps_sound T F hQ (W0 := []) (fr0 := fr) (fun a w hb => (show Beh n (dstsL ops.toList) fr k.n a w by simpa using hb)) hA (ExtE.refl _ _) h
    | true =>
      cases an <;> simp only [vc] at h
      case draw m sched =>
        cases hB : drawB ops m sched <;> simp only [hB] at h
        · exact h.elim
        · have := draw_sound T F hm (n := n) (ops := ops.toList) (m := m) (sched := sched) (pn := k.pn) (N := k.n) (Q := QK n (writes (.region id ops true)) fr k) (id := id) hQ
            (fun d v c a w hq => ⟨by have := hq.1; cases d <;> exact this, hq.2⟩) (fun a w hb => hb) hA (by simpa using hB) (h _ rfl)
          simpa using this
      case drawB m sched =>
        cases hB : drawB ops m sched <;> simp only [hB] at h
        · exact h.elim
        · obtain ⟨B, h⟩ := h _ rfl
          have := draw_sound T F hm (n := n) (ops := ops.toList) (m := m) (sched := sched) (pn := k.pn) (N := k.n) (Q := QK n (writes (.region id ops true)) fr k) (id := id) hQ
            (fun d v c a w hq => ⟨by have := hq.1; cases d <;> exact this, hq.2⟩) (fun a w hb => hb) hA (by simpa using hB) h
          simpa using this
      case tree m t =>
        cases hB : drawT ops m t <;> simp only [hB] at h
        · exact h.elim
        · have := drawT_sound T F hm (n := n) (ops := ops.toList) (m := m) (t := t) (pn := k.pn) (N := k.n) (Q := QK n (writes (.region id ops true)) fr k) (id := id) hQ
            (fun d v c a w hq => ⟨by have := hq.1; cases d <;> exact this, hq.2⟩) (fun a w hb => hb) hA (by simpa using hB) (h _ rfl)
          simpa using this
      case treeB m t =>
        cases hB : drawT ops m t <;> simp only [hB] at h
        · exact h.elim
        · obtain ⟨B, h⟩ := h _ rfl
          have := drawT_sound T F hm (n := n) (ops := ops.toList) (m := m) (t := t) (pn := k.pn) (N := k.n) (Q := QK n (writes (.region id ops true)) fr k) (id := id) hQ
            (fun d v c a w hq => ⟨by have := hq.1; cases d <;> exact this, hq.2⟩) (fun a w hb => hb) hA (by simpa using hB) h
          simpa using this
  | seq x y ihx ihy =>
    intro an fr w k a hA h
    cases an <;> simp only [vc] at h
    case seq ax ay =>
      refine wp_seq (Code.wp_mono ?_ (ihx ax fr w _ a hA h))
      intro e a' w' hq
      cases e with
      | normal =>
        obtain ⟨fr', hA', hE', h'⟩ := hq
        exact Code.wp_mono (fun e a w hq => QK.from hE' hq) (ihy ay fr' w' k a' hA' h')
      | exit id => exact Beh.mono hq fun t ht => List.mem_append.2 (.inl ht)
      | ret => exact Beh.mono hq fun t ht => List.mem_append.2 (.inl ht)
      | panic c => exact hq
      | goto l => exact hq
      | outgrown => exact hq
    case join live ax ay =>
      have h := h (jmk (shs live) fun vs w' => vc true P tt fns n y ay (bindL live vs (forgetE (writes x) fr)) w' k) jmk_of
      refine wp_seq (Code.wp_mono ?_ (ihx ax fr w _ a hA h))
      intro e a' w' hq
      cases e with
      | normal =>
        obtain ⟨fr', hA', hE', h'⟩ := hq
        obtain ⟨vs, hg, hj⟩ := jenv_some h'
        have hb := jmk_app hj
        obtain ⟨hA2, hE2⟩ := join_agree hA' hE' hg
        exact Code.wp_mono (fun e a w hq => QK.from hE2 hq) (ihy ay _ w' k a' hA2 hb)
      | exit id => exact Beh.mono hq fun t ht => List.mem_append.2 (.inl ht)
      | ret => exact Beh.mono hq fun t ht => List.mem_append.2 (.inl ht)
      | panic c => exact hq
      | goto l => exact hq
      | outgrown => exact hq
  | cond c x y ihx ihy =>
    intro an fr w k a hA h
    cases an <;> simp only [vc] at h
    rename_i ax ay
    obtain ⟨v, hv, h⟩ := withV_some h
    cases v <;> simp only at h
    rename_i t
    have h := brB_use h
    have hc : a.eval c = .bool t := hA.ev hv
    have hset : ∀ u, u = t → Agree n (setB c u fr) a ∧ ∀ W, ExtE W fr (setB c u fr) := by
      rintro u rfl
      cases c with
      | tmp d => exact ⟨hA.knows hv, ExtE.knows hv⟩
      | const _ => exact ⟨hA, fun W => ExtE.refl _ _⟩
      | global _ => exact ⟨hA, fun W => ExtE.refl _ _⟩
      | func _ => exact ⟨hA, fun W => ExtE.refl _ _⟩
    cases t with
    | true =>
      simp only at h
      obtain ⟨hA', hE'⟩ := hset true rfl
      refine wp_cond_true hc (Code.wp_mono (fun e a w hq => QK.mono ?_ (QK.from (hE' []) hq)) (ihx ax _ w k a hA' h))
      intro t ht; exact List.mem_append.2 (.inl (by simpa using ht))
    | false =>
      simp only at h
      obtain ⟨hA', hE'⟩ := hset false rfl
      refine wp_cond_false hc (Code.wp_mono (fun e a w hq => QK.mono ?_ (QK.from (hE' []) hq)) (ihy ay _ w k a hA' h))
      intro t ht; exact List.mem_append.2 (.inr (by simpa using ht))
  | block id b ih =>
    intro an fr w k a hA h
    cases an <;> simp only [vc] at h
    rename_i x
    refine wp_block (Code.wp_mono ?_ (ih x fr w _ a hA h))
    intro e a' w' hq
    cases e with
    | normal => exact hq
    | exit id' =>
      obtain ⟨fr', hA', hE', h'⟩ := hq
      by_cases hid : id' = id
      · subst hid
        simp only [Exit.inBlock, if_true]
        simp only [Nat.beq_refl] at h'
        exact ⟨fr', hA', hE', h'⟩
      · simp only [Exit.inBlock, hid, if_false]
        have : Nat.beq id' id = false := by
          cases hb : Nat.beq id' id with
          | false => rfl
          | true => exact absurd (Nat.eq_of_beq_eq_true hb) hid
        simp only [this] at h'
        exact ⟨fr', hA', hE', h'⟩
    | ret => exact hq
    | panic c => exact hq
    | goto l => exact hq
    | outgrown => exact hq
  | loop b ih =>
    intro an fr w k a hA h
    cases an <;> simp only [vc] at h
    rename_i live x
    obtain ⟨I, μ, h0, hround⟩ := h
    refine wp_loop (fun a' w' => Beh n (writes b) fr (jenv live I) a' w') (fun a' w' => japp nil0 (shs live) μ (live.map fun p => a'.tmps.getD p.1 undef) w') ⟨fr, hA, ExtE.refl _ _, h0⟩ ?_
    rintro a' w' ⟨fr', hA', hE', hj⟩
    obtain ⟨vs, hg, hI⟩ := jenv_some hj
    obtain ⟨hA2, hE2⟩ := join_agree hA' hE' hg
    have hbody := jall_fits hround vs (fits_of_japp hI) w' hI
    refine Code.wp_mono ?_ (ih x _ w' _ a' hA2 hbody)
    intro e a'' w'' hq
    cases e with
    | normal =>
      obtain ⟨fr'', hA3, hE3, h1, h2⟩ := hq
      refine ⟨⟨fr'', hA3, (hE2.trans hE3).mono (by simp), h1⟩, ?_⟩
      rw [getL_map hA' hg]
      obtain ⟨us, hg3, _⟩ := jenv_some h1
      rw [getL_map hA3 hg3]
      simpa [jenvN, hg3] using h2
    | exit id => exact (Beh.from hq hE2).mono (by simp [writes])
    | ret => exact (Beh.from hq hE2).mono (by simp [writes])
    | panic c => exact hq
    | goto l => exact hq
    | outgrown => exact hq
  | exit id => intro an fr w k a hA h; exact wp_exit ⟨fr, hA, ExtE.refl _ _, h⟩
  | ret => intro an fr w k a hA h; exact wp_ret ⟨fr, hA, ExtE.refl _ _, h⟩
  | rangeFunc f p s b _ _ => intro an fr w k a hA h; simp only [vc] at h
  | scope b _ => intro an fr w k a hA h; simp only [vc] at h
  | label l => intro an fr w k a hA h; simp only [vc] at h
  | goto l => intro an fr w k a hA h; simp only [vc] at h
  | refuse s => intro an fr w k a hA h; simp only [vc] at h
end

/-! ### Functions -/
def argE : Nat → List Value → Env
  | _, [] => []
  | i, v :: r => (i, some v) :: argE (i + 1) r
def resL (tt : List TI) (fr : Env) (w : World) : List ResultVar → (List Value → Prop) → Prop
  | [], K => K []
  | .tmp t :: r, K => withV (look fr t) fun v => resL tt fr w r fun vs => K (v :: vs)
  | .cell t ty :: r, K => withV (look fr t) fun v => match v with
    | .pointer a => derefP a fun ad => loadVC tt ty ad w fun v => resL tt fr w r fun vs => K (v :: vs)
    | _ => False
def tupV (vs : List Value) : Value := match vs with
  | [v] => v
  | vs => .tuple ⟨vs⟩
def resVC (tt : List TI) (rs : List ResultVar) (R : Value → World → Prop) (fr : Env) (w : World) : Prop := resL tt fr w rs fun vs => R (tupV vs) w
def noX : Nat → Env → World → Prop := fun _ _ _ => False
/-- The condition of a function. -/
def fnVC (chk : Bool) (P : Program) (tt : List TI) (fns : List Nat) (n : Nat) (rs : List ResultVar) (c : Code) (an : Ann) (args : List Value) (w : World) (pn : Pn) (R : Value → World → Prop) : Prop :=
  vc chk P tt fns n c an (argE 0 args) w ⟨resVC tt rs R, noX, resVC tt rs R, pn⟩

section
variable {P : Program} {tt : List TI} {fns : List Nat}

def resR (tmps : Array Value) : ResultVar → Sem Value
  | .tmp t => pure (tmps.getD t undef)
  | .cell b t => do loadVar t (← asAddr (tmps.getD b undef))
theorem results_resR (fn : Func) (tmps : Array Value) : results fn tmps = (do let vs ← fn.results.mapM (resR tmps); pure (if h : vs.size = 1 then vs[0] else .tuple vs)) := by
  unfold results
  have e : (fun (x : ResultVar) => match x with
    | .tmp t => pure (tmps.getD t undef)
    | .cell a t => do loadVar t (← asAddr (tmps.getD a undef))) = resR tmps := by
    funext x; cases x <;> rfl
  rw [← e]
  rfl
theorem resL_run (T : TOk P tt) {n : Nat} {fr : Env} {a : Act} (hA : Agree n fr a) {w : World} : ∀ {rs : List ResultVar} {K : List Value → Prop}, resL tt fr w rs K →
    ∃ vs, (rs.mapM (resR a.tmps)).run P w = .ok vs w ∧ K vs
  | [], K, h => ⟨[], rfl, h⟩
  | .tmp t :: r, K, h => by
    obtain ⟨v, hv, h⟩ := withV_some h
    obtain ⟨vs, h1, h2⟩ := resL_run T hA h
    refine ⟨v :: vs, ?_, h2⟩
    rw [List.mapM_cons]
    simp only [resR, Sem.run_bind, Sem.run_pure, Result.andThen_ok, hA.at_ t v hv]
    rw [h1]
    rfl
  | .cell b t :: r, K, h => by
    obtain ⟨v, hv, h⟩ := withV_some h
    cases v <;> simp only at h
    obtain ⟨ad, rfl, h⟩ := derefP_some h
    obtain ⟨u, h1, h2, _⟩ := loadVC_sound (P := P) T h
    obtain ⟨vs, h3, h4⟩ := resL_run T hA h2
    refine ⟨u :: vs, ?_, h4⟩
    rw [List.mapM_cons]
    have h1' : (loadVar t ad).run P w = .ok u w := by simpa [Instr.loadAt, Instr.sureAddr] using h1
    have e : (asAddr (a.tmps.getD b undef)).run P w = .ok ad w := by rw [hA.at_ b _ hv]; rfl
    have e2 : (resR a.tmps (.cell b t)).run P w = .ok u w := by simp only [resR, Sem.run_bind, e, Result.andThen_ok, h1']
    simp only [Sem.run_bind, e2, Result.andThen_ok, h3]
    rfl

theorem res_run (T : TOk P tt) {n : Nat} {fr : Env} {a : Act} (hA : Agree n fr a) {w : World} {fn : Func} {rs : List ResultVar} (hrs : fn.results.toList = rs) {R : Value → World → Prop} (h : resVC tt rs R fr w) :
    ∃ v, (results fn a.tmps).run P w = .ok v w ∧ R v w := by
  obtain ⟨vs, h1, h2⟩ := resL_run (P := P) T hA h
  refine ⟨_, ?_, h2⟩
  rw [results_resR, Array.mapM_eq_mapM_toList, hrs]
  simp only [Sem.run_bind, Sem.run_map, h1, Result.andThen_ok]
  rcases vs with _ | ⟨v, _ | ⟨u, r⟩⟩ <;> rfl

/-- **The condition of a function gives its call.** -/
theorem fn_sound (T : TOk P tt) (F : FOk P fns) (hm : P.follows .mixedOrders = true) {k : FuncId} {fn : Func} {c : Code} {n : Nat} {rs : List ResultVar} {an : Ann} {args : List Value} {w : World} {pn : Pn} {R : Value → World → Prop}
    (hf : P.funcs[k]? = some fn) (hb : fn.body = some c) (hn : fn.ntmps = n) (hrs : fn.results.toList = rs) (hlen : Nat.ble args.length n = true) (h : fnVC true P tt fns n rs c an args w pn R) :
    Calls P k ⟨args⟩ w fun e w' => match e with
      | .returned v => R v w'
      | .panicked ch => ∃ p, pn = some p ∧ p ch w'
      | .outgrown => False := by
  have hlen' : args.length ≤ n := Nat.le_of_ble_eq_true hlen
  refine calls_of_wp hf hb (Code.wp_mono ?_ (vc_sound T F hm c an (argE 0 args) w _ _ ?_ h))
  · intro e a w' hq
    have fin : Beh n (writes c) (argE 0 args) (resVC tt rs R) a w' → a.defers = [] ∧ ∃ v, (results fn a.tmps).run P w' = .ok v w' ∧ R v w' := by
      rintro ⟨fr', hA, _, h'⟩
      exact ⟨hA.defers, res_run T hA hrs h'⟩
    cases e with
    | normal => exact fin hq
    | ret => exact fin hq
    | exit id => obtain ⟨_, _, _, h'⟩ := hq; exact h'.elim
    | goto l => exact hq.elim
    | panic ch => exact hq
    | outgrown => exact hq.elim
  · have key : ∀ (l : List Value) (i t : Nat) (v : Value), look (argE i l) t = some v → i ≤ t ∧ l[t - i]? = some v := by
      intro l
      induction l with
      | nil => intro i t v h; simp [argE, look] at h
      | cons u r ih =>
        intro i t v h
        simp only [argE, look_cons] at h
        by_cases e : i = t
        · simp only [e, if_true] at h
          subst e
          simp [h]
        · simp only [e, if_false] at h
          obtain ⟨h1, h2⟩ := ih _ _ _ h
          refine ⟨by omega, ?_⟩
          rw [show t - i = (t - (i + 1)) + 1 by omega]
          simpa using h2
    refine ⟨by simp [hn]; omega, rfl, fun t v ht => ?_⟩
    obtain ⟨_, h2⟩ := key args 0 t v ht
    have h2' : args[t]? = some v := by simpa using h2
    obtain ⟨hlt, hv⟩ := List.getElem?_eq_some_iff.1 h2'
    simp [Array.getElem?_append, hlt, hv]
end
end Go.Vc
/- Two helps for printed conditions. -/
set_option linter.unusedVariables false
namespace Go.Vc
open Go Go.RowKit

def bs (l : List UInt8) : ByteArray := ⟨l.toArray⟩
@[simp] theorem derefP_of_some {a : Addr} {K : Addr → Prop} : derefP (some a) K = K a := rfl

theorem fn_calls {P : Program} {tt : List TI} {fns : List Nat} (T : TOk P tt) (F : FOk P fns) (hm : P.follows .mixedOrders = true) {k : FuncId} {fn : Func} {c : Code} {n : Nat} {rs : List ResultVar} {an : Ann} {args : List Value} {w : World} {R : Value → World → Prop}
    (hf : P.funcs[k]? = some fn) (hb : fn.body = some c) (hn : fn.ntmps = n) (hrs : fn.results.toList = rs) (hlen : Nat.ble args.length n = true) (h : fnVC true P tt fns n rs c an args w none R) :
    Calls P k ⟨args⟩ w fun e w' => ∃ v, e = .returned v ∧ R v w' := by
  refine (fn_sound T F hm hf hb hn hrs hlen h).mono fun e w' he => ?_
  cases e with
  | returned v => exact ⟨v, rfl, he⟩
  | panicked c => obtain ⟨p, hp, _⟩ := he; cases hp
  | outgrown => exact he.elim
end Go.Vc
