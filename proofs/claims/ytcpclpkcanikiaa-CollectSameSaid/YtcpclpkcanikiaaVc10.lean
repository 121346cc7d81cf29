/- The condition of a region that draws its order is sound. -/
import Derived.Test.YtcpclpkcanikiaaVc9
set_option linter.unusedVariables false
namespace Go.Vc
open Go Go.RowKit

/-! ### Regions that draw their order -/
/-- The worlds that a region that draws its order may pass: nothing has turned below the old size, or below a block that the prover names. -/
def cls (w1 : World) (B : Option Nat) (w : World) : Prop := match B with
  | none => Below w1.heap.size w1 w
  | some b => Below b w1 w
def inB (B : Option Nat) (ad : Addr) (Q : Prop) : Prop := match B with
  | none => Q
  | some b => ad.block < b ∧ Q
theorem cls_refl (w : World) (B : Option Nat) : cls w B w := by
  cases B
  · exact Below.refl _ _
  · exact Below.refl _ _
def quietVC (tt : List TI) (fr : Env) (o : Oper) (B : Option Nat) (w : World) (K : Value → Prop) : Prop := match o.op with
  | .load t x => withV (ev fr x) fun v => match v with
    | .pointer a => derefP a fun ad => inB B ad (loadVC tt t ad w K)
    | _ => False
  | _ => pureVC tt fr o K
def schedB (ops : Array Oper) (m : Nat) : List (Nat × Bool) → Array Bool → Bool
  | [], listed => Region.seqB .any ops (ops.size - m) m listed
  | (i, true) :: r, listed => Nat.blt i m && ((Region.ready .any ops listed).contains i && (Region.free .any ops listed i && schedB ops m r (listed.setIfInBounds i true)))
  | (i, false) :: r, listed => Nat.blt i m && (Region.ready .any ops listed == [i] && schedB ops m r (listed.setIfInBounds i true))
def drawB (ops : Array Oper) (m : Nat) (sched : List (Nat × Bool)) : Bool :=
  Region.noSelect ops && (Nat.beq (m - sched.length) 0 && (Nat.beq (sched.length - m) 0 && ((Nat.beq m ops.size || (Nat.blt m ops.size && (Region.sinkB .any ops m && Region.chainB .any ops m))) && schedB ops m sched (Array.replicate ops.size false))))
def drawVC (P : Program) (tt : List TI) (fns : List Nat) (n : Nat) (ops : List Oper) (m : Nat) (pn : Pn) (N : Env → World → Prop) (B : Option Nat) (w1 : World) : List (Nat × Bool) → Env → World → Prop
  | [], fr, w => vcOps P tt fns n ops pn N (ops.drop m) fr w
  | (i, q) :: r, fr, w => match ops[i]? with
    | none => False
    | some o => match dOk n o.dst with
      | false => False
      | true => guardVC ops o fr (fun fr => match q with
          | true => quietVC tt fr o B w1 fun v => drawVC P tt fns n ops m pn N B w1 r (putE o.dst (some v) fr) w
          | false => opVC P tt fns fr o w pn fun v w' => cls w1 B w' ∧ drawVC P tt fns n ops m pn N B w1 r (putE o.dst (some v) fr) w') fun fr =>
          drawVC P tt fns n ops m pn N B w1 r (putE o.dst (some undef) fr) w

section
variable {P : Program} {tt : List TI} {fns : List Nat}

/-- Head operations in whatever order, each leaving a world of the class; then 'L'. -/
def wpT (P : Program) (ops : Array Oper) (Q : Exit → Act → World → Prop) (S : World → Prop) (m : Nat) (L : Array Bool → Act → World → Prop) : Nat → Array Bool → Act → World → Prop
  | 0, listed, a, w => L listed a w
  | f + 1, listed, a, w => Region.ready .any ops listed ≠ [] ∧ ∀ i ∈ Region.ready .any ops listed, i < m ∧ wpOp P ops Q i (fun a' w' => S w' ∧ wpT P ops Q S m L f (listed.setIfInBounds i true) a' w') a w

theorem wpAny_of_T {ops : Array Oper} {Q : Exit → Act → World → Prop} {S : World → Prop} {m g : Nat} {L : Array Bool → Act → World → Prop} (hL : ∀ listed a w, L listed a w → wpAny P .any ops Q g listed a w) :
    ∀ (f : Nat) (listed : Array Bool) (a : Act) (w : World), wpT P ops Q S m L f listed a w → wpAny P .any ops Q (f + g) listed a w
  | 0, listed, a, w, h => by rw [Nat.zero_add]; exact hL _ _ _ h
  | f + 1, listed, a, w, h => by
    rw [show f + 1 + g = (f + g) + 1 by omega]
    exact ⟨fun h0 => absurd h0 h.1, fun i hi => wpOp_mono (fun a' w' h' => wpAny_of_T hL f _ a' w' h'.2) (h.2 i hi).2⟩

/-- While a head operation has not come up, none of the tail's may. -/
def HeadFirst (ops : Array Oper) (m : Nat) (listed : Array Bool) : Prop := ∀ i, i < m → listed.getD i true = false → ∀ t ∈ Region.ready .any ops listed, t < m

theorem wpT_first {ops : Array Oper} {Q : Exit → Act → World → Prop} {S : World → Prop} {m : Nat} {L : Array Bool → Act → World → Prop} {i : Nat} {oi : Oper} {v : Value} (hi : ops[i]? = some oi)
    (hsel : ∀ (j : Nat) (o : Oper) cs b, ops[j]? = some o → o.op ≠ .select cs b) (hQ : ∀ c a w, Q (.panic c) (a.put oi.dst v) w → Q (.panic c) a w) (him : i < m)
    (hdone : ∀ listed a w, L listed a w → ∀ j ∈ Region.ready .any ops listed, m ≤ j) (G : Array Bool → Prop) (hG : ∀ listed j, G listed → j ∈ Region.ready .any ops listed → j < m → G (listed.setIfInBounds j true))
    (hF : ∀ listed, G listed → HeadFirst ops m listed) :
    ∀ (f : Nat) (listed : Array Bool) (a : Act) (w : World), G listed →
      (∀ j oj, ops[j]? = some oj → j ≠ i → listed.getD j true = false → (∀ e ∈ oj.after, Region.binds .any e = true → e.on ≠ i) → oi.apart ops oj = true) →
      i ∈ Region.ready .any ops listed → YieldsIf P ops S oi v a → S w →
      wpT P ops Q S m L f (listed.setIfInBounds i true) (a.put oi.dst v) w → wpT P ops Q S m L (f + 1) listed a w := by
  intro f
  induction f with
  | zero =>
    intro listed a w hg hfree hr hy hS H
    refine ⟨fun h => (by rw [h] at hr; cases hr), fun j hj => ?_⟩
    have hjm : j < m := hF listed hg i him (mem_ready.1 hr).1 j hj
    refine ⟨hjm, ?_⟩
    by_cases hji : j = i
    · subst hji; exact hy.wpOp hi hS ⟨hS, H⟩
    · have := hdone _ _ _ H j (ready_mono hj hji)
      omega
  | succ f ih =>
    intro listed a w hg hfree hr hy hS H
    refine ⟨fun h => (by rw [h] at hr; cases hr), fun j hj => ?_⟩
    have hjm : j < m := hF listed hg i him (mem_ready.1 hr).1 j hj
    refine ⟨hjm, ?_⟩
    by_cases hji : j = i
    · subst hji; exact hy.wpOp hi hS ⟨hS, H⟩
    · have h1 := (H.2 j (ready_mono hj hji)).2
      obtain ⟨hjun, oj, hoj, hall⟩ := mem_ready.1 hj
      have hnot : ∀ e ∈ oj.after, Region.binds .any e = true → e.on ≠ i := fun e he hb heq => by
        have h1 := hall e he hb
        have h0 := (mem_ready.1 hr).1
        rw [heq] at h1
        rcases Nat.lt_or_ge i listed.size with h' | h'
        · simp [h'] at h0 h1; rw [h0] at h1; cases h1
        · simp [Array.getElem?_eq_none h'] at h1
      have h2 := wpOp_putIf hoj (hfree j oj hoj hji hjun hnot) (fun cs b => hsel i oi cs b hi) (fun cs b => hsel j oj cs b hoj) hQ hy h1
      have hfree' : ∀ k ok, ops[k]? = some ok → k ≠ i → (listed.setIfInBounds j true).getD k true = false →
          (∀ e ∈ ok.after, Region.binds .any e = true → e.on ≠ i) → oi.apart ops ok = true := fun k ok hk hki hun hno => by
        refine hfree k ok hk hki ?_ hno
        by_cases hjk : j = k
        · subst hjk; exact hjun
        · rw [getD_set_ne true hjk] at hun; exact hun
      refine wpOp_mono (fun a' w' h3 => ⟨h3.2.1, ih (listed.setIfInBounds j true) a' w' (hG _ _ hg hj hjm) hfree' (ready_mono hr (Ne.symm hji)) h3.1 h3.2.1 ?_⟩) h2
      rw [Array.setIfInBounds_comm _ _ hji]
      exact h3.2.2

theorem quiet_sound (T : TOk P tt) {n : Nat} {fr : Env} {a : Act} (hA : Agree n fr a) {o : Oper} {w : World} {K : Value → Prop} {B : Option Nat} (h : quietVC tt fr o B w K) :
    ∃ v, (∀ w', cls w B w' → (execOp a.eval o).run P w' = .ok (.value v) w') ∧ K v := by
  unfold quietVC at h
  split at h
  · rename_i t x ho
    obtain ⟨v, hv, h⟩ := withV_some h
    cases v <;> simp only at h
    obtain ⟨ad, rfl, h⟩ := derefP_some h
    have hB : (∀ b, B = some b → ad.block < b) ∧ loadVC tt t ad w K := by
      cases B with
      | none => exact ⟨fun _ h => (by cases h), h⟩
      | some b => exact ⟨fun _ e => (by cases e; exact h.1), h.2⟩
    obtain ⟨u, h1, h2, h3⟩ := loadVC_sound (P := P) T hB.2
    refine ⟨u, fun w' hb => ?_, h2⟩
    have := h3 w' (fun p u hp hu => by
      cases B with
      | none =>
        have hlt := block_lt_of_cell hu
        rw [Below.cell hb hlt]; exact hu
      | some b =>
        rw [Below.cell hb (p := p) (by rw [hp]; exact hB.1 b rfl)]; exact hu)
    simp [execOp, ho, hA.ev hv, this]
  · obtain ⟨v, h1, h2⟩ := pure_sound (P := P) T hA h
    exact ⟨v, fun w' _ => h1 w', h2⟩

theorem head_inv {ops : Array Oper} {m : Nat} (h : (Nat.beq m ops.size || (Nat.blt m ops.size && (Region.sinkB .any ops m && Region.chainB .any ops m))) = true) :
    ∃ G : Array Bool → Prop, G (Array.replicate ops.size false) ∧ (∀ listed j, G listed → j ∈ Region.ready .any ops listed → j < m → G (listed.setIfInBounds j true)) ∧ (∀ listed, G listed → HeadFirst ops m listed) := by
  simp only [Bool.or_eq_true, Bool.and_eq_true] at h
  rcases h with h | ⟨h0, h1, h2⟩
  · have hm := Nat.eq_of_beq_eq_true h
    refine ⟨fun _ => True, trivial, fun _ _ _ _ _ => trivial, fun listed _ i _ _ t ht => ?_⟩
    obtain ⟨_, o, ho, _⟩ := mem_ready.1 ht
    rw [hm]
    exact (Array.getElem?_eq_some_iff.1 ho).1
  · have hlt : m < ops.size := Nat.lt_of_succ_le (Nat.le_of_ble_eq_true h0)
    refine ⟨HeadInv .any ops m, ⟨by simp, fun j oj _ hl => ?_, fun t ht ht' => ?_⟩, fun listed j hg hj hjm => hg.set hj hjm, fun listed hg i hi hun t ht => ?_⟩
    · rw [getD_replicate_false] at hl; cases hl
    · simp [ht']
    · rcases Nat.lt_or_ge t m with h | h
      · exact h
      · exact absurd ht (tail_waits h1 h2 hlt hg _ i rfl hi hun t h)

theorem mem_dsts {ops : List Oper} {i : Nat} {o : Oper} (h : ops[i]? = some o) {t : Nat} (ht : t ∈ o.dst.toList) : t ∈ dstsL ops :=
  List.mem_flatMap.2 ⟨o, List.mem_of_getElem? h, ht⟩

theorem sched_sound (T : TOk P tt) (F : FOk P fns) {n : Nat} {ops : List Oper} {m : Nat} {pn : Pn} {N : Env → World → Prop} {w1 : World} {B : Option Nat} {Q : Exit → Act → World → Prop} (hQ : ∀ a : Act, a.defers = [] → QPn pn Q a)
    (hQp : ∀ d v c a w, Q (.panic c) (a.put d v) w → Q (.panic c) a w) (hsel : Region.noSelect ops.toArray = true)
    {G : Array Bool → Prop} (hG : ∀ listed j, G listed → j ∈ Region.ready .any ops.toArray listed → j < m → G (listed.setIfInBounds j true)) (hF : ∀ listed, G listed → HeadFirst ops.toArray m listed)
    {fr0 : Env} (hN : ∀ a w, Beh n (dstsL ops) fr0 N a w → Q .normal a w) (hmle : m ≤ ops.length) :
    ∀ (sched : List (Nat × Bool)) (listed : Array Bool) (fr : Env) (a : Act) (w : World), G listed → schedB ops.toArray m sched listed = true → Agree n fr a → ExtE (dstsL ops) fr0 fr → cls w1 B w →
      drawVC P tt fns n ops m pn N B w1 sched fr w →
      wpT P ops.toArray Q (cls w1 B) m (fun listed a w => wpAny P .any ops.toArray Q (ops.length - m) listed a w ∧ ∀ j ∈ Region.ready .any ops.toArray listed, m ≤ j) sched.length listed a w
  | [], listed, fr, a, w, _, hB, hA, hE, _, h => by
    have hB' : Region.seqB .any ops.toArray (ops.length - m) m listed = true := by simpa [schedB] using hB
    refine ⟨?_, ?_⟩
    · have hl : (ops.drop m).length = ops.length - m := by simp
      have := wpAny_of_seq (P := P) (md := .any) (ops := ops.toArray) (Q' := Q) (ops.drop m) m listed a w (fun j => by simp [List.getElem?_drop]) (by rw [hl]; exact hB')
        (vcOps_sound T F hQ (W0 := dstsL ops) (fr0 := fr0) (fun a w hb => hN a w ?_) hA hE h)
      · rw [hl] at this; exact this
      · obtain ⟨fr', h1, h2, h3⟩ := hb
        refine ⟨fr', h1, h2.mono fun t ht => ?_, h3⟩
        rcases List.mem_append.1 ht with ht | ht
        · exact ht
        · obtain ⟨o, ho, ht⟩ := List.mem_flatMap.1 ht
          exact List.mem_flatMap.2 ⟨o, List.mem_of_mem_drop ho, ht⟩
    · intro j hj
      cases hg : ops.length - m with
      | zero => rw [hg] at hB'; simp only [Region.seqB, List.isEmpty_iff] at hB'; rw [hB'] at hj; cases hj
      | succ g =>
        rw [hg] at hB'
        simp only [Region.seqB, Bool.and_eq_true, decide_eq_true_eq] at hB'
        rw [hB'.1] at hj
        simp at hj
        omega
  | (i, q) :: r, listed, fr, a, w, hg, hB, hA, hE, hS, h => by
    unfold drawVC at h
    cases ho : ops[i]? <;> simp only [ho] at h
    rename_i o
    have ho' : ops.toArray[i]? = some o := by simpa using ho
    cases hd : dOk n o.dst <;> simp only [hd] at h
    obtain ⟨fr', hA', hE', h⟩ := guard_use hA h
    have hE2 : ExtE (dstsL ops) fr0 fr' := (hE.trans (hE' [])).mono (by simp)
    have step : ∀ v, ExtE (dstsL ops) fr0 (putE o.dst v fr') := fun v => (hE2.trans (ExtE.put o.dst v fr')).mono fun t ht => by
      rcases List.mem_append.1 ht with ht | ht
      · exact ht
      · exact mem_dsts ho ht
    cases q with
    | true =>
      simp only [schedB, Bool.and_eq_true] at hB
      obtain ⟨him, hr, hfree, hB⟩ := hB
      have him' : i < m := by
        have := Nat.le_of_ble_eq_true him
        omega
      have hr' : i ∈ Region.ready .any ops.toArray listed := by simpa using hr
      have take : ∀ v, YieldsIf P ops.toArray (cls w1 B) o v a →
          wpT P ops.toArray Q (cls w1 B) m (fun listed a w => wpAny P .any ops.toArray Q (ops.length - m) listed a w ∧ ∀ j ∈ Region.ready .any ops.toArray listed, m ≤ j) r.length (listed.setIfInBounds i true) (a.put o.dst v) w →
          wpT P ops.toArray Q (cls w1 B) m (fun listed a w => wpAny P .any ops.toArray Q (ops.length - m) listed a w ∧ ∀ j ∈ Region.ready .any ops.toArray listed, m ≤ j) (r.length + 1) listed a w := fun v hy H =>
        wpT_first ho' (Region.noSelect_spec hsel) (hQp _ _) him' (fun _ _ _ h => h.2) G hG hF r.length listed a w hg (Region.free_spec ho' hfree) hr' hy hS H
      rcases h with ⟨hw, h⟩ | ⟨hw, h⟩
      · obtain ⟨v, h1, h2⟩ := quiet_sound (P := P) T hA' h
        exact take v (.inl ⟨hw, h1⟩) (sched_sound T F hQ hQp hsel hG hF hN hmle r _ _ _ w (hG _ _ hg hr' him') hB (hA'.put hd v) (step _) hS h2)
      · exact take undef (.inr ⟨hw, rfl⟩) (sched_sound T F hQ hQp hsel hG hF hN hmle r _ _ _ w (hG _ _ hg hr' him') hB (hA'.put hd undef) (step _) hS h)
    | false =>
      simp only [schedB, Bool.and_eq_true, beq_iff_eq] at hB
      obtain ⟨him, hr, hB⟩ := hB
      have him' : i < m := by
        have := Nat.le_of_ble_eq_true him
        omega
      have hr' : i ∈ Region.ready .any ops.toArray listed := by simp [hr]
      show Region.ready .any ops.toArray listed ≠ [] ∧ _
      refine ⟨by simp [hr], fun j hj => ?_⟩
      rw [hr] at hj
      obtain rfl : j = i := by simpa using hj
      refine ⟨him', ?_⟩
      unfold wpOp
      simp only [ho']
      rcases h with ⟨hw, h⟩ | ⟨hw, h⟩
      · rw [if_pos hw]
        refine .inl (Oper.wp_mono ?_ (op_sound T F hA' h (hQ a hA.defers)))
        rintro a' w' ⟨v, rfl, hb, hK⟩
        exact ⟨hb, sched_sound T F hQ hQp hsel hG hF hN hmle r _ _ _ w' (hG _ _ hg hr' him') hB (hA'.put hd v) (step _) hb hK⟩
      · rw [if_neg (by simp [hw])]
        exact ⟨hS, sched_sound T F hQ hQp hsel hG hF hN hmle r _ _ _ w (hG _ _ hg hr' him') hB (hA'.put hd undef) (step _) hS h⟩

theorem draw_sound (T : TOk P tt) (F : FOk P fns) (hm : P.follows .mixedOrders = true) {n : Nat} {ops : List Oper} {m : Nat} {sched : List (Nat × Bool)} {pn : Pn} {N : Env → World → Prop} {B : Option Nat} {w : World} {Q : Exit → Act → World → Prop} (hQ : ∀ a : Act, a.defers = [] → QPn pn Q a)
    (hQp : ∀ d v c a w, Q (.panic c) (a.put d v) w → Q (.panic c) a w) {fr : Env} {a : Act} {id : Nat} (hN : ∀ a w, Beh n (dstsL ops) fr N a w → Q .normal a w) (hA : Agree n fr a) (hB : drawB ops.toArray m sched = true)
    (h : drawVC P tt fns n ops m pn N B w.drew sched fr w.drew) : (Code.region id ops.toArray true).wp P Q a w := by
  simp only [drawB, Bool.and_eq_true] at hB
  obtain ⟨hsel, h1, h2, h3, h4⟩ := hB
  have hlen : sched.length = m := by
    have := Nat.eq_of_beq_eq_true h1
    have := Nat.eq_of_beq_eq_true h2
    omega
  obtain ⟨G, hG0, hG, hF⟩ := head_inv h3
  have hmle : m ≤ ops.length := by
    simp only [Bool.or_eq_true, Bool.and_eq_true] at h3
    rcases h3 with h3 | h3
    · have := Nat.eq_of_beq_eq_true h3; simp at this; omega
    · have := Nat.le_of_ble_eq_true h3.1; simp at this; omega
  refine wp_region_any hm ?_
  have := wpAny_of_T (P := P) (ops := ops.toArray) (Q := Q) (S := cls w.drew B) (m := m) (g := ops.length - m) (fun _ _ _ h => h.1) sched.length (Array.replicate ops.toArray.size false) a w.drew
    (sched_sound T F hQ hQp hsel hG hF hN hmle sched _ fr a w.drew hG0 h4 hA (ExtE.refl _ _) (cls_refl _ _) h)
  rw [hlen, show m + (ops.length - m) = ops.toArray.size by simp; omega] at this
  exact this
end
end Go.Vc
