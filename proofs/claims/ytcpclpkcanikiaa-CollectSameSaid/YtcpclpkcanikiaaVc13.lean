/- The condition of a region that draws its order, where more than one operation with effects may come next: each way is asked. -/
import Derived.Test.YtcpclpkcanikiaaVc10
set_option linter.unusedVariables false
namespace Go.Vc
open Go Go.RowKit

/-- A tree of orders: a quiet operation taken first, or all that may come next, each with its own rest. -/
inductive Sch where
  | fin
  | quiet (i : Nat) (r : Sch)
  | eff (i : Nat) (r more : Sch)

def cands : Sch → List Nat
  | .eff i _ more => i :: cands more
  | _ => []

def schT (ops : Array Oper) (m : Nat) : Sch → Bool → Nat → Array Bool → Bool
  | .fin, al, f, listed => match al with
    | true => true
    | false => Nat.beq f 0 && Region.seqB .any ops (ops.size - m) m listed
  | .quiet i r, al, f, listed => match al with
    | true => false
    | false => match f with
      | 0 => false
      | f + 1 => Nat.blt i m && ((Region.ready .any ops listed).contains i && (Region.free .any ops listed i && schT ops m r false f (listed.setIfInBounds i true)))
  | .eff i r more, al, f, listed => match f with
    | 0 => false
    | f + 1 => Nat.blt i m && ((al || Region.ready .any ops listed == i :: cands more) && (schT ops m r false f (listed.setIfInBounds i true) && schT ops m more true (f + 1) listed))

def drawT (ops : Array Oper) (m : Nat) (t : Sch) : Bool :=
  Region.noSelect ops && (((Nat.beq m ops.size || (Nat.blt m ops.size && (Region.sinkB .any ops m && Region.chainB .any ops m))) && schT ops m t false m (Array.replicate ops.size false)))

def treeVC (P : Program) (tt : List TI) (fns : List Nat) (n : Nat) (ops : List Oper) (m : Nat) (pn : Pn) (N : Env → World → Prop) (B : Option Nat) (w1 : World) : Sch → Bool → Env → World → Prop
  | .fin, al, fr, w => match al with
    | true => True
    | false => vcOps P tt fns n ops pn N (ops.drop m) fr w
  | .quiet i r, al, fr, w => match ops[i]? with
    | none => False
    | some o => match dOk n o.dst with
      | false => False
      | true => guardVC ops o fr (fun fr => quietVC tt fr o B w1 fun v => treeVC P tt fns n ops m pn N B w1 r false (putE o.dst (some v) fr) w) fun fr =>
          treeVC P tt fns n ops m pn N B w1 r false (putE o.dst (some undef) fr) w
  | .eff i r more, al, fr, w => (match ops[i]? with
    | none => False
    | some o => match dOk n o.dst with
      | false => False
      | true => guardVC ops o fr (fun fr => opVC P tt fns fr o w pn fun v w' => cls w1 B w' ∧ treeVC P tt fns n ops m pn N B w1 r false (putE o.dst (some v) fr) w') fun fr =>
          treeVC P tt fns n ops m pn N B w1 r false (putE o.dst (some undef) fr) w) ∧ treeVC P tt fns n ops m pn N B w1 more true fr w

section
variable {P : Program} {tt : List TI} {fns : List Nat}

theorem tree_sound (T : TOk P tt) (F : FOk P fns) {n : Nat} {ops : List Oper} {m : Nat} {pn : Pn} {N : Env → World → Prop} {w1 : World} {B : Option Nat} {Q : Exit → Act → World → Prop} (hQ : ∀ a : Act, a.defers = [] → QPn pn Q a)
    (hQp : ∀ d v c a w, Q (.panic c) (a.put d v) w → Q (.panic c) a w) (hsel : Region.noSelect ops.toArray = true)
    {G : Array Bool → Prop} (hG : ∀ listed j, G listed → j ∈ Region.ready .any ops.toArray listed → j < m → G (listed.setIfInBounds j true)) (hF : ∀ listed, G listed → HeadFirst ops.toArray m listed)
    {fr0 : Env} (hN : ∀ a w, Beh n (dstsL ops) fr0 N a w → Q .normal a w) (hmle : m ≤ ops.length) :
    ∀ (t : Sch),
      (∀ (f : Nat) (listed : Array Bool) (fr : Env) (a : Act) (w : World), G listed → schT ops.toArray m t false f listed = true → Agree n fr a → ExtE (dstsL ops) fr0 fr → cls w1 B w →
        treeVC P tt fns n ops m pn N B w1 t false fr w →
        wpT P ops.toArray Q (cls w1 B) m (fun listed a w => wpAny P .any ops.toArray Q (ops.length - m) listed a w ∧ ∀ j ∈ Region.ready .any ops.toArray listed, m ≤ j) f listed a w) ∧
      (∀ (f : Nat) (listed : Array Bool) (fr : Env) (a : Act) (w : World), G listed → schT ops.toArray m t true (f + 1) listed = true → Agree n fr a → ExtE (dstsL ops) fr0 fr → cls w1 B w →
        treeVC P tt fns n ops m pn N B w1 t true fr w → (∀ j ∈ cands t, j ∈ Region.ready .any ops.toArray listed) →
        ∀ j ∈ cands t, j < m ∧ wpOp P ops.toArray Q j (fun a' w' => cls w1 B w' ∧ wpT P ops.toArray Q (cls w1 B) m (fun listed a w => wpAny P .any ops.toArray Q (ops.length - m) listed a w ∧ ∀ j ∈ Region.ready .any ops.toArray listed, m ≤ j) f (listed.setIfInBounds j true) a' w') a w) := by
  intro t
  induction t with
  | fin =>
    refine ⟨?_, fun f listed fr a w _ _ _ _ _ _ _ j hj => by cases hj⟩
    intro f listed fr a w _ hB hA hE _ h
    simp only [schT, Bool.and_eq_true] at hB
    have hf := Nat.eq_of_beq_eq_true hB.1
    subst hf
    have hB' : Region.seqB .any ops.toArray (ops.length - m) m listed = true := by simpa using hB.2
    refine ⟨?_, ?_⟩
    · have hl : (ops.drop m).length = ops.length - m := by simp
      have := wpAny_of_seq (P := P) (md := .any) (ops := ops.toArray) (Q' := Q) (ops.drop m) m listed a w (fun j => by simp [List.getElem?_drop]) (by rw [hl]; exact hB')
        (vcOps_sound T F hQ (W0 := dstsL ops) (fr0 := fr0) (fun a w hb => hN a w ?_) hA hE h)
      · rw [hl] at this; exact this
      · obtain ⟨fr', h1, h2, h3⟩ := hb
        refine ⟨fr', h1, h2.mono fun t ht => ?_, h3⟩
        rcases List.mem_append.1 ht with ht | ht
        · exact ht
        · obtain ⟨o, ho, ht⟩ := List.mem_flatMap.1 ht
          exact List.mem_flatMap.2 ⟨o, List.mem_of_mem_drop ho, ht⟩
    · intro j hj
      cases hg : ops.length - m with
      | zero => rw [hg] at hB'; simp only [Region.seqB, List.isEmpty_iff] at hB'; rw [hB'] at hj; cases hj
      | succ g =>
        rw [hg] at hB'
        simp only [Region.seqB, Bool.and_eq_true, decide_eq_true_eq] at hB'
        rw [hB'.1] at hj
        simp at hj
        omega
  | quiet i r ih =>
    refine ⟨?_, fun f listed fr a w _ _ _ _ _ _ _ j hj => by cases hj⟩
    intro f listed fr a w hg hB hA hE hS h
    cases f with
    | zero => simp [schT] at hB
    | succ f =>
    unfold treeVC at h
    cases ho : ops[i]? <;> simp only [ho] at h
    rename_i o
    have ho' : ops.toArray[i]? = some o := by simpa using ho
    cases hd : dOk n o.dst <;> simp only [hd] at h
    obtain ⟨fr', hA', hE', h⟩ := guard_use hA h
    have hE2 : ExtE (dstsL ops) fr0 fr' := (hE.trans (hE' [])).mono (by simp)
    have step : ∀ v, ExtE (dstsL ops) fr0 (putE o.dst v fr') := fun v => (hE2.trans (ExtE.put o.dst v fr')).mono fun t ht => by
      rcases List.mem_append.1 ht with ht | ht
      · exact ht
      · exact mem_dsts ho ht
    simp only [schT, Bool.and_eq_true] at hB
    obtain ⟨him, hr, hfree, hB⟩ := hB
    have him' : i < m := by
      have := Nat.le_of_ble_eq_true him
      omega
    have hr' : i ∈ Region.ready .any ops.toArray listed := by simpa using hr
    have take : ∀ v, YieldsIf P ops.toArray (cls w1 B) o v a →
        wpT P ops.toArray Q (cls w1 B) m (fun listed a w => wpAny P .any ops.toArray Q (ops.length - m) listed a w ∧ ∀ j ∈ Region.ready .any ops.toArray listed, m ≤ j) f (listed.setIfInBounds i true) (a.put o.dst v) w →
        wpT P ops.toArray Q (cls w1 B) m (fun listed a w => wpAny P .any ops.toArray Q (ops.length - m) listed a w ∧ ∀ j ∈ Region.ready .any ops.toArray listed, m ≤ j) (f + 1) listed a w := fun v hy H =>
      wpT_first ho' (Region.noSelect_spec hsel) (hQp _ _) him' (fun _ _ _ h => h.2) G hG hF f listed a w hg (Region.free_spec ho' hfree) hr' hy hS H
    rcases h with ⟨hw, h⟩ | ⟨hw, h⟩
    · obtain ⟨v, h1, h2⟩ := quiet_sound (P := P) T hA' h
      exact take v (.inl ⟨hw, h1⟩) (ih.1 f _ _ _ w (hG _ _ hg hr' him') hB (hA'.put hd v) (step _) hS h2)
    · exact take undef (.inr ⟨hw, rfl⟩) (ih.1 f _ _ _ w (hG _ _ hg hr' him') hB (hA'.put hd undef) (step _) hS h)
  | eff i r more ihr ihm =>
    have one : ∀ (f : Nat) (listed : Array Bool) (fr : Env) (a : Act) (w : World) (al : Bool), G listed → schT ops.toArray m (.eff i r more) al (f + 1) listed = true → Agree n fr a → ExtE (dstsL ops) fr0 fr → cls w1 B w →
        treeVC P tt fns n ops m pn N B w1 (.eff i r more) al fr w → (∀ j ∈ i :: cands more, j ∈ Region.ready .any ops.toArray listed) →
        ∀ j ∈ i :: cands more, j < m ∧ wpOp P ops.toArray Q j (fun a' w' => cls w1 B w' ∧ wpT P ops.toArray Q (cls w1 B) m (fun listed a w => wpAny P .any ops.toArray Q (ops.length - m) listed a w ∧ ∀ j ∈ Region.ready .any ops.toArray listed, m ≤ j) f (listed.setIfInBounds j true) a' w') a w := by
      intro f listed fr a w al hg hB hA hE hS h hrd j hj
      simp only [schT, Bool.and_eq_true] at hB
      obtain ⟨him, _, hBr, hBm⟩ := hB
      unfold treeVC at h
      obtain ⟨h, hmore⟩ := h
      rcases List.mem_cons.1 hj with rfl | hj
      · cases ho : ops[j]? <;> simp only [ho] at h
        rename_i o
        have ho' : ops.toArray[j]? = some o := by simpa using ho
        cases hd : dOk n o.dst <;> simp only [hd] at h
        obtain ⟨fr', hA', hE', h⟩ := guard_use hA h
        have hE2 : ExtE (dstsL ops) fr0 fr' := (hE.trans (hE' [])).mono (by simp)
        have step : ∀ v, ExtE (dstsL ops) fr0 (putE o.dst v fr') := fun v => (hE2.trans (ExtE.put o.dst v fr')).mono fun t ht => by
          rcases List.mem_append.1 ht with ht | ht
          · exact ht
          · exact mem_dsts ho ht
        have him' : j < m := by
          have := Nat.le_of_ble_eq_true him
          omega
        have hr' := hrd j (by simp)
        refine ⟨him', ?_⟩
        unfold wpOp
        simp only [ho']
        rcases h with ⟨hw, h⟩ | ⟨hw, h⟩
        · rw [if_pos hw]
          refine .inl (Oper.wp_mono ?_ (op_sound T F hA' h (hQ a hA.defers)))
          rintro a' w' ⟨v, rfl, hb, hK⟩
          exact ⟨hb, ihr.1 f _ _ _ w' (hG _ _ hg hr' him') hBr (hA'.put hd v) (step _) hb hK⟩
        · rw [if_neg (by simp [hw])]
          exact ⟨hS, ihr.1 f _ _ _ w (hG _ _ hg hr' him') hBr (hA'.put hd undef) (step _) hS h⟩
      · exact ihm.2 f listed fr a w hg hBm hA hE hS hmore (fun k hk => hrd k (by simp [hk])) j hj
    refine ⟨?_, fun f listed fr a w hg hB hA hE hS h hrd => one f listed fr a w true hg hB hA hE hS h hrd⟩
    intro f listed fr a w hg hB hA hE hS h
    cases f with
    | zero => simp [schT] at hB
    | succ f =>
      have hrd : Region.ready .any ops.toArray listed = i :: cands more := by
        simp only [schT, Bool.and_eq_true, Bool.false_or, beq_iff_eq] at hB
        exact hB.2.1
      show Region.ready .any ops.toArray listed ≠ [] ∧ _
      refine ⟨by simp [hrd], fun j hj => ?_⟩
      exact one f listed fr a w false hg hB hA hE hS h (fun k hk => by rw [hrd]; exact hk) j (by rw [← hrd]; exact hj)

theorem drawT_sound (T : TOk P tt) (F : FOk P fns) (hm : P.follows .mixedOrders = true) {n : Nat} {ops : List Oper} {m : Nat} {t : Sch} {pn : Pn} {N : Env → World → Prop} {B : Option Nat} {w : World} {Q : Exit → Act → World → Prop} (hQ : ∀ a : Act, a.defers = [] → QPn pn Q a)
    (hQp : ∀ d v c a w, Q (.panic c) (a.put d v) w → Q (.panic c) a w) {fr : Env} {a : Act} {id : Nat} (hN : ∀ a w, Beh n (dstsL ops) fr N a w → Q .normal a w) (hA : Agree n fr a) (hB : drawT ops.toArray m t = true)
    (h : treeVC P tt fns n ops m pn N B w.drew t false fr w.drew) : (Code.region id ops.toArray true).wp P Q a w := by
  simp only [drawT, Bool.and_eq_true] at hB
  obtain ⟨hsel, h3, h4⟩ := hB
  obtain ⟨G, hG0, hG, hF⟩ := head_inv h3
  have hmle : m ≤ ops.length := by
    simp only [Bool.or_eq_true, Bool.and_eq_true] at h3
    rcases h3 with h3 | h3
    · have := Nat.eq_of_beq_eq_true h3; simp at this; omega
    · have := Nat.le_of_ble_eq_true h3.1; simp at this; omega
  refine wp_region_any hm ?_
  have := wpAny_of_T (P := P) (ops := ops.toArray) (Q := Q) (S := cls w.drew B) (m := m) (g := ops.length - m) (fun _ _ _ h => h.1) m (Array.replicate ops.toArray.size false) a w.drew
    ((tree_sound T F hQ hQp hsel hG hF hN hmle t).1 m _ fr a w.drew hG0 h4 hA (ExtE.refl _ _) (cls_refl _ _) h)
  rw [show m + (ops.length - m) = ops.toArray.size by simp; omega] at this
  exact this
end
end Go.Vc
