/- Regions that draw their order, on frames with private variables: sound. -/
import Derived.Test.YtlofbfbcnlgmaaaVd4
set_option linter.unusedVariables false
namespace Go.Vc
open Go Go.RowKit

section
variable {c : Cfg} {g0 : G} {M : Nat → Prop} {n : Nat}

theorem treeG_eff {B : Nat} {ops : List Oper} {m : Nat} {N : St → G → Prop} {MR : Option (Nat → Prop)} {g1 : G} {i : Nat} {r more : Sch} {al : Bool} {st : St} {g : G} {nw : List Nat} (h : treeG c B M n ops m N MR g1 (.eff i r more) al nw st g) :
    (match ops[i]? with
      | none => False
      | some o => match dOk n o.dst with
        | false => False
        | true => guardG ops o st (fun st => effHG c B M MR g1 nw o st g fun nw st g => treeG c B M n ops m N MR g1 r false nw st g) fun st => treeG c B M n ops m N MR g1 r false nw (st.put o.dst undef) g) ∧ treeG c B M n ops m N MR g1 more true nw st g := by
  cases more with
  | fin => exact ⟨h, trivial⟩
  | quiet i r => exact h
  | eff i r more => exact h

theorem treeG_sound (T : TOk c.P c.tt) (F : FOk c.P c.fns) {ops : List Oper} {m : Nat} {N : St → G → Prop} {MR : Option (Nat → Prop)} {g1 : G} (hX : ∀ m, MR = some m → ∀ b, m b → ¬ g1.X b) {Q : Exit → Act → World → Prop}
    (hQp : ∀ d v c a w, Q (.panic c) (a.put d v) w → Q (.panic c) a w) (hsel : Region.noSelect ops.toArray = true)
    {L : Array Bool → Prop} (hG : ∀ listed j, L listed → j ∈ Region.ready .any ops.toArray listed → j < m → L (listed.setIfInBounds j true)) (hF : ∀ listed, L listed → HeadFirst ops.toArray m listed)
    {st0 : St} {g00 : G} (hN : ∀ a w, BehS g0 M n (dstsL ops) (wpL c ops) st0 g00 N a w → Q .normal a w) (hmle : m ≤ ops.length) :
    ∀ (t : Sch),
      (∀ (f : Nat) (listed : Array Bool) (nw : List Nat) (st : St) (g : G) (a : Act) (w : World), L listed → schT ops.toArray m t false f listed = true → OkC g0 M n g1 nw st g a w → ExtSt (dstsL ops) (wpL c ops) st0 st → Le g00 g → clsW MR g1 w →
        treeG c g0.size M n ops m N MR g1 t false nw st g →
        wpT c.P ops.toArray Q (clsW MR g1) m (fun listed a w => wpAny c.P .any ops.toArray Q (ops.length - m) listed a w ∧ ∀ j ∈ Region.ready .any ops.toArray listed, m ≤ j) f listed a w) ∧
      (∀ (f : Nat) (listed : Array Bool) (nw : List Nat) (st : St) (g : G) (a : Act) (w : World), L listed → schT ops.toArray m t true (f + 1) listed = true → OkC g0 M n g1 nw st g a w → ExtSt (dstsL ops) (wpL c ops) st0 st → Le g00 g → clsW MR g1 w →
        treeG c g0.size M n ops m N MR g1 t true nw st g → (∀ j ∈ cands t, j ∈ Region.ready .any ops.toArray listed) →
        ∀ j ∈ cands t, j < m ∧ wpOp c.P ops.toArray Q j (fun a' w' => clsW MR g1 w' ∧ wpT c.P ops.toArray Q (clsW MR g1) m (fun listed a w => wpAny c.P .any ops.toArray Q (ops.length - m) listed a w ∧ ∀ j ∈ Region.ready .any ops.toArray listed, m ≤ j) f (listed.setIfInBounds j true) a' w') a w) := by
  intro t
  induction t with
  | fin =>
    refine ⟨?_, fun f listed nw st g a w _ _ _ _ _ _ _ _ j hj => by cases hj⟩
    intro f listed nw st g a w _ hB hA hE hL _ h
    simp only [schT, Bool.and_eq_true] at hB
    have hf := Nat.eq_of_beq_eq_true hB.1
    subst hf
    have hB' : Region.seqB .any ops.toArray (ops.length - m) m listed = true := by simpa using hB.2
    refine ⟨?_, ?_⟩
    · have hl : (ops.drop m).length = ops.length - m := by simp
      have := wpAny_of_seq (P := c.P) (md := .any) (ops := ops.toArray) (Q' := Q) (ops.drop m) m listed a w (fun j => by simp [List.getElem?_drop]) (by rw [hl]; exact hB')
        (vcOpsG_sound T F (W0 := dstsL ops) (V0 := wpL c ops) (st0 := st0) (g00 := g00) (fun a w hb => hN a w ?_) hA.oks hE hL h)
      · rw [hl] at this; exact this
      · refine hb.mono (fun t ht => ?_) (fun t ht => ?_)
        · rcases List.mem_append.1 ht with ht | ht
          · exact ht
          · obtain ⟨o, ho, ht⟩ := List.mem_flatMap.1 ht
            exact List.mem_flatMap.2 ⟨o, List.mem_of_mem_drop ho, ht⟩
        · rcases List.mem_append.1 ht with ht | ht
          · exact ht
          · obtain ⟨o, ho, ht⟩ := List.mem_flatMap.1 ht
            exact List.mem_flatMap.2 ⟨o, List.mem_of_mem_drop ho, ht⟩
    · intro j hj
      cases hg : ops.length - m with
      | zero => rw [hg] at hB'; simp only [Region.seqB, List.isEmpty_iff] at hB'; rw [hB'] at hj; cases hj
      | succ g =>
        rw [hg] at hB'
        simp only [Region.seqB, Bool.and_eq_true, decide_eq_true_eq] at hB'
        rw [hB'.1] at hj
        simp at hj
        omega
  | quiet i r ih =>
    refine ⟨?_, fun f listed nw st g a w _ _ _ _ _ _ _ _ j hj => by cases hj⟩
    intro f listed nw st g a w hg hB hA hE hL hS h
    cases f with
    | zero => simp [schT] at hB
    | succ f =>
    unfold treeG at h
    cases ho : ops[i]? <;> simp only [ho] at h
    rename_i o
    have ho' : ops.toArray[i]? = some o := by simpa using ho
    cases hd : dOk n o.dst <;> simp only [hd] at h
    obtain ⟨fr', hA', hE', h⟩ := guard_use hA.oks.agree h
    have hok' := hA.withFr hA'
    have hE2 : ExtSt (dstsL ops) (wpL c ops) st0 ⟨fr', st.pe, st.ps, st.dirty⟩ := (hE.trans (ExtSt.withFr hE' [] [])).mono (by simp) (by simp)
    have step : ∀ {st'}, ExtSt o.dst.toList [] ⟨fr', st.pe, st.ps, st.dirty⟩ st' → ExtSt (dstsL ops) (wpL c ops) st0 st' := fun h => (hE2.trans h).mono (fun t ht => by
      rcases List.mem_append.1 ht with ht | ht
      · exact ht
      · exact mem_dsts ho ht) (by simp)
    simp only [schT, Bool.and_eq_true] at hB
    obtain ⟨him, hr, hfree, hB⟩ := hB
    have him' : i < m := by
      have := Nat.le_of_ble_eq_true him
      omega
    have hr' : i ∈ Region.ready .any ops.toArray listed := by simpa using hr
    have take : ∀ v, YieldsIf c.P ops.toArray (clsW MR g1) o v a →
        wpT c.P ops.toArray Q (clsW MR g1) m (fun listed a w => wpAny c.P .any ops.toArray Q (ops.length - m) listed a w ∧ ∀ j ∈ Region.ready .any ops.toArray listed, m ≤ j) f (listed.setIfInBounds i true) (a.put o.dst v) w →
        wpT c.P ops.toArray Q (clsW MR g1) m (fun listed a w => wpAny c.P .any ops.toArray Q (ops.length - m) listed a w ∧ ∀ j ∈ Region.ready .any ops.toArray listed, m ≤ j) (f + 1) listed a w := fun v hy H =>
      wpT_first ho' (Region.noSelect_spec hsel) (hQp _ _) him' (fun _ _ _ h => h.2) L hG hF f listed a w hg (Region.free_spec ho' hfree) hr' hy hS H
    rcases h with ⟨hw, h⟩ | ⟨hw, h⟩
    · obtain ⟨v, st', h1, h2, h3, h4⟩ := quietG_use T hX hok' hd h
      exact take v (.inl ⟨hw, h1⟩) (ih.1 f _ nw st' g _ w (hG _ _ hg hr' him') hB h2 (step h3) hL hS h4)
    · exact take undef (.inr ⟨hw, rfl⟩) (ih.1 f _ nw _ g _ w (hG _ _ hg hr' him') hB (hok'.put hd undef) (step (extSt_put _ _ _ _)) hL hS h)
  | eff i r more ihr ihm =>
    have one : ∀ (f : Nat) (listed : Array Bool) (nw : List Nat) (st : St) (g : G) (a : Act) (w : World) (al : Bool), L listed → schT ops.toArray m (.eff i r more) al (f + 1) listed = true → OkC g0 M n g1 nw st g a w → ExtSt (dstsL ops) (wpL c ops) st0 st → Le g00 g → clsW MR g1 w →
        treeG c g0.size M n ops m N MR g1 (.eff i r more) al nw st g → (∀ j ∈ i :: cands more, j ∈ Region.ready .any ops.toArray listed) →
        ∀ j ∈ i :: cands more, j < m ∧ wpOp c.P ops.toArray Q j (fun a' w' => clsW MR g1 w' ∧ wpT c.P ops.toArray Q (clsW MR g1) m (fun listed a w => wpAny c.P .any ops.toArray Q (ops.length - m) listed a w ∧ ∀ j ∈ Region.ready .any ops.toArray listed, m ≤ j) f (listed.setIfInBounds j true) a' w') a w := by
      intro f listed nw st g a w al hg hB hA hE hL hS h hrd j hj
      simp only [schT, Bool.and_eq_true] at hB
      obtain ⟨him, _, hBr, hBm⟩ := hB
      obtain ⟨h, hmore⟩ := treeG_eff h
      rcases List.mem_cons.1 hj with rfl | hj
      · cases ho : ops[j]? <;> simp only [ho] at h
        rename_i o
        have ho' : ops.toArray[j]? = some o := by simpa using ho
        cases hd : dOk n o.dst <;> simp only [hd] at h
        obtain ⟨fr', hA', hE', h⟩ := guard_use hA.oks.agree h
        have hok' := hA.withFr hA'
        have hE2 : ExtSt (dstsL ops) (wpL c ops) st0 ⟨fr', st.pe, st.ps, st.dirty⟩ := (hE.trans (ExtSt.withFr hE' [] [])).mono (by simp) (by simp)
        have step : ∀ {st'}, ExtSt o.dst.toList (wpO c o) ⟨fr', st.pe, st.ps, st.dirty⟩ st' → ExtSt (dstsL ops) (wpL c ops) st0 st' := fun h => (hE2.trans h).mono (fun t ht => by
          rcases List.mem_append.1 ht with ht | ht
          · exact ht
          · exact mem_dsts ho ht) (fun t ht => by
          rcases List.mem_append.1 ht with ht | ht
          · exact ht
          · exact List.mem_flatMap.2 ⟨o, List.mem_of_getElem? ho, ht⟩)
        have him' : j < m := by
          have := Nat.le_of_ble_eq_true him
          omega
        have hr' := hrd j (by simp)
        refine ⟨him', ?_⟩
        unfold wpOp
        simp only [ho']
        rcases h with ⟨hw, h⟩ | ⟨hw, h⟩
        · rw [if_pos hw]
          refine .inl (Oper.wp_mono ?_ (effHG_use T F hok' hS hd h))
          rintro a' w' ⟨v, nw', st', g', rfl, h1, h2, h3, h4, hK⟩
          exact ⟨h2, ihr.1 f _ nw' st' g' _ w' (hG _ _ hg hr' him') hBr h1 (step h4) (hL.trans h3) h2 hK⟩
        · rw [if_neg (by simp [hw])]
          exact ⟨hS, ihr.1 f _ nw _ g _ w (hG _ _ hg hr' him') hBr (hok'.put hd undef) (step (extSt_put _ _ _ _)) hL hS h⟩
      · exact ihm.2 f listed nw st g a w hg hBm hA hE hL hS hmore (fun k hk => hrd k (by simp [hk])) j hj
    refine ⟨?_, fun f listed nw st g a w hg hB hA hE hL hS h hrd => one f listed nw st g a w true hg hB hA hE hL hS h hrd⟩
    intro f listed nw st g a w hg hB hA hE hL hS h
    cases f with
    | zero => simp [schT] at hB
    | succ f =>
      have hrd : Region.ready .any ops.toArray listed = i :: cands more := by
        simp only [schT, Bool.and_eq_true, Bool.false_or, beq_iff_eq] at hB
        exact hB.2.1
      show Region.ready .any ops.toArray listed ≠ [] ∧ _
      refine ⟨by simp [hrd], fun j hj => ?_⟩
      exact one f listed nw st g a w false hg hB hA hE hL hS h (fun k hk => by rw [hrd]; exact hk) j (by rw [← hrd]; exact hj)

/-- The condition of a region that draws. -/
def drawG (c : Cfg) (B : Nat) (M : Nat → Prop) (n : Nat) (ops : List Oper) (m : Nat) (N : St → G → Prop) (wide : Bool) (t : Sch) (st : St) (g : G) : Prop := ∀ g1, Ex g g1 → match wide with
  | false => treeG c B M n ops m N none g1 t false [] ⟨st.fr, st.pe, st.ps, false⟩ g1
  | true => ∃ MR : Nat → Prop, (∀ b, MR b → ¬ g1.X b) ∧ treeG c B M n ops m N (some MR) g1 t false [] ⟨st.fr, st.pe, st.ps, false⟩ g1

theorem drawG_sound (T : TOk c.P c.tt) (F : FOk c.P c.fns) (hm : c.P.follows .mixedOrders = true) {ops : List Oper} {m : Nat} {t : Sch} {wide : Bool} {N : St → G → Prop} {Q : Exit → Act → World → Prop}
    (hQp : ∀ d v c a w, Q (.panic c) (a.put d v) w → Q (.panic c) a w) {st : St} {g : G} {a : Act} {w : World} {id : Nat} (hN : ∀ a w, BehS g0 M n (dstsL ops) (wpL c ops) st g N a w → Q .normal a w) (hok : OkS g0 M n st g a w) (hB : drawT ops.toArray m t = true)
    (h : drawG c g0.size M n ops m N wide t st g) : (Code.region id ops.toArray true).wp c.P Q a w := by
  simp only [drawT, Bool.and_eq_true] at hB
  obtain ⟨hsel, h3, h4⟩ := hB
  obtain ⟨L, hG0, hG, hF⟩ := head_inv h3
  have hmle : m ≤ ops.length := by
    simp only [Bool.or_eq_true, Bool.and_eq_true] at h3
    rcases h3 with h3 | h3
    · have := Nat.eq_of_beq_eq_true h3; simp at this; omega
    · have := Nat.le_of_ble_eq_true h3.1; simp at this; omega
  obtain ⟨gr, β, rfl, h5, h6, h7, h8⟩ := hok.ex
  refine wp_region_any hm ?_
  -- the world with one answer drawn
  let g1 : G := ⟨gr.w.drew, gr.X, gr.D, gr.hX, gr.hD⟩
  have hcell : ∀ a, g1.w.cell? a = gr.w.cell? a := fun _ => rfl
  have e1 : Ex gr g1 := ⟨Nat.le_refl _, fun _ _ h => h, fun _ _ _ => rfl, fun _ _ _ _ => Iff.rfl⟩
  have k1 : Kp g0 M g1 := ⟨h7.le.trans e1.le, h7.x, h7.keepX, h7.os, h7.tape, h7.output, h7.same, h7.d⟩
  have ok1 : OkC g0 M n g1 [] ⟨st.fr, st.pe, st.ps, false⟩ g1 a g1.w := by
    refine ⟨⟨hok.agree, g1, β, rfl, Exx.refl _, fun _ => rfl, k1, ⟨h8.ptr, h8.cell, h8.inj⟩⟩, fun p cs _ hp => ?_, Nat.le_refl _, fun _ h => h⟩
    obtain ⟨_, h9, ty, h10⟩ := h8.cell p cs hp
    exact ⟨β p, ty, h9, h10, fun t o ht => h8.ptr t p o ht⟩
  have ee : ExtSt (dstsL ops) (wpL c ops) st ⟨st.fr, st.pe, st.ps, false⟩ := ⟨ExtE.refl _ _, fun _ _ _ _ _ h => h, fun _ _ _ h => h⟩
  have hLe : Le g g1 := (h5.1.trans e1).le
  have main : ∃ MR : Option (Nat → Prop), (∀ m, MR = some m → ∀ b, m b → ¬ g1.X b) ∧ treeG c g0.size M n ops m N MR g1 t false [] ⟨st.fr, st.pe, st.ps, false⟩ g1 := by
    have h' := h g1 (h5.1.trans e1)
    cases wide with
    | false => exact ⟨none, fun _ h => (by cases h), h'⟩
    | true => obtain ⟨MR, hx, h'⟩ := h'; exact ⟨some MR, fun _ e => (by cases e; exact hx), h'⟩
  obtain ⟨MR, hX, h'⟩ := main
  have := wpAny_of_T (P := c.P) (ops := ops.toArray) (Q := Q) (S := clsW MR g1) (m := m) (g := ops.length - m) (fun _ _ _ h => h.1) m (Array.replicate ops.toArray.size false) a g1.w
    ((treeG_sound T F hX hQp hsel hG hF hN hmle t).1 m _ [] _ g1 a g1.w hG0 h4 ok1 ee hLe ⟨fun _ _ _ _ => rfl, fun _ _ => rfl⟩ h')
  rw [show m + (ops.length - m) = ops.toArray.size by simp; omega] at this
  exact this
end
end Go.Vc
