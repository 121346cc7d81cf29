/- The conditions of operations with effects are sound, part 1. -/
import Derived.Test.YtcpclpkcanikiaaVc6
set_option linter.unusedVariables false
namespace Go.Vc
open Go

section
variable {P : Program} {tt : List TI}

theorem cellsL_eq (v : Value) : cellsL v = v.cells.toList := by cases v <;> rfl
theorem oneC_use {v : Value} {Q : Prop} (h : oneC v Q) : v.oneCell' = true ∧ Q := by
  cases v <;> first | exact h.elim | exact ⟨rfl, h⟩

theorem cellsAt_use {w : World} {a : Addr} : ∀ {vs : List Value} {i : Nat} {Q : Prop}, cellsAt w a i vs Q → (∀ j v, vs[j]? = some v → w.cell? (a.add (i + j)) = some v) ∧ Q
  | [], i, Q, h => ⟨fun j v hv => by simp at hv, h⟩
  | u :: r, i, Q, h => by
    obtain ⟨h1, h2⟩ := h
    obtain ⟨h3, h4⟩ := cellsAt_use h2
    refine ⟨fun j v hv => ?_, h4⟩
    cases j with
    | zero => simp at hv; subst hv; exact h1
    | succ j => have := h3 j v (by simpa using hv); rwa [show i + 1 + j = i + (j + 1) by omega] at this

theorem loadVC_sound (T : TOk P tt) {t : TypeId} {a : Addr} {w : World} {K : Value → Prop} (h : loadVC tt t a w K) :
    ∃ v, (Instr.loadAt t (.pointer (some a))).run P w = .ok v w ∧ K v ∧ ∀ w' : World, (∀ p u, p.block = a.block → w.cell? p = some u → w'.cell? p = some u) → (Instr.loadAt t (.pointer (some a))).run P w' = .ok v w' := by
  unfold loadVC at h
  cases hs : tfind tt t <;> simp only [hs] at h
  rename_i ti
  have F := T.fact hs
  cases ha : isAggD ti.und <;> simp only [ha] at h
  · cases hsh : ti.sh <;> simp only [hsh] at h
    rename_i se
    cases se <;> simp only at h
    obtain ⟨v, hv, hK⟩ := ex1_some h
    have key : ∀ w' : World, (∀ p u, p.block = a.block → w.cell? p = some u → w'.cell? p = some u) → (Instr.loadAt t (.pointer (some a))).run P w' = .ok v w' := by
      intro w' hw'
      have e := hw' a v rfl hv
      simp [Instr.loadAt, Instr.sureAddr, loadVar, F.run_agg, ha, e]
    exact ⟨v, key w (fun _ _ _ h => h), hK, key⟩
  · have row : ∀ vs : List Value, vs.length = ti.size → (∀ j v, vs[j]? = some v → w.cell? (a.add j) = some v) →
        ∀ w' : World, (∀ p u, p.block = a.block → w.cell? p = some u → w'.cell? p = some u) → (Instr.loadAt t (.pointer (some a))).run P w' = .ok (.agg ⟨vs⟩) w' := by
      intro vs hl hc w' hw'
      have hadd : ∀ j, (a.add j).block = a.block := by intro j; unfold Addr.add; split <;> rfl
      have := run_loadCells_list (P := P) w' a vs (fun j v hv => hw' _ _ (hadd j) (hc j v hv))
      rw [hl] at this
      simp [Instr.loadAt, Instr.sureAddr, loadVar, F.run_agg, ha, F.run_size, this]
    cases hsh : ti.sh <;> simp only [hsh] at h
    rename_i se
    cases se <;> simp only at h
    · rename_i l
      cases hz : Nat.beq l.length ti.size <;> simp only [hz] at h
      have hz' := Nat.eq_of_beq_eq_true hz
      have hlen : ∀ {l : List Sh1} {Q : List Value → Prop}, exN l Q → ∃ vs, vs.length = l.length ∧ Q vs := by
        intro l
        induction l with
        | nil => intro Q h; exact ⟨[], rfl, h⟩
        | cons s r ih => intro Q h; obtain ⟨v, hv⟩ := ex1_some h; obtain ⟨vs, h1, h2⟩ := ih hv; exact ⟨v :: vs, by simp [h1], h2⟩
      obtain ⟨vs, h1, h2⟩ := hlen h
      obtain ⟨h3, h4⟩ := cellsAt_use h2
      have key := row vs (h1.trans hz') (fun j v hv => by have := h3 j v hv; rwa [Nat.zero_add] at this)
      exact ⟨_, key w (fun _ _ _ h => h), h4, key⟩
    · rename_i n
      cases hz : Nat.beq n ti.size <;> simp only [hz] at h
      have hz' := Nat.eq_of_beq_eq_true hz
      obtain ⟨vs, h1, h2, h3⟩ := h
      have key := row vs (h1.trans hz') h2
      exact ⟨_, key w (fun _ _ _ h => h), h3, key⟩

theorem ones_use : ∀ {vs : List Value} {Q : Prop}, ones vs Q → (∀ u ∈ vs, u.oneCell' = true) ∧ Q
  | [], Q, h => ⟨fun u hu => (by cases hu), h⟩
  | v :: r, Q, h => by
    obtain ⟨h1, h2⟩ := oneC_use h
    obtain ⟨h3, h4⟩ := ones_use h2
    exact ⟨fun u hu => (List.mem_cons.1 hu).elim (fun e => e ▸ h1) (h3 u), h4⟩

theorem stL_sound {a : Addr} : ∀ {vs : List Value} {i : Nat} {w : World}, (∀ j, j < vs.length → (w.cell? (a.add (i + j))).isSome = true ∧ w.frozen? (a.add (i + j)) = false) → (∀ u ∈ vs, u.oneCell' = true) →
    (storeCells a vs i).run P w = .ok () (stL a i vs w)
  | [], i, w, _, _ => rfl
  | v :: r, i, w, hc, h1 => by
    obtain ⟨h2, h3⟩ := hc 0 (by simp)
    obtain ⟨u, hu⟩ := Option.isSome_iff_exists.1 h2
    have ih := stL_sound (a := a) (vs := r) (i := i + 1) (w := w.setCell (a.add i) v) (fun j hj => by
      have := hc (j + 1) (by simp; omega)
      rw [show i + (j + 1) = i + 1 + j by omega] at this
      refine ⟨?_, by rw [World.frozen?_setCell]; exact this.2⟩
      by_cases e : a.add i = a.add (i + 1 + j)
      · rw [← e]; simp at hu; rw [World.cell?_setCell_same _ _ _ hu]; rfl
      · rw [World.cell?_setCell_other _ _ _ _ e]; exact this.1) (fun x hx => h1 x (by simp [hx]))
    simp only [storeCells, Sem.run_bind, stL]
    rw [run_store P w _ v _ (h1 v (by simp))]
    simp at hu h3
    simp [hu, h3, ih]

theorem storeVC_sound (T : TOk P tt) {t : TypeId} {a : Addr} {v : Value} {w : World} {K : World → Prop} (h : storeVC tt t a v w K) :
    ∃ w', (Instr.storeAt t (.pointer (some a)) v).run P w = .ok () w' ∧ K w' := by
  unfold storeVC at h
  cases hs : tfind tt t <;> simp only [hs] at h
  rename_i ti
  have F := T.fact hs
  have go : ∀ w' : World, (cellsL v).length = ti.size → (storeCells a (cellsL v)).run P w = .ok () w' → (Instr.storeAt t (.pointer (some a)) v).run P w = .ok () w' := by
    intro w' hl hr
    rw [cellsL_eq] at hl hr
    have hl' : v.cells.size = ti.size := by simpa using hl
    simp [Instr.storeAt, Instr.sureAddr, storeVar, F.run_size, hl', hr]
  have row : (cellsL v).length = ti.size → stOk w a ti.size → (∀ u ∈ cellsL v, u.oneCell' = true) → letW (stL a 0 (cellsL v) w) K → ∃ w', (Instr.storeAt t (.pointer (some a)) v).run P w = .ok () w' ∧ K w' := by
    intro h1 h2 h3 h4
    exact ⟨_, go _ h1 (stL_sound (fun j hj => by rw [Nat.zero_add]; exact h2 j (by omega)) h3), h4 _ rfl⟩
  have lit : (match Nat.beq (cellsL v).length ti.size with | true => ones (cellsL v) (stOk w a ti.size ∧ letW (stL a 0 (cellsL v) w) K) | false => False) → ∃ w', (Instr.storeAt t (.pointer (some a)) v).run P w = .ok () w' ∧ K w' := by
    intro h
    cases hz : Nat.beq (cellsL v).length ti.size <;> simp only [hz] at h
    have hz' := Nat.eq_of_beq_eq_true hz
    obtain ⟨h1, h2, h3⟩ := ones_use h
    exact row hz' h2 h1 h3
  cases hsh : ti.sh <;> simp only [hsh] at h
  · rename_i se
    cases se <;> simp only at h
    · cases hz : Nat.beq ti.size 1 <;> simp only [hz] at h
      have hz' := Nat.eq_of_beq_eq_true hz
      split at h
      · rename_i u hu
        obtain ⟨h1, ⟨h2, h3⟩, h4⟩ := oneC_use h
        refine ⟨_, go _ (by rw [hu, hz']; rfl) ?_, h4 _ rfl⟩
        rw [hu]
        obtain ⟨x, hx⟩ := Option.isSome_iff_exists.1 h2
        simp only [storeCells, Sem.run_bind, Addr.add_zero']
        rw [run_store P w _ u _ h1]
        simp [hx, h3]
      · exact h.elim
    · exact lit h
    · exact row h.1 h.2.1 h.2.2.1 h.2.2.2
  · exact lit h

theorem setsAt_foldl (f : List Value → Nat → Value → List Value) (hf : ∀ l i v, f l i v = l.set i v) : ∀ (vs : List Value) (k off : Nat) (cs : List Value),
    (vs.zipIdx k).foldl (fun cs p => f cs (off + p.2) p.1) cs = setsAt cs (off + k) vs
  | [], _, _, _ => rfl
  | v :: r, k, off, cs => by
    simp only [List.zipIdx_cons, List.foldl_cons, hf, setsAt]
    have := setsAt_foldl f hf r (k + 1) off (cs.set (off + k) v)
    simp only [hf] at this
    rw [this, show off + (k + 1) = off + k + 1 by omega]

theorem foldl_setIf (l : List (Value × Nat)) (off : Nat) : ∀ (cells : Array Value),
    (l.foldl (fun (cs : Array Value) p => cs.setIfInBounds (off + p.2) p.1) cells).toList = l.foldl (fun cs p => cs.set (off + p.2) p.1) cells.toList := by
  induction l with
  | nil => intro cells; rfl
  | cons p l ih => intro cells; simp only [List.foldl_cons]; rw [ih]; simp
theorem fold_setIf (vs : Array Value) (off : Nat) (cells : Array Value) :
    (vs.zipIdx.foldl (fun (cs : Array Value) (p : Value × Nat) => cs.setIfInBounds (off + p.2) p.1) cells).toList = setsAt cells.toList off vs.toList := by
  rw [← Array.foldl_toList, Array.toList_zipIdx]
  have := setsAt_foldl (fun l i v => l.set i v) (fun _ _ _ => rfl) vs.toList 0 off cells.toList
  rw [Nat.add_zero] at this
  rw [← this]
  exact foldl_setIf _ _ _

theorem fill_eq {place : Nat → Option (Nat × Nat)} : ∀ {parts : List (Nat × Value)} {cells : Array Value} {cs : List Value}, fillL place cells.toList parts = some cs →
    Instr.fill place cells parts = some ⟨cs⟩
  | [], cells, cs, h => by
    simp only [fillL, Option.some.injEq] at h
    simp only [Instr.fill, Option.some.injEq]
    exact Array.ext' h
  | (i, v) :: r, cells, cs, h => by
    unfold fillL at h
    cases hp : place i with
    | none => simp only [hp] at h; cases h
    | some q =>
      obtain ⟨off, size⟩ := q
      simp only [hp] at h
      cases hb : (Nat.beq (cellsL v).length size && Nat.ble (off + (cellsL v).length) cells.toList.length) <;> simp only [hb] at h
      · cases h
      · simp only [Bool.and_eq_true] at hb
        have h1 := Nat.eq_of_beq_eq_true hb.1
        have h2 := Nat.le_of_ble_eq_true hb.2
        rw [cellsL_eq] at h1 h2 h
        have h1' : v.cells.size = size := by simpa using h1
        have h2' : off + v.cells.size ≤ cells.size := by simpa using h2
        rw [← fold_setIf] at h
        have := fill_eq h
        simp only [Instr.fill, hp]
        rw [if_neg (by simp [h1']; omega)]
        exact this

theorem evP_map {n : Nat} {fr : Env} {a : Act} (hA : Agree n fr a) : ∀ {l : List (Nat × Operand)} {ps : List (Nat × Value)}, evP fr l = some ps → l.map (fun x => (x.1, a.eval x.2)) = ps
  | [], ps, h => Option.some.inj h
  | (i, x) :: r, ps, h => by
    unfold evP at h
    cases hx : ev fr x with
    | none => simp [hx] at h
    | some v =>
      cases hr : evP fr r with
      | none => simp [hx, hr] at h
      | some us =>
        simp only [hx, hr, Option.some.injEq] at h
        rw [← h, List.map_cons, hA.ev hx, evP_map hA hr]
theorem evP_arr {n : Nat} {fr : Env} {a : Act} (hA : Agree n fr a) {l : Array (Nat × Operand)} {ps : List (Nat × Value)} (h : evP fr l.toList = some ps) : (l.map fun (i, x) => (i, a.eval x)) = ⟨ps⟩ := by
  apply Array.ext'
  simpa using evP_map hA h
theorem withP_some {o : Option (List (Nat × Value))} {K : List (Nat × Value) → Prop} (h : withP o K) : ∃ v, o = some v ∧ K v := by
  cases o with
  | none => exact h.elim
  | some v => exact ⟨v, rfl, h⟩

theorem allSz_use (T : TOk P tt) : ∀ {fs : List Field}, allSz tt fs = true → ∀ (w : World), (fs.mapM fun f => do pure (f.offset, ← sizeOf f.type) : Sem (List (Nat × Nat))).run P w = .ok (fs.map fun f => (f.offset, match tfind tt f.type with | some ti => ti.size | none => 0)) w
  | [], _, w => rfl
  | f :: r, h, w => by
    unfold allSz at h
    cases hs : tfind tt f.type <;> simp only [hs] at h
    · cases h
    · rename_i ti
      have := allSz_use T h w
      rw [List.mapM_cons]
      simp only [Sem.run_bind, (T.fact hs).run_size, Result.andThen_ok, Sem.run_pure, this]
      simp [hs]

theorem buildVC_sound (T : TOk P tt) {t : TypeId} {parts : List (Nat × Value)} {K : Value → Prop} (h : buildVC tt t parts K) : Yl P (Instr.build t ⟨parts⟩) K := by
  unfold buildVC at h
  cases hs : tfind tt t <;> simp only [hs] at h
  rename_i ti
  have F := T.fact hs
  obtain ⟨z, hz, h⟩ := withV_some h
  cases hu : ti.und <;> simp only [hu] at h
  case struct fs =>
    cases ha : allSz tt fs.toList <;> simp only [ha] at h
    obtain ⟨cs, hf, hK⟩ := withL_some h
    refine ⟨_, fun w => ?_, hK⟩
    rw [cellsL_eq] at hf
    have hf' := fill_eq hf
    have hm := allSz_use (P := P) T ha w
    have hm2 : (fs.mapM fun f => do pure (f.offset, ← sizeOf f.type) : Sem (Array (Nat × Nat))).run P w = .ok (fs.map fun f => (f.offset, match tfind tt f.type with | some ti => ti.size | none => 0)) w := by
      rw [Array.mapM_eq_mapM_toList]
      simp only [Sem.run_map, hm, Result.andThen_ok]
      congr 1
      apply Array.ext'
      simp
    have hpl : ∀ i, (fs.map fun f => (f.offset, match tfind tt f.type with | some ti => ti.size | none => 0))[i]? = placeS tt fs.toList i := by
      intro i
      unfold placeS
      have hall : ∀ {l : List Field}, allSz tt l = true → ∀ f ∈ l, ∃ ti, tfind tt f.type = some ti := by
        intro l
        induction l with
        | nil => intro _ f hf; cases hf
        | cons g r ih =>
          intro hl f hf
          unfold allSz at hl
          cases hg : tfind tt g.type <;> simp only [hg] at hl
          · cases hl
          · rcases List.mem_cons.1 hf with rfl | hf
            · exact ⟨_, hg⟩
            · exact ih hl f hf
      simp only [Array.getElem?_map, Array.getElem?_toList]
      cases hfi : fs[i]? with
      | none => rfl
      | some f =>
        obtain ⟨ti, hti⟩ := hall ha f (by simpa using Array.mem_of_getElem? hfi)
        simp [hti]
    have hfun : (fun i => (fs.map fun f => (f.offset, match tfind tt f.type with | some ti => ti.size | none => 0))[i]?) = placeS tt fs.toList := funext hpl
    simp only [Instr.build, Sem.run_bind, F.run_zero hz, Result.andThen_ok, F.run_und, hu, hm2, hfun, hf']
    rfl
  case array k e =>
    obtain ⟨sz, h1, h⟩ := tsize_use T h
    obtain ⟨cs, hf, hK⟩ := withL_some h
    rw [cellsL_eq] at hf
    have hf' := fill_eq hf
    exact ⟨_, fun w => by simp [Instr.build, F.run_zero hz, F.run_und, hu, h1, hf'], hK⟩

theorem bSliceVC_sound (T : TOk P tt) {t : TypeId} {len : Nat} {parts : List (Nat × Value)} {w : World} {K : Value → World → Prop} (h : bSliceVC tt t len parts w K) :
    ∃ v w', (Instr.buildSlice t len ⟨parts⟩).run P w = .ok v w' ∧ K v w' := by
  unfold bSliceVC at h
  cases hs : tfind tt t <;> simp only [hs] at h
  rename_i ti
  have F := T.fact hs
  cases hu : ti.und <;> simp only [hu] at h
  rename_i e
  cases he : tfind tt e <;> simp only [he] at h
  rename_i ei
  have G := T.fact he
  obtain ⟨z, hz, h⟩ := withV_some h
  cases hb : Nat.ble (len * ei.size) 16777216 <;> simp only [hb] at h
  have hb' := Nat.le_of_ble_eq_true hb
  obtain ⟨cs, hf, hK⟩ := withL_some h
  refine ⟨_, _, ?_, hK _ rfl⟩
  have hz0 : ∀ w : World, (if len * ei.size = 0 then pure #[] else do pure (← zeroValue e).cells : Sem (Array Value)).run P w = .ok (if len * ei.size = 0 then #[] else z.cells) w := by
    intro w; split
    · rfl
    · simp [G.run_zero hz]
  have hzl : zeroL (zl0 (cellsL z) (len * ei.size)) (len * ei.size) = ((Array.range (len * ei.size)).map ((if len * ei.size = 0 then #[] else z.cells)[· % (if len * ei.size = 0 then #[] else z.cells).size]!)).toList := by
    by_cases h0 : len * ei.size = 0
    · simp [h0, zeroL, zl0]
    · have : Nat.beq (len * ei.size) 0 = false := by cases hq : Nat.beq (len * ei.size) 0 with | true => exact absurd (Nat.eq_of_beq_eq_true hq) h0 | false => rfl
      simp only [zl0, this, h0, if_false, zeroL, cellsL_eq]
      rw [Array.toList_map, Array.toList_range]
      refine List.map_congr_left fun j _ => ?_
      rw [Array.getElem!_eq_getD]
      simp
  rw [hzl] at hf
  have hf' := fill_eq hf
  have hlt : ¬ (len * ei.size > 2 ^ 24) := by omega
  simp only [Instr.buildSlice, Sem.run_bind, F.run_und, hu, Result.andThen_ok, G.run_size, hlt, if_false]
  by_cases h0 : len * ei.size = 0
  · simp only [h0, if_true] at hf'
    simp only [h0, if_true, Sem.run_bind, Sem.run_pure, Result.andThen_ok, hf']
    rfl
  · simp only [h0, if_false] at hf'
    simp only [h0, if_false, Sem.run_bind, Sem.run_pure, Result.andThen_ok, G.run_zero hz, hf']
    rfl
end
end Go.Vc
