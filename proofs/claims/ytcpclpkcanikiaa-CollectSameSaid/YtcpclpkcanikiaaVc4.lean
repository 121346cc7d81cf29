/- The conditions of pure operations are sound, part 2. -/
import Derived.Test.YtcpclpkcanikiaaVc3
set_option linter.unusedVariables false
namespace Go.Vc
open Go

section
variable {P : Program} {tt : List TI}

/-- A bound of a slice expression. -/
theorem bnd_use {v : Option (Option Value)} {d top : Nat} {K : Nat → Prop} (h : bndVC v d top K) :
    ∃ n, K n ∧ ((v = none ∧ n = d) ∨ ∃ x, v = some (some x) ∧ ∀ (code : BoundsCode) (w : World), (Instr.sliceBound x top code).run P w = .ok n w) := by
  cases v with
  | none => exact ⟨d, h, .inl ⟨rfl, rfl⟩⟩
  | some o =>
    obtain ⟨x, rfl, hx⟩ := withV_some h
    cases x <;> simp only at hx
    rename_i k n
    exact ⟨_, hx.2, .inr ⟨_, rfl, fun code w => run_sliceBound w k n top code hx.1.1 hx.1.2⟩⟩




theorem oev_map {n : Nat} {fr : Env} {a : Act} (h : Agree n fr a) {x : Option Operand} {v : Value} (hx : oev fr x = some (some v)) : x.map a.eval = some v := by
  cases x with
  | none => simp [oev] at hx
  | some x => simp only [oev, Option.some.injEq] at hx; simp [h.ev hx]
theorem oev_none {fr : Env} {a : Act} {x : Option Operand} (hx : oev fr x = none) : x.map a.eval = none := by
  cases x with
  | none => rfl
  | some x => simp [oev] at hx

theorem bounds_run {isS : Bool} {len cap : Nat} {lo hi mx : Option Value} {l h m : Nat}
    (hm : (mx = none ∧ m = cap) ∨ ∃ x, mx = some x ∧ ∀ (code : BoundsCode) (w : World), (Instr.sliceBound x cap code).run P w = .ok m w)
    (hh : (hi = none ∧ h = len ∧ mx = none) ∨ ∃ x, hi = some x ∧ ∀ (code : BoundsCode) (w : World), (Instr.sliceBound x m code).run P w = .ok h w)
    (hl : (lo = none ∧ l = 0) ∨ ∃ x, lo = some x ∧ ∀ (code : BoundsCode) (w : World), (Instr.sliceBound x h code).run P w = .ok l w) (w : World) :
    (Instr.sliceBounds isS len cap lo hi mx).run P w = .ok (l, h, m) w := by
  unfold Instr.sliceBounds
  rcases hm with ⟨rfl, rfl⟩ | ⟨x, rfl, hm⟩
  · rcases hh with ⟨rfl, rfl, _⟩ | ⟨y, rfl, hh⟩
    · rcases hl with ⟨rfl, rfl⟩ | ⟨z, rfl, hl⟩ <;> simp [*]
    · rcases hl with ⟨rfl, rfl⟩ | ⟨z, rfl, hl⟩ <;> simp [*]
  · rcases hh with ⟨_, _, h3⟩ | ⟨y, rfl, hh⟩
    · cases h3
    · rcases hl with ⟨rfl, rfl⟩ | ⟨z, rfl, hl⟩ <;> simp [*]

/-- The three bounds together. -/
theorem bnd3 {n : Nat} {fr : Env} {a : Act} (hA : Agree n fr a) {lo hi mx : Option Operand} {len cap : Nat} {K : Nat → Nat → Nat → Prop} (hnone : oev fr hi = none → oev fr mx = none)
    (h : bndVC (oev fr mx) cap cap fun m => bndVC (oev fr hi) len m fun h => bndVC (oev fr lo) 0 h fun l => K l h m) :
    ∃ l h m, K l h m ∧ ∀ (isS : Bool) (w : World), (Instr.sliceBounds isS len cap (lo.map a.eval) (hi.map a.eval) (mx.map a.eval)).run P w = .ok (l, h, m) w := by
  obtain ⟨m, h1, hm⟩ := bnd_use (P := P) h
  obtain ⟨hh, h2, hhi⟩ := bnd_use (P := P) h1
  obtain ⟨l, h3, hlo⟩ := bnd_use (P := P) h2
  refine ⟨l, hh, m, h3, fun isS w => bounds_run ?_ ?_ ?_ w⟩
  · rcases hm with ⟨e, rfl⟩ | ⟨x, e, hx⟩
    · exact .inl ⟨oev_none e, rfl⟩
    · exact .inr ⟨x, oev_map hA e, hx⟩
  · rcases hhi with ⟨e, rfl⟩ | ⟨x, e, hx⟩
    · exact .inl ⟨oev_none e, rfl, oev_none (hnone e)⟩
    · exact .inr ⟨x, oev_map hA e, hx⟩
  · rcases hlo with ⟨e, rfl⟩ | ⟨x, e, hx⟩
    · exact .inl ⟨oev_none e, rfl⟩
    · exact .inr ⟨x, oev_map hA e, hx⟩

theorem slcVC_sound (T : TOk P tt) {n : Nat} {fr : Env} {a : Act} (hA : Agree n fr a) {t : TypeId} {x : Value} {lo hi mx : Option Operand} {K : Value → Prop} (hnone : oev fr hi = none → oev fr mx = none)
    (h : slcVC tt t x (oev fr lo) (oev fr hi) (oev fr mx) K) : Yl P (Instr.sliceAt t x (lo.map a.eval) (hi.map a.eval) (mx.map a.eval)) K := by
  unfold slcVC at h
  cases hs : tfind tt t <;> simp only [hs] at h
  rename_i ti
  have F := T.fact hs
  cases hu : ti.und <;> simp only [hu] at h
  case slice e =>
    cases x <;> simp only at h
    obtain ⟨sz, h1, h⟩ := tsize_use T h
    obtain ⟨l, hh, m, hK, hb⟩ := bnd3 (P := P) hA hnone h
    exact ⟨_, fun w => by simp [Instr.sliceAt, Instr.slice, F.run_und, hu, hb, h1, slAddr], hK⟩
  case string =>
    cases x <;> simp only at h
    cases hm : oev fr mx <;> simp only [hm] at h
    rename_i s
    have h' : bndVC (oev fr mx) s.size s.size fun m => bndVC (oev fr hi) s.size m fun h => bndVC (oev fr lo) 0 h fun l => K (.string (s.extract l h)) := by
      rw [hm]; exact h
    obtain ⟨l, hh, m, hK, hb⟩ := bnd3 (P := P) hA hnone h'
    have e0 : mx.map a.eval = none := oev_none hm
    rw [e0] at hb ⊢
    exact ⟨_, fun w => by simp [Instr.sliceAt, Instr.slice, F.run_und, hu, hb], hK⟩
  case array k e =>
    cases x <;> simp only at h
    obtain ⟨ad, rfl, hq⟩ := derefP_some h
    clear h
    obtain ⟨sz, h1, h⟩ := tsize_use T hq
    obtain ⟨l, hh, m, hK, hb⟩ := bnd3 (P := P) hA hnone h
    refine ⟨_, fun w => ?_, hK⟩
    simp only [Instr.sliceAt, Sem.run_bind, F.run_und, hu, Result.andThen_ok, Instr.sureAddr, Sem.run_pure, hb, h1]
    unfold slAddr
    split <;> rfl

theorem lenVC_sound (T : TOk P tt) {t : TypeId} {ts : List TypeId} {x : Value} {ty : TypeId} {K : Value → Prop} (h : lenVC tt t x K) :
    Yl P (Builtin.len_ ⟨t :: ts⟩ ty ⟨[x]⟩) K := by
  unfold lenVC at h
  cases hs : tfind tt t <;> simp only [hs] at h
  rename_i ti
  have F := T.fact hs
  cases hu : ti.und <;> simp only [hu] at h
  case slice e =>
    cases x <;> simp only at h
    exact ⟨_, fun w => by simp [Builtin.len_, F.run_und, hu, goInt], h⟩
  case string =>
    cases x <;> simp only at h
    exact ⟨_, fun w => by simp [Builtin.len_, F.run_und, hu, goInt], h⟩
  case array k e =>
    exact ⟨_, fun w => by simp [Builtin.len_, F.run_und, hu, goInt], h⟩
theorem capVC_sound (T : TOk P tt) {t : TypeId} {ts : List TypeId} {x : Value} {ty : TypeId} {K : Value → Prop} (h : capVC tt t x K) :
    Yl P (Builtin.cap_ ⟨t :: ts⟩ ty ⟨[x]⟩) K := by
  unfold capVC at h
  cases hs : tfind tt t <;> simp only [hs] at h
  rename_i ti
  have F := T.fact hs
  cases hu : ti.und <;> simp only [hu] at h
  case slice e =>
    cases x <;> simp only at h
    exact ⟨_, fun w => by simp [Builtin.cap_, F.run_und, hu, goInt], h⟩
theorem max_sound {l : List Value} {ts : Array TypeId} {ty : TypeId} {K : Value → Prop} (h : mmVC maxI l K) : Yl P (Builtin.max_ ts ty ⟨l⟩) K := by
  unfold mmVC at h
  split at h
  · rename_i x y
    cases x <;> simp only at h
    cases y <;> simp only at h
    rename_i k a k' b
    by_cases hk : k = k'
    · simp only [decide_eq_true hk] at h
      exact ⟨_, fun w => by simp [Builtin.max_, Builtin.max2, maxI], h⟩
    · simp only [decide_eq_false hk] at h
  · exact h.elim
theorem min_sound {l : List Value} {ts : Array TypeId} {ty : TypeId} {K : Value → Prop} (h : mmVC minI l K) : Yl P (Builtin.min_ ts ty ⟨l⟩) K := by
  unfold mmVC at h
  split at h
  · rename_i x y
    cases x <;> simp only at h
    cases y <;> simp only at h
    rename_i k a k' b
    by_cases hk : k = k'
    · simp only [decide_eq_true hk] at h
      exact ⟨_, fun w => by simp [Builtin.min_, Builtin.min2, minI], h⟩
    · simp only [decide_eq_false hk] at h
  · exact h.elim

theorem fieldVC_sound (T : TOk P tt) {t : TypeId} {x : Value} {f : Nat} {K : Value → Prop} (h : fieldVC tt t x f K) : Yl P (Instr.field t x f) K := by
  unfold fieldVC at h
  cases hs : tfind tt t <;> simp only [hs] at h
  rename_i ti
  have F := T.fact hs
  cases hu : ti.und <;> simp only [hu] at h
  rename_i fs
  cases hf : fs[f]? <;> simp only [hf] at h
  rename_i fd
  cases x <;> simp only at h
  rename_i cs
  cases he : tfind tt fd.type <;> simp only [he] at h
  rename_i fi
  have G := T.fact he
  cases ha : isAggD fi.und <;> simp only [ha] at h
  · obtain ⟨v, hv, hK⟩ := withV_some h
    have hv' : cs[fd.offset]? = some v := by rw [← Array.getElem?_toList]; exact hv
    exact ⟨v, fun w => by simp [Instr.field, F.run_und, hu, hf, part, G.run_agg, ha, asAgg, hv'], hK⟩
  · refine ⟨_, fun w => ?_, h⟩
    have e : cs.extract fd.offset (fd.offset + fi.size) = ⟨(cs.toList.drop fd.offset).take fi.size⟩ := by
      apply Array.ext'
      simp [List.extract_eq_take_drop]
    simp [Instr.field, F.run_und, hu, hf, part, G.run_agg, ha, asAgg, G.run_size, e]

theorem fldAddrVC_sound (T : TOk P tt) {t : TypeId} {x : Value} {f : Nat} {K : Value → Prop} (h : fldAddrVC tt t x f K) : Yl P (Instr.fieldAt t x f) K := by
  unfold fldAddrVC at h
  cases hs : tfind tt t <;> simp only [hs] at h
  rename_i ti
  have F := T.fact hs
  cases hu : ti.und <;> simp only [hu] at h
  rename_i fs
  cases hf : fs[f]? <;> simp only [hf] at h
  rename_i fd
  cases x <;> simp only at h
  obtain ⟨sz, h1, h⟩ := tsize_use T h
  cases hz : Nat.beq sz 0 <;> simp only [hz] at h
  have hz' : sz ≠ 0 := Nat.ne_of_beq_eq_false hz
  obtain ⟨ad, rfl, hK⟩ := derefP_some h
  exact ⟨_, fun w => by simp [Instr.fieldAt, F.run_und, hu, hf, Instr.sureAddr, fieldPlace, h1, hz'], hK⟩

theorem extVC_sound {x : Value} {i : Nat} {K : Value → Prop} (h : extVC x i K) : Yl P (Instr.extract x i) K := by
  unfold extVC at h
  cases x <;> simp only at h
  obtain ⟨v, hv, hK⟩ := withV_some h
  rename_i vs
  have hv' : vs[i]? = some v := by rw [← Array.getElem?_toList]; exact hv
  exact ⟨v, fun w => by simp [Instr.extract, hv'], hK⟩

theorem s2apVC_sound (T : TOk P tt) {t : TypeId} {x : Value} {K : Value → Prop} (h : s2apVC tt t x K) : Yl P (Instr.arrayAt t x) K := by
  unfold s2apVC at h
  cases hs : tfind tt t <;> simp only [hs] at h
  rename_i ti
  have F := T.fact hs
  cases hu : ti.und <;> simp only [hu] at h
  cases x <;> simp only at h
  exact ⟨_, fun w => by simp [Instr.arrayAt, F.run_und, hu, Nat.not_lt.2 h.1], h.2⟩

theorem mkIfVC_sound (T : TOk P tt) {t : TypeId} {x : Value} {K : Value → Prop} (h : mkIfVC tt t x K) : Yl P (Instr.makeInterface t x) K := by
  unfold mkIfVC at h
  cases hs : tfind tt t <;> simp only [hs] at h
  rename_i ti
  have F := T.fact hs
  cases hu : ti.und <;> simp only [hu] at h
  all_goals exact ⟨_, fun w => by simp [Instr.makeInterface, F.run_und, hu], h⟩
end
end Go.Vc
