/- The conditions of pure operations are sound, part 1. -/
import Derived.Laws.StructEq
import Derived.Test.YtcpclpkcanikiaaVc2
set_option linter.unusedVariables false
namespace Go.Vc
open Go

section
variable {P : Program} {tt : List TI}

theorem TFact.run_und {i : Nat} {ti : TI} (h : TFact P i ti) (w : World) : (underlying i).run P w = .ok ti.und w := run_underlying h.und w
theorem TFact.run_info {i : Nat} {ti : TI} (h : TFact P i ti) : ∃ inf, (∀ w, (typeInfo i).run P w = .ok inf w) ∧ inf.size = ti.size ∧ inf.bytes = ti.bytes ∧ inf.zero = ti.zero := by
  obtain ⟨inf, h1, h2, h3, h4⟩ := h.inf
  exact ⟨inf, fun w => by simp [typeInfo, h1], h2, h3, h4⟩
theorem TFact.run_size {i : Nat} {ti : TI} (h : TFact P i ti) (w : World) : (sizeOf i).run P w = .ok ti.size w := by
  obtain ⟨inf, h1, h2, h3, h4⟩ := h.run_info
  simp [sizeOf, h1, h2]
theorem TFact.run_zero {i : Nat} {ti : TI} (h : TFact P i ti) {z : Value} (hz : ti.zero = some z) (w : World) : (zeroValue i).run P w = .ok z w := by
  obtain ⟨inf, h1, h2, h3, h4⟩ := h.run_info
  simp [zeroValue, h1, h4, hz]
theorem TFact.run_agg {i : Nat} {ti : TI} (h : TFact P i ti) (w : World) : (isAgg i).run P w = .ok (isAggD ti.und) w := by
  simp only [isAgg, Sem.run_bind, h.run_und, Result.andThen_ok]
  cases ti.und <;> rfl

def Yl (P : Program) (s : Sem Value) (K : Value → Prop) : Prop := ∃ v, (∀ w, s.run P w = .ok v w) ∧ K v

theorem intVC_sound {op : BinOp} {k : IntKind} {a b : Int} {xt : TypeId} {K : Value → Prop} (h : intVC op k a b K) : Yl P (binOp op xt (.int k a) (.int k b)) K := by
  cases op <;> simp only [intVC] at h
  case add => exact ⟨_, fun w => by simp [binOp, Op.intArith], arVC_use h⟩
  case sub => exact ⟨_, fun w => by simp [binOp, Op.intArith], arVC_use h⟩
  case mul => exact ⟨_, fun w => by simp [binOp, Op.intArith], arVC_use h⟩
  case quo => exact ⟨_, fun w => by simp [binOp, Op.intDiv, h.1], arVC_use h.2⟩
  case rem => exact ⟨_, fun w => by simp [binOp, Op.intDiv, h.1], h.2⟩
  case and => exact ⟨_, fun w => by simp [binOp, intBits_and], h⟩
  case or => exact ⟨_, fun w => by simp [binOp, intBits_or], h⟩
  case xor => exact ⟨_, fun w => by simp [binOp, intBits_xor], h⟩
  case andNot => exact ⟨_, fun w => by simp [binOp, intBits_andNot], h⟩
  case eql => exact ⟨_, fun w => by rw [binOp_eql, eqI_eq]; rfl, h⟩
  case neq => exact ⟨_, fun w => by rw [binOp_neq, eqI_eq]; rfl, h⟩
  case lss => exact ⟨_, fun w => by rw [binOp_lss, ltI_eq]; rfl, h⟩
  case leq => exact ⟨_, fun w => by rw [binOp_leq, leI_eq]; rfl, h⟩
  case gtr => exact ⟨_, fun w => by rw [binOp_gtr, ltI_eq]; rfl, h⟩
  case geq => exact ⟨_, fun w => by rw [binOp_geq, leI_eq]; rfl, h⟩

theorem strVC_sound {op : BinOp} {a b : ByteArray} {xt : TypeId} {K : Value → Prop} (h : strVC op a b K) : Yl P (binOp op xt (.string a) (.string b)) K := by
  cases op <;> simp only [strVC] at h
  case add =>
    refine ⟨_, fun w => ?_, h.2⟩
    have h1 := h.1
    rw [binOp_string_add]
    have e : ¬ (((a.size + b.size : Nat) : Int) > IntKind.i64.max) := by rw [IntKind.max_i64]; omega
    simp [Op.stringOp]
    omega
  case eql => exact ⟨_, fun w => by simp [binOp, Op.stringOp, strEq_eq], h⟩
  case neq => exact ⟨_, fun w => by simp [binOp, Op.stringOp, strEq_eq], h⟩
  case lss => exact ⟨_, fun w => by simp [binOp, Op.stringOp, strLt_eq], h⟩
  case leq => exact ⟨_, fun w => by simp [binOp, Op.stringOp, strLt_eq, strEq_eq], h⟩
  case gtr => exact ⟨_, fun w => by simp [binOp, Op.stringOp, strLt_eq, strEq_eq], h⟩
  case geq => exact ⟨_, fun w => by simp [binOp, Op.stringOp, strLt_eq], h⟩

theorem equal_bool {t : TypeId} (hu : P.underlying t = some .bool) (a b : Bool) (w : World) : (Op.equal t (.bool a) (.bool b)).run P w = .ok (a == b) w := by
  show (Op.equalIn (9999 + 1) t (.bool a) (.bool b)).run P w = _
  rw [Op.equalIn]; simp only [Sem.run_bind, run_underlying hu, Result.andThen_ok]; rfl
theorem equal_slice {t e : TypeId} (hu : P.underlying t = some (.slice e)) (a : Option Addr) (l c l' c' : Nat) (w : World) : (Op.equal t (.slice a l c) (.slice none l' c')).run P w = .ok a.isNone w := by
  show (Op.equalIn (9999 + 1) t (.slice a l c) (.slice none l' c')).run P w = _
  rw [Op.equalIn]; simp only [Sem.run_bind, run_underlying hu, Result.andThen_ok]; cases a <;> rfl
theorem equal_map {t k e : TypeId} (hu : P.underlying t = some (.map k e)) (a : Option Nat) (w : World) : (Op.equal t (.map a) (.map none)).run P w = .ok a.isNone w := by
  show (Op.equalIn (9999 + 1) t (.map a) (.map none)).run P w = _
  rw [Op.equalIn]; simp only [Sem.run_bind, run_underlying hu, Result.andThen_ok]; cases a <;> rfl
theorem equal_pointer {t e : TypeId} (hu : P.underlying t = some (.pointer e)) (a : Option Addr) (w : World) : (Op.equal t (.pointer a) (.pointer none)).run P w = .ok a.isNone w := by
  show (Op.equalIn (9999 + 1) t (.pointer a) (.pointer none)).run P w = _
  rw [Op.equalIn]; simp only [Sem.run_bind, run_underlying hu, Result.andThen_ok]; cases a <;> rfl
theorem run_eql (t : TypeId) (x y : Value) (b : Bool) (w : World) (hb : binOp .eql t x y = (do pure (.bool (← Op.equal t x y)))) (h : (Op.equal t x y).run P w = .ok b w) : (binOp .eql t x y).run P w = .ok (.bool b) w := by
  rw [hb]; simp [h]
theorem run_neq (t : TypeId) (x y : Value) (b : Bool) (w : World) (hb : binOp .neq t x y = (do pure (.bool (!(← Op.equal t x y))))) (h : (Op.equal t x y).run P w = .ok b w) : (binOp .neq t x y).run P w = .ok (.bool (!b)) w := by
  rw [hb]; simp [h]

theorem eqV_run (T : TOk P tt) (d : Nat) {t : TypeId} {x y : Value} {e : Bool} (h : eqV tt t x y = some e) (w : World) : (Op.equalIn (d + 1) t x y).run P w = .ok e w := by
  cases x <;> simp only [eqV] at h
  case bool a =>
    cases y <;> simp only at h
    case bool b =>
      cases hf : tfind tt t <;> simp only [hf] at h
      · cases h
      rename_i ti
      have F := T.fact hf
      cases hu : ti.und <;> simp only [hu] at h <;> cases h
      exact run_equalIn_bool' w d t a b (hu ▸ F.und)
    all_goals cases h
  case int k a =>
    cases y <;> simp only at h
    case int k' b =>
      by_cases hk : k = k'
      · simp only [decide_eq_true hk] at h
        cases hf : tfind tt t <;> simp only [hf] at h
        · cases h
        rename_i ti
        have F := T.fact hf
        cases hu : ti.und <;> simp only [hu] at h <;> cases h
        rw [← hk, run_equalIn_int w d t k _ a b (hu ▸ F.und)]
        congr 1
        rw [eqI_eq]
        rfl
      · simp only [decide_eq_false hk] at h
        cases h
    all_goals cases h
  case string a =>
    cases y <;> simp only at h
    case string b =>
      cases hf : tfind tt t <;> simp only [hf] at h
      · cases h
      rename_i ti
      have F := T.fact hf
      cases hu : ti.und <;> simp only [hu] at h <;> cases h
      rw [run_equalIn_string w d t a b (hu ▸ F.und)]
      congr 1
      rw [strEq_eq]
    all_goals cases h
  all_goals cases h
theorem eqV_plain {t : TypeId} {x y : Value} {e : Bool} (h : eqV tt t x y = some e) : ∃ ti, tfind tt t = some ti ∧ isAggD ti.und = false := by
  cases hf : tfind tt t with
  | none => cases x <;> cases y <;> first | (simp [eqV, hf] at h; done) | (simp [eqV, hf] at h; split at h <;> cases h)
  | some ti =>
    refine ⟨ti, rfl, ?_⟩
    cases hu : ti.und <;> first | rfl | (cases x <;> cases y <;> first | (simp [eqV, hf, hu] at h; done) | (simp [eqV, hf, hu] at h; split at h <;> cases h))
theorem eqFs_run (T : TOk P tt) (d : Nat) {xs ys : Array Value} : ∀ {fs : List Field} {e : Bool}, eqFs tt xs.toList ys.toList fs = some e → ∀ w, (Op.eqFields (d + 1) xs ys fs).run P w = .ok e w
  | [], e, h, w => by
    cases h
    simp [Op.eqFields]
  | f :: r, e, h, w => by
    unfold eqFs at h
    by_cases hn : f.name = "_"
    · simp only [decide_eq_true hn] at h; cases h
    simp only [decide_eq_false hn] at h
    cases hx : xs.toList[f.offset]? <;> simp only [hx] at h
    · cases h
    rename_i a
    cases hy : ys.toList[f.offset]? <;> simp only [hy] at h
    · cases h
    rename_i b
    cases he : eqV tt f.type a b <;> simp only [he] at h
    · cases h
    rename_i e1
    cases hr : eqFs tt xs.toList ys.toList r <;> simp only [hr] at h
    · cases h
    rename_i e2
    cases h
    obtain ⟨ti, hf, ha⟩ := eqV_plain he
    have F := T.fact hf
    have hx' : xs[f.offset]? = some a := by simpa using hx
    have hy' : ys[f.offset]? = some b := by simpa using hy
    have ih := eqFs_run T d hr w
    have h1 := eqV_run T d he w
    unfold Op.eqFields
    rw [if_pos hn]
    simp only [Sem.run_bind, part, F.run_agg, ha, Result.andThen_ok, Bool.false_eq_true, if_false, hx', hy', Sem.run_pure, h1]
    cases e1
    · simp
    · simp [ih]
theorem agg_guard (T : TOk P tt) {op : BinOp} {xt : TypeId} {ox oy : Operand} {xs ys : Array Value} (hg : P.eqGuardType P.depth xt = false) (w : World) : (eqGuard op xt ox oy (.agg xs) (.agg ys)).run P w = .ok () w := by
  cases op <;> simp [eqGuard, hg]
theorem agg_equal (T : TOk P tt) {xt : TypeId} {xs ys : Array Value} {ti : TI} (hf : tfind tt xt = some ti) (hp : plainT tt ti.und = true) {fs : Array Field} (hu : ti.und = .struct fs) {e : Bool} (he : eqFs tt xs.toList ys.toList fs.toList = some e) (w : World) :
    (Op.equal xt (.agg xs) (.agg ys)).run P w = .ok e w := by
  have hund : P.underlying xt = some (.struct fs) := hu ▸ (T.fact hf).und
  have hfo : P.fieldsOf xt = fs := by unfold Program.fieldsOf; rw [hund]
  show (Op.equalIn (9999 + 1) xt (.agg xs) (.agg ys)).run P w = _
  rw [run_equalIn_struct w 9999 xt xs ys (by rw [hfo]; exact hund) (T.plain hf hp).1, hfo]
  exact eqFs_run T 9998 he w

theorem binVC_sound (T : TOk P tt) {op : BinOp} {xt : TypeId} {ox oy : Operand} {x y : Value} {K : Value → Prop} (h : binVC tt op xt x y K) :
    Yl P (do eqGuard op xt ox oy x y; binOp op xt x y) K := by
  cases x <;> simp only [binVC] at h
  case int k a =>
    cases y <;> simp only at h
    case int k' b =>
      have e : eqGuard op xt ox oy (.int k a) (.int k' b) = pure () := eqGuard_at_int _ _ _ _ _ _ _
      rw [e]
      by_cases hs : isIntK op = true
      · have h' : k = k' ∧ intVC op k a b K := by
          by_cases hk : k = k'
          · cases op <;> first | (simp only [decide_eq_true hk] at h; exact ⟨hk, h⟩) | (simp [isIntK] at hs)
          · cases op <;> first | (simp [isIntK] at hs; done) | (simp only [decide_eq_false hk] at h)
        obtain ⟨rfl, h'⟩ := h'
        obtain ⟨v, h1, h2⟩ := intVC_sound (P := P) (xt := xt) h'
        exact ⟨v, fun w => by simp [h1], h2⟩
      · cases op <;> simp [isIntK] at hs
        · obtain ⟨h0, h1⟩ := h
          exact ⟨_, fun w => by simp [binOp, Op.shift, Int.not_lt.2 h0, shlI], h1⟩
        · obtain ⟨h0, h1⟩ := h
          exact ⟨_, fun w => by simp [binOp, Op.shift, Int.not_lt.2 h0, shrI], h1⟩
  case string a =>
    cases y <;> simp only at h
    case string b =>
      have e : eqGuard op xt ox oy (.string a) (.string b) = pure () := eqGuard_at_string _ _ _ _ _ _
      rw [e]
      obtain ⟨v, h1, h2⟩ := strVC_sound (P := P) (xt := xt) h
      exact ⟨v, fun w => by simp [h1], h2⟩
  case bool a =>
    cases y <;> simp only at h
    case bool b =>
      have e : eqGuard op xt ox oy (.bool a) (.bool b) = pure () := eqGuard_at_bool _ _ _ _ _ _
      rw [e]
      cases hf : tfind tt xt <;> simp only [hf] at h
      rename_i ti
      have F := T.fact hf
      cases hu : ti.und <;> simp only [hu] at h
      cases op <;> simp only at h
      · exact ⟨_, fun w => by simp [run_eql xt _ _ _ w rfl (equal_bool (hu ▸ F.und) a b w)], h⟩
      · exact ⟨_, fun w => by simp [run_neq xt _ _ _ w rfl (equal_bool (hu ▸ F.und) a b w)], h⟩
  case slice a l c =>
    cases y <;> simp only at h
    case slice b l' c' =>
      cases b <;> simp only at h
      have e : eqGuard op xt ox oy (.slice a l c) (.slice none l' c') = pure () := eqGuard_at_slice _ _ _ _ _ _ _ _
      rw [e]
      cases hf : tfind tt xt <;> simp only [hf] at h
      rename_i ti
      have F := T.fact hf
      cases hu : ti.und <;> simp only [hu] at h
      cases op <;> simp only [nilVC] at h
      · exact ⟨_, fun w => by simp [run_eql xt _ _ _ w rfl (equal_slice (hu ▸ F.und) _ _ _ _ _ w)], h⟩
      · exact ⟨_, fun w => by simp [run_neq xt _ _ _ w rfl (equal_slice (hu ▸ F.und) _ _ _ _ _ w)], h⟩
  case map a =>
    cases y <;> simp only at h
    case map b =>
      cases b <;> simp only at h
      have e : eqGuard op xt ox oy (.map a) (.map none) = pure () := eqGuard_at_map _ _ _ _ _ _
      rw [e]
      cases hf : tfind tt xt <;> simp only [hf] at h
      rename_i ti
      have F := T.fact hf
      cases hu : ti.und <;> simp only [hu] at h
      cases op <;> simp only [nilVC] at h
      · exact ⟨_, fun w => by simp [run_eql xt _ _ _ w rfl (equal_map (hu ▸ F.und) _ w)], h⟩
      · exact ⟨_, fun w => by simp [run_neq xt _ _ _ w rfl (equal_map (hu ▸ F.und) _ w)], h⟩
  case pointer a =>
    cases y <;> simp only at h
    case pointer b =>
      cases b <;> simp only at h
      have e : eqGuard op xt ox oy (.pointer a) (.pointer none) = pure () := eqGuard_at_pointer _ _ _ _ _ _
      rw [e]
      cases hf : tfind tt xt <;> simp only [hf] at h
      rename_i ti
      have F := T.fact hf
      cases hu : ti.und <;> simp only [hu] at h
      cases op <;> simp only [nilVC] at h
      · exact ⟨_, fun w => by simp [run_eql xt _ _ _ w rfl (equal_pointer (hu ▸ F.und) _ w)], h⟩
      · exact ⟨_, fun w => by simp [run_neq xt _ _ _ w rfl (equal_pointer (hu ▸ F.und) _ w)], h⟩
  case agg xs =>
    cases y <;> simp only at h
    case agg ys =>
      unfold aggVC at h
      cases hf : tfind tt xt <;> simp only [hf] at h
      rename_i ti
      cases hp : plainT tt ti.und <;> simp only [hp] at h
      cases hu : ti.und <;> simp only [hu] at h
      rename_i fs
      cases he : eqFs tt xs.toList ys.toList fs.toList <;> simp only [he] at h
      rename_i e
      have hg := fun w => agg_guard (P := P) T (op := op) (xt := xt) (ox := ox) (oy := oy) (xs := xs) (ys := ys) (T.plain hf hp).2 w
      have hq := fun w => agg_equal T hf hp hu he w
      cases op <;> simp only at h
      · exact ⟨_, fun w => by simp [hg w, run_eql xt _ _ _ w rfl (hq w)], h⟩
      · exact ⟨_, fun w => by simp [hg w, run_neq xt _ _ _ w rfl (hq w)], h⟩

theorem unVC_sound {op : UnOp} {x : Value} {K : Value → Prop} (h : unVC op x K) : Yl P (Op.unary op x) K := by
  cases x <;> simp only [unVC] at h
  case int k n =>
    cases op <;> simp only at h
    · exact ⟨_, fun w => by simp [Op.unary, Op.intArith], arVC_use h⟩
    · exact ⟨_, fun w => by simp [Op.unary, intBits_xor], h⟩
  case bool b =>
    cases op <;> simp only at h
    exact ⟨_, fun w => by simp [Op.unary], h⟩

theorem convVC_sound (T : TOk P tt) {s d : TypeId} {x : Value} {K : Value → Prop} (h : convVC tt s d x K) : Yl P (convert s d x) K := by
  unfold convVC at h
  cases hs : tfind tt s <;> simp only [hs] at h
  cases hd : tfind tt d <;> simp only [hd] at h
  rename_i si di
  have Fs := T.fact hs
  have Fd := T.fact hd
  cases x <;> simp only at h
  case int k n =>
    cases hu : di.und <;> simp only [hu] at h
    cases hv : si.und <;> simp only [hv] at h
    exact ⟨_, fun w => by simp [convert, Fs.run_und, Fd.run_und, hu, Conv.intToInt], arVC_use h⟩
  case string b =>
    cases hu : di.und <;> simp only [hu] at h
    cases hv : si.und <;> simp only [hv] at h
    exact ⟨_, fun w => by simp [convert, Fs.run_und, Fd.run_und, hu], h⟩

theorem tsize_use (T : TOk P tt) {t : TypeId} {K : Nat → Prop} (h : tsize tt t K) : ∃ n, (∀ w, (sizeOf t).run P w = .ok n w) ∧ K n := by
  unfold tsize at h
  cases hs : tfind tt t <;> simp only [hs] at h
  exact ⟨_, (T.fact hs).run_size, h⟩

theorem idxVC_sound (T : TOk P tt) {t : TypeId} {x i : Value} {K : Value → Prop} (h : idxVC tt t x i K) : Yl P (Instr.indexAt t x i) K := by
  cases i <;> simp only [idxVC] at h
  rename_i k n
  cases hs : tfind tt t <;> simp only [hs] at h
  rename_i ti
  have F := T.fact hs
  cases hu : ti.und <;> simp only [hu] at h
  case slice e =>
    cases x <;> simp only at h
    obtain ⟨sz, h1, h2, h3⟩ := tsize_use T h
    obtain ⟨ad, rfl, h4⟩ := derefP_some h3
    exact ⟨_, fun w => by simp [Instr.indexAt, asIntOf, F.run_und, hu, h2, h1], h4⟩
  case array len e =>
    cases x <;> simp only at h
    obtain ⟨sz, h1, h2, h3⟩ := tsize_use T h
    obtain ⟨ad, rfl, h4⟩ := derefP_some h3
    exact ⟨_, fun w => by simp [Instr.indexAt, asIntOf, Instr.sureAddr, F.run_und, hu, h2, h1], h4⟩

theorem ex1_use {s : Sh1} {Q : Value → Prop} (h : ex1 s Q) : ∃ v, Q v := ex1_some h

theorem idxV_sound (T : TOk P tt) {t : TypeId} {x i : Value} {K : Value → Prop} (h : idxV tt t x i K) : Yl P (Instr.index t x i) K := by
  cases i <;> simp only [idxV] at h
  rename_i k n
  cases hs : tfind tt t <;> simp only [hs] at h
  rename_i ti
  have F := T.fact hs
  cases hu : ti.und <;> simp only [hu] at h
  case string =>
    cases x <;> simp only at h
    obtain ⟨b, ⟨h0, h1⟩, h2⟩ := h
    exact ⟨_, fun w => by simp [Instr.index, asIntOf, F.run_und, hu, h0, h1], h2⟩
  case array len e =>
    cases x <;> simp only at h
    cases he : tfind tt e <;> simp only [he] at h
    rename_i ei
    have G := T.fact he
    cases ha : isAggD ei.und <;> simp only [ha] at h
    cases hz : Nat.beq ei.size 1 <;> simp only [hz] at h
    have hz' : ei.size = 1 := Nat.eq_of_beq_eq_true hz
    cases hsh : ei.sh <;> simp only [hsh] at h
    rename_i se
    cases se <;> simp only at h
    obtain ⟨v, h0, h1, h2⟩ := ex1_some h
    exact ⟨v, fun w => by simp [Instr.index, asIntOf, F.run_und, hu, h0, part, G.run_size, G.run_agg, ha, hz', h1], h2⟩
end
end Go.Vc
