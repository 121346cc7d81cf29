/- Joined texts. -/
import Derived.Test.YthlcdgpemjdgnaaGreatDoorZV
import Derived.Test.YthlcdgpemjdgnaaGreatDoorZN
import Derived.Tactics
import Derived.Tactics2
import Derived.Defers
import Derived.Recover
import Derived.StillTail
import Derived.StillTactics
import Derived.Test.YthlcdgpemjdgnaaGreatDoorVkeys
/- The region of closure.Run whose order is drawn: the calls of unit and of the main function. -/
set_option linter.unusedVariables false
namespace Go.Proofs.YthlcdgpemjdgnaaGreatDoor
open Go Go.Vc Go.RowKit Go.Syn Go.Lam Go.Sort
theorem mixedZ : Tryz.prog.follows .mixedOrders = true := by kernel_rfl
theorem wpAny_cons {P : Program} {md : Region.Mode} {ops : Array Oper} {Q : Exit → Act → World → Prop} {fuel : Nat} {listed : Array Bool} {a : Act} {w : World} (rs : List Nat) (hr : Region.ready md ops listed = rs) (hne : rs ≠ []) (h : ∀ i ∈ rs, wpOp P ops Q i (wpAny P md ops Q fuel (listed.setIfInBounds i true)) a w) : wpAny P md ops Q (fuel + 1) listed a w :=
  ⟨fun e => absurd (hr.symm.trans e) hne, fun i hi => h i (hr ▸ hi)⟩
abbrev oA0 : Oper := { dst := some 29, op := Op.load 56 (Operand.tmp 8), type := 56, pos := "closure.go:482", after := #[], guard := none }
abbrev oA1 : Oper := { dst := some 30, op := Op.move (Operand.tmp 1), type := 3, pos := "closure.go:482", after := #[], guard := none }
abbrev oA2 : Oper := { dst := some 31, op := Op.build 66 #[(0, Operand.const (Value.int IntKind.i64 5)), (1, Operand.tmp 30)], type := 66, pos := "closure.go:482", after := #[{ on := 1, ground := Ground.data }], guard := none }
abbrev oA3 : Oper := { dst := some 32, op := Op.box 66 (Operand.tmp 31), type := 62, pos := "closure.go:482", after := #[{ on := 2, ground := Ground.data }], guard := none }
abbrev oA4 : Oper := { dst := some 33, op := Op.call { callee := Callee.value (Operand.func 26), args := #[], argTypes := #[] }, type := 62, pos := "closure.go:482", after := #[], guard := none }
abbrev oA5 : Oper := { dst := some 34, op := Op.call { callee := Callee.value (Operand.func 25), args := #[Operand.tmp 29, Operand.tmp 32, Operand.tmp 33], argTypes := #[56, 62, 62] }, type := 62, pos := "closure.go:482", after := #[{ on := 0, ground := Ground.data }, { on := 3, ground := Ground.data }, { on := 4, ground := Ground.data }, { on := 4, ground := Ground.chain }], guard := none }
abbrev oA6 : Oper := { dst := some 9, op := Op.assign (Operand.tmp 34), type := 62, pos := "closure.go:482", after := #[{ on := 5, ground := Ground.data }, { on := 5, ground := Ground.chain }, { on := 0, ground := Ground.phase }, { on := 1, ground := Ground.phase }, { on := 2, ground := Ground.phase }, { on := 3, ground := Ground.phase }, { on := 4, ground := Ground.phase }, { on := 5, ground := Ground.phase }], guard := none }
def opsA : Array Oper := #[oA0, oA1, oA2, oA3, oA4, oA5, oA6]
def frA (a0 a : Act) : Prop := a.defers = a0.defers ∧ a.tmps.size = a0.tmps.size ∧ ∀ t, t ≠ 9 → (t < 29 ∨ 34 < t) → a.tmps.getD t undef = a0.tmps.getD t undef
theorem put_same {a : Act} {d : Nat} {v : Value} (h : d < a.tmps.size) : (a.put (some d) v).tmps.getD d undef = v := by simp [Act.put, h]
theorem put_ne {a : Act} {d t : Nat} {v : Value} (h : t ≠ d) : (a.put (some d) v).tmps.getD t undef = a.tmps.getD t undef := by
  simp [Act.put, Array.getElem?_setIfInBounds_ne (Ne.symm h)]
theorem frA.put {a0 a : Act} (h : frA a0 a) {d : Nat} (hd : d = 9 ∨ (29 ≤ d ∧ d ≤ 34)) (v : Value) : frA a0 (a.put (some d) v) :=
  ⟨h.1, by simpa [Act.put] using h.2.1, fun t h1 h2 => by rw [put_ne (by omega)]; exact h.2.2 t h1 h2⟩
def valV (main : Int) : Obj := .cells #[.int .i64 5, .int .i64 main, .string ⟨#[]⟩, .slice none 0 0] 66
section
variable (a0 : Act) (W : World) (U : World → Value → World → Prop) (main : Int) (mv : Value)
def WS : Bool → Bool → Value → Value → World → Prop
  | false, false, _, _, w => w = W
  | true, false, bx, _, w => w = W.alloc (valV main) ∧ bx = .pointer (some ⟨W.heap.size, 0, none⟩)
  | false, true, _, u, w => U W u w
  | true, true, bx, u, w => (∃ w1, U W u w1 ∧ bx = .pointer (some ⟨w1.heap.size, 0, none⟩) ∧ w = w1.alloc (valV main)) ∨ (bx = .pointer (some ⟨W.heap.size, 0, none⟩) ∧ U (W.alloc (valV main)) u w)
def IA (b0 b1 b2 b3 b4 : Bool) (a : Act) (w : World) : Prop := ∃ bx u, frA a0 a ∧ (b0 = true → a.tmps.getD 29 undef = mv) ∧ (b1 = true → a.tmps.getD 30 undef = .int .i64 main) ∧ (b2 = true → a.tmps.getD 31 undef = .agg #[.int .i64 5, .int .i64 main, .string ⟨#[]⟩, .slice none 0 0]) ∧ (b3 = true → a.tmps.getD 32 undef = bx) ∧ (b4 = true → a.tmps.getD 33 undef = u) ∧ WS W U main b3 b4 bx u w
end
theorem wpOp_val {P : Program} {ops : Array Oper} {Q : Exit → Act → World → Prop} {i : Nat} {o : Oper} {K : Act → World → Prop} {a : Act} {w w' : World} {v : Value} (ho : ops[i]? = some o) (hw : ∀ y, Region.wanted o y = true) (hr : (execOp a.eval o).run P w = .ok (.value v) w') (hK : K (a.put o.dst v) w') : wpOp P ops Q i K a w := by
  unfold wpOp
  rw [ho]
  show (if Region.wanted o (yielded ops a.tmps) then _ else _)
  rw [if_pos (hw _)]
  refine .inl ?_
  unfold Oper.wp
  rw [hr]
  exact hK
theorem wpOp_call {P : Program} {ops : Array Oper} {Q : Exit → Act → World → Prop} {i : Nat} {o : Oper} {K : Act → World → Prop} {a : Act} {w : World} {f : FuncId} {args : Array Value} (ho : ops[i]? = some o) (hw : ∀ y, Region.wanted o y = true) (hr : (execOp a.eval o).run P w = .ok (.enter f args) w)
    (hc : Calls P f args w fun e w'' => (∃ v, e = .returned v ∧ K (a.put o.dst v) w'') ∨ ∃ ch, e = .panicked ch ∧ Q (.panic ch) a w'') : wpOp P ops Q i K a w := by
  unfold wpOp
  rw [ho]
  show (if Region.wanted o (yielded ops a.tmps) then _ else _)
  rw [if_pos (hw _)]
  refine .inl ?_
  unfold Oper.wp
  rw [hr]
  refine Calls.mono hc ?_
  rintro e w'' (⟨v, rfl, h⟩ | ⟨ch, rfl, h⟩)
  · exact h
  · exact h
section
variable {a0 : Act} {W : World} {U : World → Value → World → Prop} {main : Int} {mv : Value} {b0 b1 b2 b3 b4 : Bool} {a : Act} {w : World} {K : Act → World → Prop} {Q : Exit → Act → World → Prop}
theorem opA0 {pb : Addr} {mp : Option Addr} (hsz : a0.tmps.size = 50) (h8 : a0.tmps.getD 8 undef = .pointer (some pb)) (hload : w.cell? pb = some (.pointer mp)) (h : IA a0 W U main (.pointer mp) b0 b1 b2 b3 b4 a w) (hK : ∀ a', IA a0 W U main (.pointer mp) true b1 b2 b3 b4 a' w → K a' w) : wpOp Tryz.prog opsA Q 0 K a w := by
  obtain ⟨bx, u, hf, h0, h1, h2, h3, h4, hw⟩ := h
  have e8 : a.tmps.getD 8 undef = .pointer (some pb) := by rw [hf.2.2 8 (by omega) (by omega)]; exact h8
  have e8' : a.tmps[8]?.getD undef = .pointer (some pb) := by simpa using e8
  have hs : 29 < a.tmps.size := by rw [hf.2.1, hsz]; omega
  have key : K (a.put (some 29) (.pointer mp)) w := hK _ ⟨bx, u, hf.put (.inr (by omega)) _, fun _ => put_same hs, fun hh => by rw [put_ne (by omega)]; exact h1 hh, fun hh => by rw [put_ne (by omega)]; exact h2 hh, fun hh => by rw [put_ne (by omega)]; exact h3 hh, fun hh => by rw [put_ne (by omega)]; exact h4 hh, hw⟩
  exact wpOp_val (o := oA0) rfl (fun _ => rfl) (by simp [go_sem, Act.eval, e8', hload]) key
theorem opA1 (hsz : a0.tmps.size = 50) (h8 : a0.tmps.getD 1 undef = .int .i64 main) (h : IA a0 W U main mv b0 b1 b2 b3 b4 a w) (hK : ∀ a', IA a0 W U main mv b0 true b2 b3 b4 a' w → K a' w) : wpOp Tryz.prog opsA Q 1 K a w := by
  obtain ⟨bx, u, hf, h0, h1, h2, h3, h4, hw⟩ := h
  have e8 : a.tmps.getD 1 undef = .int .i64 main := by rw [hf.2.2 1 (by omega) (by omega)]; exact h8
  have e8' : a.tmps[1]?.getD undef = .int .i64 main := by simpa using e8
  have hs : 30 < a.tmps.size := by rw [hf.2.1, hsz]; omega
  have key : K (a.put (some 30) (.int .i64 main)) w := hK _ ⟨bx, u, hf.put (.inr (by omega)) _, fun hh => by rw [put_ne (by omega)]; exact h0 hh, fun _ => put_same hs, fun hh => by rw [put_ne (by omega)]; exact h2 hh, fun hh => by rw [put_ne (by omega)]; exact h3 hh, fun hh => by rw [put_ne (by omega)]; exact h4 hh, hw⟩
  exact wpOp_val (o := oA1) rfl (fun _ => rfl) (by simp [go_sem, Act.eval, e8']) key
theorem opA2 (hsz : a0.tmps.size = 50) (h : IA a0 W U main mv b0 true b2 b3 b4 a w) (hK : ∀ a', IA a0 W U main mv b0 true true b3 b4 a' w → K a' w) : wpOp Tryz.prog opsA Q 2 K a w := by
  obtain ⟨bx, u, hf, h0, h1, h2, h3, h4, hw⟩ := h
  have e8' : a.tmps[30]?.getD undef = .int .i64 main := by simpa using h1 rfl
  have hs : 31 < a.tmps.size := by rw [hf.2.1, hsz]; omega
  have key : K (a.put (some 31) (.agg #[.int .i64 5, .int .i64 main, .string ⟨#[]⟩, .slice none 0 0])) w := hK _ ⟨bx, u, hf.put (.inr (by omega)) _, fun hh => by rw [put_ne (by omega)]; exact h0 hh, fun hh => by rw [put_ne (by omega)]; exact h1 hh, fun _ => put_same hs, fun hh => by rw [put_ne (by omega)]; exact h3 hh, fun hh => by rw [put_ne (by omega)]; exact h4 hh, hw⟩
  exact wpOp_val (o := oA2) rfl (fun _ => rfl) (by simp [go_sem, Act.eval, e8']) key
theorem opA3 (hsz : a0.tmps.size = 50) (h : IA a0 W U main mv b0 b1 true false b4 a w) (hK : ∀ a' w', IA a0 W U main mv b0 b1 true true b4 a' w' → K a' w') : wpOp Tryz.prog opsA Q 3 K a w := by
  obtain ⟨bx, u, hf, h0, h1, h2, h3, h4, hw⟩ := h
  have e8' : a.tmps[31]?.getD undef = .agg #[.int .i64 5, .int .i64 main, .string ⟨#[]⟩, .slice none 0 0] := by simpa using h2 rfl
  have hs : 32 < a.tmps.size := by rw [hf.2.1, hsz]; omega
  have key : K (a.put (some 32) (.pointer (some ⟨w.heap.size, 0, none⟩))) (w.alloc (valV main)) := by
    refine hK _ _ ⟨.pointer (some ⟨w.heap.size, 0, none⟩), u, hf.put (.inr (by omega)) _, fun hh => by rw [put_ne (by omega)]; exact h0 hh, fun hh => by rw [put_ne (by omega)]; exact h1 hh, fun hh => by rw [put_ne (by omega)]; exact h2 hh, fun _ => put_same hs, fun hh => by rw [put_ne (by omega)]; exact h4 hh, ?_⟩
    cases b4 with
    | false => have hw : w = W := hw; rw [hw]; exact ⟨rfl, rfl⟩
    | true => exact .inl ⟨w, hw, rfl, rfl⟩
  exact wpOp_val (o := oA3) rfl (fun _ => rfl) (by simp [go_sem, Act.eval, e8', valV]) key
theorem opA4 (hsz : a0.tmps.size = 50) (hU : ∀ W', (W' = W ∨ W' = W.alloc (valV main)) → Calls Tryz.prog 26 #[] W' fun e w'' => ∃ u, e = .returned u ∧ U W' u w'') (h : IA a0 W U main mv b0 b1 b2 b3 false a w) (hK : ∀ a' w', IA a0 W U main mv b0 b1 b2 b3 true a' w' → K a' w') : wpOp Tryz.prog opsA Q 4 K a w := by
  obtain ⟨bx, u, hf, h0, h1, h2, h3, h4, hw⟩ := h
  have hs : 33 < a.tmps.size := by rw [hf.2.1, hsz]; omega
  have call : Calls Tryz.prog 26 #[] w fun e w'' => ∃ u, e = .returned u ∧ K (a.put (some 33) u) w'' := by
    have hww : w = W ∨ w = W.alloc (valV main) := by
      cases b3 with
      | false => exact .inl hw
      | true => exact .inr hw.1
    refine Calls.mono (hU w hww) ?_
    rintro e w'' ⟨u, rfl, hu⟩
    refine ⟨u, rfl, hK _ _ ⟨bx, u, hf.put (.inr (by omega)) _, fun hh => by rw [put_ne (by omega)]; exact h0 hh, fun hh => by rw [put_ne (by omega)]; exact h1 hh, fun hh => by rw [put_ne (by omega)]; exact h2 hh, fun hh => by rw [put_ne (by omega)]; exact h3 hh, fun _ => put_same hs, ?_⟩⟩
    cases b3 with
    | false => have hw : w = W := hw; rw [hw] at hu; exact hu
    | true => obtain ⟨e1, e2⟩ := hw; rw [e1] at hu; exact .inr ⟨e2, hu⟩
  refine wpOp_call (o := oA4) (f := 26) (args := #[]) rfl (fun _ => rfl) (by simp [go_sem]) (Calls.mono call ?_)
  rintro e w'' ⟨u, rfl, hk⟩
  exact .inl ⟨u, rfl, hk⟩
theorem opA5 {F : Value → World → Prop} {PP : List PanicEntry → World → Prop} (hsz : a0.tmps.size = 50) (hC : ∀ bx u w, WS W U main true true bx u w → Calls Tryz.prog 25 #[mv, bx, u] w fun e w'' => (∃ q, e = .returned q ∧ F q w'') ∨ ∃ ch, e = .panicked ch ∧ PP ch w'')
    (hQ : ∀ ch a w'', frA a0 a → PP ch w'' → Q (.panic ch) a w'') (h : IA a0 W U main mv true true true true true a w) (hK : ∀ a' w' q, frA a0 a' → a'.tmps.getD 34 undef = q → F q w' → K a' w') : wpOp Tryz.prog opsA Q 5 K a w := by
  obtain ⟨bx, u, hf, h0, h1, h2, h3, h4, hw⟩ := h
  have e0 : a.tmps[29]?.getD undef = mv := by simpa using h0 rfl
  have e3 : a.tmps[32]?.getD undef = bx := by simpa using h3 rfl
  have e4 : a.tmps[33]?.getD undef = u := by simpa using h4 rfl
  have hs : 34 < a.tmps.size := by rw [hf.2.1, hsz]; omega
  refine wpOp_call (o := oA5) (f := 25) (args := #[mv, bx, u]) rfl (fun _ => rfl) (by simp [go_sem, Act.eval, e0, e3, e4]) (Calls.mono (hC bx u w hw) ?_)
  rintro e w'' (⟨q, rfl, hF⟩ | ⟨ch, rfl, hP⟩)
  · exact .inl ⟨q, rfl, hK _ _ q (hf.put (.inr (by omega)) _) (put_same hs) hF⟩
  · exact .inr ⟨ch, rfl, hQ ch a w'' hf hP⟩
theorem opA6 {q : Value} (hsz : a0.tmps.size = 50) (hf : frA a0 a) (h34 : a.tmps.getD 34 undef = q) (hK : ∀ a', frA a0 a' → a'.tmps.getD 9 undef = q → K a' w) : wpOp Tryz.prog opsA Q 6 K a w := by
  have e8' : a.tmps[34]?.getD undef = q := by simpa using h34
  have hs : 9 < a.tmps.size := by rw [hf.2.1, hsz]; omega
  exact wpOp_val (o := oA6) rfl (fun _ => rfl) (by simp [go_sem, Act.eval, e8']) (hK (a.put (some 9) q) (hf.put (.inl rfl) _) (put_same hs))
theorem regA {F : Value → World → Prop} {PP : List PanicEntry → World → Prop} {pb : Addr} {mp : Option Addr} (hsz : a0.tmps.size = 50) (h8 : a0.tmps.getD 8 undef = .pointer (some pb)) (h1 : a0.tmps.getD 1 undef = .int .i64 main)
    (hload : ∀ b3 b4 bx u w, WS W U main b3 b4 bx u w → w.cell? pb = some (.pointer mp))
    (hU : ∀ W', (W' = W ∨ W' = W.alloc (valV main)) → Calls Tryz.prog 26 #[] W' fun e w'' => ∃ u, e = .returned u ∧ U W' u w'')
    (hC : ∀ bx u w, WS W U main true true bx u w → Calls Tryz.prog 25 #[.pointer mp, bx, u] w fun e w'' => (∃ q, e = .returned q ∧ F q w'') ∨ ∃ ch, e = .panicked ch ∧ PP ch w'')
    (hQ : ∀ ch a w'', frA a0 a → PP ch w'' → Q (.panic ch) a w'') (hN : ∀ a' w' q, frA a0 a' → a'.tmps.getD 9 undef = q → F q w' → Q .normal a' w') :
    wpAny Tryz.prog .any opsA Q 7 (Array.replicate 7 false) a0 W := by
  have one : ∀ {i j : Nat}, i ∈ [j] → i = j := fun h => List.mem_singleton.1 h
  have ld : ∀ {b0 b1 b2 b3 b4 a w}, IA a0 W U main (.pointer mp) b0 b1 b2 b3 b4 a w → w.cell? pb = some (.pointer mp) := fun ⟨bx, u, _, _, _, _, _, _, hw⟩ => hload _ _ bx u _ hw
  have s11111 : ∀ a w, IA a0 W U main (.pointer mp) true true true true true a w → wpAny Tryz.prog .any opsA Q 2 #[true, true, true, true, true, false, false] a w := by
    intro a w h
    refine wpAny_cons [5] (by kernel_rfl) (by decide) (fun i hi => ?_)
    have e := one hi
    subst e
    refine opA5 hsz hC hQ h (fun a' w' q hf h34 hF => wpAny_cons [6] (by kernel_rfl) (by decide) (fun i hi => ?_))
    have e := one hi
    subst e
    exact opA6 hsz hf h34 (fun a'' hf' h9 => ⟨by kernel_rfl, hN a'' w' q hf' h9 hF⟩)
  have s11110 : ∀ a w, IA a0 W U main (.pointer mp) true true true true false a w → wpAny Tryz.prog .any opsA Q 3 #[true, true, true, true, false, false, false] a w := by
    intro a w h
    refine wpAny_cons [4] (by kernel_rfl) (by decide) (fun i hi => ?_)
    have e := one hi
    subst e
    exact opA4 hsz hU h (fun a' w' h' => s11111 a' w' h')
  have s11101 : ∀ a w, IA a0 W U main (.pointer mp) true true true false true a w → wpAny Tryz.prog .any opsA Q 3 #[true, true, true, false, true, false, false] a w := by
    intro a w h
    refine wpAny_cons [3] (by kernel_rfl) (by decide) (fun i hi => ?_)
    have e := one hi
    subst e
    exact opA3 hsz h (fun a' w' h' => s11111 a' w' h')
  have s01111 : ∀ a w, IA a0 W U main (.pointer mp) false true true true true a w → wpAny Tryz.prog .any opsA Q 3 #[false, true, true, true, true, false, false] a w := by
    intro a w h
    refine wpAny_cons [0] (by kernel_rfl) (by decide) (fun i hi => ?_)
    have e := one hi
    subst e
    exact opA0 hsz h8 (ld h) h (fun a' h' => s11111 a' w h')
  have s11100 : ∀ a w, IA a0 W U main (.pointer mp) true true true false false a w → wpAny Tryz.prog .any opsA Q 4 #[true, true, true, false, false, false, false] a w := by
    intro a w h
    refine wpAny_cons [3, 4] (by kernel_rfl) (by decide) (fun i hi => ?_)
    simp only [List.mem_cons, List.not_mem_nil, or_false] at hi
    rcases hi with rfl | rfl
    · exact opA3 hsz h (fun a' w' h' => s11110 a' w' h')
    · exact opA4 hsz hU h (fun a' w' h' => s11101 a' w' h')
  have s11001 : ∀ a w, IA a0 W U main (.pointer mp) true true false false true a w → wpAny Tryz.prog .any opsA Q 4 #[true, true, false, false, true, false, false] a w := by
    intro a w h
    refine wpAny_cons [2] (by kernel_rfl) (by decide) (fun i hi => ?_)
    have e := one hi
    subst e
    exact opA2 hsz h (fun a' h' => s11101 a' w h')
  have s01110 : ∀ a w, IA a0 W U main (.pointer mp) false true true true false a w → wpAny Tryz.prog .any opsA Q 4 #[false, true, true, true, false, false, false] a w := by
    intro a w h
    refine wpAny_cons [0, 4] (by kernel_rfl) (by decide) (fun i hi => ?_)
    simp only [List.mem_cons, List.not_mem_nil, or_false] at hi
    rcases hi with rfl | rfl
    · exact opA0 hsz h8 (ld h) h (fun a' h' => s11110 a' w h')
    · exact opA4 hsz hU h (fun a' w' h' => s01111 a' w' h')
  have s01101 : ∀ a w, IA a0 W U main (.pointer mp) false true true false true a w → wpAny Tryz.prog .any opsA Q 4 #[false, true, true, false, true, false, false] a w := by
    intro a w h
    refine wpAny_cons [0, 3] (by kernel_rfl) (by decide) (fun i hi => ?_)
    simp only [List.mem_cons, List.not_mem_nil, or_false] at hi
    rcases hi with rfl | rfl
    · exact opA0 hsz h8 (ld h) h (fun a' h' => s11101 a' w h')
    · exact opA3 hsz h (fun a' w' h' => s01111 a' w' h')
  have s11000 : ∀ a w, IA a0 W U main (.pointer mp) true true false false false a w → wpAny Tryz.prog .any opsA Q 5 #[true, true, false, false, false, false, false] a w := by
    intro a w h
    refine wpAny_cons [2, 4] (by kernel_rfl) (by decide) (fun i hi => ?_)
    simp only [List.mem_cons, List.not_mem_nil, or_false] at hi
    rcases hi with rfl | rfl
    · exact opA2 hsz h (fun a' h' => s11100 a' w h')
    · exact opA4 hsz hU h (fun a' w' h' => s11001 a' w' h')
  have s10001 : ∀ a w, IA a0 W U main (.pointer mp) true false false false true a w → wpAny Tryz.prog .any opsA Q 5 #[true, false, false, false, true, false, false] a w := by
    intro a w h
    refine wpAny_cons [1] (by kernel_rfl) (by decide) (fun i hi => ?_)
    have e := one hi
    subst e
    exact opA1 hsz h1 h (fun a' h' => s11001 a' w h')
  have s01100 : ∀ a w, IA a0 W U main (.pointer mp) false true true false false a w → wpAny Tryz.prog .any opsA Q 5 #[false, true, true, false, false, false, false] a w := by
    intro a w h
    refine wpAny_cons [0, 3, 4] (by kernel_rfl) (by decide) (fun i hi => ?_)
    simp only [List.mem_cons, List.not_mem_nil, or_false] at hi
    rcases hi with rfl | rfl | rfl
    · exact opA0 hsz h8 (ld h) h (fun a' h' => s11100 a' w h')
    · exact opA3 hsz h (fun a' w' h' => s01110 a' w' h')
    · exact opA4 hsz hU h (fun a' w' h' => s01101 a' w' h')
  have s01001 : ∀ a w, IA a0 W U main (.pointer mp) false true false false true a w → wpAny Tryz.prog .any opsA Q 5 #[false, true, false, false, true, false, false] a w := by
    intro a w h
    refine wpAny_cons [0, 2] (by kernel_rfl) (by decide) (fun i hi => ?_)
    simp only [List.mem_cons, List.not_mem_nil, or_false] at hi
    rcases hi with rfl | rfl
    · exact opA0 hsz h8 (ld h) h (fun a' h' => s11001 a' w h')
    · exact opA2 hsz h (fun a' h' => s01101 a' w h')
  have s10000 : ∀ a w, IA a0 W U main (.pointer mp) true false false false false a w → wpAny Tryz.prog .any opsA Q 6 #[true, false, false, false, false, false, false] a w := by
    intro a w h
    refine wpAny_cons [1, 4] (by kernel_rfl) (by decide) (fun i hi => ?_)
    simp only [List.mem_cons, List.not_mem_nil, or_false] at hi
    rcases hi with rfl | rfl
    · exact opA1 hsz h1 h (fun a' h' => s11000 a' w h')
    · exact opA4 hsz hU h (fun a' w' h' => s10001 a' w' h')
  have s01000 : ∀ a w, IA a0 W U main (.pointer mp) false true false false false a w → wpAny Tryz.prog .any opsA Q 6 #[false, true, false, false, false, false, false] a w := by
    intro a w h
    refine wpAny_cons [0, 2, 4] (by kernel_rfl) (by decide) (fun i hi => ?_)
    simp only [List.mem_cons, List.not_mem_nil, or_false] at hi
    rcases hi with rfl | rfl | rfl
    · exact opA0 hsz h8 (ld h) h (fun a' h' => s11000 a' w h')
    · exact opA2 hsz h (fun a' h' => s01100 a' w h')
    · exact opA4 hsz hU h (fun a' w' h' => s01001 a' w' h')
  have s00001 : ∀ a w, IA a0 W U main (.pointer mp) false false false false true a w → wpAny Tryz.prog .any opsA Q 6 #[false, false, false, false, true, false, false] a w := by
    intro a w h
    refine wpAny_cons [0, 1] (by kernel_rfl) (by decide) (fun i hi => ?_)
    simp only [List.mem_cons, List.not_mem_nil, or_false] at hi
    rcases hi with rfl | rfl
    · exact opA0 hsz h8 (ld h) h (fun a' h' => s10001 a' w h')
    · exact opA1 hsz h1 h (fun a' h' => s01001 a' w h')
  have s00000 : ∀ a w, IA a0 W U main (.pointer mp) false false false false false a w → wpAny Tryz.prog .any opsA Q 7 #[false, false, false, false, false, false, false] a w := by
    intro a w h
    refine wpAny_cons [0, 1, 4] (by kernel_rfl) (by decide) (fun i hi => ?_)
    simp only [List.mem_cons, List.not_mem_nil, or_false] at hi
    rcases hi with rfl | rfl | rfl
    · exact opA0 hsz h8 (ld h) h (fun a' h' => s10000 a' w h')
    · exact opA1 hsz h1 h (fun a' h' => s01000 a' w h')
    · exact opA4 hsz hU h (fun a' w' h' => s00001 a' w' h')
  have hr : frA a0 a0 := ⟨rfl, rfl, fun _ _ _ => rfl⟩
  exact s00000 a0 W ⟨undef, undef, hr, (fun h => by cases h), (fun h => by cases h), (fun h => by cases h), (fun h => by cases h), (fun h => by cases h), rfl⟩
end
end Go.Proofs.YthlcdgpemjdgnaaGreatDoor
/- The last drawn region of closure.Run: the outcome is stored. -/
set_option linter.unusedVariables false
namespace Go.Proofs.YthlcdgpemjdgnaaGreatDoor
open Go Go.Vc Go.RowKit Go.Syn Go.Lam Go.Sort
theorem wpStill_val {P : Program} {ops : Array Oper} {w : World} {Q : Act → Prop} {o : Oper} {rest : List Oper} {a : Act} {v : Value} (hw : ∀ y, Region.wanted o y = true) (hr : (execOp a.eval o).run P w = .ok (.value v) w) (hK : wpStill P ops w Q rest (a.put o.dst v)) : wpStill P ops w Q (o :: rest) a := by
  show (if Region.wanted o (yielded ops a.tmps) then _ else _)
  rw [if_pos (hw _)]
  unfold Oper.still
  rw [hr, Oper.stillUpon_value]
  exact hK
theorem wpList_skip {P : Program} {ops : Array Oper} {Q : Exit → Act → World → Prop} {o : Oper} {rest : List Oper} {a : Act} {w w' : World} (hw : ∀ y, Region.wanted o y = true) (hr : (execOp a.eval o).run P w = .ok .skip w') (hK : wpList P ops Q rest (a.put o.dst undef) w') : wpList P ops Q (o :: rest) a w := by
  show (if Region.wanted o (yielded ops a.tmps) then _ else _)
  rw [if_pos (hw _)]
  refine .inl ?_
  unfold Oper.wp
  rw [hr]
  exact hK
abbrev oD0 : Oper := { dst := some 40, op := Op.load 56 (Operand.tmp 8), type := 56, pos := "closure.go:485", after := #[], guard := none }
abbrev oD1 : Oper := { dst := some 41, op := Op.nilCheck (Operand.tmp 40), type := 0, pos := "closure.go:485", after := #[{ on := 0, ground := Ground.data }], guard := none }
abbrev oD2 : Oper := { dst := some 42, op := Op.fieldAddr 58 (Operand.tmp 41) 2, type := 0, pos := "closure.go:485", after := #[{ on := 1, ground := Ground.data }], guard := none }
abbrev oD3 : Oper := { dst := some 43, op := Op.load 3 (Operand.tmp 42), type := 3, pos := "closure.go:485", after := #[{ on := 2, ground := Ground.data }], guard := none }
abbrev oD4 : Oper := { dst := some 44, op := Op.load 28 (Operand.tmp 11), type := 28, pos := "closure.go:485", after := #[], guard := none }
abbrev oD5 : Oper := { dst := some 45, op := Op.load 56 (Operand.tmp 8), type := 56, pos := "closure.go:485", after := #[], guard := none }
abbrev oD6 : Oper := { dst := some 46, op := Op.nilCheck (Operand.tmp 45), type := 0, pos := "closure.go:485", after := #[{ on := 5, ground := Ground.data }], guard := none }
abbrev oD7 : Oper := { dst := some 47, op := Op.fieldAddr 58 (Operand.tmp 46) 3, type := 0, pos := "closure.go:485", after := #[{ on := 6, ground := Ground.data }], guard := none }
abbrev oD8 : Oper := { dst := some 48, op := Op.load 25 (Operand.tmp 47), type := 25, pos := "closure.go:485", after := #[{ on := 7, ground := Ground.data }], guard := none }
abbrev oD9 : Oper := { dst := some 49, op := Op.build 30 #[(0, Operand.const (Value.int IntKind.i64 1)), (2, Operand.tmp 43), (3, Operand.tmp 44), (4, Operand.tmp 48)], type := 30, pos := "closure.go:485", after := #[{ on := 3, ground := Ground.data }, { on := 4, ground := Ground.data }, { on := 8, ground := Ground.data }], guard := none }
abbrev oD10 : Oper := { dst := none, op := Op.store 30 (Operand.tmp 6) (Operand.tmp 49), type := 0, pos := "closure.go:485", after := #[{ on := 9, ground := Ground.data }, { on := 0, ground := Ground.phase }, { on := 1, ground := Ground.phase }, { on := 2, ground := Ground.phase }, { on := 3, ground := Ground.phase }, { on := 4, ground := Ground.phase }, { on := 5, ground := Ground.phase }, { on := 6, ground := Ground.phase }, { on := 7, ground := Ground.phase }, { on := 8, ground := Ground.phase }, { on := 9, ground := Ground.phase }], guard := none }
abbrev oD11 : Oper := { dst := none, op := Op.store 31 (Operand.tmp 7) (Operand.const (Value.int IntKind.i64 0)), type := 0, pos := "closure.go:485", after := #[{ on := 10, ground := Ground.chain }, { on := 0, ground := Ground.phase }, { on := 1, ground := Ground.phase }, { on := 2, ground := Ground.phase }, { on := 3, ground := Ground.phase }, { on := 4, ground := Ground.phase }, { on := 5, ground := Ground.phase }, { on := 6, ground := Ground.phase }, { on := 7, ground := Ground.phase }, { on := 8, ground := Ground.phase }, { on := 9, ground := Ground.phase }, { on := 10, ground := Ground.phase }], guard := none }
def opsD : List Oper := [oD0, oD1, oD2, oD3, oD4, oD5, oD6, oD7, oD8, oD9, oD10, oD11]
theorem faK (k : Nat) (hk : k = 2 ∨ k = 3) (mb : Nat) (w : World) : Sem.run Tryz.prog (do let x ← Instr.fieldAt 58 (.pointer (some ⟨mb, 0, none⟩)) k; pure (Next.value x)) w = .ok (.value (.pointer (some ⟨mb, k, none⟩))) w := by
  rcases hk with rfl | rfl
  · kernel_rfl
  · kernel_rfl
theorem fa2 (c : Act) (w : World) (mb : Nat) (h : c.tmps[41]?.getD undef = .pointer (some ⟨mb, 0, none⟩)) : (execOp c.eval oD2).run Tryz.prog w = .ok (.value (.pointer (some ⟨mb, 2, none⟩))) w := by
  have e : c.eval (.tmp 41) = .pointer (some ⟨mb, 0, none⟩) := by simpa [Act.eval] using h
  unfold execOp
  dsimp only
  rw [e]
  exact faK 2 (.inl rfl) mb w
theorem fa7 (c : Act) (w : World) (mb : Nat) (h : c.tmps[46]?.getD undef = .pointer (some ⟨mb, 0, none⟩)) : (execOp c.eval oD7).run Tryz.prog w = .ok (.value (.pointer (some ⟨mb, 3, none⟩))) w := by
  have e : c.eval (.tmp 46) = .pointer (some ⟨mb, 0, none⟩) := by simpa [Act.eval] using h
  unfold execOp
  dsimp only
  rw [e]
  exact faK 3 (.inr rfl) mb w
theorem ld3 (c : Act) (w : World) (mb : Nat) (n : Int) (h : c.tmps[42]?.getD undef = .pointer (some ⟨mb, 2, none⟩)) (r : w.cell? ⟨mb, 2, none⟩ = some (.int .i64 n)) : (execOp c.eval oD3).run Tryz.prog w = .ok (.value (.int .i64 n)) w := by
  have e : c.eval (.tmp 42) = .pointer (some ⟨mb, 2, none⟩) := by simpa [Act.eval] using h
  unfold execOp
  dsimp only
  rw [e]
  simp [go_sem, r]
theorem ld4 (c : Act) (w : World) (vb : Nat) {y0 y1 : Int} {y2 : ByteArray} {na : Option Addr} {nn nc : Nat} {xa : Option Addr} {xn xc : Nat} (h : c.tmps[11]?.getD undef = .pointer (some ⟨vb, 0, none⟩)) (r0 : w.cell? ⟨vb, 0, none⟩ = some (.int .i64 y0)) (r1 : w.cell? ⟨vb, 1, none⟩ = some (.int .i64 y1)) (r2 : w.cell? ⟨vb, 2, none⟩ = some (.string y2)) (r3 : w.cell? ⟨vb, 3, none⟩ = some (.slice na nn nc)) (r4 : w.cell? ⟨vb, 4, none⟩ = some (.slice xa xn xc)) :
    (execOp c.eval oD4).run Tryz.prog w = .ok (.value (.agg #[.int .i64 y0, .int .i64 y1, .string y2, .slice na nn nc, .slice xa xn xc])) w := by
  have e : c.eval (.tmp 11) = .pointer (some ⟨vb, 0, none⟩) := by simpa [Act.eval] using h
  unfold execOp
  dsimp only
  rw [e]
  simp [go_sem, r0, r1, r2, r3, r4]
theorem ld8 (c : Act) (w : World) (mb : Nat) {a : Option Addr} {n m : Nat} (h : c.tmps[47]?.getD undef = .pointer (some ⟨mb, 3, none⟩)) (r : w.cell? ⟨mb, 3, none⟩ = some (.slice a n m)) : (execOp c.eval oD8).run Tryz.prog w = .ok (.value (.slice a n m)) w := by
  have e : c.eval (.tmp 47) = .pointer (some ⟨mb, 3, none⟩) := by simpa [Act.eval] using h
  unfold execOp
  dsimp only
  rw [e]
  simp [go_sem, r]
theorem bd9 (c : Act) (w : World) (n : Int) {y0 y1 : Int} {y2 : ByteArray} {na : Option Addr} {nn nc : Nat} {xa : Option Addr} {xn xc : Nat} {a : Option Addr} {l m : Nat} (h1 : c.tmps[43]?.getD undef = .int .i64 n) (h2 : c.tmps[44]?.getD undef = .agg #[.int .i64 y0, .int .i64 y1, .string y2, .slice na nn nc, .slice xa xn xc]) (h3 : c.tmps[48]?.getD undef = .slice a l m) :
    (execOp c.eval oD9).run Tryz.prog w = .ok (.value (.agg #[.int .i64 1, .int .i64 0, .int .i64 n, .int .i64 y0, .int .i64 y1, .string y2, .slice na nn nc, .slice xa xn xc, .slice a l m])) w := by
  simp [go_sem, Act.eval, h1, h2, h3]
theorem ld0 (o : Oper) (ho : o = oD0 ∨ o = oD5) (c : Act) (w : World) (pb mb : Nat) (h : c.tmps[8]?.getD undef = .pointer (some ⟨pb, 0, none⟩)) (r : w.cell? ⟨pb, 0, none⟩ = some (.pointer (some ⟨mb, 0, none⟩))) : (execOp c.eval o).run Tryz.prog w = .ok (.value (.pointer (some ⟨mb, 0, none⟩))) w := by
  have e : c.eval (.tmp 8) = .pointer (some ⟨pb, 0, none⟩) := by simpa [Act.eval] using h
  rcases ho with rfl | rfl
  · unfold execOp
    dsimp only
    rw [e]
    simp [go_sem, r]
  · unfold execOp
    dsimp only
    rw [e]
    simp [go_sem, r]
theorem nc1 (c : Act) (w : World) (mb : Nat) (h : c.tmps[40]?.getD undef = .pointer (some ⟨mb, 0, none⟩)) : (execOp c.eval oD1).run Tryz.prog w = .ok (.value (.pointer (some ⟨mb, 0, none⟩))) w := by
  have e : c.eval (.tmp 40) = .pointer (some ⟨mb, 0, none⟩) := by simpa [Act.eval] using h
  unfold execOp
  dsimp only
  rw [e]
  simp [go_sem]
theorem nc6 (c : Act) (w : World) (mb : Nat) (h : c.tmps[45]?.getD undef = .pointer (some ⟨mb, 0, none⟩)) : (execOp c.eval oD6).run Tryz.prog w = .ok (.value (.pointer (some ⟨mb, 0, none⟩))) w := by
  have e : c.eval (.tmp 45) = .pointer (some ⟨mb, 0, none⟩) := by simpa [Act.eval] using h
  unfold execOp
  dsimp only
  rw [e]
  simp [go_sem]
theorem st10 (d : Act) (w : World) (ob : Nat) {L0 : List Value} (ho : Blk w ob 30 L0) (hl : L0.length = 9) (n : Int) {y0 y1 : Int} {y2 : ByteArray} {na : Option Addr} {nn nc : Nat} {xa : Option Addr} {xn xc : Nat} {a : Option Addr} {l m : Nat} (h6 : d.tmps[6]?.getD undef = .pointer (some ⟨ob, 0, none⟩)) (h49 : d.tmps[49]?.getD undef = .agg #[.int .i64 1, .int .i64 0, .int .i64 n, .int .i64 y0, .int .i64 y1, .string y2, .slice na nn nc, .slice xa xn xc, .slice a l m]) :
    (execOp d.eval oD10).run Tryz.prog w = .ok .skip (stL ⟨ob, 0, none⟩ 0 [.int .i64 1, .int .i64 0, .int .i64 n, .int .i64 y0, .int .i64 y1, .string y2, .slice na nn nc, .slice xa xn xc, .slice a l m] w) := by
  have hfr := ho.frozen
  have hcell : ∀ i, i < 9 → ∃ v, w.cell? ⟨ob, i, none⟩ = some v := fun i hi => by rw [ho.cell]; exact ⟨_, List.getElem?_eq_getElem (by omega)⟩
  obtain ⟨v0, c0⟩ := hcell 0 (by omega)
  obtain ⟨v1, c1⟩ := hcell 1 (by omega)
  obtain ⟨v2, c2⟩ := hcell 2 (by omega)
  obtain ⟨v3, c3⟩ := hcell 3 (by omega)
  obtain ⟨v4, c4⟩ := hcell 4 (by omega)
  obtain ⟨v5, c5⟩ := hcell 5 (by omega)
  obtain ⟨v6, c6⟩ := hcell 6 (by omega)
  obtain ⟨v7, c7⟩ := hcell 7 (by omega)
  obtain ⟨v8, c8⟩ := hcell 8 (by omega)
  have e6 : d.eval (.tmp 6) = .pointer (some ⟨ob, 0, none⟩) := by simpa [Act.eval] using h6
  have e49 : d.eval (.tmp 49) = .agg #[.int .i64 1, .int .i64 0, .int .i64 n, .int .i64 y0, .int .i64 y1, .string y2, .slice na nn nc, .slice xa xn xc, .slice a l m] := by simpa [Act.eval] using h49
  unfold execOp
  dsimp only
  rw [e6, e49]
  simp [go_sem, c0, c1, c2, c3, c4, c5, c6, c7, c8, hfr, World.cell?_setCell_other, stL, add_zero_row]
theorem st11 (d : Act) (w : World) (eb : Nat) {e0 : Value} (he : Blk w eb 31 [e0]) (h7 : d.tmps[7]?.getD undef = .pointer (some ⟨eb, 0, none⟩)) :
    (execOp d.eval oD11).run Tryz.prog w = .ok .skip (stL ⟨eb, 0, none⟩ 0 [.int .i64 0] w) := by
  have hfr := he.frozen
  have c0 : w.cell? ⟨eb, 0, none⟩ = some e0 := he.cell 0
  have e7 : d.eval (.tmp 7) = .pointer (some ⟨eb, 0, none⟩) := by simpa [Act.eval] using h7
  have ec : d.eval (.const (.int .i64 0)) = .int .i64 0 := rfl
  unfold execOp
  dsimp only
  rw [e7, ec]
  simp [go_sem, c0, hfr, stL, add_zero_row]
theorem blk_other {b b2 : Nat} {t : TypeId} {L : List Value} (hne : b ≠ b2) : ∀ (vs : List Value) (i : Nat) {w : World}, Blk w b t L → Blk (stL ⟨b2, 0, none⟩ i vs w) b t L
  | [], _, _, h => h
  | v :: vs, i, w, h => by
    show Blk (stL ⟨b2, 0, none⟩ (i + 1) vs (w.setCell _ v)) b t L
    exact blk_other hne vs (i + 1) (h.putO hne 0 i v)
structure ActD (c0 c : Act) (f : Nat → Option Value) : Prop where
  defers : c.defers = c0.defers
  size : c.tmps.size = 50
  low : ∀ t, t < 40 → c.tmps[t]?.getD undef = c0.tmps[t]?.getD undef
  at_ : ∀ t v, f t = some v → c.tmps[t]?.getD undef = v
theorem ActD.put {c0 c : Act} {f : Nat → Option Value} (h : ActD c0 c f) (d : Nat) (hd : 40 ≤ d ∧ d < 50) (v : Value) : ActD c0 (c.put (some d) v) (fun t => if t = d then some v else f t) := by
  have hs := h.size
  refine ⟨h.defers, by simp [Act.put, hs], fun t ht => ?_, fun t u hu => ?_⟩
  · rw [← h.low t ht]
    have := put_ne (a := c) (d := d) (t := t) (v := v) (by omega)
    simpa using this
  · by_cases e : t = d
    · subst e
      simp at hu
      have := put_same (a := c) (d := t) (v := v) (by omega)
      rw [← hu]
      simpa using this
    · simp only [if_neg e] at hu
      rw [← h.at_ t u hu]
      have := put_ne (a := c) (d := d) (t := t) (v := v) e
      simpa using this
set_option maxRecDepth 20000 in
theorem regD {c : Act} {w : World} {Q : Exit → Act → World → Prop} {id : Nat} {ob eb pb mb vb : Nat} (hcs : c.tmps.size = 50)
    (c6 : c.tmps[6]?.getD undef = .pointer (some ⟨ob, 0, none⟩)) (c7 : c.tmps[7]?.getD undef = .pointer (some ⟨eb, 0, none⟩)) (c8 : c.tmps[8]?.getD undef = .pointer (some ⟨pb, 0, none⟩)) (c11 : c.tmps[11]?.getD undef = .pointer (some ⟨vb, 0, none⟩))
    {y0 y1 : Int} {y2 : ByteArray} {na : Option Addr} {nn nc : Nat} {xa : Option Addr} {xn xc : Nat} {ma : Value} {fuel steps : Int} {oa : Option Addr} {on oc : Nat} {L0 : List Value} {e0 : Value}
    (hv : Blk w vb 28 [.int .i64 y0, .int .i64 y1, .string y2, .slice na nn nc, .slice xa xn xc]) (hp : Blk w pb 56 [.pointer (some ⟨mb, 0, none⟩)]) (hm : Blk w mb 58 [ma, .int .i64 fuel, .int .i64 steps, .slice oa on oc]) (ho : Blk w ob 30 L0) (hl : L0.length = 9) (he : Blk w eb 31 [e0]) (hne : eb ≠ ob)
    (hK : ∀ c', c'.defers = c.defers → c'.tmps[6]?.getD undef = .pointer (some ⟨ob, 0, none⟩) → c'.tmps[7]?.getD undef = .pointer (some ⟨eb, 0, none⟩) →
      Q .normal c' (stL ⟨eb, 0, none⟩ 0 [.int .i64 0] (stL ⟨ob, 0, none⟩ 0 [.int .i64 1, .int .i64 0, .int .i64 steps, .int .i64 y0, .int .i64 y1, .string y2, .slice na nn nc, .slice xa xn xc, .slice oa on oc] { w with drawn := w.drawn + 1 }))) :
    (Code.region id opsD.toArray true).wp Tryz.prog Q c w := by
  refine wp_region_still_tail 10 mixedZ (by kernel_rfl) ?_
  have hv : Blk { w with drawn := w.drawn + 1 } vb 28 [.int .i64 y0, .int .i64 y1, .string y2, .slice na nn nc, .slice xa xn xc] := hv
  have hp : Blk { w with drawn := w.drawn + 1 } pb 56 [.pointer (some ⟨mb, 0, none⟩)] := hp
  have hm : Blk { w with drawn := w.drawn + 1 } mb 58 [ma, .int .i64 fuel, .int .i64 steps, .slice oa on oc] := hm
  have ho : Blk { w with drawn := w.drawn + 1 } ob 30 L0 := ho
  have he : Blk { w with drawn := w.drawn + 1 } eb 31 [e0] := he
  generalize { w with drawn := w.drawn + 1 } = w5 at hv hp hm ho he hK ⊢
  have r0 := hv.cell 0
  have r1 := hv.cell 1
  have r2 := hv.cell 2
  have r3 := hv.cell 3
  have r4 := hv.cell 4
  have s0 := hp.cell 0
  have s2 := hm.cell 2
  have s3 := hm.cell 3
  simp at r0 r1 r2 r3 r4 s0 s2 s3
  have h0 : ActD c c (fun _ => none) := ⟨rfl, hcs, fun _ _ => rfl, fun _ _ h => by cases h⟩
  show wpStill Tryz.prog _ w5 _ [oD0, oD1, oD2, oD3, oD4, oD5, oD6, oD7, oD8, oD9] c
  refine wpStill_val (o := oD0) (v := .pointer (some ⟨mb, 0, none⟩)) (fun _ => rfl) (ld0 oD0 (.inl rfl) c w5 pb mb c8 s0) ?_
  have h1 := h0.put 40 (by omega) (.pointer (some ⟨mb, 0, none⟩))
  show wpStill Tryz.prog _ w5 _ [oD1, oD2, oD3, oD4, oD5, oD6, oD7, oD8, oD9] (c.put (some 40) (.pointer (some ⟨mb, 0, none⟩)))
  generalize c.put (some 40) (.pointer (some ⟨mb, 0, none⟩)) = a1 at h1
  refine wpStill_val (o := oD1) (v := .pointer (some ⟨mb, 0, none⟩)) (fun _ => rfl) (nc1 a1 w5 mb (h1.at_ 40 _ (by simp))) ?_
  have h2 := h1.put 41 (by omega) (.pointer (some ⟨mb, 0, none⟩))
  show wpStill Tryz.prog _ w5 _ [oD2, oD3, oD4, oD5, oD6, oD7, oD8, oD9] (a1.put (some 41) (.pointer (some ⟨mb, 0, none⟩)))
  generalize a1.put (some 41) (.pointer (some ⟨mb, 0, none⟩)) = a2 at h2
  refine wpStill_val (o := oD2) (v := .pointer (some ⟨mb, 2, none⟩)) (fun _ => rfl) (fa2 a2 w5 mb (h2.at_ 41 _ (by simp))) ?_
  have h3 := h2.put 42 (by omega) (.pointer (some ⟨mb, 2, none⟩))
  show wpStill Tryz.prog _ w5 _ [oD3, oD4, oD5, oD6, oD7, oD8, oD9] (a2.put (some 42) (.pointer (some ⟨mb, 2, none⟩)))
  generalize a2.put (some 42) (.pointer (some ⟨mb, 2, none⟩)) = a3 at h3
  refine wpStill_val (o := oD3) (v := .int .i64 steps) (fun _ => rfl) (ld3 a3 w5 mb steps (h3.at_ 42 _ (by simp)) s2) ?_
  have h4 := h3.put 43 (by omega) (.int .i64 steps)
  show wpStill Tryz.prog _ w5 _ [oD4, oD5, oD6, oD7, oD8, oD9] (a3.put (some 43) (.int .i64 steps))
  generalize a3.put (some 43) (.int .i64 steps) = a4 at h4
  refine wpStill_val (o := oD4) (v := .agg #[.int .i64 y0, .int .i64 y1, .string y2, .slice na nn nc, .slice xa xn xc]) (fun _ => rfl) (ld4 a4 w5 vb ((h4.low 11 (by omega)).trans c11) r0 r1 r2 r3 r4) ?_
  have h5 := h4.put 44 (by omega) (.agg #[.int .i64 y0, .int .i64 y1, .string y2, .slice na nn nc, .slice xa xn xc])
  show wpStill Tryz.prog _ w5 _ [oD5, oD6, oD7, oD8, oD9] (a4.put (some 44) (.agg #[.int .i64 y0, .int .i64 y1, .string y2, .slice na nn nc, .slice xa xn xc]))
  generalize a4.put (some 44) (.agg #[.int .i64 y0, .int .i64 y1, .string y2, .slice na nn nc, .slice xa xn xc]) = a5 at h5
  refine wpStill_val (o := oD5) (v := .pointer (some ⟨mb, 0, none⟩)) (fun _ => rfl) (ld0 oD5 (.inr rfl) a5 w5 pb mb ((h5.low 8 (by omega)).trans c8) s0) ?_
  have h6 := h5.put 45 (by omega) (.pointer (some ⟨mb, 0, none⟩))
  show wpStill Tryz.prog _ w5 _ [oD6, oD7, oD8, oD9] (a5.put (some 45) (.pointer (some ⟨mb, 0, none⟩)))
  generalize a5.put (some 45) (.pointer (some ⟨mb, 0, none⟩)) = a6 at h6
  refine wpStill_val (o := oD6) (v := .pointer (some ⟨mb, 0, none⟩)) (fun _ => rfl) (nc6 a6 w5 mb (h6.at_ 45 _ (by simp))) ?_
  have h7 := h6.put 46 (by omega) (.pointer (some ⟨mb, 0, none⟩))
  show wpStill Tryz.prog _ w5 _ [oD7, oD8, oD9] (a6.put (some 46) (.pointer (some ⟨mb, 0, none⟩)))
  generalize a6.put (some 46) (.pointer (some ⟨mb, 0, none⟩)) = a7 at h7
  refine wpStill_val (o := oD7) (v := .pointer (some ⟨mb, 3, none⟩)) (fun _ => rfl) (fa7 a7 w5 mb (h7.at_ 46 _ (by simp))) ?_
  have h8 := h7.put 47 (by omega) (.pointer (some ⟨mb, 3, none⟩))
  show wpStill Tryz.prog _ w5 _ [oD8, oD9] (a7.put (some 47) (.pointer (some ⟨mb, 3, none⟩)))
  generalize a7.put (some 47) (.pointer (some ⟨mb, 3, none⟩)) = a8 at h8
  refine wpStill_val (o := oD8) (v := .slice oa on oc) (fun _ => rfl) (ld8 a8 w5 mb (h8.at_ 47 _ (by simp)) s3) ?_
  have h9 := h8.put 48 (by omega) (.slice oa on oc)
  show wpStill Tryz.prog _ w5 _ [oD9] (a8.put (some 48) (.slice oa on oc))
  generalize a8.put (some 48) (.slice oa on oc) = a9 at h9
  refine wpStill_val (o := oD9) (v := .agg #[.int .i64 1, .int .i64 0, .int .i64 steps, .int .i64 y0, .int .i64 y1, .string y2, .slice na nn nc, .slice xa xn xc, .slice oa on oc]) (fun _ => rfl) (bd9 a9 w5 steps (h9.at_ 43 _ (by simp)) (h9.at_ 44 _ (by simp)) (h9.at_ 48 _ (by simp))) ?_
  have h10 := h9.put 49 (by omega) (.agg #[.int .i64 1, .int .i64 0, .int .i64 steps, .int .i64 y0, .int .i64 y1, .string y2, .slice na nn nc, .slice xa xn xc, .slice oa on oc])
  refine wpStill_nil ?_
  show wpList Tryz.prog _ _ [oD10, oD11] (a9.put (some 49) (.agg #[.int .i64 1, .int .i64 0, .int .i64 steps, .int .i64 y0, .int .i64 y1, .string y2, .slice na nn nc, .slice xa xn xc, .slice oa on oc])) w5
  generalize a9.put (some 49) (.agg #[.int .i64 1, .int .i64 0, .int .i64 steps, .int .i64 y0, .int .i64 y1, .string y2, .slice na nn nc, .slice xa xn xc, .slice oa on oc]) = d at h10
  show wpList Tryz.prog _ _ [oD10, oD11] d w5
  have d6 := (h10.low 6 (by omega)).trans c6
  have d7 := (h10.low 7 (by omega)).trans c7
  refine wpList_skip (o := oD10) (fun _ => rfl) (st10 d w5 ob ho hl steps (y0 := y0) (y1 := y1) (y2 := y2) (na := na) (nn := nn) (nc := nc) (xa := xa) (xn := xn) (xc := xc) (a := oa) (l := on) (m := oc) d6 (h10.at_ 49 _ (by simp))) ?_
  show wpList Tryz.prog _ _ [oD11] d _
  refine wpList_skip (o := oD11) (fun _ => rfl) (st11 d _ eb (blk_other hne _ 0 he) d7) ?_
  exact hK d h10.defers d6 d7
end Go.Proofs.YthlcdgpemjdgnaaGreatDoor
/- The deferred function of closure.Run. -/
set_option linter.unusedVariables false
namespace Go.Proofs.YthlcdgpemjdgnaaGreatDoor
open Go Go.Vc Go.RowKit Go.Syn Go.Lam Go.Sort
set_option linter.unusedSimpArgs false
theorem assert60n (w : World) : (Instr.typeAssert .nilIface 20 60 true).run Tryz.prog w = .ok (.tuple #[.agg #[.int .i64 0, .int .i64 0], .bool false]) w := by kernel_rfl
theorem assert60 (op n : Int) (w : World) : (Instr.typeAssert (.iface 60 (.agg #[.int .i64 op, .int .i64 n])) 20 60 true).run Tryz.prog w = .ok (.tuple #[.agg #[.int .i64 op, .int .i64 n], .bool true]) w := by kernel_rfl
set_option maxRecDepth 20000 in
theorem catch24_idle (p1 p2 p3 : Value) (w : World) :
    CallsD Tryz.prog 24 #[p1, p2, p3] .returning w fun e u' w' => e = .returned (.tuple #[]) ∧ u' = .returning ∧ w' = w.alloc (.cells #[.int .i64 0, .int .i64 0] 60) := by
  refine callsD_of_wpS Tryz.func24 rfl fun c₀ cs hu => ?_
  apply wpS_seq
  apply wpS_region
  simp [wpOpsS, go_sem, recoverD, hu, Tryz.ntmps24, Exit.thenS, assert60n]
  apply wpS_seq
  apply wpS_region
  simp [wpOpsS, go_sem, recoverD, hu, Tryz.ntmps24, Exit.thenS]
  refine wpS_cond (t := false) (by simp [Act.eval, Array.replicate]) ?_
  simp only [Bool.false_eq_true, if_false]
  refine wpS_of_wp (wp_skip ?_)
  cases c₀
  simp only at hu
  subst hu
  show _ ∧ _
  refine ⟨rfl, .returning, rfl, .tuple #[], ?_, rfl, rfl, rfl⟩
  simp [results, Tryz.results24]
end Go.Proofs.YthlcdgpemjdgnaaGreatDoor
/- The deferred function of closure.Run, when an ending was thrown. -/
set_option linter.unusedVariables false
namespace Go.Proofs.YthlcdgpemjdgnaaGreatDoor
open Go Go.Vc Go.RowKit Go.Syn Go.Lam Go.Sort
abbrev oE0 : Oper := { dst := some 11, op := Op.fieldAddr 60 (Operand.tmp 3) 0, type := 0, pos := "closure.go:479", after := #[], guard := none }
abbrev oE1 : Oper := { dst := some 12, op := Op.load 3 (Operand.tmp 11), type := 3, pos := "closure.go:479", after := #[{ on := 0, ground := Ground.data }], guard := none }
abbrev oE2 : Oper := { dst := some 13, op := Op.fieldAddr 60 (Operand.tmp 3) 1, type := 0, pos := "closure.go:479", after := #[], guard := none }
abbrev oE3 : Oper := { dst := some 14, op := Op.load 3 (Operand.tmp 13), type := 3, pos := "closure.go:479", after := #[{ on := 2, ground := Ground.data }], guard := none }
abbrev oE4 : Oper := { dst := some 15, op := Op.load 56 (Operand.tmp 0), type := 56, pos := "closure.go:479", after := #[], guard := none }
abbrev oE5 : Oper := { dst := some 16, op := Op.nilCheck (Operand.tmp 15), type := 0, pos := "closure.go:479", after := #[{ on := 4, ground := Ground.data }], guard := none }
abbrev oE6 : Oper := { dst := some 17, op := Op.fieldAddr 58 (Operand.tmp 16) 2, type := 0, pos := "closure.go:479", after := #[{ on := 5, ground := Ground.data }], guard := none }
abbrev oE7 : Oper := { dst := some 18, op := Op.load 3 (Operand.tmp 17), type := 3, pos := "closure.go:479", after := #[{ on := 6, ground := Ground.data }], guard := none }
abbrev oE8 : Oper := { dst := some 19, op := Op.load 56 (Operand.tmp 0), type := 56, pos := "closure.go:479", after := #[], guard := none }
abbrev oE9 : Oper := { dst := some 20, op := Op.nilCheck (Operand.tmp 19), type := 0, pos := "closure.go:479", after := #[{ on := 8, ground := Ground.data }], guard := none }
abbrev oE10 : Oper := { dst := some 21, op := Op.fieldAddr 58 (Operand.tmp 20) 3, type := 0, pos := "closure.go:479", after := #[{ on := 9, ground := Ground.data }], guard := none }
abbrev oE11 : Oper := { dst := some 22, op := Op.load 25 (Operand.tmp 21), type := 25, pos := "closure.go:479", after := #[{ on := 10, ground := Ground.data }], guard := none }
abbrev oE12 : Oper := { dst := some 23, op := Op.build 30 #[(0, Operand.tmp 12), (1, Operand.tmp 14), (2, Operand.tmp 18), (4, Operand.tmp 22)], type := 30, pos := "closure.go:479", after := #[{ on := 1, ground := Ground.data }, { on := 3, ground := Ground.data }, { on := 7, ground := Ground.data }, { on := 11, ground := Ground.data }], guard := none }
abbrev oE13 : Oper := { dst := none, op := Op.store 30 (Operand.tmp 1) (Operand.tmp 23), type := 0, pos := "closure.go:479", after := #[{ on := 12, ground := Ground.data }, { on := 0, ground := Ground.phase }, { on := 1, ground := Ground.phase }, { on := 2, ground := Ground.phase }, { on := 3, ground := Ground.phase }, { on := 4, ground := Ground.phase }, { on := 5, ground := Ground.phase }, { on := 6, ground := Ground.phase }, { on := 7, ground := Ground.phase }, { on := 8, ground := Ground.phase }, { on := 9, ground := Ground.phase }, { on := 10, ground := Ground.phase }, { on := 11, ground := Ground.phase }, { on := 12, ground := Ground.phase }], guard := none }
abbrev oE14 : Oper := { dst := none, op := Op.store 31 (Operand.tmp 2) (Operand.const (Value.int IntKind.i64 0)), type := 0, pos := "closure.go:479", after := #[{ on := 13, ground := Ground.chain }, { on := 0, ground := Ground.phase }, { on := 1, ground := Ground.phase }, { on := 2, ground := Ground.phase }, { on := 3, ground := Ground.phase }, { on := 4, ground := Ground.phase }, { on := 5, ground := Ground.phase }, { on := 6, ground := Ground.phase }, { on := 7, ground := Ground.phase }, { on := 8, ground := Ground.phase }, { on := 9, ground := Ground.phase }, { on := 10, ground := Ground.phase }, { on := 11, ground := Ground.phase }, { on := 12, ground := Ground.phase }, { on := 13, ground := Ground.phase }], guard := none }
def opsE : List Oper := [oE0, oE1, oE2, oE3, oE4, oE5, oE6, oE7, oE8, oE9, oE10, oE11, oE12, oE13, oE14]
theorem evT {c : Act} {t : Nat} {v : Value} (h : c.tmps[t]?.getD undef = v) : c.eval (.tmp t) = v := by simpa [Act.eval] using h
theorem fa60 (k : Nat) (hk : k = 0 ∨ k = 1) (tb : Nat) (w : World) : Sem.run Tryz.prog (do let x ← Instr.fieldAt 60 (.pointer (some ⟨tb, 0, none⟩)) k; pure (Next.value x)) w = .ok (.value (.pointer (some ⟨tb, k, none⟩))) w := by
  rcases hk with rfl | rfl
  · kernel_rfl
  · kernel_rfl
theorem xFa (T k : Nat) (d : Option Tmp) (t : Nat) (ty : TypeId) (s : String) (af : _) (c : Act) (w : World) {ad r : Value} (h : c.tmps[t]?.getD undef = ad) (hr : Sem.run Tryz.prog (do let x ← Instr.fieldAt T ad k; pure (Next.value x)) w = .ok (.value r) w) :
    (execOp c.eval { dst := d, op := Op.fieldAddr T (.tmp t) k, type := ty, pos := s, after := af, guard := none }).run Tryz.prog w = .ok (.value r) w := by
  unfold execOp
  dsimp only
  rw [evT h]
  exact hr
theorem xLdI (d : Option Tmp) (t : Nat) (ty : TypeId) (s : String) (af : _) (c : Act) (w : World) {ad : Addr} {n : Int} (h : c.tmps[t]?.getD undef = .pointer (some ad)) (r : w.cell? ad = some (.int .i64 n)) :
    (execOp c.eval { dst := d, op := Op.load 3 (.tmp t), type := ty, pos := s, after := af, guard := none }).run Tryz.prog w = .ok (.value (.int .i64 n)) w := by
  unfold execOp
  dsimp only
  rw [evT h]
  simp [go_sem, r]
theorem xLdP (d : Option Tmp) (t : Nat) (ty : TypeId) (s : String) (af : _) (c : Act) (w : World) {ad : Addr} {p : Option Addr} (h : c.tmps[t]?.getD undef = .pointer (some ad)) (r : w.cell? ad = some (.pointer p)) :
    (execOp c.eval { dst := d, op := Op.load 56 (.tmp t), type := ty, pos := s, after := af, guard := none }).run Tryz.prog w = .ok (.value (.pointer p)) w := by
  unfold execOp
  dsimp only
  rw [evT h]
  simp [go_sem, r]
theorem xLdS (d : Option Tmp) (t : Nat) (ty : TypeId) (s : String) (af : _) (c : Act) (w : World) {ad : Addr} {a : Option Addr} {n m : Nat} (h : c.tmps[t]?.getD undef = .pointer (some ad)) (r : w.cell? ad = some (.slice a n m)) :
    (execOp c.eval { dst := d, op := Op.load 25 (.tmp t), type := ty, pos := s, after := af, guard := none }).run Tryz.prog w = .ok (.value (.slice a n m)) w := by
  unfold execOp
  dsimp only
  rw [evT h]
  simp [go_sem, r]
theorem xNil (d : Option Tmp) (t : Nat) (ty : TypeId) (s : String) (af : _) (c : Act) (w : World) {ad : Addr} (h : c.tmps[t]?.getD undef = .pointer (some ad)) :
    (execOp c.eval { dst := d, op := Op.nilCheck (.tmp t), type := ty, pos := s, after := af, guard := none }).run Tryz.prog w = .ok (.value (.pointer (some ad))) w := by
  unfold execOp
  dsimp only
  rw [evT h]
  simp [go_sem]
abbrev zO (op n steps : Int) (a : Option Addr) (l m : Nat) : List Value := [.int .i64 op, .int .i64 n, .int .i64 steps, .int .i64 0, .int .i64 0, .string ⟨#[]⟩, .slice none 0 0, .slice none 0 0, .slice a l m]
theorem bd12 (c : Act) (w : World) {op n steps : Int} {a : Option Addr} {l m : Nat} (h1 : c.tmps[12]?.getD undef = .int .i64 op) (h2 : c.tmps[14]?.getD undef = .int .i64 n) (h3 : c.tmps[18]?.getD undef = .int .i64 steps) (h4 : c.tmps[22]?.getD undef = .slice a l m) :
    (execOp c.eval oE12).run Tryz.prog w = .ok (.value (.agg ⟨zO op n steps a l m⟩)) w := by
  simp [go_sem, Act.eval, h1, h2, h3, h4]
theorem st13 (d : Act) (w : World) (ob : Nat) {L0 : List Value} (ho : Blk w ob 30 L0) (hl : L0.length = 9) {op n steps : Int} {a : Option Addr} {l m : Nat} (h6 : d.tmps[1]?.getD undef = .pointer (some ⟨ob, 0, none⟩)) (h49 : d.tmps[23]?.getD undef = .agg ⟨zO op n steps a l m⟩) :
    (execOp d.eval oE13).run Tryz.prog w = .ok .skip (stL ⟨ob, 0, none⟩ 0 (zO op n steps a l m) w) := by
  have hfr := ho.frozen
  have hcell : ∀ i, i < 9 → ∃ v, w.cell? ⟨ob, i, none⟩ = some v := fun i hi => by rw [ho.cell]; exact ⟨_, List.getElem?_eq_getElem (by omega)⟩
  obtain ⟨v0, c0⟩ := hcell 0 (by omega)
  obtain ⟨v1, c1⟩ := hcell 1 (by omega)
  obtain ⟨v2, c2⟩ := hcell 2 (by omega)
  obtain ⟨v3, c3⟩ := hcell 3 (by omega)
  obtain ⟨v4, c4⟩ := hcell 4 (by omega)
  obtain ⟨v5, c5⟩ := hcell 5 (by omega)
  obtain ⟨v6, c6⟩ := hcell 6 (by omega)
  obtain ⟨v7, c7⟩ := hcell 7 (by omega)
  obtain ⟨v8, c8⟩ := hcell 8 (by omega)
  unfold execOp
  dsimp only
  rw [evT h6, evT h49]
  simp [go_sem, c0, c1, c2, c3, c4, c5, c6, c7, c8, hfr, World.cell?_setCell_other, stL, add_zero_row]
theorem st14 (d : Act) (w : World) (eb : Nat) {e0 : Value} (he : Blk w eb 31 [e0]) (h7 : d.tmps[2]?.getD undef = .pointer (some ⟨eb, 0, none⟩)) :
    (execOp d.eval oE14).run Tryz.prog w = .ok .skip (stL ⟨eb, 0, none⟩ 0 [.int .i64 0] w) := by
  have hfr := he.frozen
  have c0 : w.cell? ⟨eb, 0, none⟩ = some e0 := he.cell 0
  have ec : d.eval (.const (.int .i64 0)) = .int .i64 0 := rfl
  unfold execOp
  dsimp only
  rw [evT h7, ec]
  simp [go_sem, c0, hfr, stL, add_zero_row]
structure ActE (c0 c : Act) (f : Nat → Option Value) : Prop where
  defers : c.defers = c0.defers
  size : c.tmps.size = 24
  low : ∀ t, t < 11 → c.tmps[t]?.getD undef = c0.tmps[t]?.getD undef
  at_ : ∀ t v, f t = some v → c.tmps[t]?.getD undef = v
theorem ActE.put {c0 c : Act} {f : Nat → Option Value} (h : ActE c0 c f) (d : Nat) (hd : 11 ≤ d ∧ d < 24) (v : Value) : ActE c0 (c.put (some d) v) (fun t => if t = d then some v else f t) := by
  have hs := h.size
  refine ⟨h.defers, by simp [Act.put, hs], fun t ht => ?_, fun t u hu => ?_⟩
  · rw [← h.low t ht]
    have := put_ne (a := c) (d := d) (t := t) (v := v) (by omega)
    simpa using this
  · by_cases e : t = d
    · subst e
      simp at hu
      have := put_same (a := c) (d := t) (v := v) (by omega)
      rw [← hu]
      simpa using this
    · simp only [if_neg e] at hu
      rw [← h.at_ t u hu]
      have := put_ne (a := c) (d := d) (t := t) (v := v) e
      simpa using this
set_option maxRecDepth 20000 in
theorem regE {c : Act} {w : World} {Q : Exit → Act → World → Prop} {id : Nat} {ob eb pb mb tb : Nat} (hcs : c.tmps.size = 24)
    (c0 : c.tmps[0]?.getD undef = .pointer (some ⟨pb, 0, none⟩)) (c1 : c.tmps[1]?.getD undef = .pointer (some ⟨ob, 0, none⟩)) (c2 : c.tmps[2]?.getD undef = .pointer (some ⟨eb, 0, none⟩)) (c3 : c.tmps[3]?.getD undef = .pointer (some ⟨tb, 0, none⟩))
    {op n : Int} {ma : Value} {fuel steps : Int} {oa : Option Addr} {on oc : Nat} {L0 : List Value} {e0 : Value}
    (ht : Blk w tb 60 [.int .i64 op, .int .i64 n]) (hp : Blk w pb 56 [.pointer (some ⟨mb, 0, none⟩)]) (hm : Blk w mb 58 [ma, .int .i64 fuel, .int .i64 steps, .slice oa on oc]) (ho : Blk w ob 30 L0) (hl : L0.length = 9) (he : Blk w eb 31 [e0]) (hne : eb ≠ ob)
    (hK : ∀ c', c'.defers = c.defers → Q .normal c' (stL ⟨eb, 0, none⟩ 0 [.int .i64 0] (stL ⟨ob, 0, none⟩ 0 (zO op n steps oa on oc) { w with drawn := w.drawn + 1 }))) :
    (Code.region id opsE.toArray true).wp Tryz.prog Q c w := by
  refine wp_region_still_tail 13 mixedZ (by kernel_rfl) ?_
  have ht : Blk { w with drawn := w.drawn + 1 } tb 60 [.int .i64 op, .int .i64 n] := ht
  have hp : Blk { w with drawn := w.drawn + 1 } pb 56 [.pointer (some ⟨mb, 0, none⟩)] := hp
  have hm : Blk { w with drawn := w.drawn + 1 } mb 58 [ma, .int .i64 fuel, .int .i64 steps, .slice oa on oc] := hm
  have ho : Blk { w with drawn := w.drawn + 1 } ob 30 L0 := ho
  have he : Blk { w with drawn := w.drawn + 1 } eb 31 [e0] := he
  generalize { w with drawn := w.drawn + 1 } = w5 at ht hp hm ho he hK ⊢
  have r0 := ht.cell 0
  have r1 := ht.cell 1
  have s0 := hp.cell 0
  have s2 := hm.cell 2
  have s3 := hm.cell 3
  simp at r0 r1 s0 s2 s3
  have h0 : ActE c c (fun _ => none) := ⟨rfl, hcs, fun _ _ => rfl, fun _ _ h => by cases h⟩
  show wpStill Tryz.prog _ w5 _ [oE0, oE1, oE2, oE3, oE4, oE5, oE6, oE7, oE8, oE9, oE10, oE11, oE12] c
  refine wpStill_val (o := oE0) (v := .pointer (some ⟨tb, 0, none⟩)) (fun _ => rfl) (xFa 60 0 _ 3 _ _ _ c w5 ((h0.low 3 (by omega)).trans c3) (fa60 0 (.inl rfl) tb w5)) ?_
  have h1 := h0.put 11 (by omega) (.pointer (some ⟨tb, 0, none⟩))
  show wpStill Tryz.prog _ w5 _ [oE1, oE2, oE3, oE4, oE5, oE6, oE7, oE8, oE9, oE10, oE11, oE12] (c.put (some 11) (.pointer (some ⟨tb, 0, none⟩)))
  generalize c.put (some 11) (.pointer (some ⟨tb, 0, none⟩)) = a1 at h1
  refine wpStill_val (o := oE1) (v := .int .i64 op) (fun _ => rfl) (xLdI _ 11 _ _ _ a1 w5 (h1.at_ 11 _ (by simp)) r0) ?_
  have h2 := h1.put 12 (by omega) (.int .i64 op)
  show wpStill Tryz.prog _ w5 _ [oE2, oE3, oE4, oE5, oE6, oE7, oE8, oE9, oE10, oE11, oE12] (a1.put (some 12) (.int .i64 op))
  generalize a1.put (some 12) (.int .i64 op) = a2 at h2
  refine wpStill_val (o := oE2) (v := .pointer (some ⟨tb, 1, none⟩)) (fun _ => rfl) (xFa 60 1 _ 3 _ _ _ a2 w5 ((h2.low 3 (by omega)).trans c3) (fa60 1 (.inr rfl) tb w5)) ?_
  have h3 := h2.put 13 (by omega) (.pointer (some ⟨tb, 1, none⟩))
  show wpStill Tryz.prog _ w5 _ [oE3, oE4, oE5, oE6, oE7, oE8, oE9, oE10, oE11, oE12] (a2.put (some 13) (.pointer (some ⟨tb, 1, none⟩)))
  generalize a2.put (some 13) (.pointer (some ⟨tb, 1, none⟩)) = a3 at h3
  refine wpStill_val (o := oE3) (v := .int .i64 n) (fun _ => rfl) (xLdI _ 13 _ _ _ a3 w5 (h3.at_ 13 _ (by simp)) r1) ?_
  have h4 := h3.put 14 (by omega) (.int .i64 n)
  show wpStill Tryz.prog _ w5 _ [oE4, oE5, oE6, oE7, oE8, oE9, oE10, oE11, oE12] (a3.put (some 14) (.int .i64 n))
  generalize a3.put (some 14) (.int .i64 n) = a4 at h4
  refine wpStill_val (o := oE4) (v := .pointer (some ⟨mb, 0, none⟩)) (fun _ => rfl) (xLdP _ 0 _ _ _ a4 w5 ((h4.low 0 (by omega)).trans c0) s0) ?_
  have h5 := h4.put 15 (by omega) (.pointer (some ⟨mb, 0, none⟩))
  show wpStill Tryz.prog _ w5 _ [oE5, oE6, oE7, oE8, oE9, oE10, oE11, oE12] (a4.put (some 15) (.pointer (some ⟨mb, 0, none⟩)))
  generalize a4.put (some 15) (.pointer (some ⟨mb, 0, none⟩)) = a5 at h5
  refine wpStill_val (o := oE5) (v := .pointer (some ⟨mb, 0, none⟩)) (fun _ => rfl) (xNil _ 15 _ _ _ a5 w5 (h5.at_ 15 _ (by simp))) ?_
  have h6 := h5.put 16 (by omega) (.pointer (some ⟨mb, 0, none⟩))
  show wpStill Tryz.prog _ w5 _ [oE6, oE7, oE8, oE9, oE10, oE11, oE12] (a5.put (some 16) (.pointer (some ⟨mb, 0, none⟩)))
  generalize a5.put (some 16) (.pointer (some ⟨mb, 0, none⟩)) = a6 at h6
  refine wpStill_val (o := oE6) (v := .pointer (some ⟨mb, 2, none⟩)) (fun _ => rfl) (xFa 58 2 _ 16 _ _ _ a6 w5 (h6.at_ 16 _ (by simp)) (faK 2 (.inl rfl) mb w5)) ?_
  have h7 := h6.put 17 (by omega) (.pointer (some ⟨mb, 2, none⟩))
  show wpStill Tryz.prog _ w5 _ [oE7, oE8, oE9, oE10, oE11, oE12] (a6.put (some 17) (.pointer (some ⟨mb, 2, none⟩)))
  generalize a6.put (some 17) (.pointer (some ⟨mb, 2, none⟩)) = a7 at h7
  refine wpStill_val (o := oE7) (v := .int .i64 steps) (fun _ => rfl) (xLdI _ 17 _ _ _ a7 w5 (h7.at_ 17 _ (by simp)) s2) ?_
  have h8 := h7.put 18 (by omega) (.int .i64 steps)
  show wpStill Tryz.prog _ w5 _ [oE8, oE9, oE10, oE11, oE12] (a7.put (some 18) (.int .i64 steps))
  generalize a7.put (some 18) (.int .i64 steps) = a8 at h8
  refine wpStill_val (o := oE8) (v := .pointer (some ⟨mb, 0, none⟩)) (fun _ => rfl) (xLdP _ 0 _ _ _ a8 w5 ((h8.low 0 (by omega)).trans c0) s0) ?_
  have h9 := h8.put 19 (by omega) (.pointer (some ⟨mb, 0, none⟩))
  show wpStill Tryz.prog _ w5 _ [oE9, oE10, oE11, oE12] (a8.put (some 19) (.pointer (some ⟨mb, 0, none⟩)))
  generalize a8.put (some 19) (.pointer (some ⟨mb, 0, none⟩)) = a9 at h9
  refine wpStill_val (o := oE9) (v := .pointer (some ⟨mb, 0, none⟩)) (fun _ => rfl) (xNil _ 19 _ _ _ a9 w5 (h9.at_ 19 _ (by simp))) ?_
  have h10 := h9.put 20 (by omega) (.pointer (some ⟨mb, 0, none⟩))
  show wpStill Tryz.prog _ w5 _ [oE10, oE11, oE12] (a9.put (some 20) (.pointer (some ⟨mb, 0, none⟩)))
  generalize a9.put (some 20) (.pointer (some ⟨mb, 0, none⟩)) = a10 at h10
  refine wpStill_val (o := oE10) (v := .pointer (some ⟨mb, 3, none⟩)) (fun _ => rfl) (xFa 58 3 _ 20 _ _ _ a10 w5 (h10.at_ 20 _ (by simp)) (faK 3 (.inr rfl) mb w5)) ?_
  have h11 := h10.put 21 (by omega) (.pointer (some ⟨mb, 3, none⟩))
  show wpStill Tryz.prog _ w5 _ [oE11, oE12] (a10.put (some 21) (.pointer (some ⟨mb, 3, none⟩)))
  generalize a10.put (some 21) (.pointer (some ⟨mb, 3, none⟩)) = a11 at h11
  refine wpStill_val (o := oE11) (v := .slice oa on oc) (fun _ => rfl) (xLdS _ 21 _ _ _ a11 w5 (h11.at_ 21 _ (by simp)) s3) ?_
  have h12 := h11.put 22 (by omega) (.slice oa on oc)
  show wpStill Tryz.prog _ w5 _ [oE12] (a11.put (some 22) (.slice oa on oc))
  generalize a11.put (some 22) (.slice oa on oc) = a12 at h12
  refine wpStill_val (o := oE12) (v := .agg ⟨zO op n steps oa on oc⟩) (fun _ => rfl) (bd12 a12 w5 (h12.at_ 12 _ (by simp)) (h12.at_ 14 _ (by simp)) (h12.at_ 18 _ (by simp)) (h12.at_ 22 _ (by simp))) ?_
  have h13 := h12.put 23 (by omega) (.agg ⟨zO op n steps oa on oc⟩)
  refine wpStill_nil ?_
  show wpList Tryz.prog _ _ [oE13, oE14] (a12.put (some 23) (.agg ⟨zO op n steps oa on oc⟩)) w5
  generalize a12.put (some 23) (.agg ⟨zO op n steps oa on oc⟩) = a13 at h13
  have d1 := (h13.low 1 (by omega)).trans c1
  have d2 := (h13.low 2 (by omega)).trans c2
  refine wpList_skip (o := oE13) (fun _ => rfl) (st13 a13 w5 ob ho hl (op := op) (n := n) (steps := steps) (a := oa) (l := on) (m := oc) d1 (h13.at_ 23 _ (by simp))) ?_
  show wpList Tryz.prog _ _ [oE14] a13 _
  refine wpList_skip (o := oE14) (fun _ => rfl) (st14 a13 _ eb (blk_other hne _ 0 he) d2) ?_
  exact hK a13 h13.defers
end Go.Proofs.YthlcdgpemjdgnaaGreatDoor
/- The deferred function of closure.Run catches an ending. -/
set_option linter.unusedVariables false
namespace Go.Proofs.YthlcdgpemjdgnaaGreatDoor
open Go Go.Vc Go.RowKit Go.Syn Go.Lam Go.Sort
set_option linter.unusedSimpArgs false
abbrev WC (op n steps : Int) (oa : Option Addr) (on oc : Nat) (ob eb : Nat) (w : World) : World :=
  stL ⟨eb, 0, none⟩ 0 [.int .i64 0] (stL ⟨ob, 0, none⟩ 0 (zO op n steps oa on oc) { w.alloc (.cells #[.int .i64 op, .int .i64 n] 60) with drawn := w.drawn + 1 })
set_option maxRecDepth 20000 in
theorem catch24_panicking {ob eb pb mb : Nat} {op n : Int} {ma : Value} {fuel steps : Int} {oa : Option Addr} {on oc : Nat} {L0 : List Value} {e0 : Value} (older : List PanicEntry) (w : World)
    (hp : Blk w pb 56 [.pointer (some ⟨mb, 0, none⟩)]) (hm : Blk w mb 58 [ma, .int .i64 fuel, .int .i64 steps, .slice oa on oc]) (ho : Blk w ob 30 L0) (hl : L0.length = 9) (he : Blk w eb 31 [e0]) (hne : eb ≠ ob) :
    CallsD Tryz.prog 24 #[.pointer (some ⟨pb, 0, none⟩), .pointer (some ⟨ob, 0, none⟩), .pointer (some ⟨eb, 0, none⟩)] (.panicking ({ v := .iface 60 (.agg #[.int .i64 op, .int .i64 n]), recovered := false } :: older)) w fun e u' w' =>
      e = .returned (.tuple #[]) ∧ u' = .panicking ({ v := .iface 60 (.agg #[.int .i64 op, .int .i64 n]), recovered := true } :: older) ∧ w' = WC op n steps oa on oc ob eb w := by
  refine callsD_of_wpS Tryz.func24 rfl fun c₀ cs hu => ?_
  have hT : Blk (w.alloc (.cells #[.int .i64 op, .int .i64 n] 60)) w.heap.size 60 [.int .i64 op, .int .i64 n] := by
    unfold Blk
    exact Array.getElem?_push_size
  apply wpS_seq
  apply wpS_region
  simp [wpOpsS, go_sem, recoverD, hu, Tryz.ntmps24, Exit.thenS, assert60]
  apply wpS_seq
  apply wpS_region
  simp [wpOpsS, go_sem, recoverD, hu, Tryz.ntmps24, Exit.thenS]
  refine wpS_cond (t := true) (by simp [Act.eval, Array.replicate]) ?_
  simp only [if_true]
  refine wpS_of_wp ?_
  refine regE (ob := ob) (eb := eb) (pb := pb) (mb := mb) (tb := w.heap.size) (op := op) (n := n) (ma := ma) (fuel := fuel) (steps := steps) (oa := oa) (on := on) (oc := oc) (L0 := L0) (e0 := e0) (by simp) (by simp) (by simp) (by simp) (by simp) hT (hp.alloc _) (hm.alloc _) (ho.alloc _) hl (he.alloc _) hne (fun c' hd => ?_)
  cases c₀
  simp only at hu
  subst hu
  show _ ∧ _
  refine ⟨hd, _, rfl, .tuple #[], ?_, rfl, rfl, rfl⟩
  simp [results, Tryz.results24]
end Go.Proofs.YthlcdgpemjdgnaaGreatDoor
/- closure.Run of a valid program, with a fuel in range. -/
set_option linter.unusedVariables false
namespace Go.Proofs.YthlcdgpemjdgnaaGreatDoor
open Go Go.Vc Go.RowKit Go.Syn Go.Lam Go.Sort
set_option linter.unusedSimpArgs false
abbrev zO9 : List Value := [.int .i64 0, .int .i64 0, .int .i64 0, .int .i64 0, .int .i64 0, .string ⟨#[]⟩, .slice none 0 0, .slice none 0 0, .slice none 0 0]
abbrev W2 (w : World) : World := (w.alloc (.cells ⟨zO9⟩ 30)).alloc (.cells ⟨[.int .i64 0]⟩ 31)
abbrev W4 (fa : Option Addr) (fn fc : Nat) (fuel : Int) (w' : World) : World := { (w'.alloc (.cells ⟨[.slice fa fn fc, .int .i64 fuel, .int .i64 0, .slice none 0 0]⟩ 58)).alloc (.cells ⟨[.pointer (some ⟨w'.heap.size, 0, none⟩)]⟩ 56) with drawn := w'.drawn + 1 }
abbrev yO (y0 y1 : Int) (y2 : ByteArray) (na : Option Addr) (nn nc : Nat) (xa : Option Addr) (xn xc : Nat) : List Value := [.int .i64 y0, .int .i64 y1, .string y2, .slice na nn nc, .slice xa xn xc]
abbrev wO (steps : Int) (y0 y1 : Int) (y2 : ByteArray) (na : Option Addr) (nn nc : Nat) (xa : Option Addr) (xn xc : Nat) (oa : Option Addr) (on oc : Nat) : List Value := [.int .i64 1, .int .i64 0, .int .i64 steps, .int .i64 y0, .int .i64 y1, .string y2, .slice na nn nc, .slice xa xn xc, .slice oa on oc]
abbrev W5 (y0 y1 : Int) (y2 : ByteArray) (na : Option Addr) (nn nc : Nat) (xa : Option Addr) (xn xc : Nat) (w3 : World) : World := stL ⟨w3.heap.size, 0, none⟩ 0 (yO y0 y1 y2 na nn nc xa xn xc) (w3.alloc (.cells #[.int .i64 0, .int .i64 0, .string ⟨#[]⟩, .slice none 0 0, .slice none 0 0] 28))
structure Cells (w w1 : World) (sz : Nat) (steps : Int) (oa : Option Addr) (on oc : Nat) : Prop where
  ptr : Blk w1 (sz + 1) 56 [.pointer (some ⟨sz, 0, none⟩)]
  mach : ∃ ma fl, Blk w1 sz 58 [ma, .int .i64 fl, .int .i64 steps, .slice oa on oc]
  out : ∃ L0, Blk w1 w.heap.size 30 L0 ∧ L0.length = 9
  err : ∃ e0, Blk w1 (w.heap.size + 1) 31 [e0]
def PPx (R : Ending → World → Prop) (w : World) (sz : Nat) (ch : List PanicEntry) (w1 : World) : Prop := ∃ op n steps oa on oc, ch = endF op n ∧ Cells w w1 sz steps oa on oc ∧ R (.returned (.tuple #[.agg ⟨zO op n steps oa on oc⟩, .int .i64 0])) (WC op n steps oa on oc w.heap.size (w.heap.size + 1) w1)
def GGx (R : Ending → World → Prop) (w : World) (sz : Nat) (y0 y1 : Int) (y2 : ByteArray) (na : Option Addr) (nn nc : Nat) (xa : Option Addr) (xn xc : Nat) (w3 : World) : Prop := ∃ steps oa on oc, Cells w w3 sz steps oa on oc ∧
  R (.returned (.tuple #[.agg ⟨wO steps y0 y1 y2 na nn nc xa xn xc oa on oc⟩, .int .i64 0])) ((stL ⟨w.heap.size + 1, 0, none⟩ 0 [.int .i64 0] (stL ⟨w.heap.size, 0, none⟩ 0 (wO steps y0 y1 y2 na nn nc xa xn xc oa on oc) { W5 y0 y1 y2 na nn nc xa xn xc w3 with drawn := (W5 y0 y1 y2 na nn nc xa xn xc w3).drawn + 1 })).alloc (.cells #[.int .i64 0, .int .i64 0] 60))
def FF (PP : List PanicEntry → World → Prop) (Gd : Int → Int → ByteArray → Option Addr → Nat → Nat → Option Addr → Nat → Nat → World → Prop) (q : Value) (w : World) : Prop := Calls Tryz.prog 27 #[.pointer (some ⟨w.heap.size, 0, none⟩), q, .int .i64 400] (w.alloc (.cells #[.int .i64 20000] 70)) fun e w3 =>
  (∃ y0 y1 y2 na nn nc xa xn xc, e = .returned (.agg #[.int .i64 y0, .int .i64 y1, .string y2, .slice na nn nc, .slice xa xn xc]) ∧ Gd y0 y1 y2 na nn nc xa xn xc w3) ∨ ∃ ch, e = .panicked ch ∧ PP ch w3
theorem wpOps_call {P : Program} {ops : Array Oper} {Q : Exit → Act → World → Prop} {i : Nat} {rest : List Nat} {o : Oper} {a : Act} {w : World} {f : FuncId} {args : Array Value} (ho : ops[i]? = some o) (hw : ∀ y, Region.wanted o y = true) (hr : (execOp a.eval o).run P w = .ok (.enter f args) w)
    (hc : Calls P f args w fun e w'' => (∃ v, e = .returned v ∧ wpOps P ops Q rest (a.put o.dst v) w'') ∨ ∃ ch, e = .panicked ch ∧ Q (.panic ch) a w'') : wpOps P ops Q (i :: rest) a w := by
  rw [wpOps_cons]
  exact wpOp_call ho hw hr hc
theorem wpOps_skip {P : Program} {ops : Array Oper} {Q : Exit → Act → World → Prop} {i : Nat} {rest : List Nat} {o : Oper} {a : Act} {w w' : World} (ho : ops[i]? = some o) (hw : ∀ y, Region.wanted o y = true) (hr : (execOp a.eval o).run P w = .ok .skip w') (hK : wpOps P ops Q rest (a.put o.dst undef) w') : wpOps P ops Q (i :: rest) a w := by
  rw [wpOps_cons]
  unfold wpOp
  rw [ho]
  show (if Region.wanted o (yielded ops a.tmps) then _ else _)
  rw [if_pos (hw _)]
  refine .inl ?_
  unfold Oper.wp
  rw [hr]
  exact hK
theorem wpOps_val {P : Program} {ops : Array Oper} {Q : Exit → Act → World → Prop} {i : Nat} {rest : List Nat} {o : Oper} {a : Act} {w w' : World} {v : Value} (ho : ops[i]? = some o) (hw : ∀ y, Region.wanted o y = true) (hr : (execOp a.eval o).run P w = .ok (.value v) w') (hK : wpOps P ops Q rest (a.put o.dst v) w') : wpOps P ops Q (i :: rest) a w := by
  rw [wpOps_cons]
  exact wpOp_val ho hw hr hK
theorem res8 {W : World} {tmps : Array Value} {ob eb : Nat} (h6 : tmps[6]?.getD undef = .pointer (some ⟨ob, 0, none⟩)) (h7 : tmps[7]?.getD undef = .pointer (some ⟨eb, 0, none⟩)) {v0 v1 v2 v3 v4 v5 v6 v7 v8 e : Value} (h : Blk W ob 30 [v0, v1, v2, v3, v4, v5, v6, v7, v8]) (he : Blk W eb 31 [e]) :
    (results Tryz.f8 tmps).run Tryz.prog W = .ok (.tuple #[.agg ⟨[v0, v1, v2, v3, v4, v5, v6, v7, v8]⟩, e]) W := by
  have c0 : W.cell? ⟨ob, 0, none⟩ = some v0 := h.cell 0
  have c1 : W.cell? ⟨ob, 1, none⟩ = some v1 := h.cell 1
  have c2 : W.cell? ⟨ob, 2, none⟩ = some v2 := h.cell 2
  have c3 : W.cell? ⟨ob, 3, none⟩ = some v3 := h.cell 3
  have c4 : W.cell? ⟨ob, 4, none⟩ = some v4 := h.cell 4
  have c5 : W.cell? ⟨ob, 5, none⟩ = some v5 := h.cell 5
  have c6 : W.cell? ⟨ob, 6, none⟩ = some v6 := h.cell 6
  have c7 : W.cell? ⟨ob, 7, none⟩ = some v7 := h.cell 7
  have c8 : W.cell? ⟨ob, 8, none⟩ = some v8 := h.cell 8
  have d0 : W.cell? ⟨eb, 0, none⟩ = some e := he.cell 0
  simp [results, Tryz.results8, h6, h7, go_sem, c0, c1, c2, c3, c4, c5, c6, c7, c8, d0]
theorem blk_drawn {w : World} {b : Nat} {t : TypeId} {L : List Value} {k : Nat} (h : Blk w b t L) : Blk { w with drawn := k } b t L := h
theorem blk_9 {w : World} {b : Nat} {L0 : List Value} (hl : L0.length = 9) (h : Blk w b 30 L0) {L : List Value} (hL : L.length = 9) {k : Nat} : Blk (stL ⟨b, 0, none⟩ 0 L { w with drawn := k }) b 30 L := by
  have h' : Blk { w with drawn := k } b 30 L0 := h
  have := blk_stL (w := w) 0 L 0 L0 h'
  have e : setsAt L0 0 L = L := by simpa using FlatR.setsAt_mid [] L0 L [] (by omega)
  rw [Nat.add_zero, e] at this
  exact this
theorem caught {R : Ending → World → Prop} {w : World} {sz : Nat} {tmps : Array Value} {ch : List PanicEntry} {w1 : World} (h6 : tmps[6]?.getD undef = .pointer (some ⟨w.heap.size, 0, none⟩)) (h7 : tmps[7]?.getD undef = .pointer (some ⟨w.heap.size + 1, 0, none⟩)) (h : PPx R w sz ch w1) :
    Leaves Tryz.prog Tryz.f8 tmps R [{ target := .fn (.func 24) #[.pointer (some ⟨sz + 1, 0, none⟩), .pointer (some ⟨w.heap.size, 0, none⟩), .pointer (some ⟨w.heap.size + 1, 0, none⟩)], args := #[] }] (.panicking ch) w1 := by
  obtain ⟨op, n, steps, oa, on, oc, rfl, ⟨p1, ⟨ma, fl, p2⟩, ⟨L0, p3, p4⟩, e0, p5⟩, hR⟩ := h
  refine leaves_cons (f := 24) (args := #[.pointer (some ⟨sz + 1, 0, none⟩), .pointer (some ⟨w.heap.size, 0, none⟩), .pointer (some ⟨w.heap.size + 1, 0, none⟩)]) (by simp) (by simp [go_sem]) ?_
  refine (catch24_panicking [] w1 p1 p2 p3 p4 p5 (by omega)).mono ?_
  rintro e u' w'' ⟨rfl, rfl, rfl⟩
  have ho := blk_9 (k := w1.drawn + 1) p4 (p3.alloc (.cells #[.int .i64 op, .int .i64 n] 60)) (L := zO op n steps oa on oc) rfl
  have he : Blk (stL ⟨w.heap.size, 0, none⟩ 0 (zO op n steps oa on oc) { w1.alloc (.cells #[.int .i64 op, .int .i64 n] 60) with drawn := w1.drawn + 1 }) (w.heap.size + 1) 31 [e0] := blk_other (by omega) _ 0 (show Blk { w1.alloc (.cells #[.int .i64 op, .int .i64 n] 60) with drawn := w1.drawn + 1 } (w.heap.size + 1) 31 [e0] from p5.alloc _)
  exact ⟨_, res8 h6 h7 (blk_other (by omega) _ 0 ho) (blk_stL (w := w) 0 [.int .i64 0] 0 _ he), hR⟩
set_option maxRecDepth 20000 in
theorem run_ok (fa : Option Addr) (fn fc : Nat) (main fuel : Int) (w : World) (R : Ending → World → Prop)
   (hC : Calls Tryz.prog 18 #[.slice fa fn fc, .int .i64 main] (W2 w) fun e w1 => e = .returned (.bool true) ∧ 0 ≤ fuel ∧ fuel ≤ 1048576 ∧ ∃ U : World → Value → World → Prop,
      (∀ b3 b4 bx u w', WS (W4 fa fn fc fuel w1) U main b3 b4 bx u w' → w'.cell? ⟨w1.heap.size + 1, 0, none⟩ = some (.pointer (some ⟨w1.heap.size, 0, none⟩))) ∧
      (∀ W', (W' = W4 fa fn fc fuel w1 ∨ W' = (W4 fa fn fc fuel w1).alloc (valV main)) → Calls Tryz.prog 26 #[] W' fun e w'' => ∃ u, e = .returned u ∧ U W' u w'') ∧
      (∀ bx u w', WS (W4 fa fn fc fuel w1) U main true true bx u w' → Calls Tryz.prog 25 #[.pointer (some ⟨w1.heap.size, 0, none⟩), bx, u] w' fun e w'' => (∃ q, e = .returned q ∧ FF (PPx R w w1.heap.size) (GGx R w w1.heap.size) q w'') ∨ ∃ ch, e = .panicked ch ∧ PPx R w w1.heap.size ch w'')) :
    Calls Tryz.prog 8 #[.slice fa fn fc, .int .i64 main, .int .i64 fuel] w R := by
  have hmf : ∀ (fn : Fn) (first cap : Array Value) (w : World), (Instr.makeFunc fn first cap).run Tryz.prog w = .ok (.func fn first cap) w := fun _ _ _ _ => rfl
  go_enter_defers Tryz.func8, Tryz.ntmps8
  go_wp2_with (fail)
  refine Calls.mono hC ?_
  rintro e w' ⟨rfl, h0, h1, U, hload, hU, hC25⟩
  dsimp only
  go_at_K
  go_wp2_with (fail)
  rename_i K hK
  refine wp_region_any mixedZ (regA (a0 := _) (W := W4 fa fn fc fuel w') (U := U) (main := main) (F := FF (PPx R w w'.heap.size) (GGx R w w'.heap.size)) (PP := PPx R w w'.heap.size) rfl rfl rfl hload hU hC25 ?_ ?_)
  · intro ch a w'' hf hP
    obtain ⟨hd, hsz, hfr⟩ := hf
    have t6 : a.tmps[6]?.getD undef = .pointer (some ⟨w.heap.size, 0, none⟩) := by simpa using hfr 6 (by omega) (by omega)
    have t7 : a.tmps[7]?.getD undef = .pointer (some ⟨w.heap.size + 1, 0, none⟩) := by simpa using hfr 7 (by omega) (by omega)
    show Leaves Tryz.prog Tryz.f8 a.tmps R a.defers (.panicking ch) w''
    rw [hd]
    exact caught t6 t7 hP
  · intro a w'' q hf h9 hF
    refine hK a w'' ?_
    clear hK
    obtain ⟨hd, hsz, hfr⟩ := hf
    have t6 : a.tmps[6]?.getD undef = .pointer (some ⟨w.heap.size, 0, none⟩) := by simpa using hfr 6 (by omega) (by omega)
    have t7 : a.tmps[7]?.getD undef = .pointer (some ⟨w.heap.size + 1, 0, none⟩) := by simpa using hfr 7 (by omega) (by omega)
    have t8 : a.tmps[8]?.getD undef = .pointer (some ⟨w'.heap.size + 1, 0, none⟩) := by simpa using hfr 8 (by omega) (by omega)
    have t9 : a.tmps[9]?.getD undef = q := by simpa using h9
    have hsz : a.tmps.size = 50 := hsz
    clear hfr h9
    refine wp_seq (wp_region ?_)
    refine wpOps_val (v := .agg #[.int .i64 20000]) (w' := w'') rfl (fun _ => rfl) (by simp [go_sem, Act.eval]) ?_
    refine wpOps_val (v := .pointer (some ⟨w''.heap.size, 0, none⟩)) (w' := w''.alloc (.cells #[.int .i64 20000] 70)) rfl (fun _ => rfl) (by simp [go_sem, Act.eval, Act.put, hsz]) ?_
    refine wpOps_val (v := .pointer (some ⟨w''.heap.size, 0, none⟩)) (w' := w''.alloc (.cells #[.int .i64 20000] 70)) rfl (fun _ => rfl) (by simp [go_sem, Act.eval, Act.put, hsz]) ?_
    show Code.wp _ _ _ _ _
    generalize hb : ((a.put _ _).put _ _).put _ _ = b
    have hbd : b.defers = a.defers := by rw [← hb]; rfl
    have hbs : b.tmps.size = 50 := by rw [← hb]; simp [Act.put, hsz]
    have b6 : b.tmps[6]?.getD undef = .pointer (some ⟨w.heap.size, 0, none⟩) := by rw [← hb]; simp [Act.put, t6]
    have b7 : b.tmps[7]?.getD undef = .pointer (some ⟨w.heap.size + 1, 0, none⟩) := by rw [← hb]; simp [Act.put, t7]
    have b8 : b.tmps[8]?.getD undef = .pointer (some ⟨w'.heap.size + 1, 0, none⟩) := by rw [← hb]; simp [Act.put, t8]
    have b9 : b.tmps[9]?.getD undef = q := by rw [← hb]; simp [Act.put, t9]
    have b10 : b.tmps[10]?.getD undef = .pointer (some ⟨w''.heap.size, 0, none⟩) := by rw [← hb]; simp [Act.put, hsz]
    clear hb
    refine wp_seq (wp_region ?_)
    refine wpOps_val (v := .pointer (some ⟨w''.heap.size, 0, none⟩)) (w' := w''.alloc (.cells #[.int .i64 20000] 70)) rfl (fun _ => rfl) (by simp [go_sem, Act.eval, b10]) ?_
    refine wpOps_val (v := q) (w' := w''.alloc (.cells #[.int .i64 20000] 70)) rfl (fun _ => rfl) (by simp [go_sem, Act.eval, Act.put, b9]) ?_
    refine wpOps_call (f := 27) (args := #[.pointer (some ⟨w''.heap.size, 0, none⟩), q, .int .i64 400]) rfl (fun _ => rfl) (by simp [go_sem, Act.eval, Act.put, hbs]) (Calls.mono hF ?_)
    rintro e w3 (⟨y0, y1, y2, na, nn, nc, xa, xn, xc, rfl, hG⟩ | ⟨ch, rfl, hP⟩)
    · refine .inl ⟨_, rfl, ?_⟩
      refine wpOps_val (v := .pointer (some ⟨w3.heap.size, 0, none⟩)) (w' := w3.alloc (.cells #[.int .i64 0, .int .i64 0, .string ⟨#[]⟩, .slice none 0 0, .slice none 0 0] 28)) rfl (fun _ => rfl) (by simp [go_sem, Act.eval, Act.put, hbs]) ?_
      have hB : Blk (w3.alloc (.cells #[.int .i64 0, .int .i64 0, .string ⟨#[]⟩, .slice none 0 0, .slice none 0 0] 28)) w3.heap.size 28 [.int .i64 0, .int .i64 0, .string ⟨#[]⟩, .slice none 0 0, .slice none 0 0] := by
        unfold Blk
        exact Array.getElem?_push_size
      have q0 := hB.cell 0
      have q1 := hB.cell 1
      have q2 := hB.cell 2
      have q3 := hB.cell 3
      have q4 := hB.cell 4
      have hfr := hB.frozen
      refine wpOps_skip (w' := stL ⟨w3.heap.size, 0, none⟩ 0 [.int .i64 y0, .int .i64 y1, .string y2, .slice na nn nc, .slice xa xn xc] (w3.alloc (.cells #[.int .i64 0, .int .i64 0, .string ⟨#[]⟩, .slice none 0 0, .slice none 0 0] 28))) rfl (fun _ => rfl) (by
        generalize w3.alloc (.cells #[.int .i64 0, .int .i64 0, .string ⟨#[]⟩, .slice none 0 0, .slice none 0 0] 28) = w4 at hB q0 q1 q2 q3 q4 hfr
        simp at q0 q1 q2 q3 q4
        simp [go_sem, Act.eval, Act.put, hbs, q0, q1, q2, q3, q4, hfr, World.cell?_setCell_other, stL, add_zero_row]) ?_
      show Code.wp _ _ _ _ _
      generalize hc : Act.put _ _ _ = c
      have hcd : c.defers = a.defers := by rw [← hc, ← hbd]; rfl
      have hcs : c.tmps.size = 50 := by rw [← hc]; simp [Act.put, hbs]
      have c6 : c.tmps[6]?.getD undef = .pointer (some ⟨w.heap.size, 0, none⟩) := by rw [← hc]; simp [Act.put, b6]
      have c7 : c.tmps[7]?.getD undef = .pointer (some ⟨w.heap.size + 1, 0, none⟩) := by rw [← hc]; simp [Act.put, b7]
      have c8 : c.tmps[8]?.getD undef = .pointer (some ⟨w'.heap.size + 1, 0, none⟩) := by rw [← hc]; simp [Act.put, b8]
      have c11 : c.tmps[11]?.getD undef = .pointer (some ⟨w3.heap.size, 0, none⟩) := by rw [← hc]; simp [Act.put, hbs]
      clear hc
      have hB5 : Blk (stL ⟨w3.heap.size, 0, none⟩ 0 [.int .i64 y0, .int .i64 y1, .string y2, .slice na nn nc, .slice xa xn xc] (w3.alloc (.cells #[.int .i64 0, .int .i64 0, .string ⟨#[]⟩, .slice none 0 0, .slice none 0 0] 28))) w3.heap.size 28 [.int .i64 y0, .int .i64 y1, .string y2, .slice na nn nc, .slice xa xn xc] := blk_stL (w := w3) 0 _ 0 _ hB
      clear hB q0 q1 q2 q3 q4 hfr
      obtain ⟨steps, oa, on, oc, ⟨p1, ⟨ma, fl, p2⟩, ⟨L0, p3, p4⟩, e0, p5⟩, hR⟩ := hG
      have oth : ∀ {b : Nat} {t : TypeId} {L : List Value}, Blk w3 b t L → Blk (W5 y0 y1 y2 na nn nc xa xn xc w3) b t L := fun {b t L} h => blk_other (by have := h.lt; omega) _ 0 (h.alloc _)
      refine wp_seq (regD (ob := w.heap.size) (eb := w.heap.size + 1) (pb := w'.heap.size + 1) (mb := w'.heap.size) (vb := w3.heap.size) (y0 := y0) (y1 := y1) (y2 := y2) (na := na) (nn := nn) (nc := nc) (xa := xa) (xn := xn) (xc := xc) (ma := ma) (fuel := fl) (steps := steps) (oa := oa) (on := on) (oc := oc) (L0 := L0) (e0 := e0) hcs c6 c7 c8 c11 hB5 (oth p1) (oth p2) (oth p3) p4 (oth p5) (by omega) (fun c' hd' d6 d7 => ?_))
      refine wp_ret ?_
      show Leaves Tryz.prog Tryz.f8 c'.tmps R c'.defers .returning _
      rw [hd', hcd, hd]
      refine leaves_cons (f := 24) (args := #[.pointer (some ⟨w'.heap.size + 1, 0, none⟩), .pointer (some ⟨w.heap.size, 0, none⟩), .pointer (some ⟨w.heap.size + 1, 0, none⟩)]) (by simp) (by simp [go_sem]) ?_
      refine (catch24_idle _ _ _ _).mono ?_
      rintro e u' w'' ⟨rfl, rfl, rfl⟩
      have ho : Blk (stL ⟨w.heap.size, 0, none⟩ 0 (wO steps y0 y1 y2 na nn nc xa xn xc oa on oc) { W5 y0 y1 y2 na nn nc xa xn xc w3 with drawn := (W5 y0 y1 y2 na nn nc xa xn xc w3).drawn + 1 }) w.heap.size 30 (wO steps y0 y1 y2 na nn nc xa xn xc oa on oc) := blk_9 p4 (oth p3) rfl
      have he : Blk (stL ⟨w.heap.size, 0, none⟩ 0 (wO steps y0 y1 y2 na nn nc xa xn xc oa on oc) { W5 y0 y1 y2 na nn nc xa xn xc w3 with drawn := (W5 y0 y1 y2 na nn nc xa xn xc w3).drawn + 1 }) (w.heap.size + 1) 31 [e0] := blk_other (by omega) _ 0 (blk_drawn (oth p5))
      exact ⟨_, res8 d6 d7 ((blk_other (by omega) _ 0 ho).alloc _) ((blk_stL (w := w) 0 [.int .i64 0] 0 _ he).alloc _), hR⟩
    · refine .inr ⟨ch, rfl, ?_⟩
      show Leaves Tryz.prog Tryz.f8 _ R b.defers (.panicking ch) w3
      rw [hbd, hd]
      exact caught (by simp [Act.put, b6]) (by simp [Act.put, b7]) hP
end Go.Proofs.YthlcdgpemjdgnaaGreatDoor
/- closure.Run, when it ends early. -/
set_option linter.unusedVariables false
namespace Go.Proofs.YthlcdgpemjdgnaaGreatDoor
open Go Go.Vc Go.RowKit Go.Syn Go.Lam Go.Sort
set_option linter.unusedSimpArgs false
set_option maxRecDepth 20000 in
theorem run_invalid (fa : Option Addr) (fn fc : Nat) (main fuel : Int) (w : World) (R : Ending → World → Prop)
   (hC : Calls Tryz.prog 18 #[.slice fa fn fc, .int .i64 main] (W2 w) fun e w1 => e = .returned (.bool false) ∧ ∃ L0 e0, Blk w1 w.heap.size 30 L0 ∧ L0.length = 9 ∧ Blk w1 (w.heap.size + 1) 31 [e0] ∧
      R (.returned (.tuple #[.agg ⟨zO 0 0 0 none 0 0⟩, .int .i64 1])) (stL ⟨w.heap.size + 1, 0, none⟩ 0 [.int .i64 1] (stL ⟨w.heap.size, 0, none⟩ 0 (zO 0 0 0 none 0 0) w1))) :
    Calls Tryz.prog 8 #[.slice fa fn fc, .int .i64 main, .int .i64 fuel] w R := by
  have hmf : ∀ (fn : Fn) (first cap : Array Value) (w : World), (Instr.makeFunc fn first cap).run Tryz.prog w = .ok (.func fn first cap) w := fun _ _ _ _ => rfl
  go_enter_defers Tryz.func8, Tryz.ntmps8
  go_wp2_with (fail)
  refine Calls.mono hC ?_
  rintro e w' ⟨rfl, L0, e0, ho, hl, he, hR⟩
  dsimp only
  go_at_K
  have hfr := ho.frozen
  have hfe := he.frozen
  have hcell : ∀ i, i < 9 → ∃ v, w'.cell? ⟨w.heap.size, i, none⟩ = some v := fun i hi => by rw [ho.cell]; exact ⟨_, List.getElem?_eq_getElem (by omega)⟩
  obtain ⟨v0, c0⟩ := hcell 0 (by omega)
  obtain ⟨v1, c1⟩ := hcell 1 (by omega)
  obtain ⟨v2, c2⟩ := hcell 2 (by omega)
  obtain ⟨v3, c3⟩ := hcell 3 (by omega)
  obtain ⟨v4, c4⟩ := hcell 4 (by omega)
  obtain ⟨v5, c5⟩ := hcell 5 (by omega)
  obtain ⟨v6, c6⟩ := hcell 6 (by omega)
  obtain ⟨v7, c7⟩ := hcell 7 (by omega)
  obtain ⟨v8, c8⟩ := hcell 8 (by omega)
  have d0 : w'.cell? ⟨w.heap.size + 1, 0, none⟩ = some e0 := he.cell 0
  go_wp2_with (fail)
  have ew : stL ⟨w.heap.size + 1, 0, none⟩ 0 [.int .i64 1] (stL ⟨w.heap.size, 0, none⟩ 0 (zO 0 0 0 none 0 0) w') = (((((((((w'.setCell ⟨w.heap.size, 0, none⟩ (.int .i64 0)).setCell ⟨w.heap.size, 1, none⟩ (.int .i64 0)).setCell ⟨w.heap.size, 2, none⟩ (.int .i64 0)).setCell ⟨w.heap.size, 3, none⟩ (.int .i64 0)).setCell ⟨w.heap.size, 4, none⟩ (.int .i64 0)).setCell ⟨w.heap.size, 5, none⟩ (.string ⟨#[]⟩)).setCell ⟨w.heap.size, 6, none⟩ (.slice none 0 0)).setCell ⟨w.heap.size, 7, none⟩ (.slice none 0 0)).setCell ⟨w.heap.size, 8, none⟩ (.slice none 0 0)).setCell ⟨w.heap.size + 1, 0, none⟩ (.int .i64 1) := by simp [stL, add_zero_row]
  rw [← ew]
  have h9 : Blk (stL ⟨w.heap.size, 0, none⟩ 0 (zO 0 0 0 none 0 0) w') w.heap.size 30 (zO 0 0 0 none 0 0) := blk_9 (k := w'.drawn) hl ho rfl
  have h1 : Blk (stL ⟨w.heap.size, 0, none⟩ 0 (zO 0 0 0 none 0 0) w') (w.heap.size + 1) 31 [e0] := blk_other (by omega) _ 0 he
  exact ⟨_, res8 rfl rfl (blk_other (by omega) _ 0 h9) (blk_stL (w := w) 0 [.int .i64 1] 0 _ h1), hR⟩
set_option maxRecDepth 20000 in
theorem run_range (fa : Option Addr) (fn fc : Nat) (main fuel : Int) (w : World) (R : Ending → World → Prop)
   (hC : Calls Tryz.prog 18 #[.slice fa fn fc, .int .i64 main] (W2 w) fun e w1 => e = .returned (.bool true) ∧ (fuel < 0 ∨ 1048576 < fuel) ∧ ∃ L0 e0, Blk w1 w.heap.size 30 L0 ∧ L0.length = 9 ∧ Blk w1 (w.heap.size + 1) 31 [e0] ∧
      R (.returned (.tuple #[.agg ⟨zO 0 0 0 none 0 0⟩, .int .i64 2])) (stL ⟨w.heap.size + 1, 0, none⟩ 0 [.int .i64 2] (stL ⟨w.heap.size, 0, none⟩ 0 (zO 0 0 0 none 0 0) w1))) :
    Calls Tryz.prog 8 #[.slice fa fn fc, .int .i64 main, .int .i64 fuel] w R := by
  have hmf : ∀ (fn : Fn) (first cap : Array Value) (w : World), (Instr.makeFunc fn first cap).run Tryz.prog w = .ok (.func fn first cap) w := fun _ _ _ _ => rfl
  go_enter_defers Tryz.func8, Tryz.ntmps8
  go_wp2_with (fail)
  refine Calls.mono hC ?_
  rintro e w' ⟨rfl, hfu, L0, e0, ho, hl, he, hR⟩
  dsimp only
  go_at_K
  have hfr := ho.frozen
  have hfe := he.frozen
  have hcell : ∀ i, i < 9 → ∃ v, w'.cell? ⟨w.heap.size, i, none⟩ = some v := fun i hi => by rw [ho.cell]; exact ⟨_, List.getElem?_eq_getElem (by omega)⟩
  obtain ⟨v0, c0⟩ := hcell 0 (by omega)
  obtain ⟨v1, c1⟩ := hcell 1 (by omega)
  obtain ⟨v2, c2⟩ := hcell 2 (by omega)
  obtain ⟨v3, c3⟩ := hcell 3 (by omega)
  obtain ⟨v4, c4⟩ := hcell 4 (by omega)
  obtain ⟨v5, c5⟩ := hcell 5 (by omega)
  obtain ⟨v6, c6⟩ := hcell 6 (by omega)
  obtain ⟨v7, c7⟩ := hcell 7 (by omega)
  obtain ⟨v8, c8⟩ := hcell 8 (by omega)
  have d0 : w'.cell? ⟨w.heap.size + 1, 0, none⟩ = some e0 := he.cell 0
  go_wp2_with (fail)
  all_goals
    have ew : stL ⟨w.heap.size + 1, 0, none⟩ 0 [.int .i64 2] (stL ⟨w.heap.size, 0, none⟩ 0 (zO 0 0 0 none 0 0) w') = (((((((((w'.setCell ⟨w.heap.size, 0, none⟩ (.int .i64 0)).setCell ⟨w.heap.size, 1, none⟩ (.int .i64 0)).setCell ⟨w.heap.size, 2, none⟩ (.int .i64 0)).setCell ⟨w.heap.size, 3, none⟩ (.int .i64 0)).setCell ⟨w.heap.size, 4, none⟩ (.int .i64 0)).setCell ⟨w.heap.size, 5, none⟩ (.string ⟨#[]⟩)).setCell ⟨w.heap.size, 6, none⟩ (.slice none 0 0)).setCell ⟨w.heap.size, 7, none⟩ (.slice none 0 0)).setCell ⟨w.heap.size, 8, none⟩ (.slice none 0 0)).setCell ⟨w.heap.size + 1, 0, none⟩ (.int .i64 2) := by simp [stL, add_zero_row]
    rw [← ew]
    have h9 : Blk (stL ⟨w.heap.size, 0, none⟩ 0 (zO 0 0 0 none 0 0) w') w.heap.size 30 (zO 0 0 0 none 0 0) := blk_9 (k := w'.drawn) hl ho rfl
    have h1 : Blk (stL ⟨w.heap.size, 0, none⟩ 0 (zO 0 0 0 none 0 0) w') (w.heap.size + 1) 31 [e0] := blk_other (by omega) _ 0 he
    exact ⟨_, res8 rfl rfl (blk_other (by omega) _ 0 h9) (blk_stL (w := w) 0 [.int .i64 2] 0 _ h1), hR⟩
end Go.Proofs.YthlcdgpemjdgnaaGreatDoor
/- closure.Run. -/
set_option linter.unusedVariables false
namespace Go.Proofs.YthlcdgpemjdgnaaGreatDoor
open Go Go.Vc Go.RowKit Go.Syn Go.Lam Go.Sort
open PM
def drawnG (g : G) : G := g.to { g.w with drawn := g.w.drawn + 1 } (Nat.le_refl _)
theorem drawn_ex (g : G) : Ex g (drawnG g) := ⟨Nat.le_refl _, fun b _ hx => hx, fun b _ _ => rfl, fun b _ _ i => Iff.rfl⟩
theorem drawn_stp (g : G) (B : Nat) (M : Nat → Prop) : Stp B M g (drawnG g) := ⟨(drawn_ex g).le, fun _ => Iff.rfl, fun _ _ => rfl, rfl, rfl, rfl, fun _ _ _ => rfl, fun _ _ _ _ => Iff.rfl⟩
theorem store_blk {g5 : G} {B b : Nat} {t : TypeId} {L : List Value} (hm : MutB g5 b t L) (hB : B ≤ b) (N : List Value) (M : Nat → Prop) :
    ∃ g', g'.w = stL ⟨b, 0, none⟩ 0 N g5.w ∧ Stp B M g5 g' ∧ But (fun x => x = b) g5 g' ∧ Le g5 g' := by
  have h1 : Stp B M g5 (g5.store false ⟨b, 0, none⟩ N) := store_stp hm.nx (hm.mut0 _) (fun hh => by have hh' : b < B := hh; omega)
  obtain ⟨_, h2⟩ := hm.st0 (store_stG g5 false ⟨b, 0, none⟩ N)
  exact ⟨g5.store false ⟨b, 0, none⟩ N, (store_stG g5 false ⟨b, 0, none⟩ N).w, h1, h2, h1.le⟩
def resF (fs : List FlatD) (main : Int) (fuel : Nat) : Res Th := evalF fs (fuel + 1) (bodyF fs main) [fcT main [], unitT] fuel []
def finF (fs : List FlatD) (main : Int) (fuel : Nat) : Fin := finR (resF fs main fuel)
def outF (fs : List FlatD) (main : Int) (fuel : Nat) : Outc := ⟨(finF fs main fuel).op, (finF fs main fuel).code, ((fuel : Nat) : Int) - (((finF fs main fuel).left : Nat) : Int), (finF fs main fuel).y, (finF fs main fuel).out⟩
open Classical in
noncomputable def runAF (fs : List FlatD) (main fuel : Int) : Outc × Int := if validF fs main then (if 0 ≤ fuel ∧ fuel ≤ 1048576 then (outF fs main fuel.toNat, 0) else (zeroO, 2)) else (zeroO, 1)
def RunSayF (fs : List FlatD) (main fuel : Int) (v : Value) (g' : G) : Prop := ∃ o, v = .tuple ⟨[o, .int .i64 (runAF fs main fuel).2]⟩ ∧ OutI g' (runAF fs main fuel).1 o
theorem prog_of_valid {fs : List FlatD} {main : Int} (hv : validF fs main) (hs : ∀ f ∈ fs, sizeE f.body ≤ 20000 ∧ depthE f.body ≤ 400) : ProgF (capsF fs) fs := by
  refine ⟨rfl, fun i f hf => ?_⟩
  have hm := List.mem_of_getElem? hf
  obtain ⟨h1, h2, h3⟩ := hv.2.2.2.2.2 f hm
  exact ⟨f.cap.toNat, by omega, h3, (hs f hm).2⟩
theorem early {g g3 : G} {v : Int} {L0 : List Value} {e0 : Value} (hs : Stp g.size nobody g g3) (ho : MutB g3 g.w.heap.size 30 L0) (he : MutB g3 (g.w.heap.size + 1) 31 [e0]) :
    ∃ g', g'.w = stL ⟨g.w.heap.size + 1, 0, none⟩ 0 [.int .i64 v] (stL ⟨g.w.heap.size, 0, none⟩ 0 (zO 0 0 0 none 0 0) g3.w) ∧ Stp g.size nobody g g' := by
  obtain ⟨g4, w4, s4, b4, _⟩ := store_blk ho (Nat.le_refl _) (zO 0 0 0 none 0 0) nobody
  obtain ⟨g5, w5, s5, b5, _⟩ := store_blk (he.but b4 (by omega)) (Nat.le_succ _) [.int .i64 v] nobody
  exact ⟨g5, by rw [w5, w4], (hs.trans s4).trans s5⟩
theorem fin8 {g4 : G} {B ob : Nat} {L0 : List Value} {e0 : Value} {oa : Option Addr} {on oc : Nat} {out : List Lab} (ho : MutB g4 ob 30 L0) (he : MutB g4 (ob + 1) 31 [e0]) (hB : B ≤ ob) (hrow : MutR g4 0 9 1 oa on oc (out.map encStr)) (hoa : ∀ b, blkOf oa b → ob + 1 < b) (N : List Value) :
    ∃ g', g'.w = stL ⟨ob + 1, 0, none⟩ 0 [.int .i64 0] (stL ⟨ob, 0, none⟩ 0 N { g4.w with drawn := g4.w.drawn + 1 }) ∧ Stp B nobody g4 g' ∧ MutR g' 0 9 1 oa on oc (out.map encStr) ∧ Le g4 g' := by
  have m5 := drawn_ex g4
  have s5 := drawn_stp g4 B nobody
  obtain ⟨g6, w6, s6, b6, l6⟩ := store_blk (ho.ex m5) hB N nobody
  obtain ⟨g7, w7, s7, b7, l7⟩ := store_blk ((he.ex m5).but b6 (by omega)) (Nat.le_succ_of_le hB) [.int .i64 0] nobody
  refine ⟨g7, by rw [w7, w6]; rfl, (s5.trans s6).trans s7, ((hrow.ex m5).but b6 (fun b hb e => ?_)).but b7 (fun b hb e => ?_), (m5.le.trans l6).trans l7⟩
  · have := hoa b hb
    have e' : b = ob := e
    omega
  · have := hoa b hb
    have e' : b = ob + 1 := e
    omega
set_option maxHeartbeats 1000000 in
theorem k8 {fs : List FlatD} {main fuel : Int} {a : Option Addr} {n c : Nat} {g : G} (hs : ∀ f ∈ fs, sizeE f.body ≤ 20000 ∧ depthE f.body ≤ 400) (hr : SlE flatE g a n c fs) (ht : TabG g) :
    CallsP Tryz.prog 8 #[.slice a n c, .int .i64 main, .int .i64 fuel] g fun v g' => RunSayF fs main fuel v g' := by
  have n1 := push_newD g 30 zO9
  have s1 := push_stp (g := g) (B := g.size) (Nat.le_refl _) (.cells ⟨zO9⟩ 30) true nobody
  generalize e1 : g.push (.cells ⟨zO9⟩ 30) false true = g1 at n1 s1
  have z1 : g1.w.heap.size = g.w.heap.size + 1 := by rw [← e1]; exact Array.size_push ..
  have w1 : g1.w = g.w.alloc (.cells ⟨zO9⟩ 30) := by rw [← e1]; rfl
  have n2 := push_newD g1 31 [.int .i64 0]
  have s2 := push_stp (g := g1) (B := g.size) s1.le.size (.cells ⟨[.int .i64 0]⟩ 31) true nobody
  generalize e2 : g1.push (.cells ⟨[.int .i64 0]⟩ 31) false true = g2 at n2 s2
  have z2 : g2.w.heap.size = g.w.heap.size + 1 + 1 := by rw [← e2, ← z1]; exact Array.size_push ..
  have w2 : g2.w = g1.w.alloc (.cells ⟨[.int .i64 0]⟩ 31) := by rw [← e2]; rfl
  have s02 := s1.trans s2
  have m02 := n1.ex.trans n2.ex
  have hW : g2.w = W2 g.w := by rw [w2, w1]
  have ho2 := n1.mut.ex n2.ex
  have he2 := n2.mut
  rw [z1] at he2
  clear e1 e2 w1 w2
  have hk18 := k18 (main := main) hs (hr.exm m02)
  have step3 : ∀ {Q : Ending → World → Prop}, (∀ g3 : G, Stp g.size nobody g g3 → Ex g g3 → MutB g3 g.w.heap.size 30 zO9 → MutB g3 (g.w.heap.size + 1) 31 [.int .i64 0] → g.w.heap.size + 1 + 1 ≤ g3.w.heap.size → Q (.returned (.bool (tf (validF fs main)))) g3.w) → Calls Tryz.prog 18 #[.slice a n c, .int .i64 main] (W2 g.w) Q := by
    intro Q h
    rw [← hW]
    refine Calls.mono hk18 ?_
    rintro e w' ⟨v, g3, rfl, rfl, hs3, rfl⟩
    have hge : g.w.heap.size ≤ g2.w.heap.size := m02.size
    have m23 : Ex g2 g3 := hs3.ex
    have hz3 := m23.size
    exact h g3 (s02.trans (hs3.mono hge (fun b _ h => h))) (m02.trans m23) (ho2.ex m23) (he2.ex m23) (by omega)
  by_cases hv : validF fs main
  rotate_left
  · have e : runAF fs main fuel = (zeroO, 1) := by unfold runAF; rw [if_neg hv]
    refine run_invalid a n c main fuel g.w _ (step3 (fun g3 hs3 _ ho3 he3 _ => ⟨by rw [tf_no hv], _, _, ho3.blk, rfl, he3.blk, ?_⟩))
    obtain ⟨g', hw, hs'⟩ := early (v := 1) hs3 ho3 he3
    exact ⟨_, g', rfl, hw, hs', _, by rw [e], by rw [e]; exact zero_out g'⟩
  by_cases hf : 0 ≤ fuel ∧ fuel ≤ 1048576
  rotate_left
  · have e : runAF fs main fuel = (zeroO, 2) := by unfold runAF; rw [if_pos hv, if_neg hf]
    refine run_range a n c main fuel g.w _ (step3 (fun g3 hs3 _ ho3 he3 _ => ⟨by rw [tf_of hv], by omega, _, _, ho3.blk, rfl, he3.blk, ?_⟩))
    obtain ⟨g', hw, hs'⟩ := early (v := 2) hs3 ho3 he3
    exact ⟨_, g', rfl, hw, hs', _, by rw [e], by rw [e]; exact zero_out g'⟩
  obtain ⟨F, rfl⟩ : ∃ F : Nat, fuel = ((F : Nat) : Int) := ⟨fuel.toNat, by omega⟩
  have hres : runAF fs main ((F : Nat) : Int) = (outF fs main F, 0) := by unfold runAF; rw [if_pos hv, if_pos hf]; rfl
  have hP := prog_of_valid hv hs
  have hvt : tf (validF fs main) = true := tf_of hv
  obtain ⟨hv1, hv2, hv3, hv4, ⟨fm, hfm, hcap⟩, _⟩ := hv
  have hcs : (capsF fs)[main.toNat]? = some 0 := by
    show (fs.map _)[main.toNat]? = some 0
    rw [List.getElem?_map, hfm]
    show some fm.cap = some 0
    rw [hcap]
  have hokm : OkF (capsF fs) (fcT main []) := .func main [] hv3 (by simp) hcs (by simp)
  suffices hgoal : CallsP Tryz.prog 8 #[.slice a n c, .int .i64 main, .int .i64 ((F : Nat) : Int)] g fun v g' => ∃ o, v = .tuple ⟨[o, .int .i64 0]⟩ ∧ OutI g' (outF fs main F) o by
    refine hgoal.mono (fun v g' _ h => ?_)
    unfold RunSayF
    rw [hres]
    exact h
  refine run_ok a n c main ((F : Nat) : Int) g.w _ (step3 (fun g3 hs3 m3 ho3 he3 hz3 => ⟨by rw [hvt], hf.1, hf.2, ?_⟩))
  clear step3 hk18 hW ho2 he2 m02 s02 n1 n2 s1 s2 z1 z2
  have n4 := push_newD g3 58 [.slice a n c, .int .i64 ((F : Nat) : Int), .int .i64 0, .slice none 0 0]
  have s4 := push_stp (g := g3) (B := g.size) hs3.le.size (.cells ⟨[.slice a n c, .int .i64 ((F : Nat) : Int), .int .i64 0, .slice none 0 0]⟩ 58) true nobody
  generalize e4 : g3.push (.cells ⟨[.slice a n c, .int .i64 ((F : Nat) : Int), .int .i64 0, .slice none 0 0]⟩ 58) false true = g4 at n4 s4
  have z4 : g4.w.heap.size = g3.w.heap.size + 1 := by rw [← e4]; exact Array.size_push ..
  have w4 : g4.w = g3.w.alloc (.cells ⟨[.slice a n c, .int .i64 ((F : Nat) : Int), .int .i64 0, .slice none 0 0]⟩ 58) := by rw [← e4]; rfl
  have n5 := push_newD g4 56 [.pointer (some ⟨g3.w.heap.size, 0, none⟩)]
  have s34 := hs3.trans s4
  have s5 := push_stp (g := g4) (B := g.size) s34.le.size (.cells ⟨[.pointer (some ⟨g3.w.heap.size, 0, none⟩)]⟩ 56) true nobody
  generalize e5 : g4.push (.cells ⟨[.pointer (some ⟨g3.w.heap.size, 0, none⟩)]⟩ 56) false true = g5 at n5 s5
  have z5 : g5.w.heap.size = g3.w.heap.size + 1 + 1 := by rw [← e5, ← z4]; exact Array.size_push ..
  have w5 : g5.w = g4.w.alloc (.cells ⟨[.pointer (some ⟨g3.w.heap.size, 0, none⟩)]⟩ 56) := by rw [← e5]; rfl
  have m6 := drawn_ex g5
  have s6 := (s34.trans s5).trans (drawn_stp g5 g.size nobody)
  have hW6 : (drawnG g5).w = W4 a n c ((F : Nat) : Int) g3.w := by
    show { g5.w with drawn := g5.w.drawn + 1 } = _
    rw [w5, w4]
    rfl
  have z6 : (drawnG g5).w.heap.size = g3.w.heap.size + 1 + 1 := z5
  have m36 : Ex g3 (drawnG g5) := (n4.ex.trans n5.ex).trans m6
  have hmach : MutB (drawnG g5) g3.w.heap.size 58 [.slice a n c, .int .i64 ((F : Nat) : Int), .int .i64 (((F : Nat) : Int) - ((F : Nat) : Int)), .slice none 0 0] := by
    rw [Int.sub_self]
    exact (n4.mut.ex n5.ex).ex m6
  have hptr : MutB (drawnG g5) (g3.w.heap.size + 1) 56 [.pointer (some ⟨g3.w.heap.size, 0, none⟩)] := by
    rw [← z4]
    exact n5.mut.ex m6
  generalize drawnG g5 = g6 at m6 s6 hW6 z6 m36 hmach hptr
  clear e4 e5 w4 w5 n4 n5 s4 s5 m6 z4 z5 s34
  rw [← hW6]
  have ho6 := ho3.ex m36
  have he6 := he3.ex m36
  have m06 := m3.trans m36
  have hr6 := hr.exm m06
  have ht6 := ht.exm m06
  have hmf6 : MF ⟨g3.w.heap.size, F, a, n, c⟩ g6 F [] none 0 0 := ⟨hmach, MutR.nil _ _ _ _, fun ⟨_, h, _⟩ => by cases h⟩
  have hgs : g.w.heap.size ≤ g6.w.heap.size := m06.size
  have box : ∀ gb : G, Stp g.size nobody g6 gb → g6.w.heap.size ≤ gb.w.heap.size → ∃ gc : G, gc.w = gb.w.alloc (valV main) ∧ Stp g.size nobody g6 gc ∧ Ex gb gc ∧ VF gc (some ⟨gb.w.heap.size, 0, none⟩) (fcT main []) := by
    intro gb sb hz
    have nb := push_newL gb 66 (frow (fcT main []) none 0 0)
    exact ⟨_, rfl, sb.trans (push_stp (show g.size ≤ gb.size from Nat.le_trans hgs hz) _ false nobody), nb.ex, new_valF nb (VFs.nil _)⟩
  let U : World → Value → World → Prop := fun W u w'' => ∃ gW g' : G, gW.w = W ∧ Stp g.size nobody g6 gW ∧ Ex g6 gW ∧ (W.heap.size = g6.w.heap.size + 1 → VF gW (some ⟨g6.w.heap.size, 0, none⟩) (fcT main [])) ∧ g'.w = w'' ∧ Stp g.size nobody gW g' ∧ Ex gW g' ∧ ∃ p, u = .pointer p ∧ VF g' p unitT
  have conv : ∀ b3 b4 bx u w', WS g6.w U main b3 b4 bx u w' → ∃ g8 : G, g8.w = w' ∧ Stp g.size nobody g6 g8 ∧ Ex g6 g8 ∧ (b3 = true → b4 = true → ∃ p q, bx = .pointer p ∧ u = .pointer q ∧ VF g8 p (fcT main []) ∧ VF g8 q unitT) := by
    intro b3 b4 bx u w' h
    cases b3 <;> cases b4
    · cases h; exact ⟨g6, rfl, Stp.refl _ _ _, Ex.refl _, fun h => by cases h⟩
    · obtain ⟨gW, g', e1, s1, m1, _, rfl, s2, m2, _⟩ := h
      exact ⟨g', rfl, s1.trans s2, m1.trans m2, fun h => by cases h⟩
    · obtain ⟨rfl, _⟩ := h
      obtain ⟨gc, e, s, m, _⟩ := box g6 (Stp.refl _ _ _) (Nat.le_refl _)
      exact ⟨gc, e, s, m, fun _ h => by cases h⟩
    · rcases h with ⟨w1, ⟨gW, g', e1, s1, m1, _, rfl, s2, m2, p, rfl, hp⟩, rfl, rfl⟩ | ⟨rfl, gW, g', e1, s1, m1, hv, rfl, s2, m2, p, rfl, hp⟩
      · obtain ⟨gc, e, s, m, hvf⟩ := box g' (s1.trans s2) (m1.trans m2).size
        exact ⟨gc, e, s, (m1.trans m2).trans m, fun _ _ => ⟨_, _, rfl, rfl, hvf, hp.mono m.le⟩⟩
      · exact ⟨g', rfl, s1.trans s2, m1.trans m2, fun _ _ => ⟨_, _, rfl, rfl, (hv (Array.size_push ..)).mono m2.le, hp⟩⟩
  refine ⟨U, fun b3 b4 bx u w' h => ?_, fun W' hW' => ?_, fun bx u w' h => ?_⟩
  · obtain ⟨g8, rfl, _, m8, _⟩ := conv _ _ _ _ _ h
    exact (hptr.ex m8).rd0 rfl
  · obtain ⟨gW, eW, sW, mW, hvW⟩ : ∃ gW : G, gW.w = W' ∧ Stp g.size nobody g6 gW ∧ Ex g6 gW ∧ (W'.heap.size = g6.w.heap.size + 1 → VF gW (some ⟨g6.w.heap.size, 0, none⟩) (fcT main [])) := by
      rcases hW' with rfl | rfl
      · exact ⟨g6, rfl, Stp.refl _ _ _, Ex.refl _, fun h => by omega⟩
      · obtain ⟨gc, e, s, m, hvf⟩ := box g6 (Stp.refl _ _ _) (Nat.le_refl _)
        exact ⟨gc, e, s, m, fun _ => hvf⟩
    subst eW
    refine Calls.mono (k26 gW) ?_
    rintro e w'' ⟨v, g', rfl, rfl, hs', p, rfl, hp⟩
    exact ⟨_, rfl, gW, g', rfl, sW, mW, hvW, rfl, hs'.mono (Nat.le_trans hgs mW.size) (fun _ _ h => h), hs'.ex, p, rfl, hp⟩
  obtain ⟨g8, rfl, s8, m8, hv8⟩ := conv _ _ _ _ _ h
  obtain ⟨p, q, rfl, rfl, hp, hq⟩ := hv8 rfl rfl
  clear hv8 conv h box hr6 ht6
  have m08 := m06.trans m8
  have s08 := s6.trans s8
  have ho8 := ho6.ex m8
  have he8 := he6.ex m8
  have hptr8 := hptr.ex m8
  have hz8 : g6.w.heap.size ≤ g8.w.heap.size := m8.size
  have no8 : ∀ b, b ≠ g3.w.heap.size → ¬ mset g3.w.heap.size none b := by
    rintro b hne (h | ⟨_, h, _⟩)
    · exact hne h
    · cases h
  have conv9 : ∀ {g9 : G}, Stp g8.size (mset g3.w.heap.size none) g8 g9 → Stp g.size nobody g g9 := fun h => s08.trans (h.mono (show g.w.heap.size ≤ g8.w.heap.size from Nat.le_trans hgs hz8) (fun b hb hh => by
    have hb' : b < g.w.heap.size := hb
    exact absurd hh (no8 b (by omega))))
  -- behind an ending
  have bad : ∀ {g4 : G} {op code : Int} {left : Nat} {out : List Lab} {oa on oc}, Stp g.size nobody g g4 → MutB g4 g.w.heap.size 30 zO9 → MutB g4 (g.w.heap.size + 1) 31 [.int .i64 0] → MutB g4 (g3.w.heap.size + 1) 56 [.pointer (some ⟨g3.w.heap.size, 0, none⟩)] → MF ⟨g3.w.heap.size, F, a, n, c⟩ g4 left out oa on oc → (∀ b, blkOf oa b → g8.w.heap.size ≤ b) → finF fs main F = ⟨op, code, left, zeroSy, out⟩ →
      PPx (fun e w' => ∃ v g', e = .returned v ∧ g'.w = w' ∧ Stp g.size nobody g g' ∧ ∃ o, v = .tuple ⟨[o, .int .i64 0]⟩ ∧ OutI g' (outF fs main F) o) g.w g3.w.heap.size (endF op code) g4.w := by
    intro g4 op code left out oa on oc hs4 ho4 he4 hp4 hm4 hoa hfin
    refine ⟨op, code, ((F : Nat) : Int) - ((left : Nat) : Int), oa, on, oc, rfl, ⟨hp4.blk, ⟨_, _, hm4.blk.blk⟩, ⟨_, ho4.blk, rfl⟩, _, he4.blk⟩, ?_⟩
    have n5 := push_newL g4 60 [.int .i64 op, .int .i64 code]
    have s5 := push_stp (g := g4) (B := g.size) hs4.le.size (.cells ⟨[.int .i64 op, .int .i64 code]⟩ 60) false nobody
    obtain ⟨g7, w7, s7, r7, l7⟩ := fin8 (ho4.ex n5.ex) (he4.ex n5.ex) (Nat.le_refl _) (hm4.row.ex n5.ex) (fun b hb => by have := hoa b hb; omega) (zO op code (((F : Nat) : Int) - ((left : Nat) : Int)) oa on oc)
    refine ⟨_, g7.frozP (blkOf oa), rfl, w7, frozP_stp ((hs4.trans s5).trans s7) (fun b hb => by have := hoa b hb; omega), _, rfl, ?_⟩
    have e : outF fs main F = ⟨op, code, ((F : Nat) : Int) - ((left : Nat) : Int), zeroSy, out⟩ := by unfold outF; rw [hfin]
    rw [e]
    exact ⟨none, 0, 0, none, 0, 0, oa, on, oc, rfl, ⟨SlE.zero _, SlE.zero _⟩, MutR.fro r7⟩
  have hC8 : Ctx ⟨g3.w.heap.size, F, a, n, c⟩ fs g8 := ⟨ht.exm m08, hr.exm m08⟩
  have hF : F ≤ 1048576 := by omega
  have call := k25 (M := ⟨g3.w.heap.size, F, a, n, c⟩) hP (k50 hP hF (F + 1)) hokm okF_unit (Nat.le_refl (F + 1)) (Nat.le_refl F) (by simp) hp hq hC8 (hmf6.ex m8)
  refine Calls.mono call ?_
  rintro e w'' ⟨g9, rfl, hs9, ⟨v, rfl, t, left, out, p9, hr9, rfl, hv9, oa, on, oc, hm9, hn9⟩ | ⟨ch, rfl, op, code, left, out, hr9, rfl, oa, on, oc, hm9, hn9⟩⟩
  · have b9 := hs9.but (Nat.le_refl _)
    have hoa : ∀ b, blkOf oa b → g8.w.heap.size ≤ b := fun b hb => (hn9 b hb).elim (fun ⟨_, h, _⟩ => by cases h) (fun h => h)
    have ho9 := ho8.but b9 (no8 _ (by omega))
    have he9 := he8.but b9 (no8 _ (by omega))
    have hp9 := hptr8.but b9 (no8 _ (by omega))
    have hz9 : g8.w.heap.size ≤ g9.w.heap.size := hs9.le.size
    have hok : OkF (capsF fs) t := by
      obtain ⟨f, hf1, hf2, hf3, hf4⟩ := hP.at_ (n := main) hcs
      have h := eval_okF hP (F + 1) (bodyF fs main) 0 1 [fcT main [], unitT] F [] (by rw [← hf2]; exact hf3) ⟨rfl, rfl, fun t ht => ?_⟩ (by simp)
      · rw [hr9] at h
        exact h.1
      · rcases List.mem_cons.1 ht with rfl | ht
        · exact hokm
        · have : t = unitT := by simpa using ht
          rw [this]; exact okF_unit
    refine .inl ⟨_, rfl, ?_⟩
    unfold FF
    have n10 := push_newD g9 70 [.int .i64 20000]
    have s10 := push_stp (g := g9) (B := g.size) (show g.w.heap.size ≤ g9.w.heap.size by omega) (.cells ⟨[.int .i64 20000]⟩ 70) true nobody
    have w10 : (g9.push (.cells ⟨[.int .i64 20000]⟩ 70) false true).w = g9.w.alloc (.cells ⟨[.int .i64 20000]⟩ 70) := rfl
    generalize g9.push (.cells ⟨[.int .i64 20000]⟩ 70) false true = g10 at n10 s10 w10
    have hz10 : g9.w.heap.size ≤ g10.w.heap.size := n10.ex.size
    have hk27 := k27 (cs := capsF fs) 400 (left := 20000) hok (hv9.mono n10.ex.le) n10.mut (Nat.le_refl _) (Nat.le_refl _)
    unfold CallsX at hk27
    rw [w10] at hk27
    refine Calls.mono hk27 ?_
    have ho10 := ho9.ex n10.ex
    have he10 := he9.ex n10.ex
    have hp10 := hp9.ex n10.ex
    have hm10 := hm9.ex n10.ex
    have s010 := (conv9 hs9).trans s10
    have hml : g3.w.heap.size < g9.w.heap.size := hm9.blk.lt
    rintro e w' ⟨g11, rfl, hs11, ⟨v, rfl, y, left2, na, nn, nc, a', n', c', hob, rfl, hI11, hb11⟩ | ⟨ch, rfl, hob, rfl⟩⟩
    · have b11 := hs11.but (Nat.le_refl _)
      have ho11 := ho10.but b11 (fun e => by have e' : g.w.heap.size = g9.w.heap.size := e; omega)
      have he11 := he10.but b11 (fun e => by have e' : g.w.heap.size + 1 = g9.w.heap.size := e; omega)
      have hp11 := hp10.but b11 (fun e => by have e' : g3.w.heap.size + 1 = g9.w.heap.size := e; have := hp9.lt; omega)
      have hm11 := hm10.but b11 (fun e => by have e' : g3.w.heap.size = g9.w.heap.size := e; omega) (fun b hb e => by have e' : b = g9.w.heap.size := e; have := hm9.row.lt hb; omega)
      have s011 := s010.trans (hs11.mono (B := g.size) (M := nobody) (show g.w.heap.size ≤ g10.w.heap.size by omega) (fun b hb e => by have hb' : b < g.w.heap.size := hb; have e' : b = g9.w.heap.size := e; omega))
      have hfin : finF fs main F = ⟨1, 0, left, y, out⟩ := by unfold finF resF; rw [hr9]; exact finR_some hob
      refine .inl ⟨_, _, _, na, nn, nc, a', n', c', rfl, ((F : Nat) : Int) - ((left : Nat) : Int), oa, on, oc, ⟨hp11.blk, ⟨_, _, hm11.blk.blk⟩, ⟨_, ho11.blk, rfl⟩, _, he11.blk⟩, ?_⟩
      have n12 := push_newD g11 28 [.int .i64 0, .int .i64 0, .string ⟨#[]⟩, .slice none 0 0, .slice none 0 0]
      have s12 := push_stp (g := g11) (B := g.size) s011.le.size (.cells ⟨[.int .i64 0, .int .i64 0, .string ⟨#[]⟩, .slice none 0 0, .slice none 0 0]⟩ 28) true nobody
      obtain ⟨g13, w13, s13, b13, l13⟩ := store_blk n12.mut (show g.size ≤ g11.w.heap.size from s011.le.size) (yO y.dat.op y.dat.n (bstr y.dat.s) na nn nc a' n' c') nobody
      have ho13 := (ho11.ex n12.ex).but b13 (fun e => by have e' : g.w.heap.size = g11.w.heap.size := e; have := ho11.lt; omega)
      have he13 := (he11.ex n12.ex).but b13 (fun e => by have e' : g.w.heap.size + 1 = g11.w.heap.size := e; have := he11.lt; omega)
      have hr13 := (hm11.row.ex n12.ex).but b13 (fun b hb e => by have e' : b = g11.w.heap.size := e; have := hm11.row.lt hb; omega)
      obtain ⟨g14, w14, s14, r14, l14⟩ := fin8 ho13 he13 (Nat.le_refl _) hr13 (fun b hb => by have := hoa b hb; omega) (wO (((F : Nat) : Int) - ((left : Nat) : Int)) y.dat.op y.dat.n (bstr y.dat.s) na nn nc a' n' c' oa on oc)
      have s014 := ((s011.trans s12).trans s13).trans s14
      have n15 := push_newL g14 60 [.int .i64 0, .int .i64 0]
      have s15 := push_stp (g := g14) (B := g.size) s014.le.size (.cells ⟨[.int .i64 0, .int .i64 0]⟩ 60) false nobody
      refine ⟨_, (g14.push (.cells ⟨[.int .i64 0, .int .i64 0]⟩ 60) false false).frozP (blkOf oa), rfl, ?_, frozP_stp (s014.trans s15) (fun b hb => by have := hoa b hb; omega), _, rfl, ?_⟩
      · show g14.w.alloc _ = _
        rw [w14, w13]
        rfl
      · have e : outF fs main F = ⟨1, 0, ((F : Nat) : Int) - ((left : Nat) : Int), y, out⟩ := by unfold outF; rw [hfin]
        rw [e]
        exact ⟨na, nn, nc, a', n', c', oa, on, oc, rfl, hI11.mono (((n12.ex.le.trans l13).trans l14).trans (n15.ex.le.trans (frozP_le _ _))), MutR.fro (r14.ex n15.ex)⟩
    · have b11 := hs11.but (Nat.le_refl _)
      have ho11 := ho10.but b11 (fun e => by have e' : g.w.heap.size = g9.w.heap.size := e; omega)
      have he11 := he10.but b11 (fun e => by have e' : g.w.heap.size + 1 = g9.w.heap.size := e; omega)
      have hp11 := hp10.but b11 (fun e => by have e' : g3.w.heap.size + 1 = g9.w.heap.size := e; have := hp9.lt; omega)
      have hm11 := hm10.but b11 (fun e => by have e' : g3.w.heap.size = g9.w.heap.size := e; omega) (fun b hb e => by have e' : b = g9.w.heap.size := e; have := hm9.row.lt hb; omega)
      have s011 := s010.trans (hs11.mono (B := g.size) (M := nobody) (show g.w.heap.size ≤ g10.w.heap.size by omega) (fun b hb e => by have hb' : b < g.w.heap.size := hb; have e' : b = g9.w.heap.size := e; omega))
      have hfin : finF fs main F = ⟨2, 2, left, zeroSy, out⟩ := by unfold finF resF; rw [hr9]; exact finR_none hob
      exact .inr ⟨_, rfl, bad s011 ho11 he11 hp11 hm11 hoa hfin⟩
  · have b9 := hs9.but (Nat.le_refl _)
    have hoa : ∀ b, blkOf oa b → g8.w.heap.size ≤ b := fun b hb => (hn9 b hb).elim (fun ⟨_, h, _⟩ => by cases h) (fun h => h)
    have hfin : finF fs main F = ⟨op, code, left, zeroSy, out⟩ := by unfold finF resF; rw [hr9]; rfl
    exact .inr ⟨_, rfl, bad (conv9 hs9) (ho8.but b9 (no8 _ (by omega))) (he8.but b9 (no8 _ (by omega))) (hptr8.but b9 (no8 _ (by omega))) hm9 hoa hfin⟩
end Go.Proofs.YthlcdgpemjdgnaaGreatDoor
