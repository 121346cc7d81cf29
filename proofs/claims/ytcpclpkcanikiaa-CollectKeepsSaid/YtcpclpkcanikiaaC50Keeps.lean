/- CollectKeeps: the law answers true at every argument; its statement. -/
import Derived.Test.YtcpclpkcanikiaaRows
import Derived.OpenShut
import Derived.Deep.DeepHandedRow
import Derived.Lib.LaidTab
import Derived.ChangeMaps5
import Derived.Test.YtcpclpkcanikiaaC50aa
import Derived.Test.YtcpclpkcanikiaaC50z
set_option linter.unusedVariables false
namespace Go.Proofs.Ytcpclpkcanikiaa.CKeeps
open Go Go.Vc Go.RowKit Go.ChangeShapes Go.WideShapes Go.ChangeAt

set_option maxRecDepth 100000 in
theorem contract (H : Type) (enc : TypeId × Value → H) (W : World) (base : Nat) (args : Array Value) (ds gs : List (DataW H)) (before : List MemPlace)
    (hval : ∀ (j : Nat) t v, Try.f14.params[j]? = some t → args[j]? = some v → Value.okWide Try.prog W .any base t v)
    (hW : DataW.Whole enc Try.prog Try.f14.params.toList Rows.collectKeepsSpec.vars false W args.toList ds gs before) (hL : laidMetH Try.prog Rows.collectKeepsRow.laid W) :
    Calls Try.prog 14 args W fun e W' => ∃ v, e = .returned v ∧ Rows.collectKeepsSpec.post enc Try.prog Try.f14 false true false false W args v W' := by
  have hW' := hW
  obtain ⟨p, q, hA0, hV, rfl, hfz, hnd⟩ := hW
  have hA : DataW.TrodAll enc Try.prog W 0 (fun _ => true) true Try.f14.params.toList args.toList ds p := hA0
  rw [Try.params14] at hA hval
  obtain ⟨v0, vs0, d0, ds0, p0, q0, hargs, rfl, rfl, h0, r0⟩ := trodAll_cons hA
  obtain ⟨v1, vs1, d1, ds1, p1, q1, rfl, rfl, rfl, h1, r1⟩ := trodAll_cons r0
  obtain ⟨rfl, rfl, rfl⟩ := trodAll_nil r1
  obtain rfl : args = #[v0, v1] := by cases args; simp_all
  have hval := hval
  obtain ⟨a0, l0, c0, L0, f0, m0, hv0, hX0⟩ := open_hp (hval 0 24 v0 rfl rfl) h0
  subst hv0
  obtain ⟨a1, l1, c1, L1, hv1, hX1, hW1⟩ := open_wdsI (hval 1 22 v1 rfl rfl) h1
  subst hv1
  refine (CallsP.true0 (W := W) (law14 k57 L0 L1 hW1 hX0 hX1 f0 m0)).mono fun e W' ⟨he, hb⟩ => ?_
  subst he
  exact ⟨_, rfl, post_of_true hW' (show laidOutB Try.prog = true by kernel_rfl) (by kernel_rfl) rfl rfl (by kernel_rfl) Try.underlying4 hb⟩

noncomputable def laidWorld (os : Os) : World :=
  World.holding Try.prog os ⟨#[], #[], []⟩
theorem laid_met (os : Os) : laidMet Try.prog Rows.collectKeepsRow.laid ((laidWorld os).forCall (fun _ _ => 0) ⟨#[], #[Value.agg #[.slice none 0 0, .int .i64 0, .int .i64 0], .slice none 0 0], []⟩).memory :=
  laidMet_of_run' 8 (by kernel_rfl) (by kernel_rfl)
theorem reads (os : Os) {H : Type} (enc : TypeId × Value → H) : ∃ places, DataW.whole enc Try.prog ((laidWorld os).forCall (fun _ _ => 0) ⟨#[], #[Value.agg #[.slice none 0 0, .int .i64 0, .int .i64 0], .slice none 0 0], []⟩).memory Try.f14.params.toList Rows.collectKeepsSpec.vars false (#[Value.agg #[.slice none 0 0, .int .i64 0, .int .i64 0], .slice none 0 0] : Array Value).toList 8 = some ([.agg [.nil, .lit (.int .i64 0), .lit (.int .i64 0)], .nil], [], places) :=
  ⟨[], by kernel_rfl⟩

set_option maxRecDepth 100000 in
theorem lifted (os : Os) (started : os.Started) (H : Type) (enc : TypeId × Value → H) (F : Stop.Interp) :
    ReturnsInHanded {} Try.checked os 14 .any ((OpenSpec.ofChange Rows.collectKeepsSpec).preRow enc Try.prog Try.f14 Rows.collectKeepsRow.domain false Rows.collectKeepsRow.laid) (((OpenSpec.ofChange Rows.collectKeepsSpec).at F).post enc Try.prog Try.f14 false true false false) := by
  obtain ⟨places, hx⟩ := reads os enc
  refine returnsInHanded_of_row (C := Try.checked) (s := (OpenSpec.ofChange Rows.collectKeepsSpec)) (show ownKnob Try.prog.godebug = none by kernel_rfl) started (by kernel_rfl) Try.func14
    (witness_row_at (enc := enc) (C := Try.checked) false (laidWorld os) #[Value.agg #[.slice none 0 0, .int .i64 0, .int .i64 0], .slice none 0 0] rfl (by kernel_rfl) (by kernel_rfl) (by kernel_rfl)
      (OpenSpec.preRow_of_cond 8 hx (by kernel_rfl) (fun k hk => by cases hk) (by kernel_rfl) (laid_met os))) ?_
  intro W base args ds gs before hval hW _ _ hcond hL _ _
  exact contract H enc W base args ds gs before hval hW hL

theorem said : Rows.CollectKeepsSaid :=
  OpenClaim.holds_of_cond 14 Try.f14 rfl rfl rfl rfl rfl rfl rfl ⟨rfl, rfl, rfl, rfl, rfl⟩ rfl rfl rfl rfl rfl (by kernel_rfl) Try.func14 (by kernel_rfl)
    (of_decide_eq_true (by kernel_rfl)) (by unfold Func.isWrapper; first | (rw [if_pos (by decide +kernel)]; kernel_rfl) | (rw [if_neg (by decide +kernel)]; exact ⟨rfl, rfl⟩))
    (fun os started H enc _ F => by rw [OpenClaim.pre_eq_preRow]; exact lifted os started H enc F)
end Go.Proofs.Ytcpclpkcanikiaa.CKeeps
