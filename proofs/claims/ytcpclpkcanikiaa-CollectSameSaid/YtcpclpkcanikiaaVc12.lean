/- Two helps for printed conditions. -/
import Derived.Test.YtcpclpkcanikiaaVc11
set_option linter.unusedVariables false
namespace Go.Vc
open Go Go.RowKit

def bs (l : List UInt8) : ByteArray := ⟨l.toArray⟩
@[simp] theorem derefP_of_some {a : Addr} {K : Addr → Prop} : derefP (some a) K = K a := rfl

theorem fn_calls {P : Program} {tt : List TI} {fns : List Nat} (T : TOk P tt) (F : FOk P fns) (hm : P.follows .mixedOrders = true) {k : FuncId} {fn : Func} {c : Code} {n : Nat} {rs : List ResultVar} {an : Ann} {args : List Value} {w : World} {R : Value → World → Prop}
    (hf : P.funcs[k]? = some fn) (hb : fn.body = some c) (hn : fn.ntmps = n) (hrs : fn.results.toList = rs) (hlen : Nat.ble args.length n = true) (h : fnVC true P tt fns n rs c an args w none R) :
    Calls P k ⟨args⟩ w fun e w' => ∃ v, e = .returned v ∧ R v w' := by
  refine (fn_sound T F hm hf hb hn hrs hlen h).mono fun e w' he => ?_
  cases e with
  | returned v => exact ⟨v, rfl, he⟩
  | panicked c => obtain ⟨p, hp, _⟩ := he; cases hp
  | outgrown => exact he.elim
end Go.Vc
