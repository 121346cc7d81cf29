/- Strings out of bytes. -/
import Derived.Test.YtcpclpkcanikiaaVw4
set_option linter.unusedVariables false
namespace Go.Vc
open Go Go.RowKit
variable {P : Program}

/-- string(b) of bytes. -/
theorem string_of {w : World} {src dst e : TypeId} {a : Option Addr} {n c : Nat} {l : List UInt8} (hs : P.underlying src = some (.slice e)) (he : P.underlying e = some (.int .u8)) (hd : P.underlying dst = some .string) (h : SlV w a n (vs .u8 (nums l))) :
    (convert src dst (.slice a n c)).run P w = .ok (.string ⟨l.toArray⟩) w := by
  have hn : n = l.length := by have := h.1; simpa using this.symm
  subst hn
  cases a with
  | none =>
    have : l = [] := by
      rcases h.2 with h0 | ⟨ad, he, _⟩
      · exact List.eq_nil_of_length_eq_zero h0
      · cases he
    subst this
    rw [List.length_nil, run_convert_bytes_string w src dst e none 0 c hs he hd]
    rfl
  | some ad =>
    refine run_convert_bytes_back w src dst e ad c l hs he hd (fun j hj => ?_)
    rcases h.2 with h0 | ⟨ad', hae, hc⟩
    · omega
    · cases hae
      have := hc j _ (vs_get (by simpa using hj))
      rw [this]
      simp [nums, List.getD_eq_getElem?_getD, hj]

/-- Numbers that fit a byte are the numbers of bytes. -/
theorem nums_of_wf : ∀ (X : List Int), (∀ x ∈ X, (Lit.int .u8 x).wf = true) → ∃ l : List UInt8, X = nums l
  | [], _ => ⟨[], rfl⟩
  | x :: r, h => by
    obtain ⟨l, rfl⟩ := nums_of_wf r (fun y hy => h y (by simp [hy]))
    have hx := h x (by simp)
    simp only [Lit.wf, Bool.and_eq_true, IntKind.min, IntKind.max, IntKind.signed, IntKind.bits] at hx
    simp at hx
    refine ⟨UInt8.ofNat x.toNat :: l, ?_⟩
    simp only [nums, List.map_cons, List.cons.injEq, and_true]
    rw [UInt8.toNat_ofNat_of_lt' (by show x.toNat < 256; omega)]
    omega

end Go.Vc
