/- Values are compared; values are read from the heap. -/
import Derived.Test.YtcpclpkcanikiaaC49aa
set_option linter.unusedVariables false
namespace Go.Proofs.Ytcpclpkcanikiaa
open Go Go.Vc Go.RowKit

theorem rdS {L : List (List UInt8)} {a : Option Addr} {n c : Nat} {g : G} (h : SlE strE g a n c L) {i : Int} (p : Nat) (hi : i = (p : Int)) {x : List UInt8} (hx : L[p]? = some x) {K : Addr → Prop} (hk : ∀ ad, g.w.cell? (Addr.add ad (Int.toNat i * 1)) = some (.string ⟨x.toArray⟩) → K ad) : derefP a K := by
  subst hi
  refine h.rd (i := p) hx ?_
  rintro r ad rfl hr
  have h0 := (hr 0 _ rfl).1
  rw [Addr.add_zero'] at h0
  exact hk ad h0
theorem str_ne {x y : List UInt8} : (⟨x.toArray⟩ : ByteArray) = ⟨y.toArray⟩ ↔ x = y := by
  constructor
  · intro h
    injection h with h
    simpa using h
  · rintro rfl; rfl
/-- slices.Equal of texts. -/
theorem k87 (xs ys : List (List UInt8)) {a b : Option Addr} {n c m d : Nat} {g : G} (hx : SlE strE g a n c xs) (hy : SlE strE g b m d ys) :
    CallsP Try.prog 87 #[.slice a n c, .slice b m d] g fun v _ => v = .bool (tf (xs = ys)) := by
  refine call87 a n c b m d g _ ?_
  have hlx := hx.len
  have hly := hy.len
  have hcap := hx.cap
  have hle := hx.le
  unfold maxLen at hcap
  unfold F87
  refine ifNe (fun hne g1 m1 => vF ?_) (fun he => ?_)
  · rintro rfl; omega
  refine ⟨fun k i g' => ∃ j : Nat, i = j ∧ j + k = n ∧ xs.take j = ys.take j, ⟨n, 0, rfl, by omega, by simp⟩, ?_⟩
  rintro k i g2 le ⟨j, rfl, hjk, hj⟩
  refine ifLt (fun hlt g3 m3 => ⟨⟨by omega, by omega⟩, ?_⟩) (fun hge g7 m7 => vT ?_)
  · have hjx : j < xs.length := by omega
    have hjy : j < ys.length := by omega
    have gx := List.getElem?_eq_getElem hjx
    have gy := List.getElem?_eq_getElem hjy
    refine rdS ((hx.mono le).exm m3) j rfl gx (fun ad h0 => ⟨_, h0, ⟨by omega, by omega⟩, rdS ((hy.mono le).exm m3) j rfl gy (fun ad2 h2 => ⟨_, h2, ?_⟩)⟩)
    refine ifSn (fun hne g4 m4 => vF ?_) (fun hk => ⟨i64 (by omega) (by omega), k - 1, by omega, j + 1, by omega, by omega, ?_⟩)
    · rintro rfl; exact hne rfl
    · have hk' : xs[j] = ys[j] := str_ne.1 hk
      rw [List.take_add_one, List.take_add_one, gx, gy, hj, hk']
  · have h1 : xs.take j = xs := List.take_of_length_le (by omega)
    have h2 : ys.take j = ys := List.take_of_length_le (by omega)
    rwa [h1, h2] at hj
/-- slices.EqualFunc of values. -/
theorem k88 (f : FuncId) (fc : Array Value) {d e : Nat} (xs ys : List Val) {a b : Option Addr} {n c m c2 : Nat} {g : G} (hx : SlE (valE d) g a n c xs) (hy : SlE (valE e) g b m c2 ys) (he : Go.Vc.Enters Try.prog f)
    (hf : ∀ g' d' e' v w na nn nc la ln lc ma mn mc oa on oc, d = d' + 1 → e = e' + 1 → Le g g' → VRep g' d' v na nn nc la ln lc → VRep g' e' w ma mn mc oa on oc → CallsP Try.prog f (#[.agg ⟨valC v na nn nc la ln lc⟩, .agg ⟨valC w ma mn mc oa on oc⟩] ++ fc) g' fun u _ => u = .bool (tf (v = w))) :
    CallsP Try.prog 88 #[.slice a n c, .slice b m c2, .func (.func f) #[] fc] g fun v _ => v = .bool (tf (xs = ys)) := by
  refine call88 a n c b m c2 f fc g _ ?_
  have hlx := hx.len
  have hly := hy.len
  have hcap := hx.cap
  have hle := hx.le
  unfold maxLen at hcap
  unfold F88
  refine ifNe (fun hne g1 m1 => vF ?_) (fun hee => ?_)
  · rintro rfl; omega
  refine ⟨fun k i g' => ∃ j : Nat, i = j ∧ j + k = n ∧ xs.take j = ys.take j, ⟨n, 0, rfl, by omega, by simp⟩, ?_⟩
  rintro k i g2 le ⟨j, rfl, hjk, hj⟩
  refine ifLt (fun hlt => ⟨⟨by omega, by omega⟩, ?_⟩) (fun hge g7 m7 => vT ?_)
  · have hjx : j < xs.length := by omega
    have hjy : j < ys.length := by omega
    have gx := List.getElem?_eq_getElem hjx
    have gy := List.getElem?_eq_getElem hjy
    refine rdV (hx.mono le) j rfl gx ?_
    rintro ad d' na nn nc la ln lc hd hv _ c0 c1 c2 c3 c4
    refine ⟨_, _, _, _, _, _, _, _, _, c0, c1, c2, c3, c4, ⟨by omega, by omega⟩, rdV (hy.mono le) j rfl gy ?_⟩
    rintro ad2 e' ma mn mc oa on oc hd2 hv2 nx e0 e1 e2 e3 e4
    intro g3 m3
    have hc : ∀ {p : Addr} {v : Value}, g2.w.cell? p = some v → ¬ g2.X (Addr.block p) → g3.w.cell? p = some v := fun h hp => by rw [cell_same (m3.same _ (cell_lt h) hp)]; exact h
    refine ⟨_, _, _, _, _, _, _, _, _, hc e0 nx, hc e1 nx, hc e2 nx, hc e3 nx, hc e4 nx, fun g4 m4 => ⟨he, ?_⟩⟩
    · refine (hf g4 d' e' xs[j] ys[j] na nn nc la ln lc ma mn mc oa on oc hd hd2 (le.trans (m3.trans m4).le) (hv.ex (m3.trans m4)) (hv2.ex (m3.trans m4))).mono ?_
      rintro u g5 m5 rfl
      refine ⟨_, rfl, ifPn (fun hn g6 m6 => vF ?_) (fun hk => ⟨i64 (by omega) (by omega), k - 1, by omega, j + 1, by omega, by omega, ?_⟩)⟩
      · rintro rfl; exact hn rfl
      · have hk' : xs[j] = ys[j] := hk
        rw [List.take_add_one, List.take_add_one, gx, gy, hj, hk']
  · have h1 : xs.take j = xs := List.take_of_length_le (by omega)
    have h2 : ys.take j = ys := List.take_of_length_le (by omega)
    rwa [h1, h2] at hj
/-- same, of values. -/
theorem same_step (d : Nat) (ih : ∀ d' e' (v w : Val) {na : Option Addr} {nn nc : Nat} {la : Option Addr} {ln lc : Nat} {ma : Option Addr} {mn mc : Nat} {oa : Option Addr} {on oc : Nat} {g : G}, d = d' + 1 → VRep g d' v na nn nc la ln lc → VRep g e' w ma mn mc oa on oc →
      CallsP Try.prog 52 #[.agg ⟨valC v na nn nc la ln lc⟩, .agg ⟨valC w ma mn mc oa on oc⟩] g fun u _ => u = .bool (tf (v = w)))
    (e : Nat) (v w : Val) {na : Option Addr} {nn nc : Nat} {la : Option Addr} {ln lc : Nat} {ma : Option Addr} {mn mc : Nat} {oa : Option Addr} {on oc : Nat} {g : G} (hv : VRep g d v na nn nc la ln lc) (hw : VRep g e w ma mn mc oa on oc) :
    CallsP Try.prog 52 #[.agg ⟨valC v na nn nc la ln lc⟩, .agg ⟨valC w ma mn mc oa on oc⟩] g fun u _ => u = .bool (tf (v = w)) := by
  refine call52 v.op v.n ⟨v.s.toArray⟩ na nn nc la ln lc w.op w.n ⟨w.s.toArray⟩ ma mn mc oa on oc g _ ?_
  have hvw : v = w ↔ v.op = w.op ∧ v.n = w.n ∧ v.s = w.s ∧ v.names = w.names ∧ v.l = w.l := by
    cases v; cases w
    simp [Val.op, Val.n, Val.s, Val.names, Val.l]
  unfold F52
  refine ifEq (fun h1 => ifEq (fun h2 => ifS (fun h3 g1 m1 => (k87 _ _ (hv.names.exm m1) (hw.names.exm m1)).mono ?_) (fun hh g6 _ => vF (fun h => hh (by rw [str_ne]; exact (hvw.1 h).2.2.1)))) (fun hh g7 _ => vF (fun h => hh (hvw.1 h).2.1))) (fun hh g8 _ => vF (fun h => hh (hvw.1 h).1))
  rintro u g2 m2 rfl
  refine ⟨_, rfl, ifP (fun h4 => (k88 52 #[] v.l w.l (hv.l.exm (m1.trans m2)) (hw.l.exm (m1.trans m2)) ⟨_, Try.func52, by kernel_rfl, by kernel_rfl⟩ ?_).mono ?_) (fun hh g5 _ => vF (fun h => hh (hvw.1 h).2.2.2.1))⟩
  · rintro g' d' e' x y na nn nc la ln lc ma mn mc oa on oc hd he le hx hy
    exact ih d' e' x y hd hx hy
  · rintro u g3 m3 rfl
    refine ⟨_, rfl, fun g4 _ => vP ?_⟩
    rw [hvw]
    exact ⟨fun h => ⟨h1, h2, str_ne.1 h3, h4, h⟩, fun h => h.2.2.2.2⟩
theorem k52 : ∀ (d e : Nat) (v w : Val) {na : Option Addr} {nn nc : Nat} {la : Option Addr} {ln lc : Nat} {ma : Option Addr} {mn mc : Nat} {oa : Option Addr} {on oc : Nat} {g : G}, VRep g d v na nn nc la ln lc → VRep g e w ma mn mc oa on oc →
      CallsP Try.prog 52 #[.agg ⟨valC v na nn nc la ln lc⟩, .agg ⟨valC w ma mn mc oa on oc⟩] g fun u _ => u = .bool (tf (v = w)) := by
  intro d
  induction d with
  | zero => exact fun e v w => same_step 0 (fun d' e' v w _ _ _ _ _ _ _ _ _ _ _ _ _ hd => by cases hd) e v w
  | succ d ih =>
    refine fun e v w => same_step (d + 1) (fun d' e' v w _ _ _ _ _ _ _ _ _ _ _ _ _ hd hv hw => ?_) e v w
    cases hd
    exact ih e' v w hv hw
end Go.Proofs.Ytcpclpkcanikiaa
