/- The heap: HeapBack answers true. -/
import Derived.Test.YtcpclpkcanikiaaC49ac
import Derived.Test.YtcpclpkcanikiaaC49y
set_option linter.unusedVariables false
namespace Go.Proofs.Ytcpclpkcanikiaa
open Go Go.Vc Go.RowKit

theorem law10 {d : Nat} (l : List Wd) (v : Val) {a : Option Addr} {ll c : Nat} {na : Option Addr} {nn nc : Nat} {la : Option Addr} {ln lc : Nat} {g : G} (h : SlE wordE g a ll c l) (hv : VRep g d v na nn nc la ln lc) (fr lim : Int) :
    CallsP Try.prog 10 #[hpV a ll c fr lim, .agg ⟨valC v na nn nc la ln lc⟩] g fun u _ => u = .bool true := by
  refine call10 a ll c fr lim v.op v.n ⟨v.s.toArray⟩ na nn nc la ln lc g _ ?_
  have hlen := h.len
  unfold F10
  intro J hJ
  refine awake_few (K := fun g23 => CallsP Try.prog 50 #[.agg ⟨valC v na nn nc la ln lc⟩, .int .i64 200, .int .i64 1] g23 fun v g26 => ∃ x_8, v = .int .i64 x_8 ∧ ifB (leI 200 x_8) ((CallsP Try.prog 15 #[] g26 fun v g27 => ∃ x_9, v = .bool x_9 ∧ ∀ g28, Ex g27 g28 → (Value.bool x_9) = .bool true)) (J g26)) (fun h6 g1 m1 => ?_)
  refine (k50 d v 200 1 (hv.ex m1) (by omega) (by omega) (by omega)).mono ?_
  rintro u g2 m2 ⟨r, rfl, hr1, hr2, hr3⟩
  refine ⟨_, rfl, ifLe (fun hh => (k15 g2).mono ?_) (fun hh => hJ g2 ?_)⟩
  · rintro u g3 m3 rfl
    exact ⟨_, rfl, fun g4 _ => rfl⟩
  obtain ⟨hsz, hdp⟩ := hr3 (by omega)
  have m02 := m1.trans m2
  refine (k26 v l (h.exm m02) (hv.ex m02) fr lim (by omega)).mono ?_
  rintro u g3 m3 ⟨r, e, ho, hcs⟩
  obtain ⟨a1, n1, c1, f1, m1', w1, er, l1, rfl, hs1, hc1⟩ := ho.vals
  refine ⟨_, _, _, _, _, _, _, _, rfl, ?_⟩
  rcases hc1 with ⟨hrn, rfl, rfl, rfl, rfl, rfl⟩ | ⟨hrs, rfl, rfl, rfl, hmore⟩
  · have he : er ≠ 0 := by
      rcases hcs with ⟨_, _, rfl⟩ | ⟨_, _, _, rfl⟩ <;> decide
    refine ifNe (fun _ g4 m4 => (k19 [] (hs1.exm m4) 0 0).mono ?_) (fun hh => absurd hh he)
    rintro u g5 m5 rfl
    refine ⟨_, rfl, fun g6 _ => ?_⟩
    rw [tf_of ⟨rfl, rfl, rfl⟩]
  refine ifNe (fun hh => absurd rfl hh) (fun _ => ?_)
  rcases hcs with ⟨_, rfl, _⟩ | ⟨hval, hd, hput, _⟩
  · cases hrs
  rw [hrs] at hput
  obtain ⟨v1, v2, v3, v4, L, hg⟩ := valid_iff.1 hval
  obtain ⟨ex, L', rfl, hg1, hrd, _⟩ := (put_ok m1' (szV v)).1 v l L l1 w1 (Nat.le_refl _) hd hg hput.symm
  have hval1 : validP (l ++ ex) (((l ++ ex).length : Nat) : Int) m1' := valid_iff.2 ⟨v1, v2, rfl, hmore, _, hg1⟩
  have hpos := dpV_eq v
  intro g6 m6
  refine (k51 (dpV v - 1) (l ++ ex) (L ++ L') v w1 1 _ m1' (hs1.exm m6) hval1 hg1 hrd (by omega) (by omega)).mono ?_
  rintro u g7 m7 ⟨ma, mn, mc, oa, on, oc, rfl, hv7⟩
  refine ⟨_, _, _, _, _, _, _, _, _, _, rfl, fun g8 m8 => ifT (fun _ => ?_) (fun hh => by cases hh)⟩
  have m38 := (m6.trans m7).trans m8
  refine (k52 _ _ v v (hv7.ex m8) (hv.ex ((m02.trans m3).trans m38))).mono ?_
  rintro u g9 m9 rfl
  refine ⟨_, rfl, ifP (fun _ => (k21 k94 _ (hs1.exm (m38.trans m9)) _ _).mono ?_) (fun hh => absurd rfl hh)⟩
  rintro u g10 m10 rfl
  have hn1 := hs1.len
  rw [List.length_append] at hn1
  refine ⟨_, rfl, ifP (fun _ => ifEq (fun _ => ifLe (fun _ => ifLe (fun _ => ⟨⟨by omega, ?_⟩, ?_⟩) (fun hh => by omega)) (fun hh => by rw [List.length_append] at hh; omega)) (fun hh => absurd rfl hh)) (fun hh => absurd hval1 hh)⟩
  · have := hs1.le
    omega
  · rw [Int.toNat_natCast]
    have m310 := (m38.trans m9).trans m10
    refine (k39 _ _ ((hs1.exm m310).take (hi := ll) (by omega)) (h.exm ((m02.trans m3).trans m310))).mono ?_
    rintro u g11 m11 rfl
    refine ⟨_, rfl, fun g12 _ => ?_⟩
    rw [tf_of]
    rw [← hlen, List.take_left']
    rfl
end Go.Proofs.Ytcpclpkcanikiaa
