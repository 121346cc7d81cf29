/- A value is read from the heap. -/
import Derived.Test.YtcpclpkcanikiaaC49ab
set_option linter.unusedVariables false
namespace Go.Proofs.Ytcpclpkcanikiaa
open Go Go.Vc Go.RowKit

theorem E36 : Elem Try.prog 36 38 5 80 := ⟨Try.underlying36, by kernel_rfl⟩
theorem RdL_get {l : List Wd} {L : List Int} : ∀ {ws : List Wd} {vs : List Val} {j : Nat} {v : Val}, RdL l L ws vs → vs[j]? = some v → ∃ w, ws[j]? = some w ∧ RdV l L w v
  | ws, [], j, v, h, hv => by cases hv
  | ws, x :: vs, j, v, h, hv => by
    rw [RdL] at h
    obtain ⟨y, r, rfl, h1, h2⟩ := h
    cases j with
    | zero => cases hv; exact ⟨y, rfl, h1⟩
    | succ j => exact RdL_get (j := j) h2 hv
theorem dpL_pos : ∀ {l : List Val}, dpL l ≤ 0 → l = []
  | [], _ => rfl
  | x :: r, h => by simp only [dpL, dpV_eq] at h; omega
/-- A value with a depth of at most d+1. -/
theorem VRep.kid {g : G} {d d' : Nat} {v : Val} {na : Option Addr} {nn nc : Nat} {la : Option Addr} {ln lc : Nat} (h : VRep g d' v na nn nc la ln lc) (hd : d = d' + 1) : (valE d).rep g (valC v na nn nc la ln lc) v := by
  subst hd
  exact ⟨_, _, _, _, _, _, rfl, h.names, h.l⟩
def ReadSay (d : Nat) (v : Val) (u : Value) (g : G) : Prop := ∃ na nn nc la ln lc, u = .tuple ⟨[.agg ⟨valC v na nn nc la ln lc⟩, .bool true]⟩ ∧ VRep g d v na nn nc la ln lc
theorem read_step (d : Nat) (ih : ∀ d' (l : List Wd) (L : List Int) (v : Val) (w : Wd) (depth : Nat) {a : Option Addr} {ll c : Nat} {g : G} (fr lim : Int), d = d' + 1 → SlE wordE g a ll c l → validP l fr lim → GoodW l L → RdV l L w v → dpV v ≤ d' + 1 → depth + dpV v ≤ 251 → CallsP Try.prog 51 #[hpV a ll c fr lim, wdV w, .int .i64 ((depth : Nat) : Int)] g fun u g' => ReadSay d' v u g')
    (l : List Wd) (L : List Int) (v : Val) (w : Wd) (depth : Nat) {a : Option Addr} {ll c : Nat} {g : G} (fr lim : Int) (h : SlE wordE g a ll c l) (hval : validP l fr lim) (hg : GoodW l L) (hr : RdV l L w v) (h1 : dpV v ≤ d + 1) (h2 : depth + dpV v ≤ 251) :
    CallsP Try.prog 51 #[hpV a ll c fr lim, wdV w, .int .i64 ((depth : Nat) : Int)] g fun u g' => ReadSay d v u g' := by
  refine call51 a ll c fr lim w.1 w.2 _ g _ ?_
  have hdp := dpV_eq v
  have hsz : ∀ {g' : G}, g.w.heap.size ≤ g'.w.heap.size → True := fun _ => trivial
  rw [RdV_eq] at hr
  obtain ⟨hnames, hr⟩ := hr
  have hL0 : sts l = some L := sts_iff.2 hg.1
  have fin : ∀ {g' : G} {la : Option Addr} {ln lc : Nat}, SlE (valE d) g' la ln lc v.l → VRep g' d v none 0 0 la ln lc := fun hh => ⟨by rw [hnames]; exact SlE.zero _, hh⟩
  unfold F51
  rcases hr with ⟨e1, rfl, e3, e4⟩ | ⟨q, rfl, hqL, hhd, hr⟩
  · refine ifT (fun _ g1 m1 g2 m2 => ?_) (fun hh => by cases hh)
    refine ⟨none, 0, 0, none, 0, 0, ?_, fin (by rw [e4]; exact SlE.zero _)⟩
    unfold valC
    rw [e1, e3]
    rfl
  refine ifT (fun hh => by cases hh) (fun _ g3 m3 => (k32 l (true, ((q : Nat) : Int)) (h.exm m3) fr lim).mono ?_)
  intro u g4 m4 hb
  have m04 := m3.trans m4
  rcases hb with ⟨hh, _⟩ | ⟨_, L2, hL2, ⟨hh, _⟩ | ⟨q', hq', _, _, xa, xc, rfl, hx⟩⟩
  · exact absurd hval hh
  · rw [hL0] at hL2; cases hL2; exact absurd ⟨rfl, hqL⟩ hh
  have hqq : q = q' := by
    have := congrArg Prod.snd hq'
    simp only at this
    omega
  subst hqq
  have hcl := contW_len hhd
  have hbig : (l.getD (q + 2) zW).2.toNat ≤ 65536 := by
    obtain ⟨_, v2, v3, v4, _⟩ := hval
    have := (hdr_lt hhd).2.2
    unfold stepN at this
    omega
  generalize hxl : (l.getD (q + 2) zW).2.toNat = xl at hx hcl hbig ⊢
  have hcap := hx.cap
  have hxle := hx.le
  unfold maxLen at hcap
  refine ⟨_, _, _, _, _, _, rfl, ?_⟩
  intro J hJ
  refine ifNe (fun hh => absurd rfl hh) (fun _ => ifLt (fun hh => by omega) (fun _ => hJ _ _ _ _ _ _ _ _ _ g4 ?_))
  intro J1 hJ1
  have loop : v.s = [] → RdL l L (contW l q) v.l → ∀ g6, Ex g4 g6 → J1 0 0 (bs []) none 0 0 none 0 0 v.op v.n (bs []) none 0 0 none 0 0 g6 := by
    intro hs hrl g6 m6
    have hvl := RdL_len hrl
    refine hJ1 _ _ _ _ _ _ _ _ _ _ _ _ _ _ _ _ _ _ g6 ?_
    refine ⟨fun m i _ _ _ _ _ _ _ _ _ y0 y1 y2 y3a y3l y3c y4a y4l y4c g' => ∃ j : Nat, i = j ∧ j + m = xl ∧ y0 = v.op ∧ y1 = v.n ∧ y2 = bs [] ∧ y3a = none ∧ y3l = 0 ∧ y3c = 0 ∧ y4l = j ∧ OwnE (valE d) g' g.size 38 y4a y4l y4c (v.l.take j) ∧ g.size ≤ g'.w.heap.size,
      ⟨xl, 0, rfl, by omega, rfl, rfl, rfl, rfl, rfl, rfl, rfl, OwnE.nil _ _ _, (m04.trans m6).size⟩, ?_⟩
    rintro m i _ _ _ _ _ _ _ _ _ y0 y1 y2 y3a y3l y3c y4a y4l y4c g7 le ⟨j, rfl, hjm, rfl, rfl, rfl, rfl, rfl, rfl, rfl, ho, hsz⟩
    refine ifLt (fun hlt => ⟨⟨by omega, by omega⟩, ?_⟩) (fun hge g16 m16 => ?_)
    · have hjl : y4l < v.l.length := by omega
      have gj := List.getElem?_eq_getElem hjl
      obtain ⟨w2, hw2, hr2⟩ := RdL_get hrl gj
      have hdm := dpL_mem (List.mem_of_getElem? gj)
      refine ((hx.exm m6).mono le).rd (i := y4l) hw2 ?_
      rintro r ad rfl hrr
      have h0 := (hrr 0 _ rfl).1
      rw [Addr.add_zero'] at h0
      refine ⟨w2.1, w2.2, by rw [Int.toNat_natCast]; exact h0, by rw [Int.toNat_natCast]; exact (hrr 1 _ rfl).1, i64 (by omega) (by omega), fun g8 m8 => ?_⟩
      obtain ⟨d', rfl⟩ : ∃ d', d = d' + 1 := by
        cases d with
        | zero => have := dpV_eq v.l[y4l]; omega
        | succ d' => exact ⟨d', rfl⟩
      have ed : ((depth : Nat) : Int) + 1 = ((depth + 1 : Nat) : Int) := by omega
      rw [ed]
      refine (ih d' l L v.l[y4l] w2 (depth + 1) fr lim rfl (((h.exm (m04.trans m6)).mono le).exm m8) hval hg hr2 (by omega) (by omega)).mono ?_
      rintro u g9 m9 ⟨na, nn, nc, la, ln, lc, rfl, hv⟩
      refine ⟨_, _, _, _, _, _, _, _, _, _, rfl, ifT (fun hh => by cases hh) (fun _ g12 m12 g13 n13 => ?_)⟩
      have hB : g.size ≤ g12.w.heap.size := Nat.le_trans hsz ((m8.trans m9).trans m12).size
      obtain ⟨a', c', w', hrun, g14, hw14, hs14, ho14, _, _⟩ := OwnE.app1 E36 36 (B := g.size) hB (ho.exm ((m8.trans m9).trans m12)) n13 (x := v.l[y4l]) ((hv.ex m12).kid rfl) (by omega) (by unfold maxLen; omega)
      refine ⟨a', _, c', w', hrun, g14, hw14, hs14, i64 (by omega) (by omega), fun g15 m15 => ⟨m - 1, by omega, y4l + 1, by omega, by omega, rfl, rfl, rfl, rfl, rfl, rfl, rfl, ?_, Nat.le_trans hB (Nat.le_trans n13.ex.size (Nat.le_trans hs14.le.size m15.size))⟩⟩
      rw [take_snoc gj]
      exact ho14.exm m15
    · have e : v.l.take y4l = v.l := List.take_of_length_le (by omega)
      rw [e] at ho
      refine ⟨none, 0, 0, y4a, y4l, y4c, ?_, fin (ho.sl.exm m16)⟩
      unfold valC
      rw [hs]
      rfl
  rcases hr with ⟨a1, a2, a3, a4, a5⟩ | ⟨a1, a2, a3, a4, a5⟩ | ⟨a1, a2, a3, a4, a5⟩
  · rw [a4]
    refine ifEq (fun _ g17 m17 => (k33 l (true, ((q : Nat) : Int)) (h.exm (m04.trans m17)) fr lim).mono ?_) (fun hh => absurd rfl hh)
    intro u g18 m18 hs
    rcases hs with ⟨hh, _⟩ | ⟨_, L2, hL2, ⟨hh, _⟩ | ⟨q', hq', _, _, ⟨hh, _⟩ | ⟨_, rfl⟩⟩⟩
    · exact absurd hval hh
    · rw [hL0] at hL2; cases hL2; exact absurd ⟨rfl, hqL⟩ hh
    · have := congrArg Prod.snd hq'
      simp only at this
      have : q = q' := by omega
      subst this
      exact absurd a4 hh
    · have := congrArg Prod.snd hq'
      simp only at this
      have : q = q' := by omega
      subst this
      refine ⟨_, _, rfl, fun g19 m19 => ⟨none, 0, 0, none, 0, 0, ?_, fin (by rw [a3]; exact SlE.zero _)⟩⟩
      unfold valC
      rw [a1, a2, a5, eqI_true.mpr rfl]
  · rw [a4]
    refine ifEq (fun hh => by omega) (fun _ => ifEq (fun hh => by omega) (fun _ => ifEq (fun hh => by omega) (fun _ g24 m24 => ?_)))
    have := loop a3 a5 g24 m24
    rw [a1, a2] at this
    exact this
  · rw [a3]
    refine ifEq (fun hh => by omega) (fun _ => ifEq (fun _ g20 m20 g21 m21 => ?_) (fun hh => absurd rfl hh))
    have := loop a2 a5 g21 (m20.trans m21)
    rw [a1, ← a4] at this
    exact this
theorem k51 : ∀ (d : Nat) (l : List Wd) (L : List Int) (v : Val) (w : Wd) (depth : Nat) {a : Option Addr} {ll c : Nat} {g : G} (fr lim : Int), SlE wordE g a ll c l → validP l fr lim → GoodW l L → RdV l L w v → dpV v ≤ d + 1 → depth + dpV v ≤ 251 →
    CallsP Try.prog 51 #[hpV a ll c fr lim, wdV w, .int .i64 ((depth : Nat) : Int)] g fun u g' => ReadSay d v u g' := by
  intro d
  induction d with
  | zero => exact fun l L v w depth a ll c g fr lim => read_step 0 (fun d' _ _ _ _ _ _ _ _ _ _ _ hd => by cases hd) l L v w depth fr lim
  | succ d ih =>
    refine fun l L v w depth a ll c g fr lim => read_step (d + 1) (fun d' l L v w depth _ _ _ _ fr lim hd => ?_) l L v w depth fr lim
    cases hd
    exact ih l L v w depth fr lim
end Go.Proofs.Ytcpclpkcanikiaa
