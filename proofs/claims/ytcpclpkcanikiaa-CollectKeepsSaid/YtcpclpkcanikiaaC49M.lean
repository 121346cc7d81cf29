/- Joined texts. -/
import Derived.Test.YtcpclpkcanikiaaC49A
import Derived.RangeFuncFrom
import Derived.RangeFuncNested
import Derived.RangeFuncBound
import Derived.RangeFuncBox
import Derived.RangeFuncCalls
import Derived.RangeFuncLeaves
import Derived.Shelf.Abstract
import Derived.Shelf.RegionOpen
import Derived.WalkKit
import Derived.OwnWalkIn
import Derived.TacticsInMore
import Derived.LoopNIn
import Derived.LoopIn
import Derived.Test.YtcpclpkcanikiaaVop
/- The heap: the iterator over blocks. -/
set_option linter.unusedVariables false
namespace Go.Proofs.Ytcpclpkcanikiaa
open Go Go.Vc Go.RowKit Go.Shelf
attribute [local go_sem] Oper.semAt_some

/-- The head of a block stands at p. -/
def hdr0 (l : List Wd) (p : Nat) : Prop := p + 3 ≤ l.length ∧ (l.getD p zW).1 = false ∧ (l.getD (p + 1) zW).1 = false ∧ (l.getD (p + 2) zW).1 = false ∧ 0 ≤ (l.getD (p + 2) zW).2 ∧ p + 3 + (l.getD (p + 2) zW).2.toNat ≤ l.length
theorem hdrP_iff (l : List Wd) (p : Nat) : hdrP l p ↔ hdr0 l p ∧ rightP (l.getD p zW).2 (l.getD (p + 1) zW).2 ((l.drop (p + 3)).take (l.getD (p + 2) zW).2.toNat) := by
  unfold hdrP hdr0
  constructor
  · rintro ⟨h1, h2, h3, h4, h5, h6, h7⟩; exact ⟨⟨h1, h2, h3, h4, h5, h6⟩, h7⟩
  · rintro ⟨⟨h1, h2, h3, h4, h5, h6⟩, h7⟩; exact ⟨h1, h2, h3, h4, h5, h6, h7⟩
/-- What a round may be handed. -/
def okx (l : List Wd) (x : Nat × Int) : Prop := x.1 < l.length ∧ ((hdr0 l x.1 ∧ x.2 = (l.getD (x.1 + 2) zW).2) ∨ (¬ hdr0 l x.1 ∧ x.2 = -1))
abbrev Rnd (l : List Wd) := { x : Nat × Int // okx l x }
/-- The rounds led to the place p. -/
inductive Chain (l : List Wd) : List (Rnd l) → Nat → Prop
  | nil : Chain l [] 0
  | snoc {pre : List (Rnd l)} {x : Rnd l} : Chain l pre x.1.1 → hdr0 l x.1.1 → Chain l (pre ++ [x]) (stepN l x.1.1)
theorem Chain.good {l : List Wd} {pre : List (Rnd l)} {p : Nat} (h : Chain l pre p) (hg : ∀ x ∈ pre, hdrP l x.1.1) : ∃ f, l.length ≤ p + f ∧ sts l = (stsF l f p).map ((pre.map fun x => ((x.1.1 : Nat) : Int)) ++ ·) := by
  induction h with
  | nil => exact ⟨l.length, by omega, by unfold sts; simp⟩
  | @snoc pre x h1 h2 ih =>
    obtain ⟨f, hf, hs⟩ := ih (fun y hy => hg y (List.mem_append_left _ hy))
    have hx := x.2.1
    obtain ⟨f', rfl⟩ : ∃ f', f = f' + 1 := ⟨f - 1, by omega⟩
    refine ⟨f', by unfold stepN; omega, ?_⟩
    rw [hs, stsF_yes hx (hg x (by simp)), Option.map_map]
    refine congrArg (fun q => Option.map q (stsF l f' (stepN l x.1.1))) ?_
    funext y
    simp
theorem Chain.done {l : List Wd} {pre : List (Rnd l)} {p : Nat} (h : Chain l pre p) (hg : ∀ x ∈ pre, hdrP l x.1.1) (hp : l.length ≤ p) : sts l = some (pre.map fun x => ((x.1.1 : Nat) : Int)) := by
  obtain ⟨f, _, hs⟩ := h.good hg
  rw [hs, stsF_end hp]
  simp
theorem Chain.bad {l : List Wd} {pre : List (Rnd l)} {p : Nat} (h : Chain l pre p) (hg : ∀ x ∈ pre, hdrP l x.1.1) (hp : p < l.length) (hb : ¬ hdrP l p) : sts l = none := by
  obtain ⟨f, hf, hs⟩ := h.good hg
  obtain ⟨f', rfl⟩ : ∃ f', f = f' + 1 := ⟨f - 1, by omega⟩
  rw [hs, stsF_no hp hb]
  rfl
theorem Chain.length {l : List Wd} {pre : List (Rnd l)} {p : Nat} (h : Chain l pre p) : 3 * pre.length ≤ p := by
  induction h with
  | nil => simp
  | @snoc pre x h1 h2 ih =>
    have := h2.2.2.2.2.1
    simp only [List.length_append, List.length_singleton]
    unfold stepN
    omega

theorem k126 (w : Wd) (g : G) : CallsP Try.prog 126 #[wdV w] g fun v _ => v = .bool (tf (w.1 = true)) := by
  refine call126 w.1 w.2 g _ ?_
  unfold F126
  exact fun g1 _ => by rw [tf_bool]
theorem enters126 : Go.Vc.Enters Try.prog 126 := ⟨_, Try.func126, by kernel_rfl, by kernel_rfl⟩

/-- What lay below n stands in a world behind it. -/
theorem le_at0 {g : G} {W : World} (h : Below g.w.heap.size g.w W) : Le g (G.at0 W) := by
  refine ⟨h.size, ?_, ?_⟩
  · rintro a v ⟨h1, h2, h3⟩
    have hlt := cell_lt h1
    exact live_at0 (by rw [show W.cell? a = g.w.cell? a from cell_same (h.block _ hlt)]; exact h1)
  · rintro b m n ⟨h1, h2, h3⟩
    have hlt := heap_lt h1
    exact ⟨(h.block _ hlt).trans h1, fun h => h, fun h => h⟩
theorem stp_below {g g' : G} (h : Stp g.size nobody g g') : Below g.w.heap.size g.w g'.w := ⟨h.os, h.tape, h.output, h.le.size, fun b hb => h.same b hb (fun h => h)⟩
end Go.Proofs.Ytcpclpkcanikiaa
/- The heap: the iterator over blocks, walked. -/
set_option linter.unusedVariables false
namespace Go.Proofs.Ytcpclpkcanikiaa
open Go Go.Vc Go.RowKit Go.Shelf
attribute [local go_sem] Oper.semAt_some

/-- What a round keeps. -/
def KpB (n b : Nat) (W W' : World) : Prop := Below n W W' ∧ W'.heap[b]? = W.heap[b]?
theorem three (ws : List Wd) (q : Nat) (h : q + 3 ≤ ws.length) : (∃ w ∈ (ws.drop q).take 3, w.1 = true) ↔ ¬ ((ws.getD q zW).1 = false ∧ (ws.getD (q + 1) zW).1 = false ∧ (ws.getD (q + 2) zW).1 = false) := by
  have e : (ws.drop q).take 3 = [ws.getD q zW, ws.getD (q + 1) zW, ws.getD (q + 2) zW] := by
    refine List.ext_getElem? fun i => ?_
    rw [List.getElem?_take, List.getElem?_drop]
    rcases i with _ | _ | _ | i
    · exact getW (by omega)
    · exact getW (by omega)
    · exact getW (by omega)
    · rw [if_neg (by omega)]; rfl
  rw [e]
  simp only [List.mem_cons, List.not_mem_nil, or_false, exists_eq_or_imp, exists_eq_left]
  cases (ws.getD q zW).1 <;> cases (ws.getD (q + 1) zW).1 <;> cases (ws.getD (q + 2) zW).1 <;> simp
set_option maxRecDepth 100000 in
set_option maxHeartbeats 1000000 in
theorem it125 (l : Nat) (Bn : Nat) {a : Option Addr} {ll c : Nat} (fr lim : Int) (ws : List Wd) {g : G} (h : SlE wordE g a ll c ws) (hll : ll ≤ 1000000)
    (J Jx : List (Rnd ws) → World → Prop)
    (hJ : ∀ pre W W', J pre W → W.grownBy W' none → J pre W')
    (hY : ∀ pre x W, J pre W → pre.length < ll + 1 → YieldAt Fence.wide 5 Try.prog l #[.int .i64 x.1.1, .int .i64 x.1.2] W fun e W' =>
      (e = .returned (.bool true) ∧ J (pre ++ [x]) W' ∧ KpB g.w.heap.size Bn W W') ∨ (e = .returned (.bool false) ∧ Jx (pre ++ [x]) W'))
    (W : World) (hW : Below g.w.heap.size g.w W) (hB : W.cell? ⟨Bn, 0, none⟩ = some (.slice a ll c)) (h0 : J [] W) :
    CallsIn Fence.wide 6 Try.prog 125 #[.func (.yield l) #[] #[], .pointer (some ⟨Bn, 0, none⟩)] W fun e W' => (∃ v, e = .returned v) ∧
      ((∃ xs, ((∃ p, Chain ws xs p ∧ ws.length ≤ p) ∨ (∃ pre x, Chain ws pre x.1.1 ∧ ¬ hdr0 ws x.1.1 ∧ xs = pre ++ [x])) ∧ J xs W') ∨ (∃ xs, (∃ pre x, Chain ws pre x.1.1 ∧ xs = pre ++ [x]) ∧ Jx xs W')) := by
  have hlen := h.len
  have hle := h.le
  have hcap := h.cap
  unfold maxLen at hcap
  refine callsIn_of_wp Try.func125 rfl trivial ?_ rfl
  simp only [Try.ntmps125, List.size_toArray, List.length_cons, List.length_nil, Nat.reduceAdd, Nat.reduceSub, Array.replicate_succ, Array.replicate_zero, List.push_toArray, List.append_toArray, List.nil_append, List.cons_append]
  gi_wp2
  gi_loopw [3] (fun p wr => ∃ (q : Nat) (pre : List (Rnd ws)), p = .int .i64 q ∧ q ≤ ll ∧ Chain ws pre q ∧ J pre wr ∧ Below g.w.heap.size W wr ∧ wr.cell? ⟨Bn, 0, none⟩ = some (.slice a ll c))
    (fun p wr => ll - (intOf p).toNat)
  case atStart =>
    exact ⟨0, [], rfl, by omega, Chain.nil, h0, Below.refl _ _, hB⟩
  case round =>
    obtain ⟨q, pre, rfl, hq, hch, hJs, hBl, hB2⟩ := hrel
    have hsw : SlE wordE (G.at0 wr) a ll c ws := h.mono (le_at0 (hW.trans (hBl)))
    have hyes : ∀ (x : Rnd ws) (W1 : World), x.1.1 = q → J pre W1 → YieldAt Fence.wide 5 Try.prog l #[.int .i64 (q : Int), .int .i64 x.1.2] W1 fun e W' =>
      (e = .returned (.bool true) ∧ J (pre ++ [x]) W' ∧ KpB g.w.heap.size Bn W1 W') ∨ (e = .returned (.bool false) ∧ Jx (pre ++ [x]) W') := by
      intro x W1 hx hj
      have := hY pre x W1 hj (by have := hch.length; omega)
      rwa [hx] at this
    rcases Nat.lt_or_ge q ll with hql | hql
    rotate_left
    · gi_wp2
      go_end0
      exact ⟨⟨_, rfl⟩, .inl ⟨pre, .inl ⟨q, hch, by omega⟩, hJs⟩⟩
    obtain ⟨ad, rfl⟩ : ∃ ad, a = some ad := by
      obtain ⟨L, hL, _⟩ := h.ex
      obtain ⟨ad, rfl, _⟩ := hL.addr (by omega)
      exact ⟨ad, rfl⟩
    rcases Nat.lt_or_ge ll (q + 3) with hq3 | hq3
    · obtain ⟨fn, tmps, assign, body, hy, hR⟩ := hyes ⟨(q, -1), by show q < _; omega, .inr ⟨fun hh => by have := hh.1; simp only at this; omega, rfl⟩⟩ wr rfl hJs
      dsimp only at hy
      gi_wp2
      refine ⟨trivial, ?_⟩
      gi_wp2
      refine hR.mono ?_
      rintro e W2 (⟨rfl, hJ2, _⟩ | ⟨rfl, hJ2⟩)
      · gi_wp2
        refine bodyPost_ret (results_none rfl _ _ _) rfl ?_
        exact ⟨⟨_, rfl⟩, .inl ⟨_, .inr ⟨pre, _, hch, fun hh => by have := hh.1; simp only at this; omega, rfl⟩, hJ2⟩⟩
      · gi_wp2
        refine bodyPost_ret (results_none rfl _ _ _) rfl ?_
        exact ⟨⟨_, rfl⟩, .inr ⟨_, ⟨pre, _, hch, rfl⟩, hJ2⟩⟩
    · gi_wp2
      refine ⟨trivial, ?_⟩
      have hsub := hsw.sub (lo := q) (hi := q + 3) (by omega) (by omega)
      rw [show q + 3 - q = 3 by omega, show slAddr (some ad) c q wordE.m = Option.map (fun x => x.add (q * 2)) (some ad) by unfold slAddr; rw [if_neg (by omega)]; rfl] at hsub
      refine (callsIn_wide.2 (k76 126 #[] (fun w => w.1 = true) _ hsub enters126 (fun g' _ w _ => k126 w g'))).mono ?_
      rintro e W1 ⟨v, g1, rfl, rfl, hs1, rfl⟩
      have hb1 := stp_below hs1
      have hB3 : g1.w.cell? ⟨Bn, 0, none⟩ = some (.slice (some ad) ll c) := (hb1.cell (p := ⟨Bn, 0, none⟩) (cell_lt hB2)).trans hB2
      have hJ1 : J pre g1.w := hJ pre wr g1.w hJs ⟨hb1.os, hb1.tape, hb1.output, hb1.size, fun k hk _ => hb1.block k hk⟩
      have hs3 := hsw.mono hs1.le
      have href : (∃ w ∈ (ws.drop q).take 3, w.1 = true) ↔ ¬ ((ws.getD q zW).1 = false ∧ (ws.getD (q + 1) zW).1 = false ∧ (ws.getD (q + 2) zW).1 = false) := by
        exact three ws q (by omega)
      rw [tf_iff href]
      rcases Classical.em (¬ ((ws.getD q zW).1 = false ∧ (ws.getD (q + 1) zW).1 = false ∧ (ws.getD (q + 2) zW).1 = false)) with hr | hr
      · rw [tf_of hr]
        obtain ⟨fn, tmps, assign, body, hy, hR⟩ := hyes ⟨(q, -1), by show q < _; omega, .inr ⟨fun hh => hr ⟨hh.2.1, hh.2.2.1, hh.2.2.2.1⟩, rfl⟩⟩ g1.w rfl hJ1
        dsimp only at hy
        gi_wp2
        refine hR.mono ?_
        rintro e W2 (⟨rfl, hJ2, _⟩ | ⟨rfl, hJ2⟩)
        · gi_wp2
          refine bodyPost_ret (results_none rfl _ _ _) rfl ?_
          exact ⟨⟨_, rfl⟩, .inl ⟨_, .inr ⟨pre, _, hch, fun hh => hr ⟨hh.2.1, hh.2.2.1, hh.2.2.2.1⟩, rfl⟩, hJ2⟩⟩
        · gi_wp2
          refine bodyPost_ret (results_none rfl _ _ _) rfl ?_
          exact ⟨⟨_, rfl⟩, .inr ⟨_, ⟨pre, _, hch, rfl⟩, hJ2⟩⟩
      · rw [tf_no hr]
        replace hr := Classical.not_not.1 hr
        obtain ⟨L, hL, hrw⟩ := hs3.ex
        have hcn : g1.w.cell? ⟨(ad.add ((q + 2) * 2)).block, (ad.add ((q + 2) * 2)).off + 1, none⟩ = some (.int .i64 (ws.getD (q + 2) zW).2) := by
          obtain ⟨r, rfl, hrj⟩ := hrw.get (i := q + 2) (getW (l := ws) (by omega))
          have := (hL.at_ ad rfl ((q + 2) * 2 + 1) _ (hrj 1 (by decide))).1
          rw [← addr_add_add] at this
          exact this
        rcases Classical.em (hdr0 ws q) with hh | hh
        · have h5 := hh.2.2.2.2.1
          have h6 := hh.2.2.2.2.2
          obtain ⟨n, hnn⟩ : ∃ n : Nat, (ws.getD (q + 2) zW).2 = n := ⟨(ws.getD (q + 2) zW).2.toNat, by omega⟩
          rw [hnn, Int.toNat_natCast] at h6
          obtain ⟨fn, tmps, assign, body, hy, hR⟩ := hyes ⟨(q, (ws.getD (q + 2) zW).2), by show q < _; omega, .inl ⟨hh, rfl⟩⟩ g1.w rfl hJ1
          dsimp only at hy
          rw [hnn] at hy hcn
          gi_wp2
          refine hR.mono ?_
          rintro e W2 (⟨rfl, hJ2, hb2⟩ | ⟨rfl, hJ2⟩)
          · gi_wp2
            go_roundw
            case rel => exact ⟨q + 3 + n, _, by simp; omega, by omega, by have := Chain.snoc (x := ⟨(q, (ws.getD (q + 2) zW).2), by show q < _; omega, .inl ⟨hh, rfl⟩⟩) hch hh; exact (show stepN ws q = q + 3 + n by unfold stepN; rw [hnn, Int.toNat_natCast]) ▸ this, hJ2, (hBl.trans ⟨hb1.os, hb1.tape, hb1.output, hb1.size, fun k hk => hb1.block k (by show k < wr.heap.size; have h1 := hBl.size; have h2 := hW.size; omega)⟩).trans hb2.1, (cell_same (a := ⟨Bn, 0, none⟩) hb2.2).trans hB3⟩
            case measure => show ll - ((q : Int) + ((n : Int) + 3)).toNat < ll - ((q : Int)).toNat; omega
          · gi_wp2
            refine bodyPost_ret (results_none rfl _ _ _) rfl ?_
            exact ⟨⟨_, rfl⟩, .inr ⟨_, ⟨pre, _, hch, rfl⟩, hJ2⟩⟩
        · obtain ⟨fn, tmps, assign, body, hy, hR⟩ := hyes ⟨(q, -1), by show q < _; omega, .inr ⟨hh, rfl⟩⟩ g1.w rfl hJ1
          dsimp only at hy
          obtain ⟨n, hnn⟩ : ∃ n : Int, (ws.getD (q + 2) zW).2 = n := ⟨_, rfl⟩
          have hnb : n < 0 ∨ (ll : Int) - q - 3 < n := by
            rcases Int.lt_or_le n 0 with h0 | h0
            · exact .inl h0
            · refine .inr (Int.not_le.1 fun hc => hh ⟨by omega, hr.1, hr.2.1, hr.2.2, by omega, ?_⟩)
              rw [hnn]; omega
          rw [hnn] at hcn
          have fin : ∀ e W2, (e = Ending.returned (.bool true) ∧ J (pre ++ [⟨(q, -1), by show q < _; omega, .inr ⟨hh, rfl⟩⟩]) W2 ∧ KpB g.w.heap.size Bn g1.w W2 ∨ e = Ending.returned (.bool false) ∧ Jx (pre ++ [⟨(q, -1), by show q < _; omega, .inr ⟨hh, rfl⟩⟩]) W2) → (∃ v, e = Ending.returned v) ∧ ((∃ xs, ((∃ p, Chain ws xs p ∧ ws.length ≤ p) ∨ (∃ pre x, Chain ws pre x.1.1 ∧ ¬ hdr0 ws x.1.1 ∧ xs = pre ++ [x])) ∧ J xs W2) ∨ (∃ xs, (∃ pre x, Chain ws pre x.1.1 ∧ xs = pre ++ [x]) ∧ Jx xs W2)) := by
            rintro e W2 (⟨rfl, hJ2, _⟩ | ⟨rfl, hJ2⟩)
            · exact ⟨⟨_, rfl⟩, .inl ⟨_, .inr ⟨pre, _, hch, hh, rfl⟩, hJ2⟩⟩
            · exact ⟨⟨_, rfl⟩, .inr ⟨_, ⟨pre, _, hch, rfl⟩, hJ2⟩⟩
          rcases Int.lt_or_le n 0 with h0 | h0
          · gi_wp2
            refine hR.mono ?_
            rintro e W2 he
            have hf := fin e W2 he
            rcases he with ⟨rfl, _⟩ | ⟨rfl, _⟩
            all_goals
              gi_wp2
              refine bodyPost_ret (results_none rfl _ _ _) rfl ?_
              exact ⟨⟨_, rfl⟩, hf.2⟩
          · gi_wp2
            refine hR.mono ?_
            rintro e W2 he
            have hf := fin e W2 he
            rcases he with ⟨rfl, _⟩ | ⟨rfl, _⟩
            all_goals
              gi_wp2
              refine bodyPost_ret (results_none rfl _ _ _) rfl ?_
              exact ⟨⟨_, rfl⟩, hf.2⟩
end Go.Proofs.Ytcpclpkcanikiaa
