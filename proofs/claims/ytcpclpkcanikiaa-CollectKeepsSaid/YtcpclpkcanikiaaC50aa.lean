/- The collector: Reachable, which ranges over a map and sorts. -/
import Derived.Test.YtcpclpkcanikiaaC50V
import Derived.Test.YtcpclpkcanikiaaFn57
import Derived.Test.YtcpclpkcanikiaaVmb
import Derived.Test.YtcpclpkcanikiaaVsort
import Derived.Test.YtcpclpkcanikiaaShelf50
set_option linter.unusedVariables false
namespace Go.Proofs.Ytcpclpkcanikiaa
open Go Go.Vc Go.RowKit

theorem leI_sorted {l l' : List Int} (h : l.Perm l') (hs : l'.Pairwise (· < ·)) : (l.mergeSort fun x y => decide (x ≤ y)) = l' := by
  have tr : ∀ a b c : Int, decide (a ≤ b) = true → decide (b ≤ c) = true → decide (a ≤ c) = true := fun a b c h1 h2 => by simp only [decide_eq_true_eq] at *; omega
  have to : ∀ a b : Int, (decide (a ≤ b) || decide (b ≤ a)) = true := fun a b => by simp only [Bool.or_eq_true, decide_eq_true_eq]; omega
  refine List.Perm.eq_of_pairwise (le := fun a b : Int => a ≤ b) (fun a b _ _ h1 h2 => by omega) ((List.pairwise_mergeSort tr to l).imp (by simp)) (hs.imp (fun h => by omega)) ((List.mergeSort_perm l _).trans h)
theorem k92 {g : G} {B : Nat} {e : TypeId} {a : Option Addr} {n c : Nat} {zs : List Int} (h : MutR g B e 1 a n c (zs.map (Value.int .i64))) (hn : n < 4611686018427387904) :
    CallsG Try.prog 92 #[.slice a n c] g (blkOf a) fun v g' => v = .tuple ⟨[]⟩ ∧ SlE intE g' a n c (zs.mergeSort fun x y => decide (x ≤ y)) :=
  (sort_fin (Value.int .i64) Try.slices_Sort_int Try.slices_Sort_int_none h hn).mono fun v g' _ hq => ⟨hq.1, sle_of_map (Value.int .i64) rfl (fun _ _ => rfl) hq.2⟩
theorem rng_row {P : Program} {g : G} {k : TypeId} {b r q m : Nat} {f : Int → Option Value} {left : Int → Bool} (h : RngI P g k b r q f left m) {B : Nat} {e : TypeId} {mm : Nat} {a : Option Addr} {n c : Nat} {L : List Value} (hm : MutR g B e mm a n c L) : ¬ blkOf a b ∧ ¬ blkOf a r := by
  rcases hm.row with ⟨rfl, _⟩ | ⟨x, cur, rfl, _, h2, _⟩
  · exact ⟨fun ⟨_, hh, _⟩ => (by cases hh), fun ⟨_, hh, _⟩ => (by cases hh)⟩
  · obtain ⟨k1, k2⟩ := h.cells h2.blk
    exact ⟨fun ⟨_, hh, e⟩ => k1 (by cases hh; exact e), fun ⟨_, hh, e⟩ => k2 (by cases hh; exact e)⟩
theorem k57 : K57 := by
  intro l roots hwf ha hl hc ra rl rc g h hr fr lim
  refine P57.call57 ha hl hc fr lim ra rl rc g _ ?_
  have hrl := hr.len
  unfold P57.F57
  refine fun g1 m1 => (k83 l roots hwf (h.exm m1) (hr.exm m1) fr lim).mono ?_
  rintro u g2 m2 ⟨x0, rfl⟩
  refine ⟨_, _, rfl, ifNe (fun hf g3 m3 => .inl ⟨hf, rfl⟩) (fun hf => ?_)⟩
  obtain ⟨L, hok⟩ := ok_of hf
  have m02 := m1.trans m2
  refine (k84 hok.good hok.small.1 (h.exm m02) fr lim roots (hr.exm m02) (by have := hok.len; omega) hok.wd).mono ?_
  rintro u g4 m4 ⟨D, ta, tc, mb, oa, oc, rfl, hm, hs, hmap, ho⟩
  have m04 := m02.trans m4
  obtain ⟨hI, _⟩ := ord_spec hok.good hok.wd
  have hOl := nodup_le hI.nodup hI.sub
  have hLl := L_le hok.good
  obtain ⟨s1, _⟩ := hok.small
  have hasc := sts_asc (sts_iff.2 hok.good.1)
  generalize hO : ord l L roots = O at *
  obtain ⟨w5, hrun, g5, m5, e5, st5, hrg, ex5⟩ := RngI.start hmap Try.underlying3 Try.underlying115
  have hb5 : g.w.heap.size ≤ g4.w.heap.size := m04.size
  have hr0 : g.w.heap.size ≤ g4.w.heap.size := hb5
  generalize hrb : g4.w.heap.size = rb at hrg hrun hr0
  refine ⟨_, _, _, _, rfl, _, hm.rd (j := 6) rfl, _, w5, hrun, g5, e5, st5 _ hb5, fun m a n c g' => g.w.heap.size ≤ g'.w.heap.size ∧ ∃ (V : List Int) (left : Int → Bool), MutR g' g.w.heap.size 3 1 a n c (V.map (Value.int .i64)) ∧ RngI Try.prog g' 3 mb rb O.length (cm l O) left m ∧ V.Nodup ∧ (∀ s, s ∈ V ↔ (s ∈ O ∧ left s = false)),
    ⟨m5, Nat.le_trans hb5 (by rw [hrb]; have := hrg.lt; omega), [], _, MutR.nil _ _ _ _, hrg, List.nodup_nil, fun s => ?_⟩, ?_⟩
  · unfold cm
    by_cases hs : s ∈ O <;> simp [hs]
  rintro m a n c g6 le6 ⟨hsz, V, left, hrow, hrg6, hnd, hV⟩
  have hVn : V.length = n := by have := hrow.len; simpa using this
  have hVO := nodup_le hnd (fun x hx => ((hV x).1 hx).1)
  rcases hrg6.next Try.underlying3 0 with ⟨hno, hrun6⟩ | ⟨s, v, w7, hws, hls, hfs, hrun6, g7, m7, hlt7, e7, st7, hrg7, but7, hen⟩
  · refine .inl ⟨_, hrun6, g6, rfl, Stp.refl _ _ _, blkOf a, fun b hb hh => absurd (hrow.ge hh) (by omega), (k92 hrow (by omega)).mono ?_⟩
    rintro u g8 s8 ⟨rfl, hsl⟩
    refine ⟨rfl, fun g9 m9 => .inr ⟨L, hok, a, n, c, rfl, ?_⟩⟩
    have e : (V.mergeSort fun x y => decide (x ≤ y)) = reach L (ord l L roots) := by
      rw [hO]
      refine leI_sorted ((List.perm_ext_iff_of_nodup hnd ?_).2 fun x => ?_) ?_
      · exact (hasc.filter _).imp (fun h => by omega)
      · unfold reach
        rw [hV, List.mem_filter, hno]
        simp only [and_true, decide_eq_true_eq]
        exact ⟨fun hx => ⟨hI.sub x hx, hx⟩, fun hx => hx.2⟩
      · exact hasc.filter _
    rw [e] at hsl
    exact hsl.exm m9
  · have hsO : s ∈ O := by
      unfold cm at hfs
      by_cases hs : s ∈ O
      · exact hs
      · rw [if_neg hs] at hfs; cases hfs
    have hfs' : v = .int .i64 ((offN l (O.take (O.idxOf s)) : Nat) : Int) := by
      unfold cm at hfs
      rw [if_pos hsO] at hfs
      exact (Option.some.inj hfs).symm
    subst hfs'
    obtain ⟨nb, nr⟩ := rng_row hrg6 hrow
    have hrow7 : MutR g7 g.w.heap.size 3 1 a n c (V.map (Value.int .i64)) := hrow.but but7 (fun z hz e => nr (e ▸ hz))
    refine .inr ⟨true, s, _, w7, hrun6, g7, e7, st7 _ hr0, ifT (fun _ => ?_) (fun hh => by cases hh)⟩
    rw [← e7] at hen
    refine ⟨s, _, _, hen, g7, rfl, Stp.refl _ _ _, fun g12 n12 => ?_⟩
    have hsz7 : g.w.heap.size ≤ g12.w.heap.size := Nat.le_trans hsz (Nat.le_trans but7.size n12.ex.size)
    have hrow12 := hrow7.ex n12.ex
    have hrg12 := hrg7.exm n12.ex
    obtain ⟨nb2, nr2⟩ := rng_row hrg12 hrow12
    obtain ⟨a', c', w', hrun', g13, e13, st13, hrow13, stb, _⟩ := hrow12.app E55 55 hsz7 (n12.sl (m := 1) (n := 1) rfl (by unfold maxLen; omega)) (by simp [Value.oneCell']) (by omega) (by unfold maxLen; omega)
    have but13 := stb.but (Nat.le_refl _)
    refine ⟨a', n + 1, c', w', hrun', g13, e13, st13, m7, hlt7, Nat.le_trans hsz7 but13.size, V ++ [s], _, by simpa using hrow13, hrg12.but but13 nb2 nr2, ?_, fun x => ?_⟩
    · refine List.nodup_append.2 ⟨hnd, by simp, fun x hx y hy => ?_⟩
      have : y = s := by simpa using hy
      subst this
      rintro rfl
      have := ((hV x).1 hx).2
      rw [hls] at this
      cases this
    · have hx := hV x
      by_cases e : x = s
      · subst e
        simp [hsO]
      · simp [e, hx]
end Go.Proofs.Ytcpclpkcanikiaa
