/- Joined texts. -/
import Derived.Test.YtcpclpkcanikiaaC50A
import Derived.Test.YtcpclpkcanikiaaC49U
import Derived.Test.YtcpclpkcanikiaaC49af
import Derived.Test.YtcpclpkcanikiaaC49A
/- The collector: check; what collect returns, for good. -/
set_option linter.unusedVariables false
namespace Go.Proofs.Ytcpclpkcanikiaa
open Go Go.Vc Go.RowKit

/-- A map that is turned no more. -/
def MapL (g : G) (k : TypeId) (b n : Nat) (f : Int → Option Value) : Prop :=
  ∃ m c, LiveM g b m c ∧ ∀ g2 : G, g2.w.heap[b]? = some (.map m c) → ¬ g2.X b → g2.D b 0 → MapI Try.prog g2 k b n f
theorem MapL.le {g g' : G} {k : TypeId} {b n : Nat} {f : Int → Option Value} (h : MapL g k b n f) (m : Le g g') : MapL g' k b n f := by
  obtain ⟨x, c, h1, h2⟩ := h
  exact ⟨x, c, h1.mono m, h2⟩
theorem MapI.froz {g : G} {k : TypeId} {b n : Nat} {f : Int → Option Value} (h : MapI Try.prog g k b n f) : MapL (g.froz b) k b n f := by
  obtain ⟨D, ⟨es, clock, hb, hF, hs, hD⟩, h2⟩ := h.own
  exact ⟨es, clock, ⟨hb, h.nx, fun hh => hh.2 rfl⟩, fun g2 e1 e2 e3 => ⟨⟨D, ⟨es, clock, e1, hF, hs, hD⟩, h2⟩, e2, e3⟩⟩
theorem MapL.look {g : G} {k : TypeId} {b n : Nat} {f : Int → Option Value} (h : MapL g k b n f) {t e : TypeId} (hk : Try.prog.underlying k = some (.int .i64)) (ht : Try.prog.underlying t = some (.map k e)) {z : Value} (hz : ∀ w : World, (zeroValue e).run Try.prog w = .ok z w) (s : Int) (hs : (Lit.int .i64 s).wf = true) :
    (Instr.lookup t (.map (some b)) (.int .i64 s) false).run Try.prog g.w = .ok (match f s with | some v => v | none => z) g.w := by
  obtain ⟨m, c, h1, h2⟩ := h
  let g2 : G := ⟨g.w, g.X, fun x i => g.D x i ∨ x = b, g.hX, fun x i hh => by
    rcases hh with hh | rfl
    · exact g.hD x i hh
    · exact heap_lt h1.1⟩
  exact (h2 g2 h1.1 h1.2.1 (.inr rfl)).look hk ht (hz _) s hs
theorem zero4 (w : World) : (zeroValue 4).run Try.prog w = .ok (.bool false) w := by kernel_rfl
/-- The blocks, as a map. -/
noncomputable def bm (L : List Int) (x : Int) : Option Value := if x ∈ L then some (.bool true) else none
/-- The test of check. -/
theorem k105 (L : List Int) (w : Wd) (hw : (Lit.int .i64 w.2).wf = true) {g : G} {b mb n : Nat} (hb : Live g ⟨b, 0, none⟩ (.map (some mb))) (hm : MapL g 3 mb n (bm L)) : CallsP Try.prog 105 #[wdV w, .pointer (some ⟨b, 0, none⟩)] g fun u _ => u = .bool (tf (¬ wordP L w)) := by
  refine P50.call105 w.1 w.2 (some ⟨b, 0, none⟩) g _ ?_
  unfold P50.F105 wordP
  refine ifT (fun h1 g1 m1 => ?_) (fun h1 => ?_)
  · have hlk := (hm.le m1.le).look Try.underlying3 Try.underlying109 zero4 w.2 hw
    have hcell := (hb.mono m1.le).1
    by_cases hx : w.2 ∈ L
    · have e : bm L w.2 = some (.bool true) := if_pos hx
      rw [e] at hlk
      refine ⟨some mb, hcell, _, _, hlk, g1, rfl, Stp.refl _ _ _, fun g3 m3 => ?_⟩
      rw [tf_no (by rw [if_pos h1]; exact fun hh => hh hx)]
      rfl
    · have e : bm L w.2 = none := if_neg hx
      rw [e] at hlk
      refine ⟨some mb, hcell, _, _, hlk, g1, rfl, Stp.refl _ _ _, fun g3 m3 => ?_⟩
      rw [tf_of (by rw [if_pos h1]; exact hx)]
      rfl
  · have h1' : ¬ w.1 = true := by rw [h1]; decide
    unfold plainP
    refine ifLt (fun hh g4 m4 => ?_) (fun hh g5 m5 => ?_)
    · rw [tf_of (by rw [if_neg h1']; omega)]
    · rw [tf_lt]
      exact vP (by rw [if_neg h1']; omega)
theorem bm_add {L : List Int} {j : Nat} {x : Int} (h : L[j]? = some x) (y : Int) : updI (bm (L.take j)) x (some (.bool true)) y = bm (L.take (j + 1)) y := by
  rw [take_snoc h]
  by_cases e : y = x
  · subst e
    rw [updI_same]
    unfold bm
    rw [if_pos (by simp)]
  · rw [updI_other _ _ e]
    unfold bm
    by_cases hy : y ∈ L.take j
    · rw [if_pos hy, if_pos (by simp [hy])]
    · rw [if_neg hy, if_neg (by simp [hy, e])]
/-- The fault of a heap and words. -/
noncomputable def faultN (l : List Wd) (fr lim : Int) (ws : List Wd) : Int := @ite _ (¬ validP l fr lim) (Classical.propDecidable _) 1 (if 65536 < ws.length then 5 else @ite _ (∃ L, sts l = some L ∧ ∃ w ∈ ws, ¬ wordP L w) (Classical.propDecidable _) 2 0)
theorem fault_1 {l : List Wd} {fr lim : Int} {ws : List Wd} (h : ¬ validP l fr lim) : faultN l fr lim ws = 1 := by unfold faultN; rw [if_pos h]
theorem fault_5 {l : List Wd} {fr lim : Int} {ws : List Wd} (h : validP l fr lim) (h2 : 65536 < ws.length) : faultN l fr lim ws = 5 := by unfold faultN; rw [if_neg (fun hh => hh h), if_pos h2]
theorem fault_2 {l : List Wd} {fr lim : Int} {ws : List Wd} (h : validP l fr lim) (h2 : ¬ 65536 < ws.length) {L : List Int} (hL : sts l = some L) (h3 : ∃ w ∈ ws, ¬ wordP L w) : faultN l fr lim ws = 2 := by unfold faultN; rw [if_neg (fun hh => hh h), if_neg h2, if_pos ⟨L, hL, h3⟩]
theorem fault_0 {l : List Wd} {fr lim : Int} {ws : List Wd} (h : validP l fr lim) (h2 : ¬ 65536 < ws.length) {L : List Int} (hL : sts l = some L) (h3 : ¬ ∃ w ∈ ws, ¬ wordP L w) : faultN l fr lim ws = 0 := by
  unfold faultN
  rw [if_neg (fun hh => hh h), if_neg h2, if_neg]
  rintro ⟨L2, e, hh⟩
  rw [hL] at e
  cases e
  exact h3 hh
/-- No fault: what is right. -/
theorem fault_ok {l : List Wd} {fr lim : Int} {ws : List Wd} (h : faultN l fr lim ws = 0) : validP l fr lim ∧ ws.length ≤ 65536 ∧ ∃ L, GoodW l L ∧ ∀ w ∈ ws, wordP L w := by
  by_cases h1 : validP l fr lim
  rotate_left
  · rw [fault_1 h1] at h; cases h
  by_cases h2 : 65536 < ws.length
  · rw [fault_5 h1 h2] at h; cases h
  obtain ⟨a, b, c, d, L, hg⟩ := valid_iff.1 h1
  have hL := sts_iff.2 hg.1
  by_cases h3 : ∃ w ∈ ws, ¬ wordP L w
  · rw [fault_2 h1 h2 hL h3] at h; cases h
  exact ⟨h1, by omega, L, hg, fun w hw => Classical.byContradiction fun hn => h3 ⟨w, hw, hn⟩⟩
theorem k83 (l ws : List Wd) (hwf : ∀ w ∈ ws, (Lit.int .i64 w.2).wf = true) {ha : Option Addr} {hl hc : Nat} {ra : Option Addr} {rl rc : Nat} {g : G} (h : SlE wordE g ha hl hc l) (hr : SlE wordE g ra rl rc ws) (fr lim : Int) :
    CallsP Try.prog 83 #[hpV ha hl hc fr lim, .slice ra rl rc] g fun u _ => ∃ x0 : Option Nat, u = .tuple ⟨[.map x0, .int .i64 (faultN l fr lim ws)]⟩ := by
  refine P50.call83 ha hl hc fr lim ra rl rc g _ ?_
  have hrl := hr.len
  have hll := h.len
  unfold P50.F83
  refine fun g1 m1 => (k34 l (h.exm m1) fr lim).mono ?_
  intro u g2 m2 hb
  rcases hb with ⟨hv, rfl⟩ | ⟨hv, L, oa, on, oc, hL, rfl, ho, hon⟩
  · exact ⟨_, _, _, _, rfl, ifNe (fun _ g3 _ => ⟨none, by rw [fault_1 hv]⟩) (fun hh => by omega)⟩
  refine ⟨_, _, _, _, rfl, ifNe (fun hh => absurd rfl hh) (fun _ => ifLt (fun h5 g4 _ => ⟨none, by rw [fault_5 hv (by omega)]⟩) (fun h5 => ?_))⟩
  intro g5 n5 g6 n6
  have hv0 := hv
  obtain ⟨v1, v2, v3, v4, _⟩ := hv
  have hmap5 := MapI.new n5 Try.prog 3
  have hg5 : g.w.heap.size ≤ g5.w.heap.size := (m1.trans (m2.trans n5.ex)).size
  have hg2 : g.w.heap.size ≤ g2.w.heap.size := (m1.trans m2).size
  obtain ⟨s1, s2, s3, s4⟩ := pub_ok n6 hg5
  refine ⟨s1, s2, s3, s4, fun g7 k7 => ?_⟩
  obtain ⟨m7, hb7⟩ := pub_var n6 k7
  have hmap7 := hmap5.ex m7
  have hne : g2.w.heap.size ≠ g5.w.heap.size := by have := hmap5.lt; omega
  generalize g5.w.heap.size = vb at hb7 hne ⊢
  generalize g2.w.heap.size = mb at hmap7 hb7 hne hg2 ⊢
  have hon2 := ho.len
  have m57 : Ex g2 g7 := n5.ex.trans m7
  refine ⟨fun m v g' => ∃ j : Nat, v = ((j : Nat) : Int) ∧ j + m = on ∧ MapI Try.prog g' 3 mb j (bm (L.take j)), ⟨on, 0, rfl, by omega, hmap7.congr (fun s => by unfold bm; rw [if_neg (by simp)])⟩, ?_⟩
  rintro m v g8 le8 ⟨j, rfl, hjm, hmap⟩
  have hb8 := hb7.mono le8
  refine ifLt (fun hlt => ⟨⟨by omega, by omega⟩, ?_⟩) (fun hge => ?_)
  · have hjl : j < L.length := by omega
    have gj := List.getElem?_eq_getElem hjl
    obtain ⟨q, hq, hql, _⟩ := sts_hdr hL (List.mem_of_getElem? gj)
    obtain ⟨w', hrun, g9, e9, s9, hmap9⟩ := hmap.putM Try.underlying3 Try.underlying109 (by unfold maxLen; omega) L[j] (wfI (by omega) (by omega)) (.bool true)
    refine rdI ((ho.exm m57).mono le8) j rfl gj (fun ad h0 => ⟨_, h0, some mb, hb8.1, w', hrun, g9, e9, (s9 _).mono (Nat.le_refl _) (fun z hz hzz => by omega), i64 (by omega) (by omega), m - 1, by omega, j + 1, by omega, by omega, hmap9.congr (fun y => bm_add gj y)⟩)
  · have etk : L.take j = L := List.take_of_length_le (by omega)
    rw [etk] at hmap
    have m07 := (m1.trans m2).trans m57
    refine (CallsP.thaw hmap.lt (k76 105 ⟨[.pointer (some ⟨vb, 0, none⟩)]⟩ (fun w => ¬ wordP L w) ws (((hr.exm m07).mono le8).mono (froz_le g8 mb)) ⟨_, Try.func105, by kernel_rfl, by kernel_rfl⟩ ?_) (Q' := fun v g' => v = .bool (tf (∃ w ∈ ws, ¬ wordP L w))) (fun v g1 g' hq _ _ => hq)).mono ?_
    · intro g' le' w hw
      exact k105 L w (hwf w hw) ((hb8.mono (froz_le g8 mb)).mono le') ((MapI.froz hmap).le le')
    · rintro u g10 m10 rfl
      refine ⟨_, rfl, ifP (fun hbad g11 _ => ⟨none, by rw [fault_2 hv0 (by omega) hL hbad]⟩) (fun hok => ⟨some mb, (hb8.mono m10.le).1, fun g12 _ => ⟨some mb, by rw [fault_0 hv0 (by omega) hL hok]⟩⟩)⟩
/-- collect, of a right heap. -/
theorem k84 {l : List Wd} {L : List Int} (hg : GoodW l L) (hlen : l.length ≤ 65536) {ha : Option Addr} {hl hc : Nat} {g : G} (h : SlE wordE g ha hl hc l) (fr lim : Int) (roots : List Wd) {ra : Option Addr} {rl rc : Nat} (hr : SlE wordE g ra rl rc roots) (hrl : rl ≤ 65536) (hrw : ∀ w ∈ roots, wordP L w) :
    CallsP Try.prog 84 #[hpV ha hl hc fr lim, .slice ra rl rc] g fun v g' => ColSay l roots ha hl hc fr lim (ord l L roots) v g' := by
  refine CallsP.ghost (k84raw hg hlen h fr lim roots hr hrl hrw) ?_
  rintro v g1 hs ⟨D, ta, tc, mb, oa, oc, rfl, hm, hrow, hmap, hout⟩
  rcases (row_parts hrow).2 with ⟨rfl, h0, rfl, hT⟩ | ⟨b, cur, rfl, hb, _⟩
  · refine ⟨g1, rfl, hs, ⟨D, none, 0, mb, oa, oc, rfl, hm, ?_, hmap, hout⟩⟩
    rw [hT, h0]
    exact SlE.zero _
  · have hDb : ¬ D = b := fun e => row_other hrow hm (by decide) ⟨_, rfl, e.symm⟩
    have hmbb : ¬ mb = b := fun e => row_map hrow hmap ⟨_, rfl, e.symm⟩
    exact ⟨g1.froz b, rfl, hs.trans (froz_stp hb), ⟨D, _, tc, mb, oa, oc, rfl, hm.but (froz_but g1 b) hDb, row_froz hrow, hmap.but (froz_but g1 b) hmbb, hout.mono (froz_le g1 b)⟩⟩
end Go.Proofs.Ytcpclpkcanikiaa
/- The reference of the collector: Fault, place, found, Order, Live. -/
set_option linter.unusedVariables false
namespace Go.Proofs.Ytcpclpkcanikiaa
open Go Go.Vc Go.RowKit

theorem k47 (l ws : List Wd) {ha : Option Addr} {hl hc : Nat} {ra : Option Addr} {rl rc : Nat} {g : G} (h : SlE wordE g ha hl hc l) (hr : SlE wordE g ra rl rc ws) (fr lim : Int) :
    CallsP Try.prog 47 #[hpV ha hl hc fr lim, .slice ra rl rc] g fun u _ => u = .int .i64 (faultN l fr lim ws) := by
  refine P50.call47 ha hl hc fr lim ra rl rc g _ ?_
  have hrl := hr.len
  have hll := h.len
  unfold P50.F47
  refine fun g1 m1 => (k23 l (h.exm m1) fr lim).mono ?_
  rintro u g2 m2 rfl
  refine ⟨_, rfl, ifPn (fun hv g3 _ => by rw [fault_1 hv]) (fun hv => ifLt (fun h5 g4 _ => by rw [fault_5 hv (by omega)]) (fun h5 => ?_))⟩
  have hv0 := hv
  obtain ⟨v1, v2, v3, v4, L, hL, _⟩ := hv
  have hasc := sts_asc hL
  refine (k36 l hL (h.exm (m1.trans m2)) (by omega) fr lim).mono ?_
  rintro u g5 m5 ⟨oa, on, oc, rfl, ho, hon⟩
  have m05 := (m1.trans m2).trans m5
  refine ⟨_, _, _, rfl, fun m i g' => ∃ j : Nat, i = ((j : Nat) : Int) ∧ j + m = rl ∧ ∀ w ∈ ws.take j, wordP L w, ⟨rl, 0, rfl, by omega, by simp⟩, ?_⟩
  rintro m i g6 le ⟨j, rfl, hjm, hj⟩
  refine ifLt (fun hlt => ?_) (fun hge g17 _ => ?_)
  · intro J hJ
    have hjl : j < ws.length := by omega
    have gj := List.getElem?_eq_getElem hjl
    have bad : ¬ wordP L ws[j] → (Value.int .i64 2) = .int .i64 (faultN l fr lim ws) := fun hn => by rw [fault_2 hv0 (by omega) hL ⟨_, List.mem_of_getElem? gj, hn⟩]
    have good : ∀ g', wordP L ws[j] → J g' := fun g' hw => hJ g' ⟨i64 (by omega) (by omega), m - 1, by omega, j + 1, by omega, by omega, by
      intro w hm
      rw [take_snoc gj] at hm
      rcases List.mem_append.1 hm with hm | hm
      · exact hj w hm
      · cases List.mem_singleton.1 hm; exact hw⟩
    refine ⟨⟨by omega, by omega⟩, ((hr.exm m05).mono le).rd (i := j) gj ?_⟩
    rintro r ad rfl hrr
    have c0 := (hrr 0 _ rfl).1
    rw [Addr.add_zero'] at c0
    refine ⟨ws[j].1, ws[j].2, by rw [Int.toNat_natCast]; exact c0, by rw [Int.toNat_natCast]; exact (hrr 1 _ rfl).1, ?_⟩
    refine ifT (fun h1 g8 m8 => (k81 L hasc ws[j].2 ((ho.mono le).exm m8) (by omega)).mono ?_) (fun h1 => ?_)
    · rintro u g9 m9 rfl
      have hwp : wordP L ws[j] ↔ ws[j].2 ∈ L := by unfold wordP; rw [if_pos h1]
      refine ⟨_, rfl, ifPn (fun hn g10 _ => bad (fun hh => hn (hwp.1 hh))) (fun hin => ?_)⟩
      rw [h1]
      exact ifT (fun hh => by cases hh) (fun _ => good g9 (hwp.2 hin))
    · have hwp : wordP L ws[j] ↔ plainP ws[j].2 := by unfold wordP; rw [if_neg (by rw [h1]; decide)]
      rw [h1]
      refine ifT (fun _ => ifLt (fun hh g13 _ => bad (fun hp => ?_)) (fun hh => ifLt (fun hh2 g14 _ => bad (fun hp => ?_)) (fun hh2 g15 _ => good g15 (hwp.2 ?_)))) (fun hh => by cases hh)
      · have := hwp.1 hp; unfold plainP at this; omega
      · have := hwp.1 hp; unfold plainP at this; omega
      · unfold plainP; omega
  · have etk : ws.take j = ws := List.take_of_length_le (by omega)
    rw [etk] at hj
    rw [fault_0 hv0 (by omega) hL (fun ⟨w, hw, hn⟩ => hn (hj w hw))]
theorem idx_at {O : List Int} {j : Nat} {n : Int} (h : O[j]? = some n) (hn : ¬ n ∈ O.take j) : O.idxOf n = j := by
  have hj := (List.getElem?_eq_some_iff.1 h).1
  have e := split_at h
  have : O.idxOf n = (O.take j ++ n :: O.drop (j + 1)).idxOf n := by rw [← e]
  rw [this, List.idxOf_append, if_neg hn]
  simp
  omega
/-- place. -/
theorem k93 (O : List Int) (n : Int) {a : Option Addr} {on oc : Nat} {g : G} (h : SlE intE g a on oc O) (hon : on ≤ 1000000) : CallsP Try.prog 93 #[.slice a on oc, .int .i64 n] g fun u _ => (n ∈ O ∧ u = .int .i64 ((O.idxOf n : Nat) : Int)) ∨ (¬ n ∈ O ∧ u = .int .i64 (-1)) := by
  refine P50.call93 a on oc n g _ ?_
  have hl := h.len
  unfold P50.F93
  refine ⟨fun m i g' => ∃ j : Nat, i = ((j : Nat) : Int) ∧ j + m = on ∧ ¬ n ∈ O.take j, ⟨on, 0, rfl, by omega, by simp⟩, ?_⟩
  rintro m i g1 le ⟨j, rfl, hjm, hj⟩
  refine ifLt (fun hlt => ⟨⟨by omega, by omega⟩, ?_⟩) (fun hge g3 _ => ?_)
  · have hjl : j < O.length := by omega
    have gj := List.getElem?_eq_getElem hjl
    refine rdI (h.mono le) j rfl gj (fun ad h0 => ⟨_, h0, ifEq (fun he g2 _ => ?_) (fun he => ⟨i64 (by omega) (by omega), m - 1, by omega, j + 1, by omega, by omega, ?_⟩)⟩)
    · rw [he] at gj
      exact .inl ⟨List.mem_of_getElem? gj, by rw [idx_at gj hj]⟩
    · rw [take_snoc gj]
      intro hm
      rcases List.mem_append.1 hm with hm | hm
      · exact hj hm
      · exact he (List.mem_singleton.1 hm).symm
  · have etk : O.take j = O := List.take_of_length_le (by omega)
    rw [etk] at hj
    exact .inr ⟨hj, rfl⟩
/-- found. -/
theorem k107 {L : List Int} (hLl : L.length ≤ 65536) {B : Nat} {O : List Int} (hn : O.Nodup) (hs : ∀ x ∈ O, x ∈ L) (ws : List Wd) (hw : ∀ w ∈ ws, wordP L w) {a : Option Addr} {on oc : Nat} {wa : Option Addr} {wl wcap : Nat} {g : G} (ho : OwnE intE g B 3 a on oc O) (hB : B ≤ g.w.heap.size) (hr : SlE wordE g wa wl wcap ws) (hwl : wl ≤ 1000000) :
    CallsG Try.prog 107 #[.slice a on oc, .slice wa wl wcap] g (blkOf a) fun u g' => ∃ a' n' c', u = .slice a' n' c' ∧ OwnE intE g' B 3 a' n' c' (found O ws) ∧ (∀ z, blkOf a' z → blkOf a z ∨ g.w.heap.size ≤ z) := by
  refine P50.call107 a on oc wa wl wcap g _ _ ?_
  have hl := hr.len
  unfold P50.F107
  refine ⟨fun m a' n' c' i g' => ∃ j : Nat, i = ((j : Nat) : Int) ∧ j + m = wl ∧ OwnE intE g' B 3 a' n' c' (found O (ws.take j)) ∧ (∀ z, blkOf a' z → blkOf a z ∨ g.w.heap.size ≤ z) ∧ g.w.heap.size ≤ g'.w.heap.size, ⟨wl, 0, rfl, by omega, ho, fun z hz => .inl hz, Nat.le_refl _⟩, ?_⟩
  rintro m a' n' c' i g1 le ⟨j, rfl, hjm, ho1, hb1, hsz⟩
  refine ifLt (fun hlt => ?_) (fun hge g6 m6 => ?_)
  · have hjl : j < ws.length := by omega
    have gj := List.getElem?_eq_getElem hjl
    generalize ws[j] = w at gj
    have hwp := hw w (List.mem_of_getElem? gj)
    have etk : found O (ws.take (j + 1)) = adv (found O (ws.take j)) w := by rw [take_snoc gj, found_snoc]
    have hn1 := found_nodup (ws.take j) hn
    have hs1 := found_sub (ws.take j) hs (fun x hx => hw x (List.mem_of_mem_take hx))
    have hle1 := nodup_le hn1 hs1
    have hlen1 := ho1.len
    intro J hJ
    have rdw : ∀ {g' : G}, Le g g' → ∀ {K : Addr → Prop}, (∀ ad, g'.w.cell? (Addr.add ad (Int.toNat ((j : Nat) : Int) * 2)) = some (.bool w.1) → g'.w.cell? (Addr.add (Addr.add ad (Int.toNat ((j : Nat) : Int) * 2)) 1) = some (.int .i64 w.2) → K ad) → derefP wa K := by
      intro g' le' K hK
      refine (hr.mono le').rd (i := j) gj ?_
      rintro r ad rfl hrr
      have c0 := (hrr 0 _ rfl).1
      rw [Addr.add_zero'] at c0
      exact hK ad (by rw [Int.toNat_natCast]; exact c0) (by rw [Int.toNat_natCast]; exact (hrr 1 _ rfl).1)
    have no : ∀ g', Ex g1 g' → adv (found O (ws.take j)) w = found O (ws.take j) → J false g' := by
      intro g' m' e
      refine hJ _ g' (ifT (fun hh => by cases hh) (fun _ => ⟨i64 (by omega) (by omega), m - 1, by omega, j + 1, by omega, by omega, ?_, hb1, Nat.le_trans hsz m'.size⟩))
      rw [etk, e]
      exact ho1.exm m'
    refine ⟨⟨by omega, by omega⟩, rdw le (fun ad c0 _ => ⟨_, c0, ?_⟩)⟩
    refine ifT (fun h1 => ⟨⟨by omega, by omega⟩, rdw le (fun ad2 _ c1 => ⟨_, c1, (k93 _ w.2 ho1.sl (by omega)).mono ?_⟩)⟩) (fun h1 => no g1 (Ex.refl _) (adv_no (fun hh => by rw [h1] at hh; exact absurd hh.1 (by decide))))
    rintro u g5 m5 (⟨hin, rfl⟩ | ⟨hin, rfl⟩)
    · refine ⟨_, rfl, ?_⟩
      rw [ltI_false.mpr (by omega)]
      exact no g5 m5 (adv_no (fun hh => hh.2 hin))
    · refine ⟨_, rfl, ?_⟩
      rw [ltI_true.mpr (by omega)]
      refine hJ _ g5 (ifT (fun _ => ⟨⟨by omega, by omega⟩, rdw (le.trans m5.le) (fun ad3 _ c1 => ⟨_, c1, fun g3 n3 => ?_⟩)⟩) (fun hh => by cases hh))
      obtain ⟨a2, c2, w', hrun, g4, hw4, hs4, ho4, hst4, hl4⟩ := OwnE.app1 E55 55 (B := B) (Nat.le_trans hB (Nat.le_trans hsz m5.size)) (ho1.exm m5) n3 (x := w.2) rfl (by omega) (by unfold maxLen; omega)
      have hg3 : g.w.heap.size ≤ g3.w.heap.size := Nat.le_trans hsz (Nat.le_trans m5.size n3.ex.size)
      refine ⟨a2, _, c2, w', hrun, g4, hw4, hst4.mono hg3 (fun z hz hz2 => ?_), i64 (by omega) (by omega), m - 1, by omega, j + 1, by omega, by omega, ?_, ?_, Nat.le_trans hg3 hs4.le.size⟩
      · rcases hb1 z hz2 with hz3 | hz3
        · exact hz3
        · omega
      · rw [etk, adv_yes h1 hin]
        exact ho4
      · intro z hz
        rcases hl4 z hz with hz2 | hz2
        · exact hb1 z hz2
        · exact .inr (by omega)
  · have etk : ws.take j = ws := List.take_of_length_le (by omega)
    rw [etk] at ho1
    exact ⟨a', n', c', rfl, ho1.exm m6, hb1⟩
end Go.Proofs.Ytcpclpkcanikiaa
/- The reference of the collector: Order, Live, Reachable, moves. -/
set_option linter.unusedVariables false
namespace Go.Proofs.Ytcpclpkcanikiaa
open Go Go.Vc Go.RowKit

theorem len_le_off (l : List Wd) : ∀ (X : List Int), X.length ≤ offN l X
  | [] => Nat.zero_le _
  | y :: r => by
    have ih := len_le_off l r
    have e2 : offN l (y :: r) = lenB l y + offN l r := by unfold offN; simp
    have : 3 ≤ lenB l y := by unfold lenB; omega
    simp only [List.length_cons]
    omega
theorem L_le {l : List Wd} {L : List Int} (hg : GoodW l L) : L.length ≤ l.length := by
  have h1 := blks_off hg.1
  have h2 := len_le_off l L
  omega
/-- A block of the heap is read by the reference. -/
theorem k38x {l : List Wd} {L : List Int} (hg : GoodW l L) (hlen : l.length ≤ 65536) {x : Int} (hx : x ∈ L) {a : Option Addr} {ll c : Nat} {g : G} (h : SlE wordE g a ll c l) (fr lim : Int) : CallsP Try.prog 38 #[hpV a ll c fr lim, .int .i64 x] g fun u g' =>
    ∃ xa xc, u = .tuple ⟨[.int .i64 (l.getD x.toNat zW).2, .int .i64 (l.getD (x.toNat + 1) zW).2, .slice xa (cn l x).length xc]⟩ ∧ SlE wordE g' xa (cn l x).length xc (cn l x) := by
  obtain ⟨q, rfl, _, hhd⟩ := hg.1.mem x hx
  have hl := h.len
  refine (k38 l q hhd h (by omega) fr lim).mono ?_
  rintro u g1 m1 ⟨xa, xc, rfl, hs⟩
  have hcl := contW_len hhd
  rw [← hcl] at hs ⊢
  refine ⟨xa, xc, ?_, ?_⟩
  · unfold cn; rw [Int.toNat_natCast]
  · unfold cn; rw [Int.toNat_natCast]; exact hs
theorem ord_spec {l : List Wd} {L : List Int} (hg : GoodW l L) {roots : List Wd} (hrw : ∀ w ∈ roots, wordP L w) : OrdI l L (ord l L roots).length (ord l L roots) ∧ found [] roots <+: ord l L roots := ordF_spec hg (L.length + 1) 0 _ (OrdI.start hrw) (by omega)
/-- Order. -/
theorem k85 {l : List Wd} {L : List Int} (hg : GoodW l L) (hlen : l.length ≤ 65536) {ha : Option Addr} {hl hc : Nat} {g : G} (h : SlE wordE g ha hl hc l) (fr lim : Int) (roots : List Wd) {ra : Option Addr} {rl rc : Nat} (hr : SlE wordE g ra rl rc roots) (hrl : rl ≤ 65536) (hrw : ∀ w ∈ roots, wordP L w) :
    CallsP Try.prog 85 #[hpV ha hl hc fr lim, .slice ra rl rc] g fun u g' => ∃ a n c, u = .slice a n c ∧ SlE intE g' a n c (ord l L roots) := by
  refine P50.call85 ha hl hc fr lim ra rl rc g _ ?_
  have hLl := L_le hg
  have hllen := h.len
  unfold P50.F85
  have no : ∀ z, ¬ blkOf none z := by rintro z ⟨_, hh, _⟩; cases hh
  refine fun g1 m1 => ⟨blkOf none, fun b _ hb => absurd hb (no b), ?_⟩
  refine (k107 (by omega) (B := g.w.heap.size) (O := []) (by simp) (by simp) roots hrw (OwnE.nil g1 g.w.heap.size 3) m1.size (hr.exm m1) (by omega)).mono ?_
  rintro u g2 s2 ⟨a, n, c, rfl, ho, hb⟩
  have hI0 : OrdI l L 0 (found [] roots) := OrdI.start hrw
  have le2 : Le g g2 := m1.le.trans s2.le
  refine ⟨_, _, _, rfl, fun m a n c i g' => ∃ (j : Nat) (O : List Int), i = ((j : Nat) : Int) ∧ OwnE intE g' g.w.heap.size 3 a n c O ∧ OrdI l L j O ∧ ordF l m j O = ord l L roots ∧ L.length < m + j ∧ g.w.heap.size ≤ g'.w.heap.size, ⟨L.length + 1, 0, _, rfl, ho, hI0, rfl, by omega, le2.size⟩, ?_⟩
  rintro m a n c i g3 le ⟨j, O, rfl, ho, hI, hf, hfuel, hsz⟩
  have hol := ho.len
  have hOl := nodup_le hI.nodup hI.sub
  refine ifLt (fun hlt g4 m4 => ⟨⟨by omega, by omega⟩, ?_⟩) (fun hge g7 m7 => ?_)
  · have hjl : j < O.length := by omega
    have gj := List.getElem?_eq_getElem hjl
    generalize O[j] = x at gj
    have hxL := hI.sub x (List.mem_of_getElem? gj)
    refine rdI (ho.sl.exm m4) j rfl gj (fun ad h0 => ⟨_, h0, (k38x hg hlen hxL (((h.mono le2).mono le).exm m4) fr lim).mono ?_⟩)
    rintro u g5 m5 ⟨xa, xc, rfl, hx⟩
    have hcw : (cn l x).length ≤ 1000000 := by
      have h1 := offN_split (l := l) gj
      have h2 := off_le hg hI.nodup hI.sub
      have h3 : lenB l x = 3 + (cn l x).length := rfl
      omega
    have ho5 := (ho.exm m4).exm m5
    refine ⟨_, _, _, _, _, rfl, blkOf a, fun b hb hz => ?_, ?_⟩
    · have := ho.ge hz; omega
    refine (k107 (by omega) hI.nodup hI.sub (cn l x) (hg.2 x hxL) ho5 (Nat.le_trans hsz (m4.trans m5).size) hx hcw).mono ?_
    rintro u g6 s6 ⟨a', n', c', rfl, ho6, hb6⟩
    obtain ⟨f', rfl, hstep⟩ := ordF_step hI hfuel gj
    exact ⟨_, _, _, rfl, i64 (by omega) (by omega), f', by omega, j + 1, _, by omega, ho6, hI.next hg gj, by rw [← hstep]; exact hf, by omega, Nat.le_trans hsz (Nat.le_trans (m4.trans m5).size s6.le.size)⟩
  · rw [ordF_end (by omega)] at hf
    subst hf
    exact ⟨a, n, c, rfl, ho.sl.exm m7⟩
theorem offN_take_snoc {l : List Wd} {O : List Int} {j : Nat} {x : Int} (h : O[j]? = some x) : offN l (O.take (j + 1)) = offN l (O.take j) + lenB l x := by
  rw [take_snoc h, offN_append]
  simp [offN]
/-- Live of the reference. -/
theorem k48 {l : List Wd} {L : List Int} (hg : GoodW l L) (hlen : l.length ≤ 65536) {ha : Option Addr} {hl hc : Nat} {g : G} (h : SlE wordE g ha hl hc l) (fr lim : Int) (roots : List Wd) {ra : Option Addr} {rl rc : Nat} (hr : SlE wordE g ra rl rc roots) (hrl : rl ≤ 65536) (hrw : ∀ w ∈ roots, wordP L w) :
    CallsP Try.prog 48 #[hpV ha hl hc fr lim, .slice ra rl rc] g fun u _ => u = .int .i64 ((offN l (ord l L roots) : Nat) : Int) := by
  refine P50.call48 ha hl hc fr lim ra rl rc g _ ?_
  obtain ⟨hI, _⟩ := ord_spec hg hrw
  generalize hO : ord l L roots = O at hI
  have hoff := off_le hg hI.nodup hI.sub
  have hOl := len_le_off l O
  unfold P50.F48
  refine fun g1 m1 => (k85 hg hlen (h.exm m1) fr lim roots (hr.exm m1) hrl hrw).mono ?_
  rintro u g2 m2 ⟨a, n, c, rfl, ho⟩
  rw [hO] at ho
  have hol := ho.len
  refine ⟨_, _, _, rfl, fun m z i g' => ∃ j : Nat, i = ((j : Nat) : Int) ∧ j + m = n ∧ z = ((offN l (O.take j) : Nat) : Int), ⟨n, 0, rfl, by omega, rfl⟩, ?_⟩
  rintro m z i g3 le ⟨j, rfl, hjm, rfl⟩
  refine ifLt (fun hlt g4 m4 => ⟨⟨by omega, by omega⟩, ?_⟩) (fun hge g6 m6 => ?_)
  · have hjl : j < O.length := by omega
    have gj := List.getElem?_eq_getElem hjl
    generalize O[j] = x at gj
    have hxL := hI.sub x (List.mem_of_getElem? gj)
    have h1 := offN_split (l := l) gj
    have h3 : lenB l x = 3 + (cn l x).length := rfl
    have h4 := offN_take_snoc (l := l) gj
    refine rdI ((ho.mono le).exm m4) j rfl gj (fun ad h0 => ⟨_, h0, (k38x hg hlen hxL (((h.exm (m1.trans m2)).mono le).exm m4) fr lim).mono ?_⟩)
    rintro u g5 m5 ⟨xa, xc, rfl, hx⟩
    exact ⟨_, _, _, _, _, rfl, i64 (by omega) (by omega), i64 (by omega) (by omega), i64 (by omega) (by omega), m - 1, by omega, j + 1, by omega, by omega, by omega⟩
  · have : O.take j = O := List.take_of_length_le (by omega)
    rw [this]
/-- Where the copies go, as a list. -/
def offs (l : List Wd) (O : List Int) (i : Nat) : List Int := (List.range i).map fun j => ((offN l (O.take j) : Nat) : Int)
theorem offs_get {l : List Wd} {O : List Int} {i j : Nat} (h : j < i) : (offs l O i)[j]? = some ((offN l (O.take j) : Nat) : Int) := by
  unfold offs
  rw [List.getElem?_map, List.getElem?_range h]
  rfl
theorem offs_snoc (l : List Wd) (O : List Int) (i : Nat) : offs l O (i + 1) = offs l O i ++ [((offN l (O.take i) : Nat) : Int)] := by
  unfold offs
  rw [List.range_succ, List.map_append]
  rfl
/-- moves.all. -/
theorem k86 (l : List Wd) (O : List Int) (hO : O.length ≤ 65536) (ws : List Wd) (hw : ∀ w ∈ ws, w.1 = true → w.2 ∈ O) {fa : Option Addr} {fl fc : Nat} {ta : Option Addr} {tl tc : Nat} {wa : Option Addr} {wl wcap : Nat} {g : G} (hf : SlE intE g fa fl fc O) (ht : SlE intE g ta tl tc (offs l O O.length)) (hr : SlE wordE g wa wl wcap ws) (hwl : wl ≤ 1000000) :
    CallsP Try.prog 86 #[.agg ⟨[.slice fa fl fc, .slice ta tl tc]⟩, .slice wa wl wcap] g fun u g' => ∃ a c, u = .slice a wl c ∧ OwnE wordE g' g.w.heap.size 41 a wl c (ws.map (mv l O)) := by
  refine P50.call86 fa fl fc ta tl tc wa wl wcap g _ ?_
  have hl := hr.len
  have hfl := hf.len
  have htl := ht.len
  have htl2 : tl = O.length := by rw [← htl]; simp [offs]
  unfold P50.F86
  refine ⟨fun m a n c i g' => ∃ j : Nat, i = ((j : Nat) : Int) ∧ j + m = wl ∧ n = j ∧ OwnE wordE g' g.w.heap.size 41 a n c ((ws.take j).map (mv l O)) ∧ g.w.heap.size ≤ g'.w.heap.size, fun g1 m1 => ⟨wl, 0, rfl, by omega, rfl, OwnE.nil _ _ _, m1.size⟩, ?_⟩
  rintro m a n c i g2 le ⟨j, rfl, hjm, rfl, ho, hsz⟩
  refine ifLt (fun hlt => ⟨⟨by omega, by omega⟩, ?_⟩) (fun hge g12 m12 => ?_)
  · have hjl : n < ws.length := by omega
    have gj := List.getElem?_eq_getElem hjl
    generalize ws[n] = w at gj
    have etk : (ws.take (n + 1)).map (mv l O) = (ws.take n).map (mv l O) ++ [mv l O w] := by rw [take_snoc gj, List.map_append]; rfl
    refine (hr.mono le).rd (i := n) gj ?_
    rintro r ad rfl hrr
    have c0 := (hrr 0 _ rfl).1
    rw [Addr.add_zero'] at c0
    refine ⟨w.1, w.2, by rw [Int.toNat_natCast]; exact c0, by rw [Int.toNat_natCast]; exact (hrr 1 _ rfl).1, ?_⟩
    refine ifT (fun h1 g3 m3 g4 m4 => ?_) (fun h1 g9 m9 g10 n10 => ?_)
    · have hin := hw w (List.mem_of_getElem? gj) h1
      refine (k93 O w.2 (((hf.mono le).exm m3).exm m4) (by omega)).mono ?_
      rintro u g5 m5 (⟨_, rfl⟩ | ⟨hn, _⟩)
      rotate_left
      · exact absurd hin hn
      have hix := List.idxOf_lt_length_of_mem hin
      refine ⟨_, rfl, ⟨by omega, by omega⟩, rdI ((((ht.mono le).exm m3).exm m4).exm m5) (O.idxOf w.2) rfl (offs_get hix) (fun ad h0 => ⟨_, h0, fun g6 m6 g7 n7 => ?_⟩)⟩
      have m26 := (m3.trans m4).trans (m5.trans m6)
      have emv : mv l O w = (true, ((offN l (O.take (O.idxOf w.2)) : Nat) : Int)) := by unfold mv; rw [if_pos h1]
      obtain ⟨a2, c2, w', hrun, g8, hw8, hs8, ho8, _, _⟩ := OwnE.app1 E22 22 (B := g.w.heap.size) (Nat.le_trans hsz m26.size) (ho.exm m26) n7 (x := mv l O w) (by rw [emv, h1]; rfl) (by omega) (by unfold maxLen; omega)
      refine ⟨a2, _, c2, w', hrun, g8, hw8, hs8, i64 (by omega) (by omega), m - 1, by omega, n + 1, by omega, by omega, rfl, ?_, Nat.le_trans hsz (Nat.le_trans m26.size (Nat.le_trans n7.ex.size hs8.le.size))⟩
      rw [etk]
      exact ho8
    · have emv : mv l O w = w := by unfold mv; rw [if_neg (by rw [h1]; decide)]
      obtain ⟨a2, c2, w', hrun, g8, hw8, hs8, ho8, _, _⟩ := OwnE.app1 E22 22 (B := g.w.heap.size) (Nat.le_trans hsz m9.size) (ho.exm m9) n10 (x := mv l O w) (by rw [emv]; rfl) (by omega) (by unfold maxLen; omega)
      refine ⟨a2, _, c2, w', hrun, g8, hw8, hs8, i64 (by omega) (by omega), m - 1, by omega, n + 1, by omega, by omega, rfl, ?_, Nat.le_trans hsz (Nat.le_trans m9.size (Nat.le_trans n10.ex.size hs8.le.size))⟩
      rw [etk]
      exact ho8
  · have : ws.take n = ws := List.take_of_length_le (by omega)
    rw [this] at ho
    have : n = wl := by omega
    subst this
    exact ⟨a, c, rfl, ho.exm m12⟩
end Go.Proofs.Ytcpclpkcanikiaa
/- The collector: the collected heap, by the reference and by the code. -/
set_option linter.unusedVariables false
namespace Go.Proofs.Ytcpclpkcanikiaa
open Go Go.Vc Go.RowKit

theorem closed {l : List Wd} {L : List Int} {O : List Int} (h : OrdI l L O.length O) {x : Int} (hx : x ∈ O) : ∀ w ∈ cn l x, w.1 = true → w.2 ∈ O := by
  obtain ⟨j, hj⟩ := List.getElem?_of_mem hx
  exact h.cl j x (List.getElem?_eq_some_iff.1 hj).1 hj
/-- Collect of the reference. -/
theorem k49 {l : List Wd} {L : List Int} (hg : GoodW l L) (hlen : l.length ≤ 65536) {ha : Option Addr} {hl hc : Nat} {g : G} (h : SlE wordE g ha hl hc l) (fr lim : Int) (roots : List Wd) {ra : Option Addr} {rl rc : Nat} (hr : SlE wordE g ra rl rc roots) (hrl : rl ≤ 65536) (hrw : ∀ w ∈ roots, wordP L w) :
    CallsP Try.prog 49 #[hpV ha hl hc fr lim, .slice ra rl rc] g fun u g' => ∃ a c oa oc, u = .tuple ⟨[hpV a (offN l (ord l L roots)) c ((offN l (ord l L roots) : Nat) : Int) lim, .slice oa rl oc]⟩ ∧ SlE wordE g' a (offN l (ord l L roots)) c (colW l (ord l L roots)) ∧ SlE wordE g' oa rl oc (roots.map (mv l (ord l L roots))) := by
  refine P50.call49 ha hl hc fr lim ra rl rc g _ ?_
  obtain ⟨hI, hpre⟩ := ord_spec hg hrw
  generalize hO : ord l L roots = O at hI hpre ⊢
  have hoff := off_le hg hI.nodup hI.sub
  have hOl := len_le_off l O
  have hrO : ∀ w ∈ roots, w.1 = true → w.2 ∈ O := fun w hw h1 => hpre.subset (found_mem _ hw h1)
  unfold P50.F49
  refine fun g1 m1 => (k85 hg hlen (h.exm m1) fr lim roots (hr.exm m1) hrl hrw).mono ?_
  rintro u g2 m2 ⟨a, n, c, rfl, ho⟩
  rw [hO] at ho
  have hol := ho.len
  have hsz2 : g.w.heap.size ≤ g2.w.heap.size := (m1.trans m2).size
  refine ⟨_, _, _, rfl, fun m ta tn tc z i g' => ∃ j : Nat, i = ((j : Nat) : Int) ∧ j + m = n ∧ z = ((offN l (O.take j) : Nat) : Int) ∧ tn = j ∧ OwnE intE g' g.w.heap.size 3 ta tn tc (offs l O j) ∧ g.w.heap.size ≤ g'.w.heap.size, ⟨n, 0, rfl, by omega, rfl, rfl, OwnE.nil _ _ _, hsz2⟩, ?_⟩
  rintro m ta tn tc z i g3 le ⟨j, rfl, hjm, rfl, rfl, hof, hsz⟩
  refine ifLt (fun hlt g4 m4 => ⟨⟨by omega, by omega⟩, ?_⟩) (fun hge g8 m8 => ?_)
  · have hjl : tn < O.length := by omega
    have gj := List.getElem?_eq_getElem hjl
    generalize O[tn] = x at gj
    have hxL := hI.sub x (List.mem_of_getElem? gj)
    have h1 := offN_split (l := l) gj
    have h3 : lenB l x = 3 + (cn l x).length := rfl
    have h4 := offN_take_snoc (l := l) gj
    refine rdI ((ho.mono le).exm m4) tn rfl gj (fun ad h0 => ⟨_, h0, (k38x hg hlen hxL (((h.exm (m1.trans m2)).mono le).exm m4) fr lim).mono ?_⟩)
    rintro u g5 m5 ⟨xa, xc, rfl, hx⟩
    refine ⟨_, _, _, _, _, rfl, fun g6 n6 => ?_⟩
    obtain ⟨a2, c2, w', hrun, g7, hw7, hs7, ho7, _, _⟩ := OwnE.app1 E55 55 (B := g.w.heap.size) (Nat.le_trans hsz (m4.trans m5).size) (hof.exm (m4.trans m5)) n6 (x := ((offN l (O.take tn) : Nat) : Int)) rfl (by omega) (by unfold maxLen; omega)
    refine ⟨a2, _, c2, w', hrun, g7, hw7, hs7, i64 (by omega) (by omega), i64 (by omega) (by omega), i64 (by omega) (by omega), m - 1, by omega, tn + 1, by omega, by omega, by omega, rfl, ?_, Nat.le_trans hsz (Nat.le_trans (m4.trans m5).size (Nat.le_trans n6.ex.size hs7.le.size))⟩
    rw [offs_snoc]
    exact ho7
  · have hjn : tn = O.length := by omega
    have etk : O.take tn = O := List.take_of_length_le (by omega)
    rw [hjn] at hof
    have hof8 := hof.sl.exm m8
    rw [etk]
    have hsz8 : g.w.heap.size ≤ g8.w.heap.size := Nat.le_trans hsz m8.size
    refine ⟨fun m i oa on oc o1 o2 g' => ∃ j : Nat, i = ((j : Nat) : Int) ∧ j + m = n ∧ o1 = ((offN l O : Nat) : Int) ∧ o2 = lim ∧ on = offN l (O.take j) ∧ OwnE wordE g' g.w.heap.size 41 oa on oc (allW l (fun x => (cn l x).map (mv l O)) (O.take j)) ∧ g.w.heap.size ≤ g'.w.heap.size,
      fun g9 m9 => ⟨n, 0, rfl, by omega, rfl, rfl, rfl, OwnE.nil _ _ _, Nat.le_trans hsz8 m9.size⟩, ?_⟩
    rintro m i oa on oc o1 o2 g10 le10 ⟨j, rfl, hjm, rfl, rfl, rfl, hout, hsz10⟩
    refine ifLt (fun hlt g11 m11 => ⟨⟨by omega, by omega⟩, ?_⟩) (fun hge2 g24 m24 g25 m25 => ?_)
    · have hjl : j < O.length := by omega
      have gj := List.getElem?_eq_getElem hjl
      generalize O[j] = x at gj
      have hxO := List.mem_of_getElem? gj
      have hxL := hI.sub x hxO
      have h1 := offN_split (l := l) gj
      have h3 : lenB l x = 3 + (cn l x).length := rfl
      have h4 := offN_take_snoc (l := l) gj
      have m02 := m1.trans m2
      refine rdI ((((ho.mono le).exm m8).mono le10).exm m11) j rfl gj (fun ad h0 => ⟨_, h0, (k38x hg hlen hxL (((((h.exm m02).mono le).exm m8).mono le10).exm m11) fr o2).mono ?_⟩)
      rintro u g12 m12 ⟨xa, xc, rfl, hx⟩
      refine ⟨_, _, _, _, _, rfl, fun g13 n13 => ?_⟩
      have m1113 := (m11.trans m12).trans n13.ex
      have hlit : SlE wordE g13 (some ⟨g12.w.heap.size, 0, none⟩) 3 3 [(false, (l.getD x.toNat zW).2), (false, (l.getD (x.toNat + 1) zW).2), (false, (((cn l x).length : Nat) : Int))] :=
        n13.sle (E := wordE) (wc_rws g12 [(false, (l.getD x.toNat zW).2), (false, (l.getD (x.toNat + 1) zW).2), (false, (((cn l x).length : Nat) : Int))]) (by unfold maxLen; simp)
      obtain ⟨a2, c2, w', hrun, g14, hw14, hs14, ho14, _, _⟩ := OwnE.app E22 22 (B := g.w.heap.size) (Nat.le_trans hsz10 m1113.size) (hout.exm m1113) hlit (by omega) (by unfold maxLen; omega)
      refine ⟨a2, _, c2, w', hrun, g14, hw14, hs14, fun g15 m15 => ?_⟩
      have fin : ∀ g16, Ex g15 g16 → CallsP Try.prog 86 #[.agg ⟨[.slice a n c, .slice ta tn tc]⟩, .slice xa (cn l x).length xc] g16 fun v g17 => ∃ xa_1 xl_1 xc_1, v = .slice xa_1 xl_1 xc_1 ∧ ∃ xa_2 xl_2 xc_2 wo3, Sem.run Try.prog (Builtin.append_ #[22, 22] 22 #[.slice a2 (offN l (O.take j) + 3) c2, .slice xa_1 xl_1 xc_1]) g17.w = .ok (.slice xa_2 xl_2 xc_2) wo3 ∧ ∃ g18, g18.w = wo3 ∧ Stp g.w.heap.size nobody g17 g18 ∧ InI64 (((j : Nat) : Int) + 1) ∧ ∀ g19, Ex g18 g19 → ∃ m_1, m_1 < m ∧ ∃ j_1 : Nat, ((j : Nat) : Int) + 1 = ((j_1 : Nat) : Int) ∧ j_1 + m_1 = n ∧ ((offN l O : Nat) : Int) = ((offN l O : Nat) : Int) ∧ o2 = o2 ∧ xl_2 = offN l (O.take j_1) ∧ OwnE wordE g19 g.w.heap.size 41 xa_2 xl_2 xc_2 (allW l (fun x => (cn l x).map (mv l O)) (O.take j_1)) ∧ g.w.heap.size ≤ g19.w.heap.size := by
        intro g16 m16
        have le1016 : Le g10 g16 := (m1113.le.trans hs14.le).trans (m15.trans m16).le
        have hx16 := ((((hx.exm n13.ex).mono hs14.le).exm m15).exm m16)
        refine (k86 l O (by omega) (cn l x) (closed hI hxO) (((ho.mono le).exm m8).mono (le10.trans le1016)) (by rw [hjn]; exact hof8.mono (le10.trans le1016)) hx16 (by omega)).mono ?_
        rintro u g17 m17 ⟨ya, yc, rfl, hy⟩
        obtain ⟨a3, c3, w3, hrun3, g18, hw18, hs18, ho18, _, _⟩ := OwnE.app E22 22 (B := g.w.heap.size) (Nat.le_trans hsz10 (Nat.le_trans le1016.size m17.size)) (((ho14.exm m15).exm m16).exm m17) hy.sl (by omega) (by unfold maxLen; omega)
        refine ⟨_, _, _, rfl, a3, _, c3, w3, hrun3, g18, hw18, hs18, i64 (by omega) (by omega), fun g19 m19 => ⟨m - 1, by omega, j + 1, by omega, by omega, rfl, rfl, by omega, ?_, Nat.le_trans hsz10 (Nat.le_trans le1016.size (Nat.le_trans m17.size (Nat.le_trans hs18.le.size m19.size)))⟩⟩
        have e : allW l (fun x => (cn l x).map (mv l O)) (O.take (j + 1)) = allW l (fun x => (cn l x).map (mv l O)) (O.take j) ++ [(false, (l.getD x.toNat zW).2), (false, (l.getD (x.toNat + 1) zW).2), (false, (((cn l x).length : Nat) : Int))] ++ (cn l x).map (mv l O) := by
          rw [take_snoc gj, allW_append, List.append_assoc]
          unfold allW
          simp only [List.flatMap_cons, List.flatMap_nil, List.append_nil]
          rw [blkM_get, List.length_map]
          rfl
        rw [e]
        exact ho18.exm m19
      repeat' (first | refine rep ?_ _ | refine And.intro ?_ ?_)
      all_goals exact fin
    · have hjn2 : j = O.length := by omega
      have etk2 : O.take j = O := List.take_of_length_le (by omega)
      have m02 := m1.trans m2
      have le025 : Le g g25 := ((((m02.le.trans le).trans m8.le).trans le10).trans m24.le).trans m25.le
      refine (k86 l O (by omega) roots hrO ((((ho.mono le).exm m8).mono le10).exm (m24.trans m25)) (by rw [hjn]; exact (hof8.mono le10).exm (m24.trans m25)) (hr.mono le025) (by omega)).mono ?_
      rintro u g26 m26 ⟨ya, yc, rfl, hy⟩
      refine ⟨_, _, _, rfl, fun g27 m27 => ⟨oa, oc, ya, yc, ?_, ?_, hy.sl.exm m27⟩⟩
      · rw [etk2]; rfl
      · have := ((hout.sl.exm (m24.trans m25)).exm m26).exm m27
        rw [etk2] at this
        exact this
end Go.Proofs.Ytcpclpkcanikiaa
/- The collector: Collect, Room, Live; Reachable of the reference. -/
set_option linter.unusedVariables false
namespace Go.Proofs.Ytcpclpkcanikiaa
open Go Go.Vc Go.RowKit

/-- A right heap, and right roots. -/
structure ColOk (l : List Wd) (fr lim : Int) (roots : List Wd) (L : List Int) : Prop where
  valid : validP l fr lim
  len : roots.length ≤ 65536
  good : GoodW l L
  wd : ∀ w ∈ roots, wordP L w
theorem ColOk.small {l : List Wd} {fr lim : Int} {roots : List Wd} {L : List Int} (h : ColOk l fr lim roots L) : l.length ≤ 65536 ∧ fr = ((l.length : Nat) : Int) ∧ 0 ≤ lim ∧ lim ≤ 65536 ∧ fr ≤ lim := by
  obtain ⟨a, b, c, d, _⟩ := h.valid
  omega
theorem ok_of {l : List Wd} {fr lim : Int} {roots : List Wd} (h : faultN l fr lim roots = 0) : ∃ L, ColOk l fr lim roots L := by
  obtain ⟨a, b, L, c, d⟩ := fault_ok h
  exact ⟨L, a, b, c, d⟩
theorem ok_zero {l : List Wd} {fr lim : Int} {roots : List Wd} {L : List Int} (h : ColOk l fr lim roots L) : faultN l fr lim roots = 0 :=
  fault_0 h.valid (by have := h.len; omega) (sts_iff.2 h.good.1) (fun ⟨w, hw, hn⟩ => hn (h.wd w hw))
theorem fault_lt (l : List Wd) (fr lim : Int) (roots : List Wd) : 0 ≤ faultN l fr lim roots ∧ faultN l fr lim roots ≤ 5 := by
  unfold faultN
  split
  · omega
  · split
    · omega
    · split <;> omega
def zeroH : Value := hpV none 0 0 0 0
/-- What Collect returns. -/
def CollSay (l : List Wd) (fr lim : Int) (roots : List Wd) (u : Value) (g : G) : Prop :=
  (faultN l fr lim roots ≠ 0 ∧ u = .tuple ⟨[zeroH, nilV, .int .i64 (faultN l fr lim roots)]⟩) ∨ (∃ L, ColOk l fr lim roots L ∧ ∃ a c oa oc, u = .tuple ⟨[hpV a (offN l (ord l L roots)) c ((offN l (ord l L roots) : Nat) : Int) lim, .slice oa roots.length oc, .int .i64 0]⟩ ∧
    SlE wordE g a (offN l (ord l L roots)) c (colW l (ord l L roots)) ∧ SlE wordE g oa roots.length oc (roots.map (mv l (ord l L roots))))
theorem k43 (l roots : List Wd) (hwf : ∀ w ∈ roots, (Lit.int .i64 w.2).wf = true) {ha : Option Addr} {hl hc : Nat} {ra : Option Addr} {rl rc : Nat} {g : G} (h : SlE wordE g ha hl hc l) (hr : SlE wordE g ra rl rc roots) (fr lim : Int) :
    CallsP Try.prog 43 #[hpV ha hl hc fr lim, .slice ra rl rc] g fun u g' => CollSay l fr lim roots u g' := by
  refine P50.call43 ha hl hc fr lim ra rl rc g _ ?_
  have hrl := hr.len
  unfold P50.F43
  refine fun g1 m1 => (k83 l roots hwf (h.exm m1) (hr.exm m1) fr lim).mono ?_
  rintro u g2 m2 ⟨x0, rfl⟩
  refine ⟨_, _, rfl, ifNe (fun hf g3 m3 => .inl ⟨hf, rfl⟩) (fun hf => ?_)⟩
  obtain ⟨L, hok⟩ := ok_of hf
  have m02 := m1.trans m2
  refine (k84 hok.good hok.small.1 (h.exm m02) fr lim roots (hr.exm m02) (by have := hok.len; omega) hok.wd).mono ?_
  rintro u g4 m4 ⟨D, ta, tc, mb, oa, oc, rfl, hm, hs, hmap, ho⟩
  refine ⟨_, _, _, _, rfl, _, _, _, _, _, hm.rd (j := 3) rfl, ?_, ?_, fun g5 m5 => .inr ⟨L, hok, ta, tc, oa, oc, rfl, hs.exm m5, ho.exm m5⟩⟩
  · rw [addr_add_add]; exact hm.rd (j := 4) rfl
  · rw [addr_add_add]; exact hm.rd (j := 5) rfl
theorem k56 (l roots : List Wd) (hwf : ∀ w ∈ roots, (Lit.int .i64 w.2).wf = true) {ha : Option Addr} {hl hc : Nat} {ra : Option Addr} {rl rc : Nat} {g : G} (h : SlE wordE g ha hl hc l) (hr : SlE wordE g ra rl rc roots) (fr lim : Int) :
    CallsP Try.prog 56 #[hpV ha hl hc fr lim, .slice ra rl rc] g fun u g' => (faultN l fr lim roots ≠ 0 ∧ u = .tuple ⟨[.int .i64 0, .int .i64 (faultN l fr lim roots)]⟩) ∨ (∃ L, ColOk l fr lim roots L ∧ u = .tuple ⟨[.int .i64 ((offN l (ord l L roots) : Nat) : Int), .int .i64 0]⟩) := by
  refine P50.call56 ha hl hc fr lim ra rl rc g _ ?_
  have hrl := hr.len
  unfold P50.F56
  refine fun g1 m1 => (k83 l roots hwf (h.exm m1) (hr.exm m1) fr lim).mono ?_
  rintro u g2 m2 ⟨x0, rfl⟩
  refine ⟨_, _, rfl, ifNe (fun hf g3 m3 => .inl ⟨hf, rfl⟩) (fun hf => ?_)⟩
  obtain ⟨L, hok⟩ := ok_of hf
  have m02 := m1.trans m2
  refine (k84 hok.good hok.small.1 (h.exm m02) fr lim roots (hr.exm m02) (by have := hok.len; omega) hok.wd).mono ?_
  rintro u g4 m4 ⟨D, ta, tc, mb, oa, oc, rfl, hm, hs, hmap, ho⟩
  exact ⟨_, _, _, _, rfl, _, _, _, hm.rd (j := 3) rfl, fun g5 m5 => .inr ⟨L, hok, rfl⟩⟩
/-- What Room returns. -/
def RoomSay (l : List Wd) (fr lim : Int) (roots : List Wd) (need : Int) (u : Value) (g : G) : Prop :=
  (faultN l fr lim roots ≠ 0 ∧ u = .tuple ⟨[zeroH, nilV, .int .i64 (faultN l fr lim roots)]⟩) ∨ (∃ L, ColOk l fr lim roots L ∧
    ((¬ (0 ≤ need ∧ need ≤ 65536) ∧ u = .tuple ⟨[zeroH, nilV, .int .i64 2]⟩) ∨ ((0 ≤ need ∧ need ≤ 65536) ∧
      ((need ≤ lim - fr ∧ ∃ a c oa oc, u = .tuple ⟨[hpV a l.length c fr lim, .slice oa roots.length oc, .int .i64 0]⟩ ∧ SlE wordE g a l.length c l ∧ SlE wordE g oa roots.length oc roots) ∨ (¬ need ≤ lim - fr ∧
        ((lim - ((offN l (ord l L roots) : Nat) : Int) < need ∧ u = .tuple ⟨[zeroH, nilV, .int .i64 25]⟩) ∨ (¬ lim - ((offN l (ord l L roots) : Nat) : Int) < need ∧ ∃ a c oa oc, u = .tuple ⟨[hpV a (offN l (ord l L roots)) c ((offN l (ord l L roots) : Nat) : Int) lim, .slice oa roots.length oc, .int .i64 0]⟩ ∧
          SlE wordE g a (offN l (ord l L roots)) c (colW l (ord l L roots)) ∧ SlE wordE g oa roots.length oc (roots.map (mv l (ord l L roots))))))))))
theorem k46 (l roots : List Wd) (hwf : ∀ w ∈ roots, (Lit.int .i64 w.2).wf = true) {ha : Option Addr} {hl hc : Nat} {ra : Option Addr} {rl rc : Nat} {g : G} (h : SlE wordE g ha hl hc l) (hr : SlE wordE g ra rl rc roots) (fr lim need : Int) :
    CallsP Try.prog 46 #[hpV ha hl hc fr lim, .slice ra rl rc, .int .i64 need] g fun u g' => RoomSay l fr lim roots need u g' := by
  refine P50.call46 ha hl hc fr lim ra rl rc need g _ ?_
  have hrl := hr.len
  have hll := h.len
  unfold P50.F46
  refine fun g1 m1 => (k83 l roots hwf (h.exm m1) (hr.exm m1) fr lim).mono ?_
  rintro u g2 m2 ⟨x0, rfl⟩
  refine ⟨_, _, rfl, ifNe (fun hf g3 m3 => .inl ⟨hf, rfl⟩) (fun hf => ?_)⟩
  obtain ⟨L, hok⟩ := ok_of hf
  obtain ⟨hs1, hs2, hs3, hs4, hs5⟩ := hok.small
  have hrlen := hok.len
  have hoff := off_le hok.good (ord_spec hok.good hok.wd).1.nodup (ord_spec hok.good hok.wd).1.sub
  have m02 := m1.trans m2
  intro J hJ
  have main : (0 ≤ need ∧ need ≤ 65536) → J none 0 0 0 0 g2 := by
    intro hn
    refine hJ _ _ _ _ _ g2 ⟨i64 (by omega) (by omega), ifLe (fun hroom => ?_) (fun hroom => ?_)⟩
    · refine (k68 l (h.exm m02) (by omega)).mono ?_
      rintro u g5 m5 ⟨a, c, rfl, ho⟩
      refine ⟨_, _, _, rfl, fun g6 m6 g7 m7 => (k68 roots (hr.exm ((m02.trans m5).trans (m6.trans m7))) (by omega)).mono ?_⟩
      rintro u g8 m8 ⟨oa, oc, rfl, ho2⟩
      refine ⟨_, _, _, rfl, fun g9 m9 => .inr ⟨L, hok, .inr ⟨hn, .inl ⟨hroom, a, c, oa, oc, ?_, ?_, ?_⟩⟩⟩⟩
      · rw [hll, hrl]; rfl
      · rw [hll]; exact ho.sl.exm ((m6.trans m7).trans (m8.trans m9))
      · rw [hrl]; exact ho2.sl.exm m9
    · refine (k84 hok.good hs1 (h.exm m02) fr lim roots (hr.exm m02) (by omega) hok.wd).mono ?_
      rintro u g10 m10 ⟨D, ta, tc, mb, oa, oc, rfl, hm, hs, hmap, ho⟩
      refine ⟨_, _, _, _, rfl, fun g11 m11 => ?_⟩
      have hm11 := hm.ex m11
      refine ⟨lim, by rw [addr_add_add]; exact hm11.rd (j := 5) rfl, ((offN l (ord l L roots) : Nat) : Int), by rw [addr_add_add]; exact hm11.rd (j := 4) rfl, i64 (by omega) (by omega), ifLt (fun hfull g12 _ => .inr ⟨L, hok, .inr ⟨hn, .inr ⟨by omega, .inl ⟨hfull, rfl⟩⟩⟩⟩) (fun hfull => ?_)⟩
      refine ⟨_, _, _, _, _, hm11.rd (j := 3) rfl, ?_, ?_, fun g13 m13 => .inr ⟨L, hok, .inr ⟨hn, .inr ⟨by omega, .inr ⟨by omega, ta, tc, oa, oc, rfl, (hs.exm m11).exm m13, (ho.exm m11).exm m13⟩⟩⟩⟩⟩
      · rw [addr_add_add]; exact hm11.rd (j := 4) rfl
      · rw [addr_add_add]; exact hm11.rd (j := 5) rfl
  exact ifLt (fun hh g14 _ => .inr ⟨L, hok, .inl ⟨by omega, rfl⟩⟩) (fun hh => ifLt (fun hh2 g15 _ => .inr ⟨L, hok, .inl ⟨by omega, rfl⟩⟩) (fun hh2 => main (by omega)))
/-- great. -/
theorem k42 {ha : Option Addr} {hl hc : Nat} {la : Option Addr} {ll lc : Nat} (fr lim : Int) (g : G) : CallsP Try.prog 42 #[hpV ha hl hc fr lim, .slice la ll lc] g fun u _ => ∃ b : Bool, u = .bool b ∧ (b = false → hl ≤ 600 ∧ (ll ≤ 100 ∨ 65536 < ll ∧ ll ≤ 70000)) := by
  refine P50.call42 ha hl hc fr lim la ll lc g _ ?_
  unfold P50.F42
  refine ifLt (fun _ g1 _ => ⟨true, rfl, fun hh => (by cases hh)⟩) (fun h1 => ifLt (fun h2 => ifLe (fun _ g2 _ => ⟨true, rfl, fun hh => (by cases hh)⟩) (fun h3 g3 _ => ⟨_, rfl, fun hh => ?_⟩)) (fun h2 g4 _ => ⟨_, rfl, fun hh => ?_⟩))
  · have := ltI_false.mp hh; omega
  · omega
/-- none. -/
theorem k44 (l : List Wd) {ha : Option Addr} {hl hc : Nat} {g : G} (h : SlE wordE g ha hl hc l) (fr lim : Int) : CallsP Try.prog 44 #[hpV ha hl hc fr lim] g fun u _ => u = .bool (tf (l = [] ∧ fr = 0 ∧ lim = 0)) := by
  refine P50.call44 ha hl hc fr lim g _ ?_
  unfold P50.F44
  refine fun g1 m1 => (k20 l [] (h.exm m1) (SlE.zero g1) fr lim 0 0).mono ?_
  rintro u g2 m2 rfl
  exact ⟨_, rfl, fun g3 _ => rfl⟩
end Go.Proofs.Ytcpclpkcanikiaa
