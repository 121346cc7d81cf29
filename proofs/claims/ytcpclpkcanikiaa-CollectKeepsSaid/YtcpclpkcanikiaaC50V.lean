/- Joined texts. -/
import Derived.Test.YtcpclpkcanikiaaC50P
/- The collector: a collected heap is collected again, in plain Lean; Reachable of the reference. -/
set_option linter.unusedVariables false
namespace Go.Proofs.Ytcpclpkcanikiaa
open Go Go.Vc Go.RowKit

/-- A block and its copy. -/
def Cp (l : List Wd) (O : List Int) (x y : Int) : Prop := x ∈ O ∧ y = ((offN l (O.take (O.idxOf x)) : Nat) : Int)
theorem cp_bij (l : List Wd) (O : List Int) : Bij (Cp l O) := by
  refine ⟨fun x y y' h h' => by rw [h.2, h'.2], fun x x' y h h' => ?_⟩
  have h1 := h.2
  rw [h'.2] at h1
  have i1 := List.idxOf_lt_length_of_mem h.1
  have i2 := List.idxOf_lt_length_of_mem h'.1
  have := off_inj (l := l) (Nat.le_of_lt i2) (Nat.le_of_lt i1) (Int.ofNat_inj.mp h1)
  have g1 := idx_get h.1
  have g2 := idx_get h'.1
  rw [this, g1] at g2
  exact Option.some.inj g2
theorem cp_mt {l : List Wd} {O : List Int} : ∀ {ws : List Wd}, (∀ w ∈ ws, w.1 = true → w.2 ∈ O) → All2 (Mt (Cp l O)) ws (ws.map (mv l O))
  | [], _ => .nil
  | w :: ws, h => by
    refine .cons ?_ (cp_mt (fun z hz => h z (by simp [hz])))
    by_cases h1 : w.1 = true
    · rw [mv_ref h1]
      exact ⟨h1, fun hh => (by rw [h1] at hh; cases hh), fun _ => ⟨h w (by simp) h1, rfl⟩⟩
    · rw [mv_no h1]
      exact ⟨rfl, fun _ => rfl, fun hh => absurd hh h1⟩
theorem cp_blk {l : List Wd} {L : List Int} (hg : GoodW l L) {O : List Int} (hI : OrdI l L O.length O) : ∀ x y, Cp l O x y → Blk2 l (colW l O) (Cp l O) x y := by
  rintro x y ⟨hx, rfl⟩
  obtain ⟨_, c2, c3, c4⟩ := col_at hg hI (idx_get hx)
  refine ⟨?_, ?_, ?_⟩
  · rw [Int.toNat_natCast, c3]
  · rw [Int.toNat_natCast, c4]
  · have : cn (colW l O) ((offN l (O.take (O.idxOf x)) : Nat) : Int) = (cn l x).map (mv l O) := by unfold cn; rw [Int.toNat_natCast, c2]; rfl
    rw [this]
    exact cp_mt (closed hI hx)
theorem cp_list {l : List Wd} {O : List Int} (hn : O.Nodup) : ∀ {K : List Int}, All2 (Cp l O) O K → K = offs l O O.length := by
  intro K h
  have hl := h.length
  apply List.ext_getElem?
  intro i
  rcases Nat.lt_or_ge i O.length with hi | hi
  · have gk := List.getElem?_eq_getElem (show i < K.length by omega)
    obtain ⟨x, hx, _, hc⟩ := h.get gk
    have : O.idxOf x = i := nodup_inj hn (idx_get (List.mem_of_getElem? hx)) hx
    rw [gk, offs_get hi, hc, this]
  · rw [List.getElem?_eq_none (by omega), List.getElem?_eq_none (by simp [offs]; omega)]
/-- A collected heap, collected again. -/
theorem again {l : List Wd} {L : List Int} (hg : GoodW l L) {roots : List Wd} (hr : ∀ w ∈ roots, wordP L w) :
    ord (colW l (ord l L roots)) (offs l (ord l L roots) (ord l L roots).length) (roots.map (mv l (ord l L roots))) = offs l (ord l L roots) (ord l L roots).length ∧
    colW l (ord l L roots) = colW (colW l (ord l L roots)) (offs l (ord l L roots) (ord l L roots).length) ∧
    roots.map (mv l (ord l L roots)) = (roots.map (mv l (ord l L roots))).map (mv (colW l (ord l L roots)) (offs l (ord l L roots) (ord l L roots).length)) := by
  obtain ⟨hI, hp⟩ := ord_spec hg hr
  have hrO : ∀ w ∈ roots, w.1 = true → w.2 ∈ ord l L roots := fun w hw h1 => hp.subset (found_mem _ hw h1)
  have hgK := col_good hg hI
  have hrK : ∀ w ∈ roots.map (mv l (ord l L roots)), wordP (offs l (ord l L roots) (ord l L roots).length) w := by
    intro w hw
    obtain ⟨v, hv, rfl⟩ := List.mem_map.1 hw
    exact mv_word (hr v hv) (hrO v hv)
  have hS := cp_bij l (ord l L roots)
  have hc := cp_blk hg hI
  have hm := cp_mt (l := l) hrO
  have ea : ord l L roots = ordF l (L.length + (offs l (ord l L roots) (ord l L roots).length).length + 1) 0 (found [] roots) := ordF_fuel hg _ _ _ _ (OrdI.start hr) (by omega) (by omega)
  have eb : ord (colW l (ord l L roots)) (offs l (ord l L roots) (ord l L roots).length) (roots.map (mv l (ord l L roots))) = ordF (colW l (ord l L roots)) (L.length + (offs l (ord l L roots) (ord l L roots).length).length + 1) 0 (found [] (roots.map (mv l (ord l L roots)))) := ordF_fuel hgK _ _ _ _ (OrdI.start hrK) (by omega) (by omega)
  have hAB : All2 (Cp l (ord l L roots)) (ord l L roots) (ord (colW l (ord l L roots)) (offs l (ord l L roots) (ord l L roots).length) (roots.map (mv l (ord l L roots)))) := by
    rw [eb]
    have := ordF_rel hS hc (L.length + (offs l (ord l L roots) (ord l L roots).length).length + 1) 0 (found_rel hS hm (.nil (R := Cp l (ord l L roots))))
    rw [← ea] at this
    exact this
  have e := cp_list hI.nodup hAB
  have hs := same_sound hS hg hgK hc hr hrK hm
  rw [e] at hs
  exact ⟨e, hs.1, hs.2⟩
end Go.Proofs.Ytcpclpkcanikiaa
/- The collector: Reachable of the reference. -/
set_option linter.unusedVariables false
namespace Go.Proofs.Ytcpclpkcanikiaa
open Go Go.Vc Go.RowKit

/-- The reachable blocks, ascending. -/
def reach (L O : List Int) : List Int := L.filter fun x => decide (x ∈ O)
theorem reach_snoc {L O : List Int} {j : Nat} {x : Int} (h : L[j]? = some x) : reach (L.take (j + 1)) O = reach (L.take j) O ++ (if x ∈ O then [x] else []) := by
  unfold reach
  rw [take_snoc h, List.filter_append]
  by_cases hx : x ∈ O <;> simp [hx]
theorem k58 {l roots : List Wd} {fr lim : Int} {L : List Int} (hok : ColOk l fr lim roots L) {ha : Option Addr} {hl hc : Nat} {ra : Option Addr} {rl rc : Nat} {g : G} (h : SlE wordE g ha hl hc l) (hr : SlE wordE g ra rl rc roots) :
    CallsP Try.prog 58 #[hpV ha hl hc fr lim, .slice ra rl rc] g fun u g' => ∃ a n c, u = .slice a n c ∧ SlE intE g' a n c (reach L (ord l L roots)) := by
  refine P50.call58 ha hl hc fr lim ra rl rc g _ ?_
  have hrl := hr.len
  have hll := h.len
  obtain ⟨s1, s2, s3, s4, s5⟩ := hok.small
  have hrlen := hok.len
  obtain ⟨hI, _⟩ := ord_spec hok.good hok.wd
  have hOl := nodup_le hI.nodup hI.sub
  have hLl := L_le hok.good
  have hL0 := sts_iff.2 hok.good.1
  unfold P50.F58
  refine fun g1 m1 => (k85 hok.good s1 (h.exm m1) fr lim roots (hr.exm m1) (by omega) hok.wd).mono ?_
  rintro u g2 m2 ⟨oa, on, oc, rfl, ho⟩
  have hol := ho.len
  refine ⟨_, _, _, rfl, (k36 l hL0 (h.exm (m1.trans m2)) (by omega) fr lim).mono ?_⟩
  rintro u g3 m3 ⟨aa, an, ac, rfl, hall, _⟩
  have hal := hall.len
  have m03 := (m1.trans m2).trans m3
  refine ⟨_, _, _, rfl, fun m a n c i g' => ∃ j : Nat, i = ((j : Nat) : Int) ∧ j + m = an ∧ OwnE intE g' g.w.heap.size 3 a n c (reach (L.take j) (ord l L roots)) ∧ g.w.heap.size ≤ g'.w.heap.size, ⟨an, 0, rfl, by omega, OwnE.nil _ _ _, m03.size⟩, ?_⟩
  rintro m a n c i g4 le ⟨j, rfl, hjm, hout, hsz⟩
  refine ifLt (fun hlt => ⟨⟨by omega, by omega⟩, ?_⟩) (fun hge g8 m8 => ?_)
  · have gj := List.getElem?_eq_getElem (show j < L.length by omega)
    generalize L[j] = x at gj
    have hsn := reach_snoc (O := ord l L roots) gj
    have hnl := hout.len
    have hn : n ≤ j := by
      rw [← hnl]
      have := List.length_filter_le (fun x => decide (x ∈ ord l L roots)) (L.take j)
      unfold reach
      rw [List.length_take] at this
      omega
    refine rdI (hall.mono le) j rfl gj (fun ad h0 => ⟨_, h0, (k93 _ x ((ho.exm m3).mono le) (by omega)).mono ?_⟩)
    rintro u g5 m5 (⟨hin, rfl⟩ | ⟨hin, rfl⟩)
    · refine ⟨_, rfl, ifLe (fun _ => ⟨⟨by omega, by omega⟩, rdI ((hall.mono le).exm m5) j rfl gj (fun ad2 h2 => ⟨_, h2, fun g6 n6 => ?_⟩)⟩) (fun hh => by omega)⟩
      obtain ⟨a2, c2, w', hrun, g7, hw7, hs7, ho7, _, _⟩ := OwnE.app1 E55 55 (B := g.w.heap.size) (Nat.le_trans hsz m5.size) (hout.exm m5) n6 (x := x) rfl (by omega) (by unfold maxLen; omega)
      refine ⟨a2, _, c2, w', hrun, g7, hw7, hs7, i64 (by omega) (by omega), m - 1, by omega, j + 1, by omega, by omega, ?_, Nat.le_trans hsz (Nat.le_trans m5.size (Nat.le_trans n6.ex.size hs7.le.size))⟩
      rw [hsn, if_pos hin]
      exact ho7
    · refine ⟨_, rfl, ifLe (fun hh => by omega) (fun _ => ⟨i64 (by omega) (by omega), m - 1, by omega, j + 1, by omega, by omega, ?_, Nat.le_trans hsz m5.size⟩)⟩
      rw [hsn, if_neg hin, List.append_nil]
      exact hout.exm m5
  · have : L.take j = L := List.take_of_length_le (by omega)
    rw [this] at hout
    exact ⟨a, n, c, rfl, hout.sl.exm m8⟩
end Go.Proofs.Ytcpclpkcanikiaa
/- The collector: CollectHeaps answers true, if Reachable does what it should. -/
set_option linter.unusedVariables false
namespace Go.Proofs.Ytcpclpkcanikiaa
open Go Go.Vc Go.RowKit

/-- What Reachable does. -/
def K57 : Prop := ∀ (l roots : List Wd) (hwf : ∀ w ∈ roots, (Lit.int .i64 w.2).wf = true) {ha : Option Addr} {hl hc : Nat} {ra : Option Addr} {rl rc : Nat} {g : G} (h : SlE wordE g ha hl hc l) (hr : SlE wordE g ra rl rc roots) (fr lim : Int),
    CallsP Try.prog 57 #[hpV ha hl hc fr lim, .slice ra rl rc] g fun u g' => (faultN l fr lim roots ≠ 0 ∧ u = .tuple ⟨[nilV, .int .i64 (faultN l fr lim roots)]⟩) ∨ (∃ L, ColOk l fr lim roots L ∧ ∃ a n c, u = .tuple ⟨[.slice a n c, .int .i64 0]⟩ ∧ SlE intE g' a n c (reach L (ord l L roots)))
theorem law13 (H : K57) (l roots : List Wd) (hwf : ∀ w ∈ roots, (Lit.int .i64 w.2).wf = true) {ha : Option Addr} {hl hc : Nat} {ra : Option Addr} {rl rc : Nat} {g : G} (h : SlE wordE g ha hl hc l) (hr : SlE wordE g ra rl rc roots) (fr lim : Int) :
    CallsP Try.prog 13 #[hpV ha hl hc fr lim, .slice ra rl rc] g fun u _ => u = .bool true := by
  refine P50.call13 ha hl hc fr lim ra rl rc g _ ?_
  have hrl := hr.len
  have tr : ∀ {x y : Int}, x = y → Value.bool (eqI x y) = .bool true := fun h => congrArg Value.bool (eqI_true.mpr h)
  unfold P50.F13
  refine fun g1 m1 => (k41 g1).mono ?_
  rintro u g2 m2 rfl
  refine ⟨_, rfl, ifT (fun hh => by cases hh) (fun _ => (k42 fr lim g2).mono ?_)⟩
  rintro u g4 m4 ⟨b, rfl, _⟩
  refine ⟨_, rfl, ?_⟩
  cases b with
  | true => exact ifT (fun _ g5 _ => rfl) (fun hh => by cases hh)
  | false =>
  have m04 := (m1.trans m2).trans m4
  refine ifT (fun hh => by cases hh) (fun _ => (k43 l roots hwf (h.exm m04) (hr.exm m04) fr lim).mono ?_)
  by_cases hf : faultN l fr lim roots = 0
  rotate_left
  · rintro u g6 m6 (⟨_, rfl⟩ | ⟨L, hok, _⟩)
    rotate_left
    · exact absurd (ok_zero hok) hf
    refine ⟨_, _, _, _, _, _, _, _, _, rfl, fun g7 m7 => ?_⟩
    have m07 := (m04.trans m6).trans m7
    refine (H l roots hwf (h.exm m07) (hr.exm m07) fr lim).mono ?_
    rintro u g8 m8 (⟨_, rfl⟩ | ⟨L, hok, _⟩)
    rotate_left
    · exact absurd (ok_zero hok) hf
    have m08 := m07.trans m8
    refine ⟨_, _, _, _, rfl, (k56 l roots hwf (h.exm m08) (hr.exm m08) fr lim).mono ?_⟩
    rintro u g9 m9 (⟨_, rfl⟩ | ⟨L, hok, _⟩)
    rotate_left
    · exact absurd (ok_zero hok) hf
    have m09 := m08.trans m9
    refine ⟨_, _, rfl, (k47 l roots (h.exm m09) (hr.exm m09) fr lim).mono ?_⟩
    rintro u g10 m10 rfl
    refine ⟨_, rfl, ifNe (fun _ => ifEq (fun _ => (k44 [] (SlE.zero g10) 0 0).mono ?_) (fun hh => absurd rfl hh)) (fun hh => absurd hh hf)⟩
    rintro u g11 m11 rfl
    exact ⟨_, rfl, ifP (fun _ => ifEq (fun _ => ifEq (fun _ => ifEq (fun _ => ifEq (fun _ g12 _ => tr rfl) (fun hh => absurd rfl hh)) (fun hh => absurd rfl hh)) (fun hh => absurd rfl hh)) (fun hh => absurd rfl hh)) (fun hh => absurd ⟨rfl, rfl, rfl⟩ hh)⟩
  obtain ⟨L, hok⟩ := ok_of hf
  have hs := hok.small.1
  have hrlen := hok.len
  rintro u g6 m6 (⟨hn, _⟩ | ⟨L2, hok2, xa, xc, oa, oc, rfl, hx, ho⟩)
  · exact absurd hf hn
  cases hok.same hok2
  refine ⟨_, _, _, _, _, _, _, _, _, rfl, fun g7 m7 => ?_⟩
  have m07 := (m04.trans m6).trans m7
  refine (H l roots hwf (h.exm m07) (hr.exm m07) fr lim).mono ?_
  rintro u g8 m8 (⟨hn, _⟩ | ⟨L3, hok3, pa, pn, pcap, rfl, hp⟩)
  · exact absurd hf hn
  cases hok.same hok3
  have m08 := m07.trans m8
  refine ⟨_, _, _, _, rfl, (k56 l roots hwf (h.exm m08) (hr.exm m08) fr lim).mono ?_⟩
  rintro u g9 m9 (⟨hn, _⟩ | ⟨L4, hok4, rfl⟩)
  · exact absurd hf hn
  cases hok.same hok4
  have m09 := m08.trans m9
  refine ⟨_, _, rfl, (k47 l roots (h.exm m09) (hr.exm m09) fr lim).mono ?_⟩
  rintro u g10 m10 rfl
  have m010 := m09.trans m10
  rw [hf]
  refine ⟨_, rfl, ifNe (fun hh => absurd rfl hh) (fun _ => (k49 hok.good hs (h.exm m010) fr lim roots (hr.exm m010) (by omega) hok.wd).mono ?_)⟩
  rintro u g19 m19 ⟨ya, yc, qa, qc, rfl, hy, hq⟩
  have m619 := (((m7.trans m8).trans m9).trans m10).trans m19
  refine ⟨_, _, _, _, _, _, _, _, rfl, ifEq (fun _ g20 m20 => (k20 _ _ (hx.exm (m619.trans m20)) (hy.exm m20) _ _ _ _).mono ?_) (fun hh => absurd rfl hh)⟩
  rintro u g21 m21 rfl
  refine ⟨_, rfl, ifP (fun _ => (k39 _ _ (ho.exm ((m619.trans m20).trans m21)) ((hq.exm m20).exm m21)).mono ?_) (fun hh => absurd ⟨rfl, rfl, rfl⟩ hh)⟩
  rintro u g22 m22 rfl
  have m022 := ((m010.trans m19).trans m20).trans (m21.trans m22)
  refine ⟨_, rfl, ifP (fun _ => ifEq (fun _ => (k58 hok (h.exm m022) (hr.exm m022)).mono ?_) (fun hh => absurd rfl hh)) (fun hh => absurd rfl hh)⟩
  rintro u g23 m23 ⟨za, zn, zc, rfl, hz⟩
  have m823 := (((m9.trans m10).trans m19).trans (m20.trans m21)).trans (m22.trans m23)
  refine ⟨_, _, _, rfl, (k35 _ _ (hp.exm m823) hz).mono ?_⟩
  rintro u g24 m24 rfl
  have m024 := (m022.trans m23).trans m24
  refine ⟨_, rfl, ifP (fun _ => ifEq (fun _ => (k48 hok.good hs (h.exm m024) fr lim roots (hr.exm m024) (by omega) hok.wd).mono ?_) (fun hh => absurd rfl hh)) (fun hh => absurd rfl hh)⟩
  rintro u g25 m25 rfl
  exact ⟨_, rfl, fun g26 _ => tr rfl⟩
end Go.Proofs.Ytcpclpkcanikiaa
/- The collector: CollectKeeps answers true, if Reachable does what it should. -/
set_option linter.unusedVariables false
namespace Go.Proofs.Ytcpclpkcanikiaa
open Go Go.Vc Go.RowKit

theorem law14 (H : K57) (l roots : List Wd) (hwf : ∀ w ∈ roots, (Lit.int .i64 w.2).wf = true) {ha : Option Addr} {hl hc : Nat} {ra : Option Addr} {rl rc : Nat} {g : G} (h : SlE wordE g ha hl hc l) (hr : SlE wordE g ra rl rc roots) (fr lim : Int) :
    CallsP Try.prog 14 #[hpV ha hl hc fr lim, .slice ra rl rc] g fun u _ => u = .bool true := by
  refine P50.call14 ha hl hc fr lim ra rl rc g _ ?_
  have hrl := hr.len
  have tr : ∀ {x y : Int}, x = y → Value.bool (eqI x y) = .bool true := fun h => congrArg Value.bool (eqI_true.mpr h)
  unfold P50.F14
  refine fun g1 m1 => (k41 g1).mono ?_
  rintro u g2 m2 rfl
  refine ⟨_, rfl, ifT (fun hh => by cases hh) (fun _ => ?_)⟩
  intro J hJ
  refine (k42 fr lim g2).mono ?_
  rintro u g4 m4 ⟨b, rfl, _⟩
  refine ⟨_, rfl, ?_⟩
  cases b with
  | true => exact ifT (fun _ g5 _ => rfl) (fun hh => by cases hh)
  | false =>
  have m04 := (m1.trans m2).trans m4
  refine ifT (fun hh => by cases hh) (fun _ => ifLt (fun _ g38 _ => rfl) (fun h100 => hJ g4 ((k43 l roots hwf (h.exm m04) (hr.exm m04) fr lim).mono ?_)))
  rintro u g5 m5 (⟨hf, rfl⟩ | ⟨L, hok, xa, xc, oa, oc, rfl, hx, ho⟩)
  · refine ⟨_, _, _, _, _, _, _, _, _, rfl, ifNe (fun _ g6 m6 => (k44 [] (SlE.zero g6) 0 0).mono ?_) (fun hh => absurd hh hf)⟩
    rintro u g7 m7 rfl
    exact ⟨_, rfl, ifP (fun _ g8 _ => tr rfl) (fun hh => absurd ⟨rfl, rfl, rfl⟩ hh)⟩
  refine ⟨_, _, _, _, _, _, _, _, _, rfl, ifNe (fun hh => absurd rfl hh) (fun _ => ?_)⟩
  intro J1 hJ1
  obtain ⟨hI, hpre⟩ := ord_spec hok.good hok.wd
  have hrO : ∀ w ∈ roots, w.1 = true → w.2 ∈ ord l L roots := fun w hw h1 => hpre.subset (found_mem _ hw h1)
  obtain ⟨ag1, ag2, ag3⟩ := again hok.good hok.wd
  have hoff := off_le hok.good hI.nodup hI.sub
  have hs := hok.small.1
  have hTl : (colW l (ord l L roots)).length = offN l (ord l L roots) := allW_len (fun x _ => by simp)
  have hokK : ColOk (colW l (ord l L roots)) ((offN l (ord l L roots) : Nat) : Int) lim (roots.map (mv l (ord l L roots))) (offs l (ord l L roots) (ord l L roots).length) := by
    refine ⟨col_valid hok, by rw [List.length_map]; exact hok.len, col_good hok.good hI, ?_⟩
    intro w hw
    obtain ⟨v, hv, rfl⟩ := List.mem_map.1 hw
    exact mv_word (hok.wd v hv) (hrO v hv)
  have hwf2 : ∀ w ∈ roots.map (mv l (ord l L roots)), (Lit.int .i64 w.2).wf = true := by
    intro w hw
    obtain ⟨v, hv, rfl⟩ := List.mem_map.1 hw
    by_cases h1 : v.1 = true
    · rw [mv_ref h1]
      have hle : offN l ((ord l L roots).take ((ord l L roots).idxOf v.2)) ≤ offN l (ord l L roots) := by
        rcases Nat.lt_or_ge ((ord l L roots).idxOf v.2) (ord l L roots).length with hh | hh
        · have := off_lt (l := l) hh (Nat.le_refl _)
          rw [List.take_length] at this
          omega
        · rw [List.take_of_length_le hh]
          omega
      exact wfI (by simp only; omega) (by simp only; omega)
    · rw [mv_no h1]
      exact hwf v hv
  have hlenm : (roots.map (mv l (ord l L roots))).length = roots.length := List.length_map ..
  have ho' : SlE wordE g5 oa (roots.map (mv l (ord l L roots))).length oc (roots.map (mv l (ord l L roots))) := by rw [hlenm]; exact ho
  have main : ∀ g10, Ex g5 g10 → J1 g10 := by
    intro g10 m10
    have m010 := (m04.trans m5).trans m10
    refine hJ1 g10 ((k53 l roots _ _ hwf hwf2 (h.exm m010) (hr.exm m010) (hx.exm m10) (ho.exm m10) fr lim _ lim).mono ?_)
    rintro u g11 m11 (⟨hf, _⟩ | ⟨_, hf, _⟩ | ⟨La, Lb, hoa, hob, rfl⟩)
    · exact absurd (ok_zero hok) hf
    · exact absurd (ok_zero hokK) hf
    cases hok.same hoa
    cases hokK.same hob
    have hsv : SameVal l (colW l (ord l L roots)) L (offs l (ord l L roots) (ord l L roots).length) roots (roots.map (mv l (ord l L roots))) := by
      refine ⟨hlenm.symm, ?_, ?_⟩
      · rw [ag1]; exact ag2
      · rw [ag1]; exact ag3
    rw [tf_of hsv]
    refine ⟨_, _, rfl, (k56 l roots hwf (h.exm (m010.trans m11)) (hr.exm (m010.trans m11)) fr lim).mono ?_⟩
    rintro u g12 m12 (⟨hf, _⟩ | ⟨L4, hok4, rfl⟩)
    · exact absurd (ok_zero hok) hf
    cases hok.same hok4
    have m512 := (m10.trans m11).trans m12
    refine ⟨_, _, rfl, (k34 _ (hx.exm m512) _ lim).mono ?_⟩
    rintro u g13 m13 (⟨hv, _⟩ | ⟨_, L5, ba, bn, bc, hL5, rfl, hb, _⟩)
    · exact absurd hokK.valid hv
    rw [sts_iff.2 hokK.good.1] at hL5
    cases hL5
    refine ⟨_, _, _, _, rfl, (H _ _ hwf2 (hx.exm (m512.trans m13)) (ho.exm (m512.trans m13)) _ lim).mono ?_⟩
    rintro u g14 m14 (⟨hf, _⟩ | ⟨L6, hok6, pa, pn, pc0, rfl, hp⟩)
    · exact absurd (ok_zero hokK) hf
    cases hokK.same hok6
    rw [ag1] at hp
    have hre : reach (offs l (ord l L roots) (ord l L roots).length) (offs l (ord l L roots) (ord l L roots).length) = offs l (ord l L roots) (ord l L roots).length := List.filter_eq_self.2 (fun x hx => by simpa using hx)
    rw [hre] at hp
    have m514 := (m512.trans m13).trans m14
    refine ⟨_, _, _, _, rfl, (k43 _ _ hwf2 (hx.exm m514) (ho.exm m514) _ lim).mono ?_⟩
    rintro u g15 m15 (⟨hf, _⟩ | ⟨L7, hok7, qa, qc, sa, sc, rfl, hq, hsl⟩)
    · exact absurd (ok_zero hokK) hf
    cases hokK.same hok7
    rw [ag1] at hq hsl ⊢
    rw [← ag2] at hq
    rw [← ag3] at hsl
    have hoo : offN (colW l (ord l L roots)) (offs l (ord l L roots) (ord l L roots).length) = offN l (ord l L roots) := by
      have h1 : (colW (colW l (ord l L roots)) (offs l (ord l L roots) (ord l L roots).length)).length = offN (colW l (ord l L roots)) (offs l (ord l L roots) (ord l L roots).length) := allW_len (fun x _ => by simp)
      rw [← h1, ← ag2, hTl]
    refine ⟨_, _, _, _, _, _, _, _, _, rfl, ifEq (fun _ => ifT (fun _ => ifEq (fun _ => ifEq (fun _ => ifEq (fun _ => ifEq (fun _ g16 m16 => (k35 _ _ (hb.exm ((m14.trans m15).trans m16)) (hp.exm (m15.trans m16))).mono ?_) (fun hh => absurd rfl hh)) (fun hh => absurd rfl hh)) (fun hh => absurd rfl hh)) (fun hh => absurd rfl hh)) (fun hh => by cases hh)) (fun hh => absurd rfl hh)⟩
    rintro u g17 m17 rfl
    have m517 := (m514.trans m15).trans (m16.trans m17)
    refine ⟨_, rfl, ifP (fun _ => ifEq (fun _ => (k20 _ _ (hq.exm (m16.trans m17)) (hx.exm m517) _ _ _ _).mono ?_) (fun hh => absurd rfl hh)) (fun hh => absurd rfl hh)⟩
    rintro u g18 m18 rfl
    refine ⟨_, rfl, ifP (fun _ => (k39 _ _ (hsl.exm ((m16.trans m17).trans m18)) (ho.exm (m517.trans m18))).mono ?_) (fun hh => absurd ⟨rfl, by rw [hoo], rfl⟩ hh)⟩
    rintro u g19 m19 rfl
    exact ⟨_, rfl, fun g20 _ => by rw [tf_of rfl]⟩
  intro g30 m30
  refine (k21 k94 _ (hx.exm m30) _ lim).mono ?_
  rintro u g31 m31 rfl
  refine ⟨_, rfl, ifPn (fun hh => absurd hokK.valid hh) (fun _ => (k23 _ (hx.exm (m30.trans m31)) _ lim).mono ?_)⟩
  rintro u g33 m33 rfl
  exact ⟨_, rfl, ifPn (fun hh => absurd hokK.valid hh) (fun _ => ifNe (fun hh => absurd rfl hh) (fun _ => main g33 ((m30.trans m31).trans m33)))⟩
end Go.Proofs.Ytcpclpkcanikiaa
