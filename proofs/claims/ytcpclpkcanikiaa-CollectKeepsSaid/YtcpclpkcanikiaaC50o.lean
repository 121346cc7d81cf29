/- The collector: CollectData and CollectGarbage answer true. -/
import Derived.Test.YtcpclpkcanikiaaC50n
set_option linter.unusedVariables false
namespace Go.Proofs.Ytcpclpkcanikiaa
open Go Go.Vc Go.RowKit

theorem eqWW (v w : Wd) : ((v.1 == w.1) && ((eqI v.2 w.2) && true)) = tf (v = w) := eqW v.1 w.1 v.2 w.2
/-- A word of a slice is read. -/
theorem rdW {L : List Wd} {a : Option Addr} {n c : Nat} {g : G} (h : SlE wordE g a n c L) {i : Int} (p : Nat) (hi : i = (p : Int)) {x : Wd} (hx : L[p]? = some x) {K : Addr → Prop} (hk : ∀ ad, g.w.cell? (Addr.add ad (Int.toNat i * 2)) = some (.bool x.1) → g.w.cell? (Addr.add (Addr.add ad (Int.toNat i * 2)) 1) = some (.int .i64 x.2) → K ad) : derefP a K := by
  subst hi
  refine h.rd (i := p) hx ?_
  rintro r ad rfl hr
  have h0 := (hr 0 _ rfl).1
  rw [Addr.add_zero'] at h0
  rw [Int.toNat_natCast] at hk
  exact hk ad h0 (hr 1 _ rfl).1
theorem law8 (l roots : List Wd) (hwf : ∀ w ∈ roots, (Lit.int .i64 w.2).wf = true) {ha : Option Addr} {hl hc : Nat} {ra : Option Addr} {rl rc : Nat} {g : G} (h : SlE wordE g ha hl hc l) (hr : SlE wordE g ra rl rc roots) (fr lim : Int) :
    CallsP Try.prog 8 #[hpV ha hl hc fr lim, .slice ra rl rc] g fun u _ => u = .bool true := by
  refine P50.call8 ha hl hc fr lim ra rl rc g _ ?_
  have hrl := hr.len
  have hll := h.len
  unfold P50.F8
  refine fun g1 m1 => (k41 g1).mono ?_
  rintro u g2 m2 rfl
  refine ⟨_, rfl, ifT (fun hh => by cases hh) (fun _ => ?_)⟩
  intro J hJ
  refine (k42 fr lim g2).mono ?_
  rintro u g4 m4 ⟨b, rfl, hb⟩
  refine ⟨_, rfl, ?_⟩
  cases b with
  | true => exact ifT (fun _ g5 _ => rfl) (fun hh => by cases hh)
  | false =>
  refine ifT (fun hh => by cases hh) (fun _ => ifLt (fun _ g21 _ => rfl) (fun h100 => hJ g4 ?_))
  have m04 := (m1.trans m2).trans m4
  refine (k43 l roots hwf (h.exm m04) (hr.exm m04) fr lim).mono ?_
  rintro u g5 m5 (⟨hf, rfl⟩ | ⟨L, hok, a, c, oa, oc, rfl, hx, ho⟩)
  · refine ⟨_, _, _, _, _, _, _, _, _, rfl, ifNe (fun _ g6 m6 => (k44 [] (SlE.zero g6) 0 0).mono ?_) (fun hh => absurd hh hf)⟩
    rintro u g7 m7 rfl
    exact ⟨_, rfl, fun g8 _ => by rw [tf_of ⟨rfl, rfl, rfl⟩]⟩
  have m05 := m04.trans m5
  have hB := Both.of hok (h.exm m05) hx
  have hrO : ∀ w ∈ roots, w.1 = true → w.2 ∈ ord l L roots := fun w hw h1 => (ord_spec hok.good hok.wd).2.subset (found_mem _ hw h1)
  refine ⟨_, _, _, _, _, _, _, _, _, rfl, ifNe (fun hh => absurd rfl hh) (fun _ => ifNe (fun hh => by omega) (fun _ => ?_))⟩
  refine ⟨fun m v g' => ∃ j : Nat, v = ((j : Nat) : Int) ∧ j + m = rl, fun g10 _ => ⟨rl, 0, rfl, by omega⟩, ?_⟩
  rintro m v g11 le ⟨j, rfl, hjm⟩
  refine ifLt (fun hlt g12 m12 => ⟨⟨by omega, by omega⟩, ?_⟩) (fun hge g18 _ => rfl)
  have le12 : Le g5 g12 := le.trans m12.le
  have hjl : j < roots.length := by omega
  have gj := List.getElem?_eq_getElem hjl
  generalize roots[j] = w at gj
  have gj2 : (roots.map (mv l (ord l L roots)))[j]? = some (mv l (ord l L roots) w) := by rw [List.getElem?_map, gj]; rfl
  have hwm := List.mem_of_getElem? gj
  refine rdW ((hr.exm m05).mono le12) j rfl gj (fun ad c0 c1 => ⟨w.1, w.2, c0, c1, ⟨by omega, by omega⟩, rdW (ho.mono le12) j rfl gj2 (fun ad2 d0 d1 => ⟨(mv l (ord l L roots) w).1, (mv l (ord l L roots) w).2, d0, d1, ?_⟩)⟩)
  refine (k45 1 (by omega) g12 w (hB.le le12) (hrO w hwm)).mono ?_
  rintro u g13 m13 rfl
  refine ⟨_, rfl, ifT (fun hh => by cases hh) (fun _ => ?_)⟩
  refine ⟨fun m2 v2 g' => ∃ k : Nat, v2 = ((k : Nat) : Int) ∧ k + m2 = j, ⟨j, 0, rfl, by omega⟩, ?_⟩
  rintro m2 v2 g15 le15 ⟨k, rfl, hkm⟩
  refine ifLt (fun hlt2 g16 m16 => ?_) (fun hge2 => ⟨i64 (by omega) (by omega), m - 1, by omega, j + 1, by omega, by omega⟩)
  have le16 : Le g5 g16 := (le12.trans m13.le).trans (le15.trans m16.le)
  have gk := List.getElem?_eq_getElem (show k < roots.length by omega)
  generalize roots[k] = z at gk
  have gk2 : (roots.map (mv l (ord l L roots)))[k]? = some (mv l (ord l L roots) z) := by rw [List.getElem?_map, gk]; rfl
  have hzm := List.mem_of_getElem? gk
  have hr16 := (hr.exm m05).mono le16
  have ho16 := ho.mono le16
  refine ⟨⟨by omega, by omega⟩, rdW hr16 j rfl gj (fun ad2 a0 a1 => ⟨w.1, w.2, a0, a1, ⟨by omega, by omega⟩, rdW hr16 k rfl gk (fun ad3 b0 b1 => ⟨z.1, z.2, b0, b1, ⟨by omega, by omega⟩, rdW ho16 j rfl gj2 (fun ad4 c0 c1 => ⟨_, _, c0, c1, ⟨by omega, by omega⟩, rdW ho16 k rfl gk2 (fun ad5 d0 d1 => ⟨_, _, d0, d1, ?_⟩)⟩)⟩)⟩)⟩
  rw [eqWW, eqWW, tf_iff (mv_inj (l := l) (hrO w hwm) (hrO z hzm))]
  have e : (tf (w = z) == tf (w = z)) = true := by simp
  rw [e]
  exact ifT (fun hh => by cases hh) (fun _ => ⟨i64 (by omega) (by omega), m2 - 1, by omega, k + 1, by omega, by omega⟩)
/-- nodes of layer 50. -/
theorem k55 : ∀ (D : Nat), D ≤ 1000 → ∀ (d : Nat) (v : Val) {na : Option Addr} {nn nc : Nat} {la : Option Addr} {ln lc : Nat} {g : G}, VRep g d v na nn nc la ln lc →
    CallsP Try.prog 55 #[.agg ⟨valC v na nn nc la ln lc⟩, .int .i64 ((D : Nat) : Int)] g fun u _ => ∃ r : Nat, u = .int .i64 ((r : Nat) : Int) ∧ 1 ≤ r ∧ r ≤ 61 + 61 * D ∧ (r ≤ 60 → szV v = r) := by
  intro D
  induction D with
  | zero =>
    intro _ d v na nn nc la ln lc g h
    refine P50.call55 v.op v.n ⟨v.s.toArray⟩ na nn nc la ln lc _ g _ ?_
    have hl := h.l.len
    have hs := szV_eq v
    unfold P50.F55
    refine ⟨fun m n i g' => n = 1 ∧ i = 0, fun g1 _ => ⟨0, rfl, rfl⟩, ?_⟩
    rintro m n i g2 le ⟨rfl, rfl⟩
    refine ifLt (fun hlt => ?_) (fun hge g8 _ => ⟨1, rfl, by omega, by omega, fun _ => ?_⟩)
    · have gj := List.getElem?_eq_getElem (show 0 < v.l.length by omega)
      refine ⟨⟨by omega, by omega⟩, rdV (h.l.mono le) 0 rfl gj ?_⟩
      rintro ad d' na' nn' nc' la' ln' lc' hd hv _ c0 c1 c2 c3 c4
      refine ⟨_, _, _, _, _, _, _, _, _, c0, c1, c2, c3, c4, ?_⟩
      intro J hJ
      exact ifLt (fun _ g5 _ => ⟨61, rfl, by omega, by omega, fun hh => by omega⟩) (fun _ => ifEq (fun _ g6 _ => ⟨61, rfl, by omega, by omega, fun hh => by omega⟩) (fun hh => absurd rfl hh))
    · have : v.l = [] := List.eq_nil_of_length_eq_zero (by omega)
      rw [hs, this]
      rfl
  | succ D ih =>
    intro hD d v na nn nc la ln lc g h
    refine P50.call55 v.op v.n ⟨v.s.toArray⟩ na nn nc la ln lc _ g _ ?_
    have hl := h.l.len
    have hs := szV_eq v
    have hcap := h.l.cap
    have hle := h.l.le
    unfold maxLen at hcap
    unfold P50.F55
    refine ⟨fun m n i g' => ∃ j z : Nat, i = ((j : Nat) : Int) ∧ j + m = ln ∧ n = ((z : Nat) : Int) ∧ 1 ≤ z ∧ z ≤ 61 + 61 * (D + 1) ∧ (z ≤ 60 → szL (v.l.take j) + 1 = z), fun g1 _ => ⟨ln, 0, 1, rfl, by omega, rfl, by omega, by omega, fun _ => by simp [szL]⟩, ?_⟩
    rintro m n i g2 le ⟨j, z, rfl, hjm, rfl, hz1, hz2, hz3⟩
    refine ifLt (fun hlt => ?_) (fun hge g8 _ => ⟨z, rfl, hz1, hz2, fun hh => ?_⟩)
    · have hjl : j < v.l.length := by omega
      have gj := List.getElem?_eq_getElem hjl
      refine ⟨⟨by omega, by omega⟩, rdV (h.l.mono le) j rfl gj ?_⟩
      rintro ad d' na' nn' nc' la' ln' lc' hd hv _ c0 c1 c2 c3 c4
      refine ⟨_, _, _, _, _, _, _, _, _, c0, c1, c2, c3, c4, ?_⟩
      intro J hJ
      refine ifLt (fun _ g5 _ => ⟨61, rfl, by omega, by omega, fun hh => by omega⟩) (fun hz => ifEq (fun hh => by omega) (fun _ g7 m7 => hJ g7 ⟨i64 (by omega) (by omega), ?_⟩))
      have ed : ((D + 1 : Nat) : Int) - 1 = ((D : Nat) : Int) := by omega
      rw [ed]
      refine (ih (by omega) d' v.l[j] (hv.ex m7)).mono ?_
      rintro u g4 m4 ⟨r, rfl, hr1, hr2, hr3⟩
      refine ⟨_, rfl, i64 (by omega) (by omega), i64 (by omega) (by omega), m - 1, by omega, j + 1, z + r, by omega, by omega, by omega, by omega, by omega, fun hh => ?_⟩
      rw [take_snoc gj, szL_append]
      simp only [szL, Nat.add_zero]
      have := hz3 (by omega)
      have := hr3 (by omega)
      omega
    · have : v.l.take j = v.l := List.take_of_length_le (by omega)
      have h3 := hz3 hh
      rw [this] at h3
      omega
theorem law12 {d : Nat} (l roots : List Wd) (v : Val) (hwf : ∀ w ∈ roots, (Lit.int .i64 w.2).wf = true) {ha : Option Addr} {hl hc : Nat} {ra : Option Addr} {rl rc : Nat} {na : Option Addr} {nn nc : Nat} {la : Option Addr} {ln lc : Nat} {g : G} (h : SlE wordE g ha hl hc l) (hr : SlE wordE g ra rl rc roots) (hv : VRep g d v na nn nc la ln lc) (fr lim : Int) :
    CallsP Try.prog 12 #[hpV ha hl hc fr lim, .slice ra rl rc, .agg ⟨valC v na nn nc la ln lc⟩] g fun u _ => u = .bool true := by
  refine P50.call12 ha hl hc fr lim ra rl rc v.op v.n ⟨v.s.toArray⟩ na nn nc la ln lc g _ ?_
  have hrl := hr.len
  have hll := h.len
  unfold P50.F12
  refine fun g1 m1 => (k41 g1).mono ?_
  rintro u g2 m2 rfl
  refine ⟨_, rfl, ifT (fun hh => by cases hh) (fun _ => ?_)⟩
  intro J hJ
  refine (k42 fr lim g2).mono ?_
  rintro u g4 m4 ⟨b, rfl, hb⟩
  refine ⟨_, rfl, ?_⟩
  cases b with
  | true => exact ifT (fun _ g5 _ => rfl) (fun hh => by cases hh)
  | false =>
  have m04 := (m1.trans m2).trans m4
  refine ifT (fun hh => by cases hh) (fun _ => ifLt (fun _ g21 _ => rfl) (fun h100 => (k55 30 (by omega) d v (hv.ex m04)).mono ?_))
  rintro u g30 m30 ⟨r, rfl, _, _, hr60⟩
  refine ⟨_, rfl, ifLt (fun _ g31 _ => rfl) (fun h60 => hJ g30 ?_)⟩
  have hsz := hr60 (by omega)
  have m030 := m04.trans m30
  refine (k43 l roots hwf (h.exm m030) (hr.exm m030) fr lim).mono ?_
  rintro u g5 m5 (⟨hf, rfl⟩ | ⟨L, hok, a, c, oa, oc, rfl, hx, ho⟩)
  · refine ⟨_, _, _, _, _, _, _, _, _, rfl, ifNe (fun _ g6 m6 => (k44 [] (SlE.zero g6) 0 0).mono ?_) (fun hh => absurd hh hf)⟩
    rintro u g7 m7 rfl
    exact ⟨_, rfl, fun g8 _ => by rw [tf_of ⟨rfl, rfl, rfl⟩]⟩
  have m05 := m030.trans m5
  refine ⟨_, _, _, _, _, _, _, _, _, rfl, ifNe (fun hh => absurd rfl hh) (fun _ g9 m9 => ?_)⟩
  have m09 := m05.trans m9
  refine (k26 v l (h.exm m09) (hv.ex m09) fr lim (by omega)).mono ?_
  rintro u g10 m10 ⟨r2, e, hout, hcs⟩
  obtain ⟨a1, n1, c1, f1, lm1, w1, er, l1, rfl, hs1, hc1⟩ := hout.vals
  refine ⟨_, _, _, _, _, _, _, _, rfl, ?_⟩
  rcases hc1 with ⟨hrn, rfl, rfl, rfl, rfl, rfl⟩ | ⟨hrs, rfl, rfl, hlm, hmore⟩
  · have he : er ≠ 0 := by
      rcases hcs with ⟨_, _, rfl⟩ | ⟨_, _, _, rfl⟩ <;> decide
    refine ifNe (fun _ g11 m11 => (k44 [] (hs1.exm m11) 0 0).mono ?_) (fun hh => absurd hh he)
    rintro u g12 m12 rfl
    exact ⟨_, rfl, fun g13 _ => by rw [tf_of ⟨rfl, rfl, rfl⟩]⟩
  refine ifNe (fun hh => absurd rfl hh) (fun _ g14 m14 => ?_)
  rcases hcs with ⟨_, rfl, _⟩ | ⟨hval, hd, hput, _⟩
  · cases hrs
  rw [hrs] at hput
  obtain ⟨v1, v2, v3, v4, _⟩ := hval
  obtain ⟨ex, L', rfl, hg1, hrd, _⟩ := (put_ok lim (szV v)).1 v l L l1 w1 (Nat.le_refl _) hd hok.good hput.symm
  subst hlm
  have hval1 : validP (l ++ ex) (((l ++ ex).length : Nat) : Int) lm1 := valid_iff.2 ⟨v1, v2, rfl, hmore, _, hg1⟩
  have hok1 : ColOk (l ++ ex) (((l ++ ex).length : Nat) : Int) lm1 roots (L ++ L') := ⟨hval1, hok.len, hg1, fun w hw => wordP_mono (fun x hx => List.mem_append_left _ hx) (hok.wd w hw)⟩
  obtain ⟨hI, _⟩ := ord_spec hok.good hok.wd
  have m014 := (m09.trans m10).trans m14
  refine (k43 (l ++ ex) roots hwf (hs1.exm m14) (hr.exm m014) _ lm1).mono ?_
  rintro u g15 m15 (⟨hf, _⟩ | ⟨L2, hok2, a2, c2, oa2, oc2, rfl, hx2, ho2⟩)
  · exact absurd (ok_zero hok1) hf
  cases hok1.same hok2
  have eo := ord_append hok.good ex L' hok.wd
  have emv : roots.map (mv (l ++ ex) (ord l L roots)) = roots.map (mv l (ord l L roots)) := List.map_congr_left fun w _ => mv_append hok.good ex hI.sub w
  rw [eo, off_append hok.good ex hI.sub, col_append hok.good ex hI.sub] at hx2
  rw [eo, emv] at ho2
  rw [eo, off_append hok.good ex hI.sub]
  refine ⟨_, _, _, _, _, _, _, _, _, rfl, fun g16 m16 => ?_⟩
  have m016 := (m014.trans m15).trans m16
  refine (k56 l roots hwf (h.exm m016) (hr.exm m016) fr lm1).mono ?_
  rintro u g17 m17 (⟨hf, _⟩ | ⟨L3, hok3, rfl⟩)
  · exact absurd (ok_zero hok) hf
  cases hok.same hok3
  refine ⟨_, _, rfl, (k56 (l ++ ex) roots hwf (hs1.exm ((m14.trans m15).trans (m16.trans m17))) (hr.exm (m016.trans m17)) _ lm1).mono ?_⟩
  rintro u g18 m18 (⟨hf, _⟩ | ⟨L4, hok4, rfl⟩)
  · exact absurd (ok_zero hok1) hf
  cases hok1.same hok4
  rw [eo, off_append hok.good ex hI.sub]
  have m518 := (((m9.trans m10).trans (m14.trans m15)).trans (m16.trans m17)).trans m18
  refine ⟨_, _, rfl, ifEq (fun _ => (k20 _ _ (hx.exm m518) (hx2.exm ((m16.trans m17).trans m18)) _ _ _ _).mono ?_) (fun hh => absurd rfl hh)⟩
  rintro u g19 m19 rfl
  refine ⟨_, rfl, ifP (fun _ => (k39 _ _ (ho.exm (m518.trans m19)) (ho2.exm (((m16.trans m17).trans m18).trans m19))).mono ?_) (fun hh => absurd ⟨rfl, rfl, rfl⟩ hh)⟩
  rintro u g20 m20 rfl
  exact ⟨_, rfl, ifP (fun _ => ifEq (fun _ => ifEq (fun _ g21 _ => congrArg Value.bool (eqI_true.mpr rfl)) (fun hh => absurd rfl hh)) (fun hh => absurd rfl hh)) (fun hh => absurd rfl hh)⟩
end Go.Proofs.Ytcpclpkcanikiaa
