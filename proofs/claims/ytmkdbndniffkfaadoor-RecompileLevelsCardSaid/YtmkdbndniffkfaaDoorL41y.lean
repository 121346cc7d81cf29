/- RecompileLevels. -/
import Derived.Test.YtmkdbndniffkfaaDoorL41x
import Derived.Test.YtmkdbndniffkfaaDoorFnL7
import Derived.Test.YtmkdbndniffkfaaDoorSlevc
set_option linter.unusedVariables false
namespace Go.Proofs.YtmkdbndniffkfaaDoor
open Go Go.Vc Go.RowKit Go.Syn Go.Maps

theorem fin31 (s : List UInt8) (g : G) : CallsP Tryd.prog 31 #[.string (bstr s)] g fun v _ => v = .bool false := by
  refine P7.call31 _ g _ ?_
  unfold P7.F31
  intro g1 _
  simp
theorem k20 (s t : List UInt8) (g : G) : CallsP Tryd.prog 20 #[.string (bstr s), .string (bstr t)] g fun v _ => v = .bool (tf (klt s t)) := by
  refine P7.call20 _ _ g _ ?_
  unfold P7.F20
  refine (fin31 s g).mono ?_
  rintro v g1 _ rfl
  refine ⟨_, rfl, ifT (fun e => by cases e) (fun _ g5 _ => ?_)⟩
  rw [strLt_klt]
/-- slices.IsSorted, of names that ascend. -/
theorem k7 {row : List Lab} (hr : Srt row) {a : Option Addr} {n c : Nat} {g : G} (h : SlE strE g a n c row) : CallsP Tryd.prog 7 #[.slice a n c] g fun v _ => v = .bool true := by
  refine P7.call7 a n c g _ ?_
  unfold P7.F7
  have hl := h.len
  have hc := h.le
  have hcap := h.cap
  unfold maxLen at hcap
  refine ⟨i64 (by omega) (by omega), fun m i g' => ((m : Nat) : Int) = i + 1 ∧ m ≤ n, ⟨n, by omega, Nat.le_refl _⟩, ?_⟩
  rintro m i g1 le ⟨hm, hmn⟩
  refine ifLt (fun q g2 m2 => ⟨⟨by omega, by omega⟩, ?_⟩) (fun _ _ _ => rfl)
  have h2 := (h.mono le).exm m2
  obtain ⟨p, rfl⟩ : ∃ p : Nat, i = ((p + 1 : Nat) : Int) := ⟨(i - 1).toNat, by omega⟩
  have g1' := List.getElem?_eq_getElem (show p + 1 < row.length by omega)
  have g0' := List.getElem?_eq_getElem (show p < row.length by omega)
  have hlt : klt (row[p]'(by omega)) (row[p + 1]'(by omega)) := List.pairwise_iff_getElem.1 hr p (p + 1) _ _ (by omega)
  generalize row[p + 1] = x1 at g1' hlt
  generalize row[p] = x0 at g0' hlt
  refine rdS h2 (p + 1) rfl g1' ⟨i64 (by omega) (by omega), ⟨by omega, by omega⟩, rdS h2 p (by omega) g0' ((k20 x1 x0 g2).mono ?_)⟩
  rintro v g3 _ rfl
  refine ⟨_, rfl, ifP (fun hh => absurd rfl (klt_ne (klt_trans hlt hh))) (fun _ => ⟨i64 (by omega) (by omega), m - 1, by omega, by omega, by omega⟩)⟩
theorem lvF_upd (f : Lab → Nat) (S : List Lab) (s : Lab) (v : Int) (hv : v = ((f s : Nat) : Int)) : upd (lvF f S) s (some (.int .i64 v)) = lvF f (S ++ [s]) := by
  classical
  funext x
  subst hv
  unfold lvF
  by_cases e : x = s
  · subst e
    rw [upd_same, if_pos (by simp)]
  · rw [upd_other _ _ e]
    by_cases q : x ∈ S
    · rw [if_pos q, if_pos (by simp [q])]
    · rw [if_neg q, if_neg (by simp [q, e])]
theorem map_len {g : G} {b nn : Nat} {fv : List UInt8 → Option Value} {K : List Lab} (hm : MapG Tryd.prog g 9 b nn fv) (hK : Srt K) (hk : ∀ s, fv s ≠ none ↔ s ∈ K) : (Builtin.len_ #[29] 3 #[.map (some b)]).run Tryd.prog g.w = .ok (.int .i64 ((K.length : Nat) : Int)) g.w := by
  obtain ⟨D, hown, hsay⟩ := hm.own
  obtain ⟨_, hsz⟩ := map_perm hown hsay hK hk
  rw [hown.len Tryd.underlying29 3, hsz]
/-- A read of a row of rows. -/
theorem rdR {N : List (List Lab)} {a : Option Addr} {n c : Nat} {g : G} (h : SlE (lsE strE) g a n c N) {i : Int} (p : Nat) (hi : i = (p : Int)) {r : List Lab} (hr : N[p]? = some r) {K : Addr → Prop}
    (hk : ∀ ad ra rn rc, SlE strE g ra rn rc r → g.w.cell? (Addr.add ad (Int.toNat i * 1)) = some (.slice ra rn rc) → K ad) : derefP a K := by
  subst hi
  have hrd := h.rd (i := p) hr (K := fun ad => ∃ rr, (lsE strE).rep g rr r ∧ ∀ j v, rr[j]? = some v → Live g ((Addr.add ad (p * 1)).add j) v) (fun rr ad h1 h2 => ⟨rr, h1, h2⟩)
  obtain ⟨ad, rfl, rr, ⟨ra, rn, rc, rfl, hI⟩, hl⟩ := derefP_some hrd
  refine hk ad ra rn rc hI ?_
  rw [Int.toNat_natCast]
  have h0 := (hl 0 _ rfl).1
  rwa [Addr.add_zero'] at h0
theorem levOf_take {f : Lab → Nat} {l : List Lab} {p : Nat} {s : Lab} (h : l[p]? = some s) : levOf f (l.take (p + 1)) = max (levOf f (l.take p)) (f s + 1) := by
  unfold levOf
  rw [List.take_add_one, h, List.foldl_append]
  rfl
theorem clos_ok {L : List UnitD} (q : (orderN L).2 = 0) {u : UnitD} (hu : u ∈ L) : (closureA L u.name).2 = 0 ∧ (∀ s, s ∈ (closureA L u.name).1 ↔ s ∈ namesU L ∧ NeedP L u.name s) ∧ (closureA L u.name).1.length ≤ 16 := by
  have hO := orderN_ordered q
  have hm : u.name ∈ (orderN L).1 := (hO.mem).2 (mem_names.2 ⟨u, hu, rfl⟩)
  unfold closureA relA
  rw [if_pos q, if_pos hm]
  refine ⟨rfl, fun s => ?_, Nat.le_trans (List.length_filter_le _ _) (by rw [hO.len]; exact hO.ln)⟩
  simp [List.mem_filter, hO.mem]
theorem user_ok {L : List UnitD} (q : (orderN L).2 = 0) {u : UnitD} (hu : u ∈ L) : (usersA L u.name).2 = 0 ∧ (∀ s, s ∈ (usersA L u.name).1 ↔ s ∈ namesU L ∧ NeedP L s u.name) ∧ (usersA L u.name).1.length ≤ 16 := by
  have hO := orderN_ordered q
  have hm : u.name ∈ (orderN L).1 := (hO.mem).2 (mem_names.2 ⟨u, hu, rfl⟩)
  unfold usersA relA
  rw [if_pos q, if_pos hm]
  refine ⟨rfl, fun s => ?_, Nat.le_trans (List.length_filter_le _ _) (by rw [hO.len]; exact hO.ln)⟩
  simp [List.mem_filter, hO.mem]
theorem lev2 (L : List UnitD) : (levelsA L).2 = (orderN L).2 := by
  unfold levelsA
  split
  · next h => rw [h]
  · rfl
/-- The closure that looks through the needs. -/
theorem k12 {X : List Lab} {a : Option Addr} {n c : Nat} {ad : Addr} {g : G} (hl : Live g ad (.slice a n c)) (h : SlE strE g a n c X) (hn : n ≤ 1048576) (s : Lab) :
    CallsP Tryd.prog 12 (#[.string (bstr s)] ++ #[.pointer (some ad)]) g fun v _ => v = .bool (tf (s ∉ X)) := by
  refine call12 _ _ g _ ?_
  unfold F12
  refine ⟨_, _, _, hl.1, (kk19 X s h hn).mono ?_⟩
  rintro v g1 _ rfl
  exact ⟨_, rfl, fun g2 _ => by rw [tf_not]⟩
theorem law3 (L : List UnitD) {a : Option Addr} {n c : Nat} {g : G} (ht : TabG g) (h : SlE unitE g a n c L) : CallsP Tryd.prog 3 #[.slice a n c] g fun v _ => v = .bool true := by
  refine call3 a n c g _ ?_
  have hl := h.len
  have hcap := h.cap
  have hnc := h.le
  unfold maxLen at hcap
  unfold F3
  intro J hJ
  refine (kkd4 g ht).mono ?_
  rintro v g42 m42 rfl
  refine ⟨_, rfl, ifF (fun e => by cases e) (fun _ => (kkd5 (h.exm m42)).mono ?_)⟩
  rintro v g1 m45 ⟨b, rfl, hb⟩
  have m01 := m42.trans m45
  refine ⟨_, rfl, ifF (fun _ => (kkd4 g1 (ht.exm m01)).mono ?_) (fun e => hJ g1 ((kkd6 (hb e).2 (ht.exm m01) (h.exm m01)).mono ?_))⟩
  · rintro v g46 _ rfl
    exact ⟨_, rfl, fun _ _ => rfl⟩
  obtain ⟨h20, hL⟩ := hb e
  rintro v g2 m2 ⟨oa, on, oc, rfl, hx⟩
  have m02 := m01.trans m2
  refine ⟨_, _, _, _, rfl, ?_⟩
  have hxl := hx.len
  rw [lev2]
  refine ifNe (fun q g3 _ => ?_) (fun q g4 n4 => ?_)
  · have e0 : (levelsA L).1 = [] := by unfold levelsA; rw [if_neg q]
    rw [e0] at hxl
    simp at hxl
    simp [← hxl]
  have hO := orderN_ordered q
  have h16 := hO.ln
  have eN : (levelsA L).1 = levelsN L (orderN L).1 := by unfold levelsA; rw [if_pos q]
  rw [eN] at hx hxl
  have hcount := levels_count hO
  have hrow := fun {i : Nat} {row : List Lab} => @levels_row L _ hO i row
  have hmemN : ∀ s, s ∈ (levelsN L (orderN L).1).flatten ↔ s ∈ namesU L := by
    intro s
    rw [List.mem_flatten]
    constructor
    · rintro ⟨row, h1, h2⟩
      obtain ⟨i, hi, rfl⟩ := List.mem_iff_getElem.1 h1
      exact ((hrow (List.getElem?_eq_getElem hi)).2.2 s).1 h2 |>.1
    · intro hs
      have hlt : levs L (orderN L).1 s < (levelsN L (orderN L).1).length := by
        unfold levelsN
        rw [List.length_map, rowsN_len]
        exact levOf_mem ((hO.mem).2 hs)
      exact ⟨_, List.getElem_mem hlt, ((hrow (List.getElem?_eq_getElem hlt)).2.2 s).2 ⟨hs, rfl⟩⟩
  have hflen : (levelsN L (orderN L).1).flatten.length = L.length := by rw [List.length_flatten, hcount]
  have hnl : (levelsN L (orderN L).1).length = on := hxl
  generalize hf : levs L (orderN L).1 = f at *
  generalize hN : levelsN L (orderN L).1 = N at *
  have m04 := m02.trans n4.ex
  have hz : g.w.heap.size ≤ g2.w.heap.size := m02.size
  have hx4 := hx.exm n4.ex
  have hpre : ∀ j, (N.take j).flatten.length ≤ L.length := fun j => by
    rw [← hflen]
    have e : N.flatten = (N.take j).flatten ++ (N.drop j).flatten := by rw [← List.flatten_append, List.take_append_drop]
    rw [e, List.length_append]
    omega
  have hoc := hx.le
  have hocap := hx.cap
  unfold maxLen at hocap
  refine ⟨fun m k i g' => ∃ j : Nat, i = ((j : Nat) : Int) ∧ j + m = on ∧ k = (((N.take j).flatten.length : Nat) : Int) ∧ MapG Tryd.prog g' 9 g2.w.heap.size (N.take j).flatten.length (lvF f (N.take j).flatten), ⟨on, 0, rfl, by omega, by simp, ?_⟩, ?_⟩
  · refine ((MapG.new n4 Tryd.prog 9).congr (fun s => ?_))
    simp [lvF]
  rintro m k i g5 le5 ⟨j, rfl, hj, rfl, hm5⟩
  refine ifLt (fun q1 => ⟨⟨by omega, by omega⟩, ?_⟩) (fun q1 => ?_)
  · have gj := List.getElem?_eq_getElem (show j < N.length by omega)
    generalize N[j] = row at gj
    obtain ⟨hne, hsrt, hmem⟩ := hrow gj
    refine rdR (hx4.mono le5) j rfl gj (fun ad ra rn rc hR hcell => ⟨_, _, _, hcell, ?_⟩)
    have hrl := hR.len
    have htk : (N.take (j + 1)).flatten = (N.take j).flatten ++ row := by rw [List.take_add_one, gj]; simp
    have hle := hpre (j + 1)
    rw [htk, List.length_append] at hle
    intro J1 hJ1
    refine ifEq (fun e => ?_) (fun _ => (k7 hsrt hR).mono ?_)
    · exact absurd (List.eq_nil_of_length_eq_zero (by omega)) hne
    rintro v g10 m10 rfl
    refine ⟨_, rfl, ifF (fun e => by cases e) (fun _ => hJ1 g10 ?_)⟩
    refine ⟨fun m k i g' => ∃ p : Nat, i = ((p : Nat) : Int) ∧ p + m = rn ∧ k = ((((N.take j).flatten.length + p : Nat)) : Int) ∧ MapG Tryd.prog g' 9 g2.w.heap.size ((N.take j).flatten.length + p) (lvF f ((N.take j).flatten ++ row.take p)), ⟨rn, 0, rfl, by omega, by simp, by simpa using hm5.ex m10⟩, ?_⟩
    rintro m2 k i g7 le7 ⟨p, rfl, hp, rfl, hm7⟩
    refine ifLt (fun q2 => ⟨⟨by omega, by omega⟩, ?_⟩) (fun q2 => ?_)
    · have gp := List.getElem?_eq_getElem (show p < row.length by omega)
      generalize row[p] = s at gp
      have hs := (hmem s).1 (List.mem_of_getElem? gp)
      obtain ⟨y, hy, hys⟩ := mem_names.1 hs.1
      have hsl := upper_len (hO.ok y hy).1
      rw [hys] at hsl
      obtain ⟨w', hrun, g8, hw, hs8, hm8, _⟩ := hm7.put Tryd.underlying9 Tryd.underlying29 (by unfold maxLen; omega) s (by unfold maxLen; omega) (.int .i64 ((j : Nat) : Int)) (B := g.w.heap.size) hz
      refine rdS ((hR.exm m10).mono le7) p rfl gp ⟨w', hrun, g8, hw, hs8, i64 (by omega) (by omega), i64 (by omega) (by omega), m2 - 1, by omega, p + 1, by omega, by omega, by omega, ?_⟩
      rw [lvF_upd f _ s _ (by rw [hs.2])] at hm8
      rw [List.take_add_one, gp, ← List.append_assoc]
      exact hm8
    · refine ⟨i64 (by omega) (by omega), m - 1, by omega, j + 1, by omega, by omega, ?_, ?_⟩
      · rw [htk, List.length_append]; omega
      · rw [List.take_of_length_le (show row.length ≤ p by omega)] at hm7
        rw [htk, List.length_append, show row.length = p by omega]
        exact hm7
  rw [List.take_of_length_le (show N.length ≤ j by omega)] at hm5
  rw [List.take_of_length_le (show N.length ≤ j by omega), hflen]
  intro J2 hJ2
  refine ifNe (fun hh => absurd (by omega) hh) (fun _ => ?_)
  have hKlen : (sortS (namesU L)).length = L.length := by rw [(sortS_nodup _).2 hO.nd]; simp [namesU]
  have hdef : ∀ s, lvF f N.flatten s ≠ none ↔ s ∈ namesU L := by
    intro s
    unfold lvF
    by_cases qq : s ∈ N.flatten
    · rw [if_pos qq]; exact ⟨fun _ => (hmemN s).1 qq, fun _ e => by cases e⟩
    · rw [if_neg qq]; exact ⟨fun hh => absurd rfl hh, fun hh => absurd ((hmemN s).2 hh) qq⟩
  have hlen := map_len hm5 (srt_sortS (namesU L)) (fun s => by rw [hdef, mem_sortS])
  refine ⟨_, _, hlen, g5, rfl, Stp.refl _ _ _, ifNe (fun hh => absurd (by rw [hKlen]; omega) hh) (fun _ => hJ2 g5 ?_)⟩
  have le05 : Le g g5 := m04.le.trans le5
  have hfs : ∀ s, s ∈ namesU L → lvF f N.flatten s = some (.int .i64 ((f s : Nat) : Int)) := fun s hs => by
    unfold lvF
    rw [if_pos ((hmemN s).2 hs)]
  refine ⟨fun m i g' => ∃ j : Nat, i = ((j : Nat) : Int) ∧ j + m = n ∧ MapG Tryd.prog g' 9 g2.w.heap.size N.flatten.length (lvF f N.flatten), ⟨n, 0, rfl, by omega, hm5⟩, ?_⟩
  rintro m i g13 le13 ⟨j, rfl, hj, hm13⟩
  refine ifLt (fun q2 => ⟨⟨by omega, by omega⟩, ?_⟩) (fun _ g38 _ => rfl)
  have gj := List.getElem?_eq_getElem (show j < L.length by omega)
  generalize L[j] = u at gj
  have hu := List.mem_of_getElem? gj
  have hun : u.name ∈ namesU L := mem_names.2 ⟨u, hu, rfl⟩
  have hul := upper_len (hO.ok u hu).1
  have le013 := le05.trans le13
  refine rdUA (h.mono le013) j rfl gj (fun ad ia im ic da dn dc hI hc => ?_)
  obtain ⟨c0, c1, c2⟩ := hc g13 (Le.refl _)
  have hil := hI.imps.len
  have hi16 := (hO.ok u hu).2.1
  refine ⟨_, _, _, _, _, _, _, c0, c1, c2, fun g14 m14 => ?_⟩
  have hm14 := hm13.ex m14
  have hlk := hm14.lookOk Tryd.underlying9 Tryd.underlying29 (zero3 g14.w) u.name (by unfold maxLen; omega)
  rw [hfs _ hun] at hlk
  refine ⟨_, _, _, hlk, g14, rfl, Stp.refl _ _ _, ifF (fun e => by cases e) (fun _ => ?_)⟩
  refine ⟨fun m top i g' => ∃ p : Nat, i = ((p : Nat) : Int) ∧ p + m = im ∧ top = ((levOf f (u.imps.take p) : Nat) : Int) - 1 ∧ MapG Tryd.prog g' 9 g2.w.heap.size N.flatten.length (lvF f N.flatten), ⟨im, 0, rfl, by omega, rfl, hm14⟩, ?_⟩
  rintro m3 top i g17 le17 ⟨p, rfl, hp, rfl, hm17⟩
  refine ifLt (fun q3 => ⟨⟨by omega, by omega⟩, ?_⟩) (fun q3 => ?_)
  · have gp := List.getElem?_eq_getElem (show p < u.imps.length by omega)
    generalize u.imps[p] = s at gp
    have hs := hO.imp u hu s (List.mem_of_getElem? gp)
    obtain ⟨y, hy, hys⟩ := mem_names.1 hs
    have hsl := upper_len (hO.ok y hy).1
    rw [hys] at hsl
    have hlk2 := hm17.look Tryd.underlying9 Tryd.underlying29 (zero3 g17.w) s (by unfold maxLen; omega)
    rw [hfs _ hs] at hlk2
    refine rdS ((hI.imps.exm m14).mono le17) p rfl gp ⟨_, _, hlk2, g17, rfl, Stp.refl _ _ _, i64 (by omega) (by omega), m3 - 1, by omega, p + 1, by omega, by omega, ?_, hm17⟩
    rw [levOf_take gp]
    unfold maxI
    split <;> omega
  rw [take_all (by omega)]
  have hlu : f u.name = levOf f u.imps := by have := levs_all hO hu; rw [hf] at this; exact this
  have hsmall : f u.name < N.length := by
    have := levOf_mem (f := f) ((hO.mem).2 hun)
    have e : N.length = levOf f (orderN L).1 := by rw [← hN]; unfold levelsN; rw [List.length_map, rowsN_len, hf]
    omega
  have le017 := (le013.trans m14.le).trans le17
  obtain ⟨cu2, cum, cul⟩ := clos_ok q hu
  refine ⟨i64 (by omega) (by omega), ifNe (fun hh => absurd (by omega) hh) (fun _ => (kkd8 u.name hL (ht.mono le017) (h.mono le017)).mono ?_)⟩
  rintro v g20 m20 ⟨na, nn, nc, rfl, hnd⟩
  refine ⟨_, _, _, _, rfl, fun g21 n21 => ?_⟩
  have hmb := n21.mut
  refine ⟨hmb.ok0 (by simp), hmb.nx, hmb.mut0 1, fun hh => by have h1 : g.w.heap.size ≤ g17.w.heap.size := le017.size; have h2 := m20.size; have h3 : g20.w.heap.size < g.w.heap.size := hh; omega, fun g22 k22 => ?_⟩
  obtain ⟨hbox, b22⟩ := hmb.pub1 k22
  have hm22 : MapG Tryd.prog g22 9 g2.w.heap.size N.flatten.length (lvF f N.flatten) := by
    refine (((hm17.ex m20).ex n21.ex)).but b22 (fun e => ?_)
    have h1 := hm17.lt
    have h2 := m20.size
    have e' : g2.w.heap.size = g20.w.heap.size := e
    omega
  have le2022 : Le g20 g22 := n21.ex.le.trans (b22.le (fun z hz i => by have e : z = g20.w.heap.size := hz; rw [e]; exact hmb.d i))
  have le022 := (le017.trans m20.le).trans le2022
  have hnd22 := hnd.mono le2022
  have hnl2 := hnd.len
  rw [cu2]
  refine ifNe (fun hh => absurd rfl hh) (fun _ => ?_)
  refine ⟨fun m i g' => ∃ k : Nat, i = ((k : Nat) : Int) ∧ k + m = n ∧ MapG Tryd.prog g' 9 g2.w.heap.size N.flatten.length (lvF f N.flatten), ⟨n, 0, rfl, by omega, hm22⟩, ?_⟩
  rintro m4 i g24 le24 ⟨k, rfl, hk, hm24⟩
  refine ifLt (fun q4 => ⟨⟨by omega, by omega⟩, ?_⟩) (fun q4 => ⟨i64 (by omega) (by omega), m - 1, by omega, j + 1, by omega, by omega, hm24⟩)
  have gk := List.getElem?_eq_getElem (show k < L.length by omega)
  generalize L[k] = v at gk
  have hv := List.mem_of_getElem? gk
  have hvn : v.name ∈ namesU L := mem_names.2 ⟨v, hv, rfl⟩
  have le024 := le022.trans le24
  refine rdUA (h.mono le024) k rfl gk (fun ad2 ia2 im2 ic2 da2 dn2 dc2 hI2 hc2 => ?_)
  obtain ⟨d0, d1, d2⟩ := hc2 g24 (Le.refl _)
  refine ⟨_, _, _, _, _, _, _, d0, d1, d2, fun g25 m25 => ?_⟩
  have le025 := le024.trans m25.le
  obtain ⟨us2, usm, usl⟩ := user_ok q hv
  obtain ⟨cv2, cvm, cvl⟩ := clos_ok q hv
  refine (kkd9 v.name hL (ht.mono le025) (h.mono le025)).mono ?_
  rintro x g26 m26 ⟨ua, un, uc, rfl, hus⟩
  refine ⟨_, _, _, _, rfl, (kkd8 v.name hL (ht.mono (le025.trans m26.le)) (h.mono (le025.trans m26.le))).mono ?_⟩
  rintro x g27 m27 ⟨va, vn, vc, rfl, hvs⟩
  refine ⟨_, _, _, _, rfl, ?_⟩
  have husl := hus.len
  have hvsl := hvs.len
  rw [us2, cv2]
  intro J3 hJ3 g32 m32
  have m2432 := ((m25.trans m26).trans m27).trans m32
  have hbox32 := (hbox.mono le24).mono m2432.le
  have hnd32 := (hnd22.mono le24).exm m2432
  have hm32 := hm24.ex m2432
  refine ifNe (fun hh => absurd rfl hh) (fun _ => ifNe (fun hh => absurd rfl hh) (fun _ => ⟨_, _, _, hbox32.1, (kk19 _ u.name ((hus.exm m27).exm m32) (by omega)).mono ?_⟩))
  rintro x g35 m35 rfl
  refine ⟨_, rfl, (kk19 _ v.name (hnd32.exm m35) (by omega)).mono ?_⟩
  rintro x g36 m36 rfl
  have m3236 := m35.trans m36
  have hboth : tf (u.name ∈ (usersA L v.name).1) = tf (v.name ∈ (closureA L u.name).1) := tf_iff (by rw [usm, cum]; exact ⟨fun hh => ⟨hvn, hh.2⟩, fun hh => ⟨hun, hh.2⟩⟩)
  refine ⟨_, rfl, ?_⟩
  rw [hboth]
  refine ifF (fun e => by simp at e) (fun _ => hJ3 g36 ⟨_, _, _, (hbox32.mono m3236.le).1, (kk19 _ v.name (hnd32.exm m3236) (by omega)).mono ?_⟩)
  rintro x g29 m29 rfl
  have m3229 := m3236.trans m29
  refine ⟨_, rfl, ifP (fun hin => ?_) (fun _ => ⟨i64 (by omega) (by omega), m4 - 1, by omega, k + 1, by omega, by omega, hm32.ex m3229⟩)⟩
  refine (kq61x 12 #[.pointer (some ⟨g20.w.heap.size, 0, none⟩)] (fun s => s ∉ (closureA L u.name).1) (closureA L v.name).1 ((hvs.exm m32).exm m3229) (by omega) ⟨_, Tryd.func12, by kernel_rfl, by kernel_rfl⟩ (fun g' mg s _ => k12 ((hbox32.mono m3229.le).mono mg.le) ((hnd32.exm m3229).exm mg) (by omega) s)).mono ?_
  rintro x g30 m30 rfl
  refine ⟨_, rfl, ifP (fun hh => ?_) (fun _ => ⟨i64 (by omega) (by omega), m4 - 1, by omega, k + 1, by omega, by omega, (hm32.ex m3229).ex m30⟩)⟩
  obtain ⟨s, hs, hno⟩ := hh
  obtain ⟨s1, s2⟩ := (cvm s).1 hs
  exact absurd ((cum s).2 ⟨s1, ((cum v.name).1 hin).2.trans s2⟩) hno
end Go.Proofs.YtmkdbndniffkfaaDoor
