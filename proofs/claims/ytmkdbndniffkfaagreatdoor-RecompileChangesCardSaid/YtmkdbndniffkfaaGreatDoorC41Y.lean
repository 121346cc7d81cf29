/- Joined texts. -/
import Derived.Test.YtmkdbndniffkfaaGreatDoorC41x
import Derived.Test.YtmkdbndniffkfaaGreatDoorSplan
/- The reference's levels and needs; the law RecompileGraphs. -/
set_option linter.unusedVariables false
namespace Go.Proofs.YtmkdbndniffkfaaGreatDoor
open Go Go.Vc Go.RowKit Go.Syn

section
variable {L : List UnitD} {o : List Lab} {a : Option Addr} {n c : Nat} (hO : Ordered L o)
include hO
end
theorem ex_stp {a b c : G} (h : Ex a b) (k : Stp a.w.heap.size nobody b c) : Ex a c :=
  ⟨Nat.le_trans h.size k.le.size, fun x hx hn hh => h.x x hx hn ((k.x x).1 hh), fun x hx hn => (k.same x hx (fun hh => hh)).trans (h.same x hx hn), fun x hx hn i => (k.d x hx (fun hh => hh) i).trans (h.d x hx hn i)⟩
section
open Classical
end
end Go.Proofs.YtmkdbndniffkfaaGreatDoor
/- Plan. -/
set_option linter.unusedVariables false
namespace Go.Proofs.YtmkdbndniffkfaaGreatDoor
open Go Go.Vc Go.RowKit Go.Syn

/-- A read of a record; its cells stand in all later worlds. -/
theorem rdRA {R : List RecD} {a : Option Addr} {n c : Nat} {g : G} (h : SlE recE g a n c R) {i : Int} (p : Nat) (hi : i = (p : Int)) {r : RecD} (hr : R[p]? = some r) {K : Addr → Prop}
    (hk : ∀ ad ia im ic da dn dc, a = some ad → RecI g r ia im ic da dn dc → (∀ g', Le g g' → g'.w.cell? (Addr.add ad (Int.toNat i * 5)) = some (.string (bstr r.name)) ∧ g'.w.cell? (Addr.add (Addr.add ad (Int.toNat i * 5)) 1) = some (.string (bstr r.source)) ∧
      g'.w.cell? (Addr.add (Addr.add ad (Int.toNat i * 5)) 2) = some (.slice ia im ic) ∧ g'.w.cell? (Addr.add (Addr.add ad (Int.toNat i * 5)) 3) = some (.slice da dn dc) ∧ g'.w.cell? (Addr.add (Addr.add ad (Int.toNat i * 5)) 4) = some (.string (bstr r.face))) → K ad) : derefP a K := by
  subst hi
  have hrd := h.rd (i := p) hr (K := fun ad => ∃ rr, recE.rep g rr r ∧ ∀ j v, rr[j]? = some v → Live g ((Addr.add ad (p * 5)).add j) v) (fun rr ad h1 h2 => ⟨rr, h1, h2⟩)
  obtain ⟨ad, rfl, rr, ⟨ia, im, ic, da, dn, dc, rfl, hI⟩, hl⟩ := derefP_some hrd
  refine hk ad ia im ic da dn dc rfl hI (fun g' m => ?_)
  rw [Int.toNat_natCast]
  have h0 := ((hl 0 _ rfl).mono m).1
  rw [Addr.add_zero'] at h0
  exact ⟨h0, ((hl 1 _ rfl).mono m).1, ((hl 2 _ rfl).mono m).1, ((hl 3 _ rfl).mono m).1, ((hl 4 _ rfl).mono m).1⟩
/-- slices.IndexFunc and ContainsFunc, of records. -/
theorem k33 (f : FuncId) (c0 : Array Value) (p : RecD → Bool → Prop) (R : List RecD) {a : Option Addr} {n c : Nat} {g : G} (h : SlE recE g a n c R) (hn : n ≤ 1048576) (he : Go.Vc.Enters Tryz.prog f)
    (hf : ∀ g' r, Le g g' → r ∈ R → ∀ ia im ic da dn dc, RecI g' r ia im ic da dn dc → CallsP Tryz.prog f (#[recV r ia im ic da dn dc] ++ c0) g' fun v _ => ∃ b, v = .bool b ∧ p r b) :
    CallsP Tryz.prog 33 #[.slice a n c, .func (.func f) #[] c0] g fun v _ => ∃ b, v = .bool b ∧ (b = true → ∃ r ∈ R, p r true) ∧ (b = false → ∀ r ∈ R, p r false) := by
  have hl := h.len
  have k73 : CallsP Tryz.prog 73 #[.slice a n c, .func (.func f) #[] c0] g fun v _ => ∃ i : Int, v = .int .i64 i ∧ ((0 ≤ i ∧ ∃ r ∈ R, p r true) ∨ (i < 0 ∧ ∀ r ∈ R, p r false)) := by
    refine call73 a n c f c0 g _ ?_
    unfold F73
    refine ⟨fun m i g' => ∃ j : Nat, i = ((j : Nat) : Int) ∧ j + m = n ∧ ∀ r ∈ R.take j, p r false, ⟨n, 0, rfl, by omega, by simp⟩, ?_⟩
    rintro m i g1 le ⟨j, rfl, hj, hall⟩
    refine ifLt (fun hlt => ⟨⟨by omega, by omega⟩, ?_⟩) (fun hge g4 _ => ⟨_, rfl, .inr ⟨by omega, by rwa [take_all (by omega)] at hall⟩⟩)
    have gj := List.getElem?_eq_getElem (show j < R.length by omega)
    generalize R[j] = r at gj
    have hr := List.mem_of_getElem? gj
    refine rdRA (h.mono le) j rfl gj (fun ad ia im ic da dn dc _ hI hc => ?_)
    obtain ⟨c0', c1, c2, c3, c4⟩ := hc g1 (Le.refl _)
    refine ⟨_, _, _, _, _, _, _, _, _, c0', c1, c2, c3, c4, he, (hf g1 r le hr ia im ic da dn dc hI).mono ?_⟩
    rintro v g2 _ ⟨b, rfl, hb⟩
    exact ⟨_, rfl, ifT (fun e g3 _ => ⟨_, rfl, .inl ⟨by omega, r, hr, e ▸ hb⟩⟩) (fun e => ⟨i64 (by omega) (by omega), m - 1, by omega, j + 1, by omega, by omega, (all_take gj (p · false)).2 ⟨hall, e ▸ hb⟩⟩)⟩
  refine call33 a n c f c0 g _ ?_
  unfold F33
  refine k73.mono ?_
  rintro v g1 _ ⟨i, rfl, hi⟩
  refine ⟨_, rfl, fun g2 _ => ⟨_, rfl, fun e => ?_, fun e => ?_⟩⟩
  · rcases hi with ⟨_, h2⟩ | ⟨h1, _⟩
    · exact h2
    · rw [leI_true] at e; omega
  · rcases hi with ⟨h1, _⟩ | ⟨_, h2⟩
    · rw [leI_false] at e; omega
    · exact h2
theorem k51 {r : RecD} (hr : recOK r) {ia : Option Addr} {im ic : Nat} {da : Option Addr} {dn dc : Nat} {g : G} (h : RecI g r ia im ic da dn dc) : CallsP Tryz.prog 51 (#[recV r ia im ic da dn dc] ++ #[]) g fun v _ => ∃ b, v = .bool b ∧ (b = true ↔ ¬ recP r) := by
  refine call51 _ _ _ _ _ _ _ _ _ g _ ?_
  unfold F51
  refine fun g1 m1 => (k31 hr (h.exm m1)).mono ?_
  rintro v g2 _ rfl
  exact ⟨_, rfl, fun g3 _ => ⟨_, rfl, by rw [tf_not, tf_true]⟩⟩
def PlanSay (r : List ReaD × Int) (v : Value) (g' : G) : Prop := ∃ oa on oc, v = .tuple ⟨[.slice oa on oc, .int .i64 r.2]⟩ ∧ SlE reaE g' oa on oc r.1
theorem plan_err {L : List UnitD} {R : List RecD} {S F : List Lab} {k : Int} (h : planA L R S F = ([], k)) (g' : G) : PlanSay (planA L R S F) (.tuple ⟨[.slice none 0 0, .int .i64 k]⟩) g' := ⟨none, 0, 0, by rw [h], by rw [h]; exact SlE.zero _⟩
theorem E34 : Elem Tryz.prog 34 39 2 24 := ⟨Tryz.underlying34, by kernel_rfl⟩
theorem zero102 (w : World) : (zeroValue 102).run Tryz.prog w = .ok (.pointer none) w := by kernel_rfl
theorem zero9 (w : World) : (zeroValue 9).run Tryz.prog w = .ok (.string (bs [])) w := by kernel_rfl
theorem recOf_none {R : List RecD} {s : Lab} (h : ∀ r ∈ R, r.name ≠ s) : recOf R s = none := by
  unfold recOf
  rw [List.find?_eq_none]
  intro r hr
  simpa using h r hr
theorem names_nodup_take {R : List RecD} {j : Nat} {r : RecD} (h : R[j]? = some r) : ((R.take (j + 1)).map (·.name)).Nodup ↔ ((R.take j).map (·.name)).Nodup ∧ ∀ x ∈ R.take j, x.name ≠ r.name := by
  rw [List.take_add_one, h, List.map_append, List.nodup_append]
  simp only [Option.toList_some, List.map_cons, List.map_nil, List.mem_map, List.mem_singleton, forall_eq]
  constructor
  · rintro ⟨h1, _, h3⟩
    exact ⟨h1, fun x hx e => h3 _ ⟨x, hx, rfl⟩ e⟩
  · rintro ⟨h1, h2⟩
    exact ⟨h1, by simp, by rintro _ ⟨x, hx, rfl⟩ e; exact h2 x hx e⟩
theorem names_nodup_mono {R : List RecD} {j : Nat} (h : (R.map (·.name)).Nodup) : ((R.take j).map (·.name)).Nodup := by
  rw [List.map_take]
  exact h.sublist (List.take_sublist _ _)
/-- The map of the records. -/
structure KnownI (g : G) (mb k : Nat) (ad : Addr) (R : List RecD) (f : List UInt8 → Option Value) : Prop where
  map : MapG Tryz.prog g 9 mb k f
  say : ∀ s, (f s = none ∧ ∀ r ∈ R, r.name ≠ s) ∨ ∃ (i : Nat) (r : RecD), R[i]? = some r ∧ r.name = s ∧ f s = some (.pointer (some (Addr.add ad (i * 5))))
theorem planA_ok {L : List UnitD} {R : List RecD} {S F : List Lab} (q : (orderN L).2 = 0) (h : S.length = L.length ∧ F.length = L.length ∧ (∀ s ∈ S, digestP s) ∧ (∀ s ∈ F, digestP s) ∧ ∀ r ∈ R, recP r) (h2 : ¬ 1000 < R.length) (h3 : (R.map (·.name)).Nodup) : planA L R S F = (planRow L R F L S, 0) :=
  (if_pos q).trans ((if_pos h).trans ((if_neg h2).trans (if_pos h3)))
section
variable {L : List UnitD} {R : List RecD} {S F : List Lab} {a : Option Addr} {n c : Nat} {ra : Option Addr} {rn rc : Nat} {sa : Option Addr} {sn sc : Nat} {fa : Option Addr} {fn fc : Nat} {g : G}
/-- Plan. -/
theorem k12 (hL : ∀ u ∈ L, unitOK u) (hRok : ∀ r ∈ R, recOK r) (hRn : R.length ≤ 1048576) (hSs : shortL S) (hFs : shortL F) (ht : TabG g) (h : SlE unitE g a n c L) (hR : SlE recE g ra rn rc R) (hS : SlE strE g sa sn sc S) (hF : SlE strE g fa fn fc F) :
    CallsP Tryz.prog 12 #[.slice a n c, .slice ra rn rc, .slice sa sn sc, .slice fa fn fc] g fun v g' => PlanSay (planA L R S F) v g' := by
  refine call12 a n c ra rn rc sa sn sc fa fn fc g _ ?_
  have hl := h.len
  have hrl := hR.len
  have hsl := hS.len
  have hfl := hF.len
  unfold F12
  refine (k40 hL ht h).mono ?_
  rintro v g1 m1 ⟨p, rfl, hp⟩
  refine ⟨p, _, rfl, ifNe (fun q g2 m2 => plan_err (if_neg q) g2) (fun q => ?_)⟩
  have hO := orderN_ordered q
  have h16 := hO.ln
  intro J hJ
  have bad : ∀ g3, ¬ (S.length = L.length ∧ F.length = L.length ∧ (∀ s ∈ S, digestP s) ∧ (∀ s ∈ F, digestP s) ∧ ∀ r ∈ R, recP r) → J true g3 := fun g3 hh => hJ true g3 (ifT (fun _ g4 _ => plan_err ((if_pos q).trans (if_neg hh)) g4) (fun e => by cases e))
  have ok : ∀ g3, Ex g1 g3 → (S.length = L.length ∧ F.length = L.length ∧ (∀ s ∈ S, digestP s) ∧ (∀ s ∈ F, digestP s) ∧ ∀ r ∈ R, recP r) → J false g3 := by
    intro g3 m3 hok
    obtain ⟨ok1, ok2, ok3, ok4, ok5⟩ := hok
    have m03 := m1.trans m3
    refine hJ false g3 (ifT (fun e => by cases e) (fun _ => ifLt (fun q1 g5 _ => plan_err ((if_pos q).trans ((if_pos ⟨ok1, ok2, ok3, ok4, ok5⟩).trans (if_pos (by omega)))) g5) (fun q1 g6 n6 => ?_)))
    have hR6 := (hR.exm m03).exm n6.ex
    -- the address of the records
    obtain ⟨rad, hrad⟩ : ∃ rad : Addr, ∀ ad, ra = some ad → ad = rad := by
      cases ra with
      | none => exact ⟨⟨0, 0, none⟩, fun ad e => by cases e⟩
      | some x => exact ⟨x, fun ad e => by cases e; rfl⟩
    have K0 : KnownI g6 g3.w.heap.size 0 rad (R.take 0) (fun _ => none) := ⟨MapG.new n6 Tryz.prog 9, fun s => .inl ⟨rfl, by simp⟩⟩
    refine ⟨fun m i g' => ∃ (j : Nat) (f : List UInt8 → Option Value), i = ((j : Nat) : Int) ∧ j + m = rn ∧ KnownI g' g3.w.heap.size j rad (R.take j) f ∧ ((R.take j).map (·.name)).Nodup, ⟨rn, 0, _, rfl, by omega, K0, by simp⟩, ?_⟩
    rintro m i g7 le7 ⟨j, f, rfl, hj, hk, hnd⟩
    have le07 : Le g g7 := (m03.trans n6.ex).le.trans le7
    refine ifLt (fun q2 => ⟨⟨by omega, by omega⟩, ?_⟩) (fun q2 => ?_)
    · have gj := List.getElem?_eq_getElem (show j < R.length by omega)
      generalize R[j] = r at gj
      have hr := List.mem_of_getElem? gj
      have hrname : r.name.length ≤ 24 := upper_len (ok5 r hr).1
      refine rdRA (hR6.mono le7) j rfl gj (fun ad ia im ic da dn dc hra hI hc => ⟨_, (hc g7 (Le.refl _)).1, ?_⟩)
      have had := hrad ad hra
      have hlk := hk.map.look Tryz.underlying9 Tryz.underlying101 (zero102 g7.w) r.name (by unfold maxLen; omega)
      rcases hk.say r.name with ⟨hf, hno⟩ | ⟨i0, r0, gi0, hr0, hf⟩
      · rw [hf] at hlk
        refine ⟨_, _, hlk, g7, rfl, Stp.refl _ _ _, ifT (fun e => by cases e) (fun _ g10 m10 => ⟨⟨by omega, by omega⟩, ?_⟩)⟩
        refine rdRA ((hR6.mono le7).exm m10) j rfl gj (fun ad2 ia2 im2 ic2 da2 dn2 dc2 hra2 hI2 hc2 => ⟨_, (hc2 g10 (Le.refl _)).1, ⟨by omega, by omega⟩, ?_⟩)
        have had2 := hrad ad2 hra2
        rw [hra2]
        obtain ⟨w', hrun, g11, hw, hs11, hm11, hb11⟩ := (hk.map.ex m10).put Tryz.underlying9 Tryz.underlying101 (by unfold maxLen; omega) r.name (by unfold maxLen; omega) (.pointer (some (Addr.add ad2 (Int.toNat ((j : Nat) : Int) * 5)))) (B := g.w.heap.size) m03.size
        refine ⟨w', hrun, g11, hw, hs11, i64 (by omega) (by omega), m - 1, by omega, j + 1, _, by omega, by omega, ⟨hm11, fun s => ?_⟩, (names_nodup_take gj).2 ⟨hnd, hno⟩⟩
        have htk : R.take (j + 1) = R.take j ++ [r] := by rw [List.take_add_one, gj]; rfl
        by_cases e : s = r.name
        · subst e
          refine .inr ⟨j, r, ?_, rfl, ?_⟩
          · rw [List.getElem?_take, if_pos (by omega)]; exact gj
          · rw [upd_same, had2, Int.toNat_natCast]
        · rw [upd_other _ _ e]
          rcases hk.say s with ⟨h1, h2⟩ | ⟨i1, r1, h1, h2, h3⟩
          · refine .inl ⟨h1, fun x hx => ?_⟩
            rw [htk] at hx
            rcases List.mem_append.1 hx with hx | hx
            · exact h2 x hx
            · rw [List.mem_singleton.1 hx]; exact fun e2 => e e2.symm
          · refine .inr ⟨i1, r1, ?_, h2, h3⟩
            rw [htk, List.getElem?_append_left (List.getElem?_eq_some_iff.1 h1).1]
            exact h1
      · rw [hf] at hlk
        refine ⟨_, _, hlk, g7, rfl, Stp.refl _ _ _, ifT (fun _ g9 _ => plan_err ?_ g9) (fun e => by cases e)⟩
        refine (if_pos q).trans ((if_pos ⟨ok1, ok2, ok3, ok4, ok5⟩).trans ((if_neg (by omega)).trans (if_neg (fun hh => ?_))))
        have h1 := names_nodup_mono (j := j + 1) hh
        exact ((names_nodup_take gj).1 h1).2 r0 (List.mem_of_getElem? gi0) hr0
    · rw [take_all (by omega)] at hk hnd
      have eA := planA_ok q ⟨ok1, ok2, ok3, ok4, ok5⟩ (by omega) hnd
      intro g12 n12
      have z3 : g3.w.heap.size < g7.w.heap.size := hk.map.lt
      have hk12 : KnownI g12 g3.w.heap.size j rad R f := ⟨hk.map.ex n12.ex, hk.say⟩
      have le012 := le07.trans n12.ex.le
      have hfm : ∀ {jj : Nat} {u : UnitD} {x : Lab}, L[jj]? = some u → F[jj]? = some x → faceOf L F u.name = x := fun h1 h2 => faceOf_at hO.nd h1 h2
      refine ⟨fun m i g' => ∃ (j2 : Nat) (fm : List UInt8 → Option Value), i = ((j2 : Nat) : Int) ∧ j2 + m = n ∧ KnownI g' g3.w.heap.size j rad R f ∧ MapG Tryz.prog g' 9 g7.w.heap.size j2 fm ∧ ∀ u ∈ L.take j2, fm u.name = some (.string (bstr (faceOf L F u.name))),
        ⟨n, 0, _, rfl, by omega, hk12, MapG.new n12 Tryz.prog 9, by simp⟩, ?_⟩
      rintro m2 i2 g13 le13 ⟨j2, fm, rfl, hj2, hk13, hm13, hfs⟩
      have le013 := le012.trans le13
      refine ifLt (fun q3 => ⟨⟨by omega, by omega⟩, ?_⟩) (fun q3 => ?_)
      · have gj2 := List.getElem?_eq_getElem (show j2 < L.length by omega)
        have gf2 := List.getElem?_eq_getElem (show j2 < F.length by omega)
        generalize L[j2] = u at gj2
        generalize F[j2] = x at gf2
        have hu := List.mem_of_getElem? gj2
        have hul := upper_len (hO.ok u hu).1
        refine rdUA (h.mono le013) j2 rfl gj2 (fun ad ia im ic da dn dc hI hc => ?_)
        obtain ⟨c0, c1, c2⟩ := hc g13 (Le.refl _)
        refine ⟨_, _, _, _, _, _, _, c0, c1, c2, fun g14 m14 => ⟨⟨by omega, by omega⟩, rdS ((hF.mono le013).exm m14) j2 rfl gf2 ?_⟩⟩
        obtain ⟨w', hrun, g15, hw, hs15, hm15, hb15⟩ := (hm13.ex m14).put Tryz.underlying9 Tryz.underlying103 (by unfold maxLen; omega) u.name (by unfold maxLen; omega) (.string (bstr x)) (B := g.w.heap.size) le07.size
        refine ⟨w', hrun, g15, hw, hs15, i64 (by omega) (by omega), m2 - 1, by omega, j2 + 1, _, by omega, by omega, ⟨(hk13.map.ex m14).but hb15 (fun e => by have e' : g3.w.heap.size = g7.w.heap.size := e; omega), hk13.say⟩, hm15, ?_⟩
        refine (all_take gj2 (fun y : UnitD => upd fm u.name (some (.string (bstr x))) y.name = some (.string (bstr (faceOf L F y.name))))).2 ⟨fun y hy => ?_, by rw [upd_same, hfm gj2 gf2]⟩
        by_cases e : y.name = u.name
        · rw [e, upd_same, hfm gj2 gf2]
        · rw [upd_other _ _ e]; exact hfs y hy
      · rw [take_all (by omega)] at hfs
        refine ⟨fun m oa on oc i g' => ∃ (k : Nat), i = ((k : Nat) : Int) ∧ k + m = n ∧ OwnE reaE g' g13.w.heap.size 39 oa on oc ((planRow L R F L S).take k) ∧ KnownI g' g3.w.heap.size j rad R f ∧ MapG Tryz.prog g' 9 g7.w.heap.size j2 fm,
          ⟨n, 0, rfl, by omega, by simpa using OwnE.nil _ _ _, hk13, hm13⟩, ?_⟩
        rintro m4 oa on oc i4 g16 le16 ⟨k, rfl, hkn, hout, hk16, hm16⟩
        have hpl := planRow_len L R F L S ok1
        have houl := hout.len
        rw [List.length_take, hpl] at houl
        have le016 := le013.trans le16
        refine ifLt (fun q4 => ⟨⟨by omega, by omega⟩, ?_⟩) (fun q4 g27 m27 => ?_)
        · have gk := List.getElem?_eq_getElem (show k < L.length by omega)
          have gs := List.getElem?_eq_getElem (show k < S.length by omega)
          generalize L[k] = u at gk
          generalize S[k] = src at gs
          have hu := List.mem_of_getElem? gk
          have hul := upper_len (hO.ok u hu).1
          have hpg := planRow_get L R F L S gk gs
          refine rdUA (h.mono le016) k rfl gk (fun ad ia im ic da dn dc hI hc => ?_)
          obtain ⟨c0, c1, c2⟩ := hc g16 (Le.refl _)
          have hil := hI.imps.len
          have hi16 := (hO.ok u hu).2.1
          refine ⟨_, _, _, _, _, _, _, c0, c1, c2, fun m wa wn wc i g' => ∃ p : Nat, i = ((p : Nat) : Int) ∧ p + m = im ∧ OwnE strE g' g16.w.heap.size 9 wa wn wc ((u.imps.take p).map (faceOf L F)) ∧ Ex g16 g',
            fun g17 m17 => ⟨im, 0, rfl, by omega, by simpa using OwnE.nil _ _ _, m17⟩, ?_⟩
          rintro m6 wa wn wc i6 g18 le18 ⟨p, rfl, hp, hd, m18⟩
          have hdl := hd.len
          rw [List.length_map, List.length_take] at hdl
          refine ifLt (fun q5 => ⟨⟨by omega, by omega⟩, ?_⟩) (fun q5 g22 m22 => ⟨⟨by omega, by omega⟩, ?_⟩)
          · have gp := List.getElem?_eq_getElem (show p < u.imps.length by omega)
            generalize u.imps[p] = s at gp
            have hs := List.mem_of_getElem? gp
            obtain ⟨y, hy, rfl⟩ := mem_names.1 (hO.imp u hu s hs)
            have hyl := upper_len (hO.ok y hy).1
            have hlk := (hm16.ex m18).look Tryz.underlying9 Tryz.underlying103 (zero9 g18.w) y.name (by unfold maxLen; omega)
            rw [hfs y hy] at hlk
            refine rdS (hI.imps.mono le18) p rfl gp ⟨_, _, hlk, g18, rfl, Stp.refl _ _ _, fun g20 n20 => ?_⟩
            obtain ⟨a', c', w', hr, g21, hw, hs21, ho21, _, _⟩ := hd.app1 E30 30 m18.size n20 (x := faceOf L F y.name) rfl (by omega) (by unfold maxLen; omega)
            refine ⟨a', _, c', w', hr, g21, hw, hs21.mono le016.size (fun _ _ hh => hh), i64 (by omega) (by omega), m6 - 1, by omega, p + 1, by omega, by omega, ?_, ex_stp (m18.trans n20.ex) hs21⟩
            rw [List.take_add_one, gp, List.map_append]
            exact ho21
          · rw [take_all (by omega)] at hd
            have m1622 := m18.trans m22
            refine rdS ((hS.mono le016).exm m1622) k rfl gs ?_
            have hlk := (hk16.map.ex m1622).look Tryz.underlying9 Tryz.underlying101 (zero102 g22.w) u.name (by unfold maxLen; omega)
            have fin : ∀ (pt : Option Addr), (CallsP Tryz.prog 52 #[.pointer pt, .string (bstr src), .slice ia im ic, .slice wa wn wc] g22 fun v _ => v = reaV (reasonN (recOf R u.name) src u.imps (u.imps.map (faceOf L F)))) →
                CallsP Tryz.prog 52 #[.pointer pt, .string (bstr src), .slice ia im ic, .slice wa wn wc] g22 fun v g24 => ∃ x0_3 : Int, ∃ x1_1 : ByteArray, v = .agg ⟨[.int .i64 x0_3, .string x1_1]⟩ ∧ ∀ g25 : G, NewL g24 g25 39 [.int .i64 x0_3, .string x1_1] →
                  ∃ outa_1 : Option Addr, ∃ outl_1 : Nat, ∃ outc_1 : Nat, ∃ wo7 : World, Sem.run Tryz.prog (Builtin.append_ #[34, 34] 34 #[.slice oa on oc, .slice (some ⟨g24.w.heap.size, 0, none⟩) 1 1]) g25.w = .ok (.slice outa_1 outl_1 outc_1) wo7 ∧ ∃ g26 : G, g26.w = wo7 ∧ Stp g.w.heap.size nobody g25 g26 ∧ InI64 (((k : Nat) : Int) + 1) ∧ (∃ m_5 : Nat, m_5 < m4 ∧ ∃ (k' : Nat), ((k : Nat) : Int) + 1 = ((k' : Nat) : Int) ∧ k' + m_5 = n ∧ OwnE reaE g26 g13.w.heap.size 39 outa_1 outl_1 outc_1 ((planRow L R F L S).take k') ∧ KnownI g26 g3.w.heap.size j rad R f ∧ MapG Tryz.prog g26 9 g7.w.heap.size j2 fm) := by
              intro pt hc52
              refine hc52.mono ?_
              rintro v g24 m24 rfl
              refine ⟨_, _, rfl, fun g25 n25 => ?_⟩
              have m1624 := m1622.trans m24
              obtain ⟨a', c', w', hr, g26, hw, hs26, ho26, hs26', _⟩ := (hout.exm m1624).app1 (E := reaE) E34 34 (Nat.le_trans le16.size m1624.size) n25 (x := reasonN (recOf R u.name) src u.imps (u.imps.map (faceOf L F))) rfl (by show (on + 1) * 24 ≤ _; omega) (by unfold maxLen; omega)
              have bt : But (blkOf oa) g25 g26 := hs26'.but (Nat.le_refl _)
              have z13 : g7.w.heap.size < g13.w.heap.size := hm13.lt
              refine ⟨a', _, c', w', hr, g26, hw, hs26.mono le013.size (fun _ _ hh => hh), i64 (by omega) (by omega), m4 - 1, by omega, k + 1, by omega, by omega, ?_, ⟨((hk16.map.ex m1624).ex n25.ex).but bt (hout.ne (by omega)), hk16.say⟩, ((hm16.ex m1624).ex n25.ex).but bt (hout.ne z13)⟩
              rw [List.take_add_one, hpg]
              exact ho26
            rcases hk16.say u.name with ⟨hf, hno⟩ | ⟨i0, r0, gi0, hr0, hf⟩
            · rw [hf] at hlk
              refine ⟨_, _, hlk, g22, rfl, Stp.refl _ _ _, fun _ _ _ => rfl, fin none ?_⟩
              rw [recOf_none hno]
              exact k52n src [] [] g22
            · rw [hf] at hlk
              refine ⟨_, _, hlk, g22, rfl, Stp.refl _ _ _, fun _ _ _ => rfl, fin _ ?_⟩
              have hrm := List.mem_of_getElem? gi0
              rw [← hr0, recOf_mem hnd hrm]
              have hrd : derefP ra fun ad => ∃ ia' im' ic' da' dn' dc', ad = rad ∧ RecI g22 r0 ia' im' ic' da' dn' dc' ∧ ∀ g', Ex g22 g' → g'.w.cell? (Addr.add (Addr.add rad (i0 * 5)) 1) = some (.string (bstr r0.source)) ∧ g'.w.cell? (Addr.add (Addr.add rad (i0 * 5)) 2) = some (.slice ia' im' ic') ∧ g'.w.cell? (Addr.add (Addr.add rad (i0 * 5)) 3) = some (.slice da' dn' dc') := by
                refine rdRA ((hR.mono le016).exm m1622) i0 rfl gi0 (fun ad ia' im' ic' da' dn' dc' hra' hI' hc' => ⟨ia', im', ic', da', dn', dc', hrad ad hra', hI', fun g' m' => ?_⟩)
                have := hc' g' m'.le
                rw [Int.toNat_natCast, hrad ad hra'] at this
                exact ⟨this.2.1, this.2.2.1, this.2.2.2.1⟩
              obtain ⟨ad', _, ia', im', ic', da', dn', dc', _, hI', hcells⟩ := derefP_some hrd
              refine k52 src hI' hcells ((hI.imps.mono m1622.le)) (hd.sl.exm m22) (by simp) (ok5 r0 hrm).2.2.2.2.2.1 (by omega)
        · rw [List.take_of_length_le (by omega)] at hout
          exact ⟨oa, on, oc, by rw [eA], by rw [eA]; exact hout.sl.exm m27⟩
  clear hJ
  refine ifNe (fun q1 => bad g1 (fun hh => q1 (by have := hh.1; omega))) (fun q1 => ifNe (fun q2 => bad g1 (fun hh => q2 (by have := hh.2.1; omega))) (fun q2 => (k50 hSs (hS.exm m1)).mono ?_))
  rintro v g28 m28 rfl
  refine ⟨_, rfl, ifPn (fun q3 => bad g28 (fun hh => q3 hh.2.2.1)) (fun q3 => (k50 hFs (hF.exm (m1.trans m28))).mono ?_)⟩
  rintro v g29 m29 rfl
  have m129 := m28.trans m29
  refine ⟨_, rfl, ifPn (fun q4 => bad g29 (fun hh => q4 hh.2.2.2.1)) (fun q4 => (k33 51 #[] (fun r b => b = true ↔ ¬ recP r) R (hR.exm (m1.trans m129)) (by omega) ⟨_, Tryz.func51, by kernel_rfl, by kernel_rfl⟩ (fun g' r _ hr ia im ic da dn dc hI => k51 (hRok r hr) hI)).mono ?_)⟩
  rintro v g30 m30 ⟨b, rfl, hb1, hb2⟩
  refine ⟨_, rfl, ?_⟩
  cases b with
  | true =>
    obtain ⟨r, hr, hh⟩ := hb1 rfl
    exact bad g30 (fun h2 => hh.1 rfl (h2.2.2.2.2 r hr))
  | false =>
    exact ok g30 (m129.trans m30) ⟨by omega, by omega, q3, q4, fun r hr => Classical.byContradiction fun hh => by have := (hb2 rfl r hr).2 hh; cases this⟩
end
end Go.Proofs.YtmkdbndniffkfaaGreatDoor
/- The reference's Plan; the law RecompilePlans. -/
set_option linter.unusedVariables false
namespace Go.Proofs.YtmkdbndniffkfaaGreatDoor
open Go Go.Vc Go.RowKit Go.Syn

section
variable {L : List UnitD} {R : List RecD} {S F : List Lab} {a : Option Addr} {n c : Nat} {ra : Option Addr} {rn rc : Nat} {sa : Option Addr} {sn sc : Nat} {fa : Option Addr} {fn fc : Nat} {g : G}
end
end Go.Proofs.YtmkdbndniffkfaaGreatDoor
