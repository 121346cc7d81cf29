/- Joined texts. -/
import Derived.Test.YtmkdbndniffkfaaDoorL41O
import Derived.Test.YtmkdbndniffkfaaDoorSmap
import Derived.Test.YtmkdbndniffkfaaDoorSrows
import Derived.Test.YtmkdbndniffkfaaDoorVsort
/- The graph of units; which units a unit needs. -/
set_option linter.unusedVariables false
namespace Go.Proofs.YtmkdbndniffkfaaDoor
open Go Go.Vc Go.RowKit Go.Syn

/-- The graph of units that have an order; its map lies below B. -/
structure GraphI (g : G) (B : Nat) (ad : Addr) (L : List UnitD) : Prop where
  ord : ∃ oa on oc, Live g ad (.slice oa on oc) ∧ SlE strE g oa on oc (orderN L).1
  imp : ∃ mb nn f, mb < B ∧ Live g (Addr.add ad 1) (.map (some mb)) ∧ MapG Tryd.prog g 9 mb nn f ∧ ImpF g f L
theorem GraphI.but {g g' : G} {B : Nat} {ad : Addr} {L : List UnitD} {p : Nat → Prop} (h : GraphI g B ad L) (m : But p g g') (le : Le g g') (hp : ∀ b, b < B → ¬ p b) : GraphI g' B ad L := by
  obtain ⟨oa, on, oc, h1, h2⟩ := h.ord
  obtain ⟨mb, nn, f, h3, h4, h5, h6⟩ := h.imp
  exact ⟨⟨oa, on, oc, h1.mono le, h2.mono le⟩, mb, nn, f, h3, h4.mono le, h5.but m (hp mb h3), h6.mono le⟩
theorem GraphI.ex {g g' : G} {B : Nat} {ad : Addr} {L : List UnitD} (h : GraphI g B ad L) (m : Ex g g') : GraphI g' B ad L := h.but (m.but nobody) m.le (fun _ _ h => h)
/-- build. -/
theorem kkd18 {L : List UnitD} {a : Option Addr} {n c : Nat} {g : G} (hL : ∀ u ∈ L, unitOK u) (ht : TabG g) (h : SlE unitE g a n c L) :
    CallsP Tryd.prog 18 #[.slice a n c] g fun v g' => ∃ p, v = .tuple ⟨[.pointer p, .int .i64 (orderN L).2]⟩ ∧ ((orderN L).2 = 0 → ∃ ad, p = some ad ∧ GraphI g' g'.w.heap.size ad L) := by
  refine call18 a n c g _ ?_
  have hl := h.len
  unfold F18
  refine (kq77 hL ht h).mono ?_
  rintro v g1 m1 ⟨oa, on, oc, rfl, ho⟩
  refine ⟨oa, on, oc, _, rfl, ifNe (fun q g2 m2 => ⟨none, rfl, fun e => absurd e q⟩) (fun q g3 n3 g4 n4 => ?_)⟩
  have hO := orderN_ordered q
  have h16 := hO.ln
  have mg4 : MapG Tryd.prog g4 9 g1.w.heap.size 0 (fun _ => none) := (MapG.new n3 Tryd.prog 9).ex n4.ex
  have e14 : Ex g1 g4 := n3.ex.trans n4.ex
  refine ⟨fun m i g' => ∃ (j : Nat) (f : List UInt8 → Option Value), i = ((j : Nat) : Int) ∧ j + m = n ∧ MapG Tryd.prog g' 9 g1.w.heap.size j f ∧ ImpF g' f (L.take j), ⟨n, 0, _, rfl, by omega, mg4, ⟨fun s hs => absurd rfl hs, by simp⟩⟩, ?_⟩
  rintro m i g5 le ⟨j, f, rfl, hj, hm, hf⟩
  have le05 : Le g g5 := (m1.trans e14).le.trans le
  refine ifLt (fun q1 => ⟨⟨by omega, by omega⟩, ?_⟩) (fun q1 g8 m8 => ?_)
  · have gj := List.getElem?_eq_getElem (show j < L.length by omega)
    generalize L[j] = u at gj
    have hu := List.mem_of_getElem? gj
    have hul := upper_len (hO.ok u hu).1
    have hno : u.name ∉ namesU (L.take j) := by
      have h1 : (namesU (L.take (j + 1))).Nodup := by
        have := hO.nd
        unfold namesU at this ⊢
        rw [List.map_take]
        exact this.sublist (List.take_sublist _ _)
      rw [names_take gj] at h1
      intro hc
      exact (List.nodup_append.1 h1).2.2 _ hc _ (by simp) rfl
    refine rdUA (h.mono le05) j rfl gj (fun ad ia im ic da dn dc hI hc => ?_)
    obtain ⟨c0, c1, c2⟩ := hc g5 (Le.refl _)
    refine ⟨_, _, _, _, _, _, _, c0, c1, c2, fun g6 m6 => ?_⟩
    have lv := ((n4.at_ (i := 1) rfl).mono le).ex m6
    obtain ⟨w', hr, g7, hw, hs, hm7, _⟩ := (hm.ex m6).put Tryd.underlying9 Tryd.underlying50 (by unfold maxLen; omega) u.name (by unfold maxLen; omega) (.slice ia im ic) (B := g.w.heap.size) m1.size
    exact ⟨_, lv.1, w', hr, g7, hw, hs, i64 (by omega) (by omega), m - 1, by omega, j + 1, _, by omega, by omega, hm7, ((hf.mono m6.le).mono hs.le).put gj hno ((hI.imps.exm m6).mono hs.le)⟩
  · rw [take_all (by omega)] at hf
    have le48 : Le g4 g8 := le.trans m8.le
    have hlt : g1.w.heap.size < g8.w.heap.size := (hm.ex m8).lt
    refine ⟨some ⟨g3.w.heap.size, 0, none⟩, by rw [q], fun _ => ⟨_, rfl, ⟨oa, on, oc, (n4.at0 rfl).mono le48, (ho.exm e14).mono le48⟩, _, _, f, hlt, (n4.at_ (i := 1) rfl).mono le48, hm.ex m8, hf.mono m8.le⟩⟩
/-- Which rows the map of needs has, and what they say. -/
structure NeedI (g : G) (B nb : Nat) (K S : List Lab) (Q : Lab → Lab → Prop) (h : Lab → Option Nat) : Prop where
  out : MapG Tryd.prog g 9 nb S.length (fun s => (h s).map fun b => .map (some b))
  dom : ∀ s, h s ≠ none ↔ s ∈ S
  inj : ∀ s t b, h s = some b → h t = some b → s = t
  row : ∀ s b, h s = some b → B ≤ b ∧ b ≠ nb ∧ ∃ F, MapG Tryd.prog g 9 b K.length F ∧ (∀ t, F t ≠ none → t ∈ K) ∧ ∀ t, (Q s t → F t = some (.bool true)) ∧ (¬ Q s t → F t = none)
namespace NeedI
variable {g g' : G} {B nb : Nat} {K S : List Lab} {Q Q' : Lab → Lab → Prop} {h : Lab → Option Nat}
theorem but (H : NeedI g B nb K S Q h) {p : Nat → Prop} (m : But p g g') (h1 : ¬ p nb) (h2 : ∀ s b, h s = some b → ¬ p b) : NeedI g' B nb K S Q h :=
  ⟨H.out.but m h1, H.dom, H.inj, fun s b hb => by
    obtain ⟨k1, k2, F, k3, k4⟩ := H.row s b hb
    exact ⟨k1, k2, F, k3.but m (h2 s b hb), k4⟩⟩
theorem ex (H : NeedI g B nb K S Q h) (m : Ex g g') : NeedI g' B nb K S Q h := H.but (m.but nobody) (fun h => h) (fun _ _ _ h => h)
theorem imp (H : NeedI g B nb K S Q h) (e : ∀ s ∈ S, ∀ t, Q s t ↔ Q' s t) : NeedI g B nb K S Q' h :=
  ⟨H.out, H.dom, H.inj, fun s b hb => by
    obtain ⟨k1, k2, F, k3, k4, k5⟩ := H.row s b hb
    have hs : s ∈ S := (H.dom s).1 (by rw [hb]; simp)
    exact ⟨k1, k2, F, k3, k4, fun t => ⟨fun hh => (k5 t).1 ((e s hs t).2 hh), fun hh => (k5 t).2 (fun hh2 => hh ((e s hs t).1 hh2))⟩⟩⟩
theorem lt (H : NeedI g B nb K S Q h) {s : Lab} {b : Nat} (hb : h s = some b) : b < g.w.heap.size := by
  obtain ⟨_, _, F, k3, _⟩ := H.row s b hb
  exact k3.lt
/-- A row is marked. -/
theorem mark (H : NeedI g B nb K S Q h) {s t : Lab} {b : Nat} (hb : h s = some b) (ht : t ∈ K) (htl : t.length ≤ 24) (hK : K.length ≤ 16) :
    ∃ w', (Instr.mapUpdate 57 (.map (some b)) (.string (bstr t)) (.bool true)).run Tryd.prog g.w = .ok () w' ∧ ∃ g', g'.w = w' ∧ Stp B nobody g g' ∧ NeedI g' B nb K S (fun a x => Q a x ∨ (a = s ∧ x = t)) h ∧ But (fun x => x = b) g g' := by
  obtain ⟨k1, k2, F, k3, k4, k5⟩ := H.row s b hb
  obtain ⟨w', hr, g1, hw, hs, hm, hbut⟩ := k3.put Tryd.underlying9 Tryd.underlying57 (by unfold maxLen; omega) t (by unfold maxLen; omega) (.bool true) k1
  refine ⟨w', hr, g1, hw, hs, ⟨H.out.but hbut (fun e => k2 e.symm), H.dom, H.inj, fun a b' hb' => ?_⟩, hbut⟩
  have hdom : ∀ x, upd F t (some (.bool true)) x ≠ none → x ∈ K := by
    intro x hx
    by_cases e : x = t
    · rw [e]; exact ht
    · rw [upd_other _ _ e] at hx; exact k4 x hx
  by_cases e : a = s
  · subst e
    rw [hb] at hb'
    cases hb'
    refine ⟨k1, k2, _, hm.tight Tryd.underlying9 hdom, hdom, fun x => ?_⟩
    by_cases e : x = t
    · subst e
      rw [upd_same]
      exact ⟨fun _ => rfl, fun hh => absurd (.inr ⟨rfl, rfl⟩) hh⟩
    · rw [upd_other _ _ e]
      refine ⟨fun hh => ?_, fun hh => (k5 x).2 (fun hq => hh (.inl hq))⟩
      rcases hh with hh | ⟨_, hh⟩
      · exact (k5 x).1 hh
      · exact absurd hh e
  · obtain ⟨j1, j2, F', j3, j4, j5⟩ := H.row a b' hb'
    refine ⟨j1, j2, F', j3.but hbut (fun e2 => e (H.inj a s b' hb' (by rw [e2]; exact hb))), j4, fun x => ⟨fun hh => ?_, fun hh => (j5 x).2 (fun hq => hh (.inl hq))⟩⟩
    rcases hh with hh | ⟨hh, _⟩
    · exact (j5 x).1 hh
    · exact absurd hh e
open Classical in
/-- A row more, with nothing in it. -/
theorem fresh (H : NeedI g B nb K S Q h) {g3 : G} (n3 : NewM g g3) {name : Lab} (hS : name ∉ S) (hnl : name.length ≤ 24) (hB : B ≤ nb) (hl : S.length ≤ 16) :
    ∃ w', (Instr.mapUpdate 56 (.map (some nb)) (.string (bstr name)) (.map (some g.w.heap.size))).run Tryd.prog g3.w = .ok () w' ∧ ∃ g4, g4.w = w' ∧ Stp B nobody g3 g4 ∧ NeedI g4 B nb K (S ++ [name]) (fun a x => a ≠ name ∧ Q a x) (fun s => if s = name then some g.w.heap.size else h s) ∧ But (fun x => x = nb) g3 g4 := by
  have hlt := H.out.lt
  have hnone : h name = none := by
    cases hh : h name with
    | none => rfl
    | some b => exact absurd ((H.dom name).1 (by rw [hh]; simp)) hS
  obtain ⟨w', hr, g1, hw, hs, hm, hbut⟩ := (H.out.ex n3.ex).put Tryd.underlying9 Tryd.underlying56 (by unfold maxLen; omega) name (by unfold maxLen; omega) (.map (some g.w.heap.size)) hB
  refine ⟨w', hr, g1, hw, hs, ⟨?_, fun s => ?_, fun s t b hb hb' => ?_, fun s b hb => ?_⟩, hbut⟩
  · rw [List.length_append]
    refine hm.congr (fun s => ?_)
    by_cases e : s = name
    · subst e; rw [upd_same, if_pos rfl]; rfl
    · rw [upd_other _ _ e, if_neg e]
  · rw [List.mem_append]
    by_cases e : s = name
    · subst e; rw [if_pos rfl]; exact ⟨fun _ => .inr (by simp), fun _ => by simp⟩
    · rw [if_neg e, H.dom s]; exact ⟨.inl, fun hh => hh.elim id (fun hh2 => absurd (List.mem_singleton.1 hh2) e)⟩
  · have below : ∀ {x b}, h x = some b → b ≠ g.w.heap.size := fun hx e => by have := H.lt hx; omega
    by_cases e : s = name <;> by_cases e2 : t = name
    · rw [e, e2]
    · rw [if_pos e] at hb; rw [if_neg e2] at hb'; cases hb; exact absurd rfl (below hb')
    · rw [if_neg e] at hb; rw [if_pos e2] at hb'; cases hb'; exact absurd rfl (below hb)
    · rw [if_neg e] at hb; rw [if_neg e2] at hb'; exact H.inj s t b hb hb'
  · by_cases e : s = name
    · subst e
      rw [if_pos rfl] at hb
      cases hb
      refine ⟨by omega, by omega, _, ((MapG.new n3 Tryd.prog 9).but hbut (by omega)).mono (Nat.zero_le _), fun t hh => absurd rfl hh, fun t => ⟨fun hh => absurd rfl hh.1, fun _ => rfl⟩⟩
    · rw [if_neg e] at hb
      obtain ⟨k1, k2, F, k3, k4, k5⟩ := H.row s b hb
      exact ⟨k1, k2, F, (k3.ex n3.ex).but hbut k2, k4, fun t => ⟨fun hh => (k5 t).1 hh.2, fun hh => (k5 t).2 (fun hq => hh ⟨e, hq⟩)⟩⟩
theorem zero108 (w : World) : (zeroValue 57).run Tryd.prog w = .ok (.map none) w := by kernel_rfl
theorem zero4 (w : World) : (zeroValue 4).run Tryd.prog w = .ok (.bool false) w := by kernel_rfl
theorem look (H : NeedI g B nb K S Q h) {s : Lab} {b : Nat} (hb : h s = some b) (hl : s.length ≤ 24) : (Instr.lookup 56 (.map (some nb)) (.string (bstr s)) false).run Tryd.prog g.w = .ok (.map (some b)) g.w := by
  have := H.out.look Tryd.underlying9 Tryd.underlying56 (zero108 g.w) s (by unfold maxLen; omega)
  rw [hb] at this
  exact this
theorem ask (H : NeedI g B nb K S Q h) {s t : Lab} {b : Nat} (hb : h s = some b) (hl : t.length ≤ 1048576) : (Instr.lookup 57 (.map (some b)) (.string (bstr t)) false).run Tryd.prog g.w = .ok (.bool (tf (Q s t))) g.w := by
  obtain ⟨k1, k2, F, k3, k4, k5⟩ := H.row s b hb
  have := k3.look Tryd.underlying9 Tryd.underlying57 (zero4 g.w) t (by unfold maxLen; omega)
  by_cases e : Q s t
  · rw [(k5 t).1 e] at this; rw [tf_of e]; exact this
  · rw [(k5 t).2 e] at this; rw [tf_no e]; exact this
end NeedI
theorem need_mem {L : List UnitD} {o : List Lab} (hO : Ordered L o) {a b : Lab} (h : NeedP L a b) : b ∈ namesU L := by
  induction h with
  | imp hu hs => exact hO.imp _ hu _ hs
  | far _ _ _ ih => exact ih
theorem names_len {L : List UnitD} {o : List Lab} (hO : Ordered L o) {s : Lab} (h : s ∈ namesU L) : s.length ≤ 24 := by
  obtain ⟨u, hu, rfl⟩ := mem_names.1 h
  exact upper_len (hO.ok u hu).1
theorem names_le {L : List UnitD} {o : List Lab} (hO : Ordered L o) : (namesU L).length ≤ 16 := by
  have := hO.ln
  unfold namesU
  rw [List.length_map]
  exact this
/-- needs. -/
theorem kkd32 {L : List UnitD} {B0 : Nat} {ad : Addr} {g : G} (e0 : (orderN L).2 = 0) (hB0 : B0 ≤ g.w.heap.size) (hg : GraphI g B0 ad L) :
    CallsP Tryd.prog 32 #[.pointer (some ad)] g fun v g' => v = .map (some g.w.heap.size) ∧ ∃ h, NeedI g' g.w.heap.size g.w.heap.size (namesU L) (orderN L).1 (NeedP L) h := by
  classical
  have hO := orderN_ordered e0
  have hol := hO.len
  have h16 := hO.ln
  have hKl := names_le hO
  generalize ho : (orderN L).1 = o at hO hol
  refine call32 _ g _ ?_
  unfold F32
  intro g1 n1
  obtain ⟨oa, on, oc, l1, s1⟩ := (hg.ex n1.ex).ord
  rw [ho] at s1
  have hon := s1.len
  refine ⟨oa, on, oc, l1.1, ?_⟩
  have N0 : NeedI g1 g.w.heap.size g.w.heap.size (namesU L) [] (NeedP L) (fun _ => none) := ⟨MapG.new n1 Tryd.prog 9, fun s => ⟨fun hh => absurd rfl hh, fun hh => (by cases hh)⟩, fun s t b hb => (by cases hb), fun s b hb => (by cases hb)⟩
  refine ⟨fun m i g' => ∃ (j : Nat) (h : Lab → Option Nat), i = ((j : Nat) : Int) ∧ j + m = on ∧ NeedI g' g.w.heap.size g.w.heap.size (namesU L) (o.take j) (NeedP L) h ∧ GraphI g' B0 ad L, ⟨on, 0, _, rfl, by omega, by simpa using N0, hg.ex n1.ex⟩, ?_⟩
  rintro m i g2 le ⟨j, h, rfl, hj, hN, hG⟩
  have le12 : Le g1 g2 := le
  refine ifLt (fun q => ⟨⟨by omega, by omega⟩, ?_⟩) (fun q g17 m17 => ⟨rfl, h, ?_⟩)
  · have gj := List.getElem?_eq_getElem (show j < o.length by omega)
    generalize o[j] = name at gj
    have hnm : name ∈ o := List.mem_of_getElem? gj
    obtain ⟨u, hu, hun⟩ := hO.unit hnm
    have hnl := names_len hO (hO.af.sub name hnm)
    have ht1 : o.take (j + 1) = o.take j ++ [name] := by rw [List.take_add_one, gj]; rfl
    have hnot : name ∉ o.take j := by
      intro hc
      obtain ⟨x, hx⟩ := List.getElem?_of_mem hc
      rw [List.getElem?_take] at hx
      split at hx
      · have : x = j := (List.getElem?_inj (by omega) hO.af.nd).1 (by rw [hx, gj])
        omega
      · cases hx
    have himp : ∀ s ∈ u.imps, s ∈ o.take j := hO.af.aft u hu j (by rw [hun]; exact gj)
    refine rdS (s1.mono le) j rfl gj (fun g3 n3 => ?_)
    obtain ⟨w', hr, g4, hw, hs4, hN4, hb4⟩ := hN.fresh n3 hnot hnl (Nat.le_refl _) (by rw [List.length_take]; omega)
    have hG4 : GraphI g4 B0 ad L := (hG.ex n3.ex).but hb4 hs4.le (fun b hb e => by have e' : b = g.w.heap.size := e; omega)
    obtain ⟨mb, nn, f, i1, i2, i3, i4⟩ := hG4.imp
    obtain ⟨ia, im, ic, i5, i6⟩ := i4.at_ u hu
    have hlk := i3.look Tryd.underlying9 Tryd.underlying50 (zero22 g4.w) name (by unfold maxLen; omega)
    rw [hun] at i5
    rw [i5] at hlk
    have hil := i6.len
    have hi16 := (hO.ok u hu).2.1
    refine ⟨w', hr, g4, hw, hs4, _, i2.1, ia, im, ic, _, hlk, g4, rfl, Stp.refl _ _ _, ?_⟩
    rw [← ht1] at hN4
    generalize hh' : (fun s => if s = name then some g2.w.heap.size else h s) = h' at hN4
    have hme : h' name = some g2.w.heap.size := by rw [← hh']; exact if_pos rfl
    refine ⟨fun m i g' => ∃ p : Nat, i = ((p : Nat) : Int) ∧ p + m = im ∧ NeedI g' g.w.heap.size g.w.heap.size (namesU L) (o.take (j + 1)) (fun a x => if a = name then (∃ t ∈ u.imps.take p, t = x ∨ NeedP L t x) else NeedP L a x) h' ∧ GraphI g' B0 ad L,
      ⟨im, 0, rfl, by omega, hN4.imp (fun s _ t => ?_), hG4⟩, ?_⟩
    · by_cases e : s = name
      · rw [if_pos e]; exact ⟨fun hh => absurd e hh.1, fun ⟨x, hx, _⟩ => by simp at hx⟩
      · rw [if_neg e]; exact ⟨fun hh => hh.2, fun hh => ⟨e, hh⟩⟩
    rintro m2 i2' g6 le6 ⟨p, rfl, hp, hN6, hG6⟩
    refine ifLt (fun q2 => ⟨⟨by omega, by omega⟩, ?_⟩) (fun q2 => ?_)
    · have gp := List.getElem?_eq_getElem (show p < u.imps.length by omega)
      generalize u.imps[p] = s at gp
      have hs := List.mem_of_getElem? gp
      have hsj := himp s hs
      have hsn : s ≠ name := fun e => hnot (e ▸ hsj)
      have hsK : s ∈ namesU L := hO.imp u hu s hs
      have hsl := names_len hO hsK
      have hs1 : s ∈ o.take (j + 1) := by rw [ht1]; exact List.mem_append_left _ hsj
      obtain ⟨sb, hsb⟩ : ∃ sb, h' s = some sb := Option.ne_none_iff_exists'.1 ((hN6.dom s).2 hs1)
      have hne : sb ≠ g2.w.heap.size := fun e => hsn (hN6.inj s name sb hsb (by rw [e]; exact hme))
      refine rdS (i6.mono le6) p rfl gp ?_
      obtain ⟨w8, hr8, g8, hw8, hs8, hN8, hb8⟩ := hN6.mark hme hsK hsl hKl
      have hG8 : GraphI g8 B0 ad L := hG6.but hb8 hs8.le (fun b hb e => by have := (hN6.row name _ hme).1; have e' : b = g2.w.heap.size := e; omega)
      refine ⟨_, _, hN6.look hme hnl, g6, rfl, Stp.refl _ _ _, w8, hr8, g8, hw8, hs8, _, _, hN8.look hsb hsl, g8, rfl, Stp.refl _ _ _, ?_⟩
      obtain ⟨k1, k2, F, k3, k4, k5⟩ := hN8.row s sb hsb
      obtain ⟨w10, hr10, g10, mm, hw10, hs10, hR10, e10⟩ := RngS.start k3 Tryd.underlying9 Tryd.underlying57
      have hs0 : g.w.heap.size ≤ g8.w.heap.size := Nat.le_of_lt (Nat.lt_of_le_of_lt k1 k3.lt)
      refine ⟨_, w10, hr10, g10, hw10, hs10 _ hs0, ?_⟩
      generalize hrb : g8.w.heap.size = r at hR10
      have hblk : ∀ {a b}, h' a = some b → b < r := fun hb => by have := hN8.lt hb; omega
      -- the round over the row of s
      refine ⟨fun m g' => ∃ left, RngS Tryd.prog g' 9 sb r (namesU L).length F left m ∧ NeedI g' g.w.heap.size g.w.heap.size (namesU L) (o.take (j + 1)) (fun a x => if a = name then ((∃ t ∈ u.imps.take p, t = x ∨ NeedP L t x) ∨ x = s ∨ (NeedP L s x ∧ left x = false)) else NeedP L a x) h' ∧ GraphI g' B0 ad L,
        ⟨mm, _, hR10, (hN8.ex e10).imp (fun a _ x => ?_), hG8.ex e10⟩, ?_⟩
      · by_cases e : a = name
        · rw [if_pos e, if_pos e]
          constructor
          · rintro (hh | ⟨_, hh⟩)
            · exact .inl hh
            · exact .inr (.inl hh)
          · rintro (hh | hh | ⟨hh, hh2⟩)
            · exact .inl hh
            · exact .inr ⟨e, hh⟩
            · have := (k5 x).1 (.inl (by rw [if_neg hsn]; exact hh))
              rw [this] at hh2
              cases hh2
        · rw [if_neg e, if_neg e]
          exact ⟨fun hh => hh.elim id (fun hh2 => absurd hh2.1 e), .inl⟩
      rintro m4 g11 le11 ⟨left, hR, hN11, hG11⟩
      rcases hR.next Tryd.underlying9 0 with ⟨hall, hrun⟩ | ⟨t, v, w', htl, hleft, hFt, hrun, g13, m', hlt, hw13, hs13, hR13, hb13, hent⟩
      · refine .inl ⟨_, hrun, g11, rfl, Stp.refl _ _ _, i64 (by omega) (by omega), m2 - 1, by omega, p + 1, by omega, by omega, hN11.imp (fun a _ x => ?_), hG11⟩
        by_cases e : a = name
        · rw [if_pos e, if_pos e, List.take_add_one, gp]
          constructor
          · rintro (⟨y, hy, hh⟩ | hh | ⟨hh, _⟩)
            · exact ⟨y, List.mem_append_left _ hy, hh⟩
            · exact ⟨s, by simp, .inl hh.symm⟩
            · exact ⟨s, by simp, .inr hh⟩
          · rintro ⟨y, hy, hh⟩
            rcases List.mem_append.1 hy with hy | hy
            · exact .inl ⟨y, hy, hh⟩
            · simp at hy
              subst hy
              rcases hh with hh | hh
              · exact .inr (.inl hh.symm)
              · exact .inr (.inr ⟨hh, hall x⟩)
        · rw [if_neg e, if_neg e]
      · have hneed : NeedP L s t := by
          refine Classical.byContradiction fun hc => ?_
          have := (k5 t).2 (fun hh => hh.elim (fun hh => hc (by rw [if_neg hsn] at hh; exact hh)) (fun hh => hsn hh.1))
          rw [hFt] at this
          cases this
        have hv : v = .bool true := by
          have := (k5 t).1 (.inl (by rw [if_neg hsn]; exact hneed))
          rw [hFt] at this
          exact Option.some.inj this
        subst hv
        have htK : t ∈ namesU L := need_mem hO hneed
        have ht24 := names_len hO htK
        have hN13 := hN11.but hb13 (fun e => by have := hN8.out.lt; have e' : g.w.heap.size = r := e; omega) (fun a b hb e => by have := hblk hb; have e' : b = r := e; omega)
        have hG13 := hG11.but hb13 (hs13 _ (Nat.le_refl _)).le (fun b hb e => by have := hN8.out.lt; have e' : b = r := e; omega)
        obtain ⟨w16, hr16, g16, hw16, hs16, hN16, hb16⟩ := hN13.mark hme htK ht24 hKl
        have hlk13 := hN13.look hme hnl
        rw [← hw13] at hent
        refine .inr ⟨true, _, true, w', hrun, g13, hw13, hs13 _ (by omega), ifT (fun _ => ⟨_, true, _, hent, g13, rfl, Stp.refl _ _ _, _, _, hlk13, g13, rfl, Stp.refl _ _ _, w16, hr16, g16, hw16, hs16, m', hlt, _, hR13.but hb16 hne (fun e => by have := hblk hme; have e' : r = g2.w.heap.size := e; omega), hN16.imp (fun a _ x => ?_), hG13.but hb16 hs16.le (fun b hb e => ?_)⟩) (fun e => by cases e)⟩
        · by_cases e : a = name
          · rw [if_pos e, if_pos e]
            constructor
            · rintro ((hh | hh | ⟨hh, hh2⟩) | ⟨_, hh⟩)
              · exact .inl hh
              · exact .inr (.inl hh)
              · exact .inr (.inr ⟨hh, by rw [hh2]; rfl⟩)
              · exact .inr (.inr ⟨hh ▸ hneed, by rw [hh]; simp⟩)
            · rintro (hh | hh | ⟨hh, hh2⟩)
              · exact .inl (.inl hh)
              · exact .inl (.inr (.inl hh))
              · by_cases e3 : x = t
                · exact .inr ⟨e, e3⟩
                · refine .inl (.inr (.inr ⟨hh, ?_⟩))
                  cases hx : left x with
                  | false => rfl
                  | true => rw [hx] at hh2; simp [e3] at hh2
          · rw [if_neg e, if_neg e]
            exact ⟨fun hh => hh.elim id (fun hh2 => absurd hh2.1 e), .inl⟩
        · have e' : b = g2.w.heap.size := e
          have := (hN6.row name _ hme).1
          omega
    · refine ⟨i64 (by omega) (by omega), m - 1, by omega, j + 1, h', by omega, by omega, hN6.imp (fun a _ x => ?_), hG6⟩
      by_cases e : a = name
      · rw [if_pos e, take_all (by omega), e, ← hun, need_iff hO.nd hu]
      · rw [if_neg e]
  · rw [take_all (by omega)] at hN
    exact hN.ex m17
end Go.Proofs.YtmkdbndniffkfaaDoor
/- Closure and Users. -/
set_option linter.unusedVariables false
namespace Go.Proofs.YtmkdbndniffkfaaDoor
open Go Go.Vc Go.RowKit Go.Syn

def RelSay (r : List Lab × Int) (v : Value) (g' : G) : Prop := ∃ oa on oc, v = .tuple ⟨[.slice oa on oc, .int .i64 r.2]⟩ ∧ SlE strE g' oa on oc r.1
section
open Classical
/-- chosen. -/
theorem kkd21 {L : List UnitD} {name : Lab} {P : Lab → Prop} (ff : FuncId) (fc : Array Value) {a : Option Addr} {n c : Nat} {g : G} (hL : ∀ u ∈ L, unitOK u) (ht : TabG g) (h : SlE unitE g a n c L) (he : Go.Vc.Enters Tryd.prog ff)
    (hf : ∀ (g' : G) (B nb : Nat) (hh : Lab → Option Nat) (s : Lab), Le g g' → NeedI g' B nb (namesU L) (orderN L).1 (NeedP L) hh → s ∈ (orderN L).1 → name ∈ (orderN L).1 → s.length ≤ 24 → name.length ≤ 24 → CallsP Tryd.prog ff (#[.map (some nb), .string (bstr s)] ++ fc) g' fun v _ => v = .bool (tf (P s))) :
    CallsP Tryd.prog 21 #[.slice a n c, .string (bstr name), .func (.func ff) #[] fc] g fun v g' => RelSay (relA L name P) v g' := by
  refine call21 a n c _ ff fc g _ ?_
  unfold F21
  refine (kkd18 hL ht h).mono ?_
  rintro v g1 m1 ⟨p, rfl, hp⟩
  refine ⟨p, _, rfl, ifNe (fun q g2 m2 => ?_) (fun q => ?_)⟩
  · have e : relA L name P = ([], (orderN L).2) := if_neg q
    exact ⟨none, 0, 0, by rw [e], by rw [e]; exact SlE.zero _⟩
  obtain ⟨ad, rfl, hG⟩ := hp q
  have hO := orderN_ordered q
  have hol := hO.len
  have h16 := hO.ln
  obtain ⟨oa, on, oc, l1, s1⟩ := hG.ord
  have hon := s1.len
  refine ⟨oa, on, oc, l1.1, (kk19 (orderN L).1 name s1 (by omega)).mono ?_⟩
  rintro v g3 m3 rfl
  refine ⟨_, rfl, ifPn (fun q1 g4 m4 => ?_) (fun q1 => ?_)⟩
  · have e : relA L name P = ([], 8) := (if_pos q).trans (if_neg q1)
    exact ⟨none, 0, 0, by rw [e], by rw [e]; exact SlE.zero _⟩
  have eA : relA L name P = ((orderN L).1.filter fun s => decide (P s), 0) := (if_pos q).trans (if_pos q1)
  refine (kkd32 q m3.size (hG.ex m3)).mono ?_
  rintro v g5 m5 ⟨rfl, hh, hN⟩
  have m15 := m3.trans m5
  refine ⟨_, rfl, oa, on, oc, (l1.ex m15).1, ?_⟩
  have hnl := names_len hO (hO.af.sub name q1)
  refine ⟨fun m ra rn rc i g' => ∃ (j : Nat) (out : List Lab), i = ((j : Nat) : Int) ∧ j + m = on ∧ OwnE strE g' g5.w.heap.size 9 ra rn rc out ∧ out = ((orderN L).1.take j).filter (fun s => decide (P s)) ∧ NeedI g' g3.w.heap.size g3.w.heap.size (namesU L) (orderN L).1 (NeedP L) hh,
    ⟨on, 0, [], rfl, by omega, OwnE.nil _ _ _, by simp, hN⟩, ?_⟩
  rintro m ra rn rc i g6 le6 ⟨j, out, rfl, hj, hout, ho, hN6⟩
  have hrl := hout.len
  have hol2 : out.length ≤ 16 := by rw [ho]; exact Nat.le_trans (List.length_filter_le _ _) (by rw [List.length_take]; omega)
  refine ifLt (fun q2 => ⟨⟨by omega, by omega⟩, ?_⟩) (fun q2 g10 m10 => ?_)
  · have gj := List.getElem?_eq_getElem (show j < (orderN L).1.length by omega)
    generalize (orderN L).1[j] = s at gj
    have hs := List.mem_of_getElem? gj
    have hsl := names_len hO (hO.af.sub s hs)
    have hnext : ((orderN L).1.take (j + 1)).filter (fun s => decide (P s)) = out ++ if P s then [s] else [] := by
      rw [List.take_add_one, gj, List.filter_append, ← ho]
      by_cases e : P s <;> simp [e]
    refine rdS ((s1.exm m15).mono le6) j rfl gj ⟨he, (hf g6 _ _ hh s ((m1.le.trans m15.le).trans le6) hN6 hs q1 hsl hnl).mono ?_⟩
    rintro v g7 m7 rfl
    refine ⟨_, rfl, ifP (fun q3 g8 n8 => ?_) (fun q3 => ⟨i64 (by omega) (by omega), m - 1, by omega, j + 1, out, by omega, by omega, hout.exm m7, by rw [hnext, if_neg q3, List.append_nil], hN6.ex m7⟩)⟩
    obtain ⟨a', c', w', hr, g9, hw, hs9, ho9, hs9', hb9⟩ := (hout.exm m7).app1 E30 30 (Nat.le_trans le6.size m7.size) n8 (x := s) rfl (by omega) (by unfold maxLen; omega)
    have bt : But (blkOf ra) g8 g9 := hs9'.but (Nat.le_refl _)
    have no : ∀ b, b < g5.w.heap.size → ¬ blkOf ra b := fun b hb => hout.ne hb
    refine ⟨a', _, c', w', hr, g9, hw, hs9.mono (Nat.le_trans m1.size m15.size) (fun _ _ hh => hh), i64 (by omega) (by omega), m - 1, by omega, j + 1, out ++ [s], by omega, by omega, ho9, by rw [hnext, if_pos q3], ((hN6.ex m7).ex n8.ex).but bt (no _ hN.out.lt) (fun s b hb => no b (hN.lt hb))⟩
  · rw [take_all (by omega)] at ho
    subst ho
    exact ⟨ra, rn, rc, by rw [eA], by rw [eA]; exact hout.sl.exm m10⟩
end
theorem kkd22 {L : List UnitD} {name : Lab} {g g0 : G} {b : Nat} (hl : Live g ⟨b, 0, none⟩ (.string (bstr name))) {B nb : Nat} {hh : Lab → Option Nat} {s : Lab} (hN : NeedI g B nb (namesU L) (orderN L).1 (NeedP L) hh) (hs : s ∈ (orderN L).1) (hn : name ∈ (orderN L).1) (h1 : s.length ≤ 24) (h2 : name.length ≤ 24) :
    CallsP Tryd.prog 22 (#[.map (some nb), .string (bstr s)] ++ #[.pointer (some ⟨b, 0, none⟩)]) g fun v _ => v = .bool (tf (NeedP L name s)) := by
  refine call22 _ _ _ g _ ?_
  unfold F22
  obtain ⟨nbk, hb⟩ : ∃ x, hh name = some x := Option.ne_none_iff_exists'.1 ((hN.dom name).2 hn)
  exact ⟨_, hl.1, _, _, hN.look hb h2, g, rfl, Stp.refl _ _ _, _, _, hN.ask hb (by omega), g, rfl, Stp.refl _ _ _, fun g3 _ => rfl⟩
theorem kkd23 {L : List UnitD} {name : Lab} {g g0 : G} {b : Nat} (hl : Live g ⟨b, 0, none⟩ (.string (bstr name))) {B nb : Nat} {hh : Lab → Option Nat} {s : Lab} (hN : NeedI g B nb (namesU L) (orderN L).1 (NeedP L) hh) (hs : s ∈ (orderN L).1) (hn : name ∈ (orderN L).1) (h1 : s.length ≤ 24) (h2 : name.length ≤ 24) :
    CallsP Tryd.prog 23 (#[.map (some nb), .string (bstr s)] ++ #[.pointer (some ⟨b, 0, none⟩)]) g fun v _ => v = .bool (tf (NeedP L s name)) := by
  refine call23 _ _ _ g _ ?_
  unfold F23
  obtain ⟨nbk, hb⟩ : ∃ x, hh s = some x := Option.ne_none_iff_exists'.1 ((hN.dom s).2 hs)
  exact ⟨_, _, hN.look hb h1, g, rfl, Stp.refl _ _ _, _, hl.1, _, _, hN.ask hb (by omega), g, rfl, Stp.refl _ _ _, fun g3 _ => rfl⟩
/-- Closure. -/
theorem kkd8 {L : List UnitD} (name : Lab) {a : Option Addr} {n c : Nat} {g : G} (hL : ∀ u ∈ L, unitOK u) (ht : TabG g) (h : SlE unitE g a n c L) : CallsP Tryd.prog 8 #[.slice a n c, .string (bstr name)] g fun v g' => RelSay (closureA L name) v g' := by
  refine call8 a n c _ g _ ?_
  unfold F8
  intro g1 n1
  have l1 : Live g1 ⟨g.w.heap.size, 0, none⟩ (.string (bstr name)) := n1.at0 rfl
  refine ⟨_, l1.1, (kkd21 (P := fun s => NeedP L name s) 22 #[.pointer (some ⟨g.w.heap.size, 0, none⟩)] hL (ht.exm n1.ex) (h.exm n1.ex) ⟨_, Tryd.func22, by kernel_rfl, by kernel_rfl⟩ (fun g' B nb hh s le hN hs hn h1 h2 => kkd22 (g0 := g) (l1.mono le) hN hs hn h1 h2)).mono ?_⟩
  rintro v g2 m2 ⟨oa, on, oc, rfl, ho⟩
  exact ⟨oa, on, oc, _, rfl, fun g3 m3 => ⟨oa, on, oc, rfl, ho.exm m3⟩⟩
/-- Users. -/
theorem kkd9 {L : List UnitD} (name : Lab) {a : Option Addr} {n c : Nat} {g : G} (hL : ∀ u ∈ L, unitOK u) (ht : TabG g) (h : SlE unitE g a n c L) : CallsP Tryd.prog 9 #[.slice a n c, .string (bstr name)] g fun v g' => RelSay (usersA L name) v g' := by
  refine call9 a n c _ g _ ?_
  unfold F9
  intro g1 n1
  have l1 : Live g1 ⟨g.w.heap.size, 0, none⟩ (.string (bstr name)) := n1.at0 rfl
  refine ⟨_, l1.1, (kkd21 (P := fun s => NeedP L s name) 23 #[.pointer (some ⟨g.w.heap.size, 0, none⟩)] hL (ht.exm n1.ex) (h.exm n1.ex) ⟨_, Tryd.func23, by kernel_rfl, by kernel_rfl⟩ (fun g' B nb hh s le hN hs hn h1 h2 => kkd23 (g0 := g) (l1.mono le) hN hs hn h1 h2)).mono ?_⟩
  rintro v g2 m2 ⟨oa, on, oc, rfl, ho⟩
  exact ⟨oa, on, oc, _, rfl, fun g3 m3 => ⟨oa, on, oc, rfl, ho.exm m3⟩⟩
end Go.Proofs.YtmkdbndniffkfaaDoor
/- Levels. -/
set_option linter.unusedVariables false
namespace Go.Proofs.YtmkdbndniffkfaaDoor
open Go Go.Vc Go.RowKit Go.Syn Go.Sort Go.Shelf

theorem levOf_sub {f : Lab → Nat} {l m : List Lab} (h : ∀ s ∈ l, s ∈ m) : levOf f l ≤ levOf f m := by
  induction l using snoc_ind with
  | h0 => show 0 ≤ _; omega
  | h1 r x ih =>
    rw [levOf_snoc]
    have h1 := ih (fun s hs => h s (List.mem_append_left _ hs))
    have h2 := levOf_mem (f := f) (h x (by simp))
    omega
theorem rowsN_congr {f f' : Lab → Nat} {o : List Lab} (h : ∀ s ∈ o, f s = f' s) : rowsN f o = rowsN f' o := by
  unfold rowsN
  rw [levOf_congr h]
  exact List.map_congr_left fun n _ => rowAt_congr h n
theorem sort_nodup {l : List Lab} (h : l.Nodup) : l.mergeSort leB = sortS l := by
  have hp : (sortS l).Perm l := (List.perm_ext_iff_of_nodup (srt_nodup (srt_sortS l)) h).2 fun _ => mem_sortS
  rw [← mergeSort_of_perm hp]
  exact srt_merge (srt_sortS l)
theorem levOf_le (f : Lab → Nat) (l : List Lab) {m : Nat} (h : ∀ s ∈ l, f s < m) : levOf f l ≤ m := by
  induction l using snoc_ind with
  | h0 => show 0 ≤ _; omega
  | h1 r x ih =>
    rw [levOf_snoc]
    have h1 := ih (fun s hs => h s (List.mem_append_left _ hs))
    have h2 := h x (by simp)
    omega
/-- There are at most as many levels as units. -/
theorem levs_lt {L : List UnitD} {o : List Lab} (h : Ordered L o) : ∀ i, i ≤ o.length → ∀ s ∈ o.take i, levs L (o.take i) s < i := by
  intro i
  induction i with
  | zero => intro _ s hs; simp at hs
  | succ i ih =>
    intro hi s hs
    have gi := List.getElem?_eq_getElem (show i < o.length by omega)
    generalize o[i] = x at gi
    have ht : o.take (i + 1) = o.take i ++ [x] := by rw [List.take_add_one, gi]; rfl
    rw [ht, levs_snoc]
    show levStep L (levs L (o.take i)) x s < i + 1
    unfold levStep
    by_cases e : s = x
    · rw [if_pos e]
      obtain ⟨u, hu, hun⟩ := h.unit (List.mem_of_getElem? gi)
      rw [← hun, impsOf_unit h.nd hu]
      have hsub := h.af.aft u hu i (by rw [hun]; exact gi)
      have := levOf_le (levs L (o.take i)) u.imps (m := i) (fun t ht => ih (by omega) t (hsub t ht))
      omega
    · rw [if_neg e]
      rw [ht] at hs
      rcases List.mem_append.1 hs with hs | hs
      · have := ih (by omega) s hs; omega
      · exact absurd (List.mem_singleton.1 hs) e
/-- The rows of levels, as they grow. -/
structure LvI (g : G) (B : Nat) (a : Option Addr) (n c : Nat) (rows : List (List Lab)) (hds : List SlH) : Prop where
  out : MutR g B 30 1 a n c (hds.map SlH.v)
  row : RowsM g B 9 hds (rows.map (·.map encStr))
  apart : ∀ x ∈ hds, ∀ b, blkOf x.a b → ¬ blkOf a b
theorem E26 : Elem Tryd.prog 25 30 1 24 := ⟨Tryd.underlying25, by kernel_rfl⟩
theorem RowsM.ge {g : G} {B : Nat} {e : TypeId} {hs : List SlH} {rows : List (List Value)} (h : RowsM g B e hs rows) {x : SlH} (hx : x ∈ hs) {b : Nat} (hb : blkOf x.a b) : B ≤ b ∧ b < g.w.heap.size := by
  obtain ⟨i, hi⟩ := List.getElem?_of_mem hx
  obtain ⟨hlt, _⟩ := List.getElem?_eq_some_iff.1 hi
  obtain ⟨x', h1, h2⟩ := h.at_ (List.getElem?_eq_getElem (show i < rows.length by have := h.len; omega))
  rw [hi] at h1
  cases h1
  exact ⟨h2.ge hb, h2.lt hb⟩
namespace LvI
variable {g g' : G} {B : Nat} {a : Option Addr} {n c : Nat} {rows : List (List Lab)} {hds : List SlH}
theorem but (H : LvI g B a n c rows hds) {p : Nat → Prop} (m : But p g g') (hp : ∀ b, B ≤ b → ¬ p b) : LvI g' B a n c rows hds :=
  ⟨H.out.but m (fun b hb => hp b (H.out.ge hb)), H.row.but m (fun x hx b hb => hp b (RowsM.ge H.row hx hb).1), H.apart⟩
theorem ex (H : LvI g B a n c rows hds) (m : Ex g g') : LvI g' B a n c rows hds := H.but (m.but nobody) (fun _ _ h => h)
theorem lens (H : LvI g B a n c rows hds) : hds.length = n ∧ rows.length = n := by
  have h1 := H.out.len
  have h2 := H.row.len
  simp at h1 h2
  omega
/-- A row more. -/
theorem push (H : LvI g B a n c rows hds) {g1 : G} (n1 : NewL g g1 30 [.slice none 0 0]) (hB : B ≤ g.w.heap.size) (hn : n ≤ 1000) :
    ∃ a' c' w', (Builtin.append_ #[25, 25] 25 #[.slice a n c, .slice (some ⟨g.w.heap.size, 0, none⟩) 1 1]).run Tryd.prog g1.w = .ok (.slice a' (n + 1) c') w' ∧ ∃ g', g'.w = w' ∧ Stp B nobody g1 g' ∧ LvI g' B a' (n + 1) c' (rows ++ [[]]) (hds ++ [⟨none, 0, 0⟩]) ∧ But (blkOf a) g1 g' := by
  have h1 := H.ex n1.ex
  have hN : Sl g1 1 (some ⟨g.w.heap.size, 0, none⟩) 1 1 [.slice none 0 0] := n1.sl (by simp) (by unfold maxLen; omega)
  obtain ⟨a', c', w', hr, g', hw, hs, ho, hs2, hb⟩ := h1.out.app E26 25 (Nat.le_trans hB n1.ex.size) hN (fun u hu => by simp at hu; subst hu; rfl) (by omega) (by unfold maxLen; omega)
  have bt : But (blkOf a) g1 g' := hs2.but (Nat.le_refl _)
  refine ⟨a', c', w', hr, g', hw, hs, ⟨by rw [List.map_append]; exact ho, ?_, ?_⟩, bt⟩
  · rw [List.map_append]
    exact (h1.row.but bt (fun x hx b hxb => h1.apart x hx b hxb)).push
  · intro x hx b hxb hab
    rcases List.mem_append.1 hx with hx | hx
    · rcases hb b hab with hh | hh
      · exact h1.apart x hx b hxb hh
      · have := (RowsM.ge h1.row hx hxb).2; omega
    · rw [List.mem_singleton] at hx
      subst hx
      obtain ⟨_, hh, _⟩ := hxb
      cases hh
/-- A name more in a row. -/
theorem add (H : LvI g B a n c rows hds) {k : Nat} {r : List Lab} (hr : rows[k]? = some r) {s : Lab} (hl : r.length ≤ 1000) (hB : B ≤ g.w.heap.size) {Q : Addr → Option Addr → Nat → Nat → Prop}
    (hQ : ∀ ad xa xl xc, a = some ad → g.w.cell? (Addr.add ad k) = some (.slice xa xl xc) → (∀ g1, NewL g g1 9 [encStr s] → ∃ a' l' c' w', (Builtin.append_ #[30, 30] 30 #[.slice xa xl xc, .slice (some ⟨g.w.heap.size, 0, none⟩) 1 1]).run Tryd.prog g1.w = .ok (.slice a' l' c') w' ∧ ∃ g2, g2.w = w' ∧ Stp B nobody g1 g2 ∧
      stOk g2.w (Addr.add ad k) 1 ∧ ¬ g2.X (Addr.block (Addr.add ad k)) ∧ mutAt g2 (Addr.add ad k) 1 ∧ B ≤ Addr.block (Addr.add ad k) ∧
      ∀ g3, StG false g2 (Addr.add ad k) [.slice a' l' c'] g3 → Le g g3 ∧ (∃ p, But p g g3 ∧ ∀ b, p b → B ≤ b) ∧ ∃ hds', LvI g3 B a n c (rows.set k (r ++ [s])) hds') → Q ad xa xl xc) : derefP a fun ad => ∃ xa xl xc, g.w.cell? (Addr.add ad k) = some (.slice xa xl xc) ∧ Q ad xa xl xc := by
  have hk := (List.getElem?_eq_some_iff.1 hr).1
  obtain ⟨ln1, ln2⟩ := H.lens
  obtain ⟨x, hx, hxr⟩ := H.row.at_ (i := k) (r := r.map encStr) (by rw [List.getElem?_map, hr]; rfl)
  rcases H.out.row with ⟨_, h0, _⟩ | ⟨b, cur, rfl, r1, r2, r3, r4, r5, r6⟩
  · omega
  have hxv : (hds.map SlH.v)[k]? = some x.v := by rw [List.getElem?_map, hx]; rfl
  have hcur : cur[k]? = some x.v := by
    have := hxv
    rw [← r6, List.getElem?_take] at this
    split at this
    · exact this
    · cases this
  have hcell : g.w.cell? (Addr.add ⟨b, 0, none⟩ k) = some x.v := r2.rd hcur
  refine ⟨x.a, x.n, x.c, hcell, hQ _ _ _ _ rfl hcell (fun g1 n1 => ?_)⟩
  have H1 := H.ex n1.ex
  have hxr1 := hxr.ex n1.ex
  have hN : Sl g1 1 (some ⟨g.w.heap.size, 0, none⟩) 1 1 [encStr s] := n1.sl (by simp) (by unfold maxLen; omega)
  have hxn : x.n = r.length := by have := hxr.len; simpa using this.symm
  obtain ⟨a', c', w', hrun, g2, hw, hs, ho, hs2, hb⟩ := hxr1.app E30 30 (Nat.le_trans hB n1.ex.size) hN (fun u hu => by simp at hu; subst hu; rfl) (by omega) (by unfold maxLen; omega)
  have bt : But (blkOf x.a) g1 g2 := hs2.but (Nat.le_refl _)
  have hxm : x ∈ hds := List.mem_of_getElem? hx
  have hbx : ¬ blkOf x.a b := fun hh => H.apart x hxm b hh ⟨_, rfl, rfl⟩
  have r2' : MutB g2 b 30 cur := (r2.ex n1.ex).but bt hbx
  have hlt : k < cur.length := (List.getElem?_eq_some_iff.1 hcur).1
  refine ⟨a', _, c', w', hrun, g2, hw, hs, r2'.ok (j := k) (n := 1) (by omega), r2'.nxA k, r2'.mutA k 1, by rw [add_block]; exact r1, fun g3 k3 => ?_⟩
  obtain ⟨r3', bt3⟩ := r2'.st (j := k) k3
  have le23 : Le g2 g3 := bt3.le (fun y hy i => by have e : y = b := hy; rw [e]; exact r2'.d i)
  have le03 : Le g g3 := (n1.ex.le.trans hs.le).trans le23
  have rows2 : RowsM g2 B 9 (hds.set k ⟨a', x.n + 1, c'⟩) ((rows.map (·.map encStr)).set k (r.map encStr ++ [encStr s])) := H1.row.set hx bt ho hb
  have hab' : ∀ z, blkOf a' z → z ≠ b := by
    intro z hz e
    subst e
    rcases hb z hz with hh | hh
    · exact hbx hh
    · have := (r2.ex n1.ex).lt; omega
  have rows3 : RowsM g3 B 9 (hds.set k ⟨a', x.n + 1, c'⟩) ((rows.map (·.map encStr)).set k (r.map encStr ++ [encStr s])) := by
    refine rows2.but bt3 (fun y hy z hz e => ?_)
    have e' : z = b := e
    subst e'
    rcases List.mem_or_eq_of_mem_set hy with hy | rfl
    · exact H.apart y hy z hz ⟨_, rfl, rfl⟩
    · exact hab' z hz rfl
  refine ⟨le03, ⟨fun z => blkOf x.a z ∨ z = b, ((n1.ex.but _).trans (bt.mono (fun z _ hz => .inl hz))).trans (bt3.mono (fun z _ hz => .inr hz)), ?_⟩, hds.set k ⟨a', x.n + 1, c'⟩, ⟨?_, ?_, ?_⟩⟩
  · rintro z (hz | rfl)
    · exact hxr.ge hz
    · exact r1
  · refine ⟨by rw [List.length_map, List.length_set]; omega, .inr ⟨b, _, rfl, r1, r3', r3, r4, ?_, ?_⟩⟩
    · rw [setsAt_one, List.length_set]; exact r5
    · rw [setsAt_one, List.take_set, r6, List.map_set]
  · have e : (rows.set k (r ++ [s])).map (·.map encStr) = (rows.map (·.map encStr)).set k (r.map encStr ++ [encStr s]) := by rw [List.map_set, List.map_append]; rfl
    rw [e]
    exact rows3
  · intro y hy z hz
    rcases List.mem_or_eq_of_mem_set hy with hy | rfl
    · exact H.apart y hy z hz
    · rintro ⟨ad, e1, e2⟩
      cases e1
      exact hab' z hz e2.symm
/-- A row is sorted in place. -/
theorem sort (H : LvI g B a n c rows hds) {k : Nat} {r : List Lab} (hr : rows[k]? = some r) (hnd : r.Nodup) (hl : r.length ≤ 1000) {Q : Option Addr → Nat → Nat → Prop}
    (hQ : ∀ xa xl xc, (∃ M : Nat → Prop, (∀ b, M b → B ≤ b) ∧ CallsG Tryd.prog 19 #[.slice xa xl xc] g M fun v g' => v = .tuple ⟨[]⟩ ∧ Le g g' ∧ (∃ p, But p g g' ∧ ∀ b, p b → B ≤ b) ∧ LvI g' B a n c (rows.set k (sortS r)) hds) → Q xa xl xc) :
    derefP a fun ad => ∃ xa xl xc, g.w.cell? (Addr.add ad k) = some (.slice xa xl xc) ∧ Q xa xl xc := by
  have hk := (List.getElem?_eq_some_iff.1 hr).1
  obtain ⟨ln1, ln2⟩ := H.lens
  obtain ⟨x, hx, hxr⟩ := H.row.at_ (i := k) (r := r.map encStr) (by rw [List.getElem?_map, hr]; rfl)
  rcases H.out.row with ⟨_, h0, _⟩ | ⟨b, cur, rfl, r1, r2, r3, r4, r5, r6⟩
  · omega
  have hxv : (hds.map SlH.v)[k]? = some x.v := by rw [List.getElem?_map, hx]; rfl
  have hcur : cur[k]? = some x.v := by
    have := hxv
    rw [← r6, List.getElem?_take] at this
    split at this
    · exact this
    · cases this
  have hxm : x ∈ hds := List.mem_of_getElem? hx
  have hxn : x.n = r.length := by have := hxr.len; simpa using this.symm
  refine ⟨x.a, x.n, x.c, r2.rd hcur, hQ _ _ _ ⟨blkOf x.a, fun z hz => hxr.ge hz, (sort_mut encStr (fun blk off cap ss W hH hblk hsz => AnyM.slices_Sort_string Tryd.sortA blk off cap ss W hH hblk hsz) (fun p cap W => AnyM.slices_Sort_string_none Tryd.sortA p cap W) hxr (by omega)).mono ?_⟩⟩
  rintro v g' hs ⟨rfl, hm⟩
  have bt : But (blkOf x.a) g g' := hs.but (Nat.le_refl _)
  rw [sort_nodup hnd] at hm
  refine ⟨rfl, hs.le, ⟨_, bt, fun z hz => hxr.ge hz⟩, H.out.but bt (fun z hz hz2 => H.apart x hxm z hz2 hz), ?_, H.apart⟩
  have h1 := H.row.set (i := k) (y := x) hx bt hm (fun z hz => .inl hz)
  rw [show hds.set k x = hds by
    apply List.ext_getElem?
    intro i
    rw [List.getElem?_set]
    split
    · next e => subst e; rw [if_pos (by omega), hx]
    · rfl] at h1
  rw [List.map_set]
  exact h1
end LvI
theorem MutR.base {g : G} {B B' : Nat} {e : TypeId} {a : Option Addr} {n c : Nat} {L : List Value} (h : MutR g B e 1 a n c L) (hB : B' ≤ B) : MutR g B' e 1 a n c L := by
  rcases h.row with hr | ⟨b, cur, rfl, h1, h2⟩
  · exact ⟨h.len, .inl hr⟩
  · exact ⟨h.len, .inr ⟨b, cur, rfl, by omega, h2⟩⟩
theorem RowsM.base {g : G} {B B' : Nat} {e : TypeId} {hs : List SlH} {rows : List (List Value)} (h : RowsM g B e hs rows) (hB : B' ≤ B) : RowsM g B' e hs rows := ⟨h.row.imp fun _ _ hr => MutR.base hr hB, h.apart⟩
theorem zero3 (w : World) : (zeroValue 3).run Tryd.prog w = .ok (.int .i64 0) w := by kernel_rfl
open Classical in
noncomputable def lvF (f : Lab → Nat) (S : List Lab) : List UInt8 → Option Value := fun s => if s ∈ S then some (.int .i64 ((f s : Nat) : Int)) else none
def LevSay (L : List UnitD) (v : Value) (g' : G) : Prop := ∃ oa on oc, v = .tuple ⟨[.slice oa on oc, .int .i64 (levelsA L).2]⟩ ∧ SlE (lsE strE) g' oa on oc (levelsA L).1
/-- Levels, with rows that may still turn. -/
theorem kkd6a {L : List UnitD} {a : Option Addr} {n c : Nat} {g : G} (hL : ∀ u ∈ L, unitOK u) (ht : TabG g) (h : SlE unitE g a n c L) :
    CallsP Tryd.prog 6 #[.slice a n c] g fun v g' => ((orderN L).2 ≠ 0 ∧ v = .tuple ⟨[.slice none 0 0, .int .i64 (orderN L).2]⟩) ∨ ((orderN L).2 = 0 ∧ ∃ oa on oc hds, v = .tuple ⟨[.slice oa on oc, .int .i64 0]⟩ ∧ LvI g' g.w.heap.size oa on oc (levelsN L (orderN L).1) hds) := by
  classical
  refine call6 a n c g _ ?_
  unfold F6
  refine (kkd18 hL ht h).mono ?_
  rintro v g1 m1 ⟨p, rfl, hp⟩
  refine ⟨p, _, rfl, ifNe (fun q g2 m2 => .inl ⟨q, rfl⟩) (fun q g3 n3 => ?_)⟩
  obtain ⟨ad, rfl, hG⟩ := hp q
  have hO := orderN_ordered q
  have hol := hO.len
  have h16 := hO.ln
  have hKl := names_le hO
  have hG3 := hG.ex n3.ex
  have z13 : g1.w.heap.size < g3.w.heap.size := heap_lt n3.blk
  have z01 : g.w.heap.size ≤ g1.w.heap.size := m1.size
  obtain ⟨oa, on, oc, l1, s1⟩ := hG3.ord
  have hon := s1.len
  generalize ho : (orderN L).1 = o at hO hol s1 hon
  refine ⟨oa, on, oc, l1.1, ?_⟩
  have lv3 : MapG Tryd.prog g3 9 g1.w.heap.size 0 (lvF (levs L []) []) := (MapG.new n3 Tryd.prog 9).congr (fun s => by unfold lvF; rw [if_neg (by simp)])
  have L3 : LvI g3 g3.w.heap.size none 0 0 (rowsN (levs L []) []) [] := ⟨MutR.nil _ _ _ _, RowsM.nil _ _ _, fun x hx => by cases hx⟩
  refine ⟨fun m ra rn rc i g' => ∃ (j : Nat) (hds : List SlH), i = ((j : Nat) : Int) ∧ j + m = on ∧ MapG Tryd.prog g' 9 g1.w.heap.size j (lvF (levs L (o.take j)) (o.take j)) ∧ LvI g' g3.w.heap.size ra rn rc (rowsN (levs L (o.take j)) (o.take j)) hds ∧ GraphI g' g1.w.heap.size ad L,
    ⟨on, 0, [], rfl, by omega, by simpa using lv3, by simpa using L3, hG3⟩, ?_⟩
  rintro m ra rn rc i g4 le4 ⟨j, hds, rfl, hj, hlv, hrow, hG4⟩
  have hrl := hrow.lens
  have hrn : rn = levOf (levs L (o.take j)) (o.take j) := by rw [← hrl.2, rowsN_len]
  have hrn16 : rn ≤ 16 := by
    rw [hrn]
    have := levOf_le (levs L (o.take j)) (o.take j) (m := j) (fun s hs => levs_lt hO j (by omega) s hs)
    omega
  refine ifLt (fun q1 => ⟨⟨by omega, by omega⟩, ?_⟩) (fun q1 => ?_)
  · have gj := List.getElem?_eq_getElem (show j < o.length by omega)
    generalize o[j] = name at gj
    have hnm : name ∈ o := List.mem_of_getElem? gj
    obtain ⟨u, hu, hun⟩ := hO.unit hnm
    have hnl := names_len hO (hO.af.sub name hnm)
    have ht1 : o.take (j + 1) = o.take j ++ [name] := by rw [List.take_add_one, gj]; rfl
    have hnot : name ∉ o.take j := by
      intro hc
      obtain ⟨x, hx⟩ := List.getElem?_of_mem hc
      rw [List.getElem?_take] at hx
      split at hx
      · have : x = j := (List.getElem?_inj (by omega) hO.af.nd).1 (by rw [hx, gj])
        omega
      · cases hx
    have himp : ∀ s ∈ u.imps, s ∈ o.take j := hO.af.aft u hu j (by rw [hun]; exact gj)
    obtain ⟨mb, nn, f, i1, i2, i3, i4⟩ := hG4.imp
    obtain ⟨ia, im, ic, i5, i6⟩ := i4.at_ u hu
    have hlk := i3.look Tryd.underlying9 Tryd.underlying50 (zero22 g4.w) name (by unfold maxLen; omega)
    rw [hun] at i5
    rw [i5] at hlk
    have hil := i6.len
    have hi16 := (hO.ok u hu).2.1
    refine rdS (s1.mono le4) j rfl gj ⟨_, i2.1, ia, im, ic, _, hlk, g4, rfl, Stp.refl _ _ _, ?_⟩
    generalize hfe : levs L (o.take j) = fl at hlv hrow hrn hrl
    have hfl16 : ∀ s ∈ o.take j, fl s < 16 := fun s hs => by have := levs_lt hO j (by omega) s hs; rw [hfe] at this; omega
    refine ⟨fun m v i g' => ∃ p : Nat, i = ((p : Nat) : Int) ∧ p + m = im ∧ v = ((levOf fl (u.imps.take p) : Nat) : Int) ∧ Ex g4 g', ⟨im, 0, rfl, by omega, rfl, Ex.refl _⟩, ?_⟩
    rintro m2 vn i2' g6 le6 ⟨p, rfl, hp, rfl, m6⟩
    refine ifLt (fun q2 => ⟨⟨by omega, by omega⟩, ?_⟩) (fun q2 => ?_)
    · have gp := List.getElem?_eq_getElem (show p < u.imps.length by omega)
      generalize u.imps[p] = s at gp
      have hsj := himp s (List.mem_of_getElem? gp)
      have hsl := names_len hO (hO.imp u hu s (List.mem_of_getElem? gp))
      have hlk2 := (hlv.ex m6).look Tryd.underlying9 Tryd.underlying29 (zero3 g6.w) s (by unfold maxLen; omega)
      unfold lvF at hlk2
      rw [if_pos hsj] at hlk2
      have := hfl16 s hsj
      refine rdS (i6.mono le6) p rfl gp ⟨_, _, hlk2, g6, rfl, Stp.refl _ _ _, i64 (by omega) (by omega), i64 (by omega) (by omega), m2 - 1, by omega, p + 1, by omega, by omega, ?_, m6⟩
      rw [List.take_add_one, gp]
      show maxI _ _ = ((levOf fl (u.imps.take p ++ [s]) : Nat) : Int)
      rw [levOf_snoc]
      unfold maxI
      split <;> omega
    · rw [take_all (by omega)]
      have hlev : levOf fl u.imps ≤ rn := by rw [hrn]; exact levOf_sub himp
      obtain ⟨w8, hr8, g8, hw8, hs8, hlv8, hb8⟩ := (hlv.ex m6).put Tryd.underlying9 Tryd.underlying29 (by unfold maxLen; omega) name (by unfold maxLen; omega) (.int .i64 ((levOf fl u.imps : Nat) : Int)) (B := g.w.heap.size) z01
      have hf1 : ∀ s, levs L (o.take (j + 1)) s = if s = name then levOf fl u.imps else fl s := by
        intro s
        rw [ht1, levs_snoc, hfe]
        unfold levStep
        rw [← hun, impsOf_unit hO.nd hu]
      have hlv8' : MapG Tryd.prog g8 9 g1.w.heap.size (j + 1) (lvF (levs L (o.take (j + 1))) (o.take (j + 1))) := by
        refine hlv8.congr (fun s => ?_)
        by_cases e : s = name
        · subst e
          unfold lvF
          rw [upd_same, if_pos (by rw [ht1]; simp), hf1, if_pos rfl]
        · rw [upd_other _ _ e]
          unfold lvF
          have : s ∈ o.take (j + 1) ↔ s ∈ o.take j := by rw [ht1]; simp [e]
          by_cases e2 : s ∈ o.take j
          · rw [if_pos e2, if_pos (this.2 e2), hf1, if_neg e]
          · rw [if_neg e2, if_neg (fun hh => e2 (this.1 hh))]
      have hrow8 : LvI g8 g3.w.heap.size ra rn rc (rowsN fl (o.take j)) hds := (hrow.ex m6).but hb8 (fun b hb e => by have e' : b = g1.w.heap.size := e; omega)
      have hG8 : GraphI g8 g1.w.heap.size ad L := (hG4.ex m6).but hb8 hs8.le (fun b hb e => by have e' : b = g1.w.heap.size := e; omega)
      have ecg : rowsN fl (o.take j) = rowsN (levs L (o.take (j + 1))) (o.take j) := rowsN_congr (fun s hs => by rw [hf1, if_neg (fun e : s = name => hnot (by rw [← e]; exact hs))])
      have eln : levs L (o.take (j + 1)) name = levOf fl u.imps := by rw [hf1, if_pos rfl]
      have elo : levOf (levs L (o.take (j + 1))) (o.take j) = rn := by rw [hrn]; exact levOf_congr (fun s hs => by rw [hf1, if_neg (fun e : s = name => hnot (by rw [← e]; exact hs))])
      have esn : rowsN (levs L (o.take (j + 1))) (o.take (j + 1)) = (rowsN fl (o.take j) ++ if levOf fl u.imps = rn then [[]] else []).set (levOf fl u.imps) (Go.Syn.rowAt (levs L (o.take (j + 1))) (o.take j) (levOf fl u.imps) ++ [name]) := by
        have := rowsN_snoc (f := levs L (o.take (j + 1))) (o := o.take j) (s := name) (by rw [eln, elo]; exact hlev)
        rw [← ht1, eln, elo, ← ecg] at this
        exact this
      refine ⟨w8, hr8, g8, hw8, hs8, ?_⟩
      generalize hnv : levOf fl u.imps = nv at hlev hlv8 hf1 eln esn ⊢
      intro J hJ
      have HJ : ∀ (qa : Option Addr) (qn qc : Nat) (hd : List SlH) (g9 : G), Le g8 g9 → MapG Tryd.prog g9 9 g1.w.heap.size (j + 1) (lvF (levs L (o.take (j + 1))) (o.take (j + 1))) → GraphI g9 g1.w.heap.size ad L →
          LvI g9 g3.w.heap.size qa qn qc (rowsN fl (o.take j) ++ if nv = rn then [[]] else []) hd → J qa qn qc g9 := by
        intro qa qn qc hd g9 le9 hlv9 hG9 hrow9
        refine hJ qa qn qc g9 ?_
        have hln := hrow9.lens
        have hlen : nv < qn := by
          have h1 := hrl.2
          rw [← hln.2, List.length_append]
          split <;> simp <;> omega
        obtain ⟨r, hr⟩ : ∃ r, (rowsN fl (o.take j) ++ if nv = rn then [[]] else [])[nv]? = some r := ⟨_, List.getElem?_eq_getElem (by rw [hln.2]; exact hlen)⟩
        have her : r = Go.Syn.rowAt (levs L (o.take (j + 1))) (o.take j) nv := by
          by_cases e : nv < rn
          · rw [List.getElem?_append_left (by omega), ecg, rowsN_get (by rw [elo]; exact e)] at hr
            exact (Option.some.inj hr).symm
          · have e2 : nv = rn := by omega
            rw [if_pos e2, List.getElem?_append_right (by omega)] at hr
            have h1 := hrl.2
            rw [show nv - (rowsN fl (o.take j)).length = 0 by omega] at hr
            have : r = [] := (Option.some.inj hr).symm
            rw [this]
            symm
            refine List.eq_nil_iff_forall_not_mem.2 fun x hx => ?_
            obtain ⟨h2, h3⟩ := mem_rowAt.1 hx
            have := levOf_mem (f := levs L (o.take (j + 1))) h2
            rw [elo] at this
            omega
        have hrl2 : r.length ≤ 1000 := by
          rw [her]
          refine Nat.le_trans (List.length_filter_le _ _) ?_
          rw [List.length_take]; omega
        refine ⟨⟨by omega, by omega⟩, ?_⟩
        rw [Int.toNat_natCast, Nat.mul_one]
        have zB : g3.w.heap.size ≤ g9.w.heap.size := Nat.le_trans (Nat.le_trans le4.size m6.size) (Nat.le_trans hs8.le.size le9.size)
        refine hrow9.add hr (s := name) hrl2 zB (fun ad' xa xl xc ha hcell hh => ?_)
        subst ha
        intro g10 n10
        obtain ⟨a', l', c', w', hrun, g11, hw11, hs11, st1, st2, st3, st4, st5⟩ := hh g10 n10
        refine ⟨a', l', c', w', hrun, g11, hw11, hs11.mono (Nat.le_trans z01 (Nat.le_of_lt z13)) (fun _ _ hh => hh), ⟨by omega, by omega⟩, st1, st2, st3, fun hlt => ?_, fun g12 k12 => ?_⟩
        · show False
          omega
        obtain ⟨leF, ⟨p, hbp, hpB⟩, hds', hL'⟩ := st5 g12 k12
        exact ⟨i64 (by omega) (by omega), m - 1, by omega, j + 1, hds', by omega, by omega, hlv9.but hbp (fun hh => by have := hpB _ hh; omega), by rw [esn, ← her]; exact hL', hG9.but hbp leF (fun b hb e => by have := hpB b e; omega)⟩
      clear hJ
      have zB8 : g3.w.heap.size ≤ g8.w.heap.size := Nat.le_trans (Nat.le_trans le4.size m6.size) hs8.le.size
      refine ifEq (fun q3 g13 n13 => ?_) (fun q3 => HJ ra rn rc hds g8 (Le.refl _) hlv8' hG8 (by rw [if_neg (by omega), List.append_nil]; exact hrow8))
      obtain ⟨a', c', w', hr, g14, hw14, hs14, hL14, hb14⟩ := hrow8.push n13 zB8 (by omega)
      exact ⟨a', _, c', w', hr, g14, hw14, hs14.mono (Nat.le_trans z01 (Nat.le_of_lt z13)) (fun _ _ hh => hh), HJ a' _ c' _ g14 (n13.ex.le.trans hs14.le) ((hlv8'.ex n13.ex).but hb14 (fun hh => by have := hrow8.out.ge hh; omega)) ((hG8.ex n13.ex).but hb14 hs14.le (fun b hb hh => by have := hrow8.out.ge hh; omega)) (by rw [if_pos (by omega)]; exact hL14)⟩
  · rw [take_all (by omega)] at hrow
    have hRl := hrow.lens.2
    have hRn : ∀ r ∈ rowsN (levs L o) o, r.Nodup ∧ r.length ≤ 1000 := by
      intro r hr
      unfold rowsN at hr
      obtain ⟨k, _, rfl⟩ := List.mem_map.1 hr
      exact ⟨hO.af.nd.sublist List.filter_sublist, Nat.le_trans (List.length_filter_le _ _) (by omega)⟩
    generalize hR0 : rowsN (levs L o) o = R0 at hrow hRl hRn
    refine ⟨fun m i g' => ∃ k : Nat, i = ((k : Nat) : Int) ∧ k + m = rn ∧ LvI g' g3.w.heap.size ra rn rc ((R0.take k).map sortS ++ R0.drop k) hds, ⟨rn, 0, rfl, by omega, by simpa using hrow⟩, ?_⟩
    rintro m2 i2 g15 le15 ⟨k, rfl, hk, hL15⟩
    refine ifLt (fun q2 => ⟨⟨by omega, by omega⟩, ?_⟩) (fun q2 g17 m17 => .inr ⟨q, ra, rn, rc, hds, rfl, ?_⟩)
    · have gk := List.getElem?_eq_getElem (show k < R0.length by omega)
      have hdr := List.drop_eq_getElem_cons (show k < R0.length by omega)
      generalize R0[k] = r at gk hdr
      have hrm := hRn r (List.mem_of_getElem? gk)
      have hkl : ((R0.take k).map sortS).length = k := by rw [List.length_map, List.length_take]; omega
      have hr : ((R0.take k).map sortS ++ R0.drop k)[k]? = some r := by
        rw [List.getElem?_append_right (by omega), hkl, hdr]; simp
      have hset : ((R0.take k).map sortS ++ R0.drop k).set k (sortS r) = (R0.take (k + 1)).map sortS ++ R0.drop (k + 1) := by
        rw [List.set_append_right _ _ (by omega), hkl, hdr, List.take_add_one, gk, List.map_append]
        simp
      rw [Int.toNat_natCast, Nat.mul_one]
      refine hL15.sort hr hrm.1 hrm.2 (fun xa xl xc ⟨M, hM, hc⟩ => ⟨M, fun b hb hm => ?_, hc.mono ?_⟩)
      · have := hM b hm
        show False
        omega
      rintro v g16 hs16 ⟨rfl, le16, ⟨p, hbp, hpB⟩, hL16⟩
      rw [hset] at hL16
      exact ⟨rfl, i64 (by omega) (by omega), m2 - 1, by omega, k + 1, by omega, by omega, hL16⟩
    · rw [take_all (by omega), List.drop_eq_nil_of_le (by omega), List.append_nil] at hL15
      have hB : g.w.heap.size ≤ g3.w.heap.size := by omega
      have hfin := hL15.ex m17
      unfold levelsN
      rw [hR0]
      exact ⟨MutR.base hfin.out hB, RowsM.base hfin.row hB, hfin.apart⟩
/-- Levels. -/
theorem kkd6 {L : List UnitD} {a : Option Addr} {n c : Nat} {g : G} (hL : ∀ u ∈ L, unitOK u) (ht : TabG g) (h : SlE unitE g a n c L) : CallsP Tryd.prog 6 #[.slice a n c] g fun v g' => LevSay L v g' := by
  refine CallsP.ghost (kkd6a hL ht h) ?_
  rintro v g1 hs (⟨q, rfl⟩ | ⟨q, oa, on, oc, hds, rfl, hl⟩)
  · have e : levelsA L = ([], (orderN L).2) := if_neg q
    exact ⟨g1, rfl, hs, none, 0, 0, by rw [e], by rw [e]; exact SlE.zero _⟩
  · have e : levelsA L = (levelsN L (orderN L).1, 0) := if_pos q
    obtain ⟨g', hw, hs', hd⟩ := rows_done hs hl.row hl.out
    exact ⟨g', hw, hs', oa, on, oc, by rw [e], by rw [e]; exact hd⟩
end Go.Proofs.YtmkdbndniffkfaaDoor
