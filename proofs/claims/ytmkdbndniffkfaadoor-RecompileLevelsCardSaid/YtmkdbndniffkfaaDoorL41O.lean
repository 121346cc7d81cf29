/- Joined texts. -/
import Derived.Test.YtmkdbndniffkfaaDoorL41E
import Derived.Test.YtmkdbndniffkfaaDoorSunit
import Derived.Test.YtmkdbndniffkfaaDoorVkeys
import Derived.Test.YtmkdbndniffkfaaDoorVm4
import Derived.Test.YtmkdbndniffkfaaDoorShelfLk
import Derived.Test.YtmkdbndniffkfaaDoorSyb
/- Units: names that stand once, units that are right, tests of units. -/
set_option linter.unusedVariables false
namespace Go.Proofs.YtmkdbndniffkfaaDoor
open Go Go.Vc Go.RowKit Go.Syn

theorem E30 : Elem Tryd.prog 30 9 1 16 := ⟨Tryd.underlying30, by kernel_rfl⟩
section
variable {u : UnitD} {ia : Option Addr} {im ic : Nat} {da : Option Addr} {dn dc : Nat} {g : G}
theorem unit_syn (h : UnI g u ia im ic da dn dc) : SynI g (unitT u) none 0 0 da dn dc := ⟨SlE.zero _, h.decls⟩
/-- valid. -/
theorem kq98 (hu : unitOK u) (ht : TabG g) (h : UnI g u ia im ic da dn dc) : CallsP Tryd.prog 35 #[unitV u ia im ic da dn dc] g fun v _ => v = .bool (tf (unitP u)) := by
  refine call35 _ _ _ _ _ _ _ g _ ?_
  have hI := h.imps
  have hl := hI.len
  have hc := hI.le
  unfold F35
  intro J hJ g10 m10
  have HJ : ∀ g1, Ex g g1 → upperP u.name → u.imps.length ≤ 16 → J g1 := by
    intro g1 m1 hn h16
    refine hJ g1 ?_
    refine ⟨fun m i g' => ∃ j : Nat, i = ((j : Nat) : Int) ∧ j + m = im ∧ (∀ s ∈ u.imps.take j, upperP s ∧ s ≠ u.name) ∧ (u.imps.take j).Nodup, ⟨im, 0, rfl, by omega, by simp, by simp⟩, ?_⟩
    rintro m i g2 le ⟨j, rfl, hj, hall, hnd⟩
    have le2 := m1.le.trans le
    refine ifLt (fun q => ⟨⟨by omega, by omega⟩, ?_⟩) (fun q => ?_)
    · have gj := List.getElem?_eq_getElem (show j < u.imps.length by omega)
      generalize u.imps[j] = s at gj
      have hs := List.mem_of_getElem? gj
      have no : ∀ g' : G, ¬ unitP u → (fun (v : Value) (_ : G) => v = .bool (tf (unitP u))) (.bool false) g' := fun g' hh => vF hh
      refine rdS (hI.mono le2) j rfl gj ((kk111 s g2).mono ?_)
      rintro v g3 m3 rfl
      refine ⟨_, rfl, ifPn (fun q1 g4 _ => no g4 (fun hh => q1 (hh.2.2.1 s hs))) (fun q1 => ?_)⟩
      rw [strEq_bstr]
      refine ifP (fun q2 g5 _ => no g5 (fun hh => hh.2.2.2.1 (q2 ▸ hs))) (fun q2 => ⟨⟨by omega, by omega⟩, ?_⟩)
      have htk := ((hI.mono le2).exm m3).take (hi := j) (by omega)
      rw [Int.toNat_natCast]
      refine (kk19 (u.imps.take j) s htk (by omega)).mono ?_
      rintro v g6 m6 rfl
      refine ⟨_, rfl, ifP (fun q3 g7 _ => no g7 (fun hh => ?_)) (fun q3 => ⟨i64 (by omega) (by omega), m - 1, by omega, j + 1, by omega, by omega, (all_take gj _).2 ⟨hall, q1, q2⟩, (nodup_take gj).2 ⟨hnd, q3⟩⟩)⟩
      exact ((nodup_take gj).1 (hh.2.2.2.2.1.sublist (List.take_sublist _ _))).2 q3
    · rw [take_all (by omega)] at hall hnd
      refine (kk58 7 (unitT u) hu.ok hu.size (ht.mono le2) (unit_syn (h.mono le2))).mono ?_
      rintro v g8 m8 rfl
      refine ⟨_, rfl, fun g9 _ => vP ⟨fun hh => ⟨hn, h16, fun s hs => (hall s hs).1, fun hs => (hall _ hs).2 rfl, hnd, hh⟩, fun hh => hh.2.2.2.2.2⟩⟩
  refine (kk111 u.name g10).mono ?_
  rintro v g11 m11 rfl
  exact ⟨_, rfl, ifPn (fun q g12 _ => vF (fun hh => q hh.1)) (fun q => ifLt (fun q2 g13 _ => vF (fun hh => by have := hh.2.1; omega)) (fun q2 => HJ g11 (m10.trans m11) q (by omega)))⟩
end
/-- slices.IndexFunc and ContainsFunc, of units. -/
theorem kq17 (f : FuncId) (c0 : Array Value) (p : UnitD → Prop) (L : List UnitD) {a : Option Addr} {n c : Nat} {g : G} (h : SlE unitE g a n c L) (hn : n ≤ 1048576) (he : Go.Vc.Enters Tryd.prog f)
    (hf : ∀ g' u, Le g g' → u ∈ L → ∀ ia im ic da dn dc, UnI g' u ia im ic da dn dc → CallsP Tryd.prog f (#[unitV u ia im ic da dn dc] ++ c0) g' fun v _ => ∃ b, v = .bool b ∧ (b = true ↔ p u)) :
    CallsP Tryd.prog 51 #[.slice a n c, .func (.func f) #[] c0] g fun v _ => ∃ i : Int, v = .int .i64 i ∧ ((i = -1 ∧ ∀ u ∈ L, ¬ p u) ∨ ∃ (j : Nat) (u : UnitD), i = ((j : Nat) : Int) ∧ L[j]? = some u ∧ p u ∧ ∀ v ∈ L.take j, ¬ p v) := by
  refine call51 a n c f c0 g _ ?_
  have hl := h.len
  unfold F51
  refine ⟨fun m i g' => ∃ j : Nat, i = ((j : Nat) : Int) ∧ j + m = n ∧ ∀ x ∈ L.take j, ¬ p x, ⟨n, 0, rfl, by omega, by simp⟩, ?_⟩
  rintro m i g1 le ⟨j, rfl, hj, hall⟩
  refine ifLt (fun hlt => ⟨⟨by omega, by omega⟩, ?_⟩) (fun hge g4 _ => ⟨_, rfl, .inl ⟨rfl, by rwa [take_all (by omega)] at hall⟩⟩)
  have gj := List.getElem?_eq_getElem (show j < L.length by omega)
  generalize L[j] = u at gj
  refine rdUA (h.mono le) j rfl gj (fun ad ia im ic da dn dc hI hc => ?_)
  obtain ⟨c0', c1, c2⟩ := hc g1 (Le.refl _)
  refine ⟨_, _, _, _, _, _, _, c0', c1, c2, he, (hf g1 u le (List.mem_of_getElem? gj) ia im ic da dn dc hI).mono ?_⟩
  rintro v g2 _ ⟨b, rfl, hb⟩
  exact ⟨_, rfl, ifT (fun e g3 _ => ⟨_, rfl, .inr ⟨j, u, rfl, gj, hb.1 e, hall⟩⟩) (fun e => ⟨i64 (by omega) (by omega), m - 1, by omega, j + 1, by omega, by omega, (all_take gj _).2 ⟨hall, fun hp => by rw [hb.2 hp] at e; cases e⟩⟩)⟩
theorem kq96 (f : FuncId) (c0 : Array Value) (p : UnitD → Prop) (L : List UnitD) {a : Option Addr} {n c : Nat} {g : G} (h : SlE unitE g a n c L) (hn : n ≤ 1048576) (he : Go.Vc.Enters Tryd.prog f)
    (hf : ∀ g' u, Le g g' → u ∈ L → ∀ ia im ic da dn dc, UnI g' u ia im ic da dn dc → CallsP Tryd.prog f (#[unitV u ia im ic da dn dc] ++ c0) g' fun v _ => ∃ b, v = .bool b ∧ (b = true ↔ p u)) :
    CallsP Tryd.prog 33 #[.slice a n c, .func (.func f) #[] c0] g fun v _ => v = .bool (tf (∃ u ∈ L, p u)) := by
  refine call33 a n c f c0 g _ ?_
  unfold F33
  refine (kq17 f c0 p L h hn he hf).mono ?_
  rintro v g1 _ ⟨i, rfl, hi⟩
  refine ⟨_, rfl, fun g2 _ => ?_⟩
  rw [tf_le]
  refine vP ?_
  rcases hi with ⟨rfl, h2⟩ | ⟨j, u, rfl, h2, h3, _⟩
  · constructor
    · intro hh; omega
    · rintro ⟨u, hu, hp⟩; exact absurd hp (h2 u hu)
  · exact ⟨fun _ => ⟨u, List.mem_of_getElem? h2, h3⟩, fun _ => by omega⟩
end Go.Proofs.YtmkdbndniffkfaaDoor
/- Units: tests of strings; the map of imports. -/
set_option linter.unusedVariables false
namespace Go.Proofs.YtmkdbndniffkfaaDoor
open Go Go.Vc Go.RowKit Go.Syn


/-- slices.IndexFunc, of strings: the first one. -/
theorem kq15 (f : FuncId) (c0 : Array Value) (p : List UInt8 → Prop) (L : List (List UInt8)) {a : Option Addr} {n c : Nat} {g : G} (h : SlE strE g a n c L) (hn : n ≤ 1048576) (he : Go.Vc.Enters Tryd.prog f)
    (hf : ∀ g', Ex g g' → ∀ s ∈ L, CallsP Tryd.prog f (#[.string (bstr s)] ++ c0) g' fun v _ => v = .bool (tf (p s))) :
    CallsP Tryd.prog 25 #[.slice a n c, .func (.func f) #[] c0] g fun v _ => ∃ i : Int, v = .int .i64 i ∧ ((i = -1 ∧ ∀ s ∈ L, ¬ p s) ∨ ∃ (j : Nat) (s : Lab), i = ((j : Nat) : Int) ∧ L[j]? = some s ∧ p s ∧ ∀ x ∈ L.take j, ¬ p x) := by
  refine call25 a n c f c0 g _ ?_
  have hl := h.len
  unfold F25
  refine ⟨fun m i g' => ∃ j : Nat, i = ((j : Nat) : Int) ∧ j + m = n ∧ Ex g g' ∧ ∀ x ∈ L.take j, ¬ p x, ⟨n, 0, rfl, by omega, Ex.refl _, by simp⟩, ?_⟩
  rintro m i g1 le ⟨j, rfl, hj, mm, hall⟩
  refine ifLt (fun hlt => ⟨⟨by omega, by omega⟩, ?_⟩) (fun hge g4 _ => ⟨_, rfl, .inl ⟨rfl, by rwa [take_all (by omega)] at hall⟩⟩)
  have gj := List.getElem?_eq_getElem (show j < L.length by omega)
  generalize L[j] = s at gj
  refine rdS (h.mono le) j rfl gj ⟨he, (hf g1 mm _ (List.mem_of_getElem? gj)).mono ?_⟩
  rintro v g2 m2 rfl
  exact ⟨_, rfl, ifP (fun hp g3 _ => ⟨_, rfl, .inr ⟨j, s, rfl, gj, hp, hall⟩⟩) (fun hp => ⟨i64 (by omega) (by omega), m - 1, by omega, j + 1, by omega, by omega, mm.trans m2, (all_take gj _).2 ⟨hall, hp⟩⟩)⟩
/-- .. ContainsFunc, where the worlds between stand in Ex. -/
theorem kq61x (f : FuncId) (c0 : Array Value) (p : List UInt8 → Prop) (L : List (List UInt8)) {a : Option Addr} {n c : Nat} {g : G} (h : SlE strE g a n c L) (hn : n ≤ 1048576) (he : Go.Vc.Enters Tryd.prog f)
    (hf : ∀ g', Ex g g' → ∀ s ∈ L, CallsP Tryd.prog f (#[.string (bstr s)] ++ c0) g' fun v _ => v = .bool (tf (p s))) : CallsP Tryd.prog 11 #[.slice a n c, .func (.func f) #[] c0] g fun v _ => v = .bool (tf (∃ s ∈ L, p s)) := by
  refine call11 a n c f c0 g _ ?_
  unfold F11
  refine (kq15 f c0 p L h hn he hf).mono ?_
  rintro v g1 _ ⟨i, rfl, hi⟩
  refine ⟨_, rfl, fun g2 _ => ?_⟩
  rw [tf_le]
  refine vP ?_
  rcases hi with ⟨rfl, h2⟩ | ⟨j, u, rfl, h2, h3, _⟩
  · constructor
    · intro hh; omega
    · rintro ⟨u, hu, hp⟩; exact absurd hp (h2 u hu)
  · exact ⟨fun _ => ⟨u, List.mem_of_getElem? h2, h3⟩, fun _ => by omega⟩
theorem zero22 (w : World) : (zeroValue 30).run Tryd.prog w = .ok (.slice none 0 0) w := by kernel_rfl
/-- The map of imports. -/
structure ImpF (g : G) (f : List UInt8 → Option Value) (L : List UnitD) : Prop where
  no : ∀ s, f s ≠ none → s ∈ namesU L
  at_ : ∀ u ∈ L, ∃ a n c, f u.name = some (.slice a n c) ∧ SlE strE g a n c u.imps
theorem ImpF.mono {g g' : G} {f : List UInt8 → Option Value} {L : List UnitD} (h : ImpF g f L) (m : Le g g') : ImpF g' f L := ⟨h.no, fun u hu => by obtain ⟨a, n, c, h1, h2⟩ := h.at_ u hu; exact ⟨a, n, c, h1, h2.mono m⟩⟩
theorem ImpF.iff {g : G} {f : List UInt8 → Option Value} {L : List UnitD} (h : ImpF g f L) (s : Lab) : f s ≠ none ↔ s ∈ namesU L := by
  refine ⟨h.no s, fun hs => ?_⟩
  obtain ⟨u, hu, rfl⟩ := mem_names.1 hs
  obtain ⟨a, n, c, h1, _⟩ := h.at_ u hu
  rw [h1]
  exact fun e => by cases e
/-- What a lookup with a test gives. -/
theorem look_ok {g : G} {f : List UInt8 → Option Value} {L : List UnitD} {mb k : Nat} (hm : MapG Tryd.prog g 9 mb k f) (h : ImpF g f L) (s : Lab) (hs : s.length ≤ 1048576) :
    ∃ a n c, (Instr.lookup 50 (.map (some mb)) (.string (bstr s)) true).run Tryd.prog g.w = .ok (.tuple ⟨[.slice a n c, .bool (tf (s ∈ namesU L))]⟩) g.w := by
  have hl := hm.lookOk Tryd.underlying9 Tryd.underlying50 (zero22 g.w) s (by unfold maxLen; omega)
  by_cases q : s ∈ namesU L
  · obtain ⟨u, hu, rfl⟩ := mem_names.1 q
    obtain ⟨a, n, c, h1, _⟩ := h.at_ u hu
    rw [h1] at hl
    exact ⟨a, n, c, by rw [tf_of q]; exact hl⟩
  · have : f s = none := Classical.byContradiction fun e => q (h.no s e)
    rw [this] at hl
    exact ⟨none, 0, 0, by rw [tf_no q]; exact hl⟩
theorem kq101 {g : G} {f : List UInt8 → Option Value} {L : List UnitD} {mb k ib : Nat} (hm : MapG Tryd.prog g 9 mb k f) (h : ImpF g f L) (hl : Live g ⟨ib, 0, none⟩ (.map (some mb))) (s : Lab) (hs : s.length ≤ 1048576) :
    CallsP Tryd.prog 38 #[.string (bstr s), .pointer (some ⟨ib, 0, none⟩)] g fun v _ => v = .bool (tf (s ∉ namesU L)) := by
  refine call38 _ _ g _ ?_
  unfold F38
  obtain ⟨a, n, c, hr⟩ := look_ok hm h s hs
  refine ⟨_, hl.1, a, n, c, _, _, hr, g, rfl, Stp.refl _ _ _, fun g2 _ => ?_⟩
  rw [tf_not]
theorem kq103 {g : G} {ob : Nat} {oa : Option Addr} {on oc : Nat} {out : List Lab} (hm : MutB g ob 30 [.slice oa on oc]) (ho : SlE strE g oa on oc out) (hn : on ≤ 1048576) (s : Lab) :
    CallsP Tryd.prog 40 #[.string (bstr s), .pointer (some ⟨ob, 0, none⟩)] g fun v _ => v = .bool (tf (s ∉ out)) := by
  refine call40 _ _ g _ ?_
  unfold F40
  refine ⟨_, _, _, hm.rd0 rfl, (kk19 out s ho hn).mono ?_⟩
  rintro v g1 _ rfl
  exact ⟨_, rfl, fun g2 _ => by rw [tf_not]⟩
theorem kq102 {g : G} {f : List UInt8 → Option Value} {L : List UnitD} {mb k ib ob : Nat} {oa : Option Addr} {on oc : Nat} {out : List Lab} (hf : MapG Tryd.prog g 9 mb k f) (h : ImpF g f L) (hl : Live g ⟨ib, 0, none⟩ (.map (some mb)))
    (hm : MutB g ob 30 [.slice oa on oc]) (ho : SlE strE g oa on oc out) (hn : on ≤ 1048576) (u : UnitD) (hu : u ∈ L) (hul : u.name.length ≤ 1048576) (hui : u.imps.length ≤ 1048576) :
    CallsP Tryd.prog 39 #[.string (bstr u.name), .pointer (some ⟨ob, 0, none⟩), .pointer (some ⟨ib, 0, none⟩)] g fun v _ => v = .bool (tf (readyU out u)) := by
  refine call39 _ _ _ g _ ?_
  unfold F39
  refine ⟨_, _, _, hm.rd0 rfl, (kk19 out u.name ho hn).mono ?_⟩
  rintro v g1 m1 rfl
  refine ⟨_, rfl, ifPn (fun q => ?_) (fun q g5 _ => vF (fun hh => hh.1 q))⟩
  obtain ⟨a, n, c, h1, h2⟩ := h.at_ u hu
  have hlk := (hf.ex m1).look Tryd.underlying9 Tryd.underlying50 (zero22 g1.w) u.name (by unfold maxLen; omega)
  rw [h1] at hlk
  refine ⟨_, (hl.ex m1).1, a, n, c, _, hlk, g1, rfl, Stp.refl _ _ _, ?_⟩
  have hil := h2.len
  refine (kq61x 40 #[.pointer (some ⟨ob, 0, none⟩)] (fun s => s ∉ out) u.imps (h2.exm m1) (by omega) ⟨_, Tryd.func40, by kernel_rfl, by kernel_rfl⟩ (fun g' m' s _ => kq103 (hm.ex (m1.trans m')) (ho.exm (m1.trans m')) hn s)).mono ?_
  rintro v g3 _ rfl
  refine ⟨_, rfl, fun g4 _ => ?_⟩
  rw [tf_not]
  exact vP ⟨fun hh => ⟨q, fun s hs => Classical.byContradiction fun e => hh ⟨s, hs, e⟩⟩, fun hh ⟨s, hs, e⟩ => e (hh.2 s hs)⟩
theorem kq97 {u : UnitD} {ia : Option Addr} {im ic : Nat} {da : Option Addr} {dn dc : Nat} {g : G} (hu : unitOK u) (ht : TabG g) (h : UnI g u ia im ic da dn dc) : CallsP Tryd.prog 34 #[unitV u ia im ic da dn dc] g fun v _ => v = .bool (tf (¬ unitP u)) := by
  refine call34 _ _ _ _ _ _ _ g _ ?_
  unfold F34
  refine fun g1 m1 => (kq98 hu (ht.exm m1) (h.exm m1)).mono ?_
  rintro v g2 _ rfl
  exact ⟨_, rfl, fun g3 _ => by rw [tf_not]⟩
theorem upper_len {s : Lab} (h : upperP s) : s.length ≤ 24 := h.1.2.1
theorem names_take {L : List UnitD} {j : Nat} {u : UnitD} (h : L[j]? = some u) : namesU (L.take (j + 1)) = namesU (L.take j) ++ [u.name] := by
  unfold namesU
  rw [List.take_add_one, h]
  simp
/-- What Order returns. -/
def OrdSay (L : List UnitD) (v : Value) (g' : G) : Prop := ∃ oa on oc, v = .tuple ⟨[.slice oa on oc, .int .i64 (orderN L).2]⟩ ∧ SlE strE g' oa on oc (orderN L).1
theorem ord_err {L : List UnitD} {k : Int} (h : orderN L = ([], k)) (g' : G) : OrdSay L (.tuple ⟨[.slice none 0 0, .int .i64 k]⟩) g' := ⟨none, 0, 0, by rw [h], by rw [h]; exact SlE.zero _⟩
end Go.Proofs.YtmkdbndniffkfaaDoor
/- Units: the keys of a map, sorted; the canonical order. -/
set_option linter.unusedVariables false
namespace Go.Proofs.YtmkdbndniffkfaaDoor
open Go Go.Vc Go.RowKit Go.Syn Go.Maps Go.Sort Go.Shelf

theorem sortsA (m : Nat) : AnyZ.SortsIn Tryd.prog Tryd.sortedA_ren Fence.wide m :=
  ⟨fun blk off cap ss W hH hblk hsz => callsIn_wide.2 (AnyM.slices_Sort_string Tryd.sortA blk off cap ss W hH hblk hsz),
   fun p cap W => callsIn_wide.2 (AnyM.slices_Sort_string_none Tryd.sortA p cap W)⟩
theorem srt_merge {l : List Lab} (h : Srt l) : l.mergeSort leB = l := by
  refine List.mergeSort_of_pairwise ?_
  refine h.imp ?_
  intro x y hxy
  simp only [leB, decide_eq_true_eq]
  exact List.le_of_lt ((klt_iff x y).1 hxy)
theorem srt_nodup {l : List Lab} (h : Srt l) : l.Nodup := h.imp fun h => klt_ne h
theorem kq100 (mb : Nat) (g : G) : CallsP Tryd.prog 37 #[.map (some mb)] g fun v g' => ∃ blk, v = .func (.func 55) #[] #[.pointer (some ⟨blk, 0, none⟩)] ∧ Live g' ⟨blk, 0, none⟩ (.map (some mb)) := by
  refine call37 _ g _ ?_
  unfold F37
  exact fun g1 n1 g2 m2 => ⟨_, rfl, (n1.at0 rfl).ex m2⟩
theorem sorted_of {g : G} {D : DataW Value} {K : List Lab} {f : FuncId} {cp : Array Value} (hen : Go.Proofs.Enters Tryd.prog f)
    (hperm : K.Perm (strKeys D)) (hK : Srt K) (hlen : K.length ≤ 1048576) (hsz : Maps.size D = K.length)
    (hseq : SeqGives Fence.wide 2 Tryd.prog f cp encStr (fun ss => ss.Perm (strKeys D)) (Maps.size D) g.w) :
    CallsP Tryd.prog 36 #[.func (.func f) #[] cp] g fun v g' => ∃ a n c, v = .slice a n c ∧ SlE strE g' a n c K := by
  have cS := AnyZ.sorted_in Tryd.sortedA Fence.wide 5 trivial trivial trivial trivial rfl (by omega) (sortsA _) (enters_of Tryd.func19 (by kernel_rfl) rfl) f cp trivial hen _ _ (by unfold maxLen; omega) (by omega) _ hseq
  change CallsIn _ _ Tryd.prog 36 _ _ _ at cS
  have hC := callsIn_wide.1 cS
  refine (calls_below (Q := fun v w' => w'.ownsRow g.w.heap.size 9 1 v K.length (K.map encStr)) (hC.mono ?_)).mono ?_
  · rintro e w' ⟨v, ss, rfl, hS, hrow, _, hb⟩
    refine ⟨v, rfl, hb, ?_⟩
    have hp : ss.Perm K := hS.trans hperm.symm
    have e1 : ss.mergeSort leB = K := by rw [mergeSort_of_perm hp]; exact srt_merge hK
    have e2 : ss.length = K.length := hp.length_eq
    have hrow' := hrow
    rw [e2] at hrow'
    change w'.ownsRow g.w.heap.size 9 1 v K.length ((ss.mergeSort leB).map encStr) at hrow'
    rwa [e1] at hrow'
  · rintro v g' m ⟨h, hq, e⟩
    rw [e] at hq ⊢
    obtain ⟨a, c, rfl, hs⟩ := own_sl (h := h) hq
    exact ⟨a, _, c, rfl, strs_sle hs rfl⟩
theorem map_perm {g : G} {b nn : Nat} {fv : List UInt8 → Option Value} {D : DataW Value} {K : List Lab} (hown : g.w.ownsMap Tryd.prog 9 heldV b nn D) (hsay : Says D fv) (hK : Srt K) (hk : ∀ s, fv s ≠ none ↔ s ∈ K) : K.Perm (strKeys D) ∧ Maps.size D = K.length := by
  have hperm : K.Perm (strKeys D) := by
    refine Collected.perm (left := fun _ => false) ⟨srt_nodup hK, fun x => ?_⟩ hown (string_keyed Tryd.underlying9) Tryd.underlying9 (fun _ => rfl)
    rw [← hk x]
    cases hf : fv x with
    | none => simp [(hsay x).2 hf]
    | some u => simp [((hsay x).1 u hf).1]
  refine ⟨hperm, ?_⟩
  obtain ⟨l, rfl⟩ := hown.isMap
  have := hperm.length_eq
  have h2 : (strKeys (DataW.map l)).length = l.length := by simp [strKeys]
  rw [h2] at this
  exact this.symm
theorem k74B {g : G} {blk b nn : Nat} {fv : List UInt8 → Option Value} {K : List Lab} (hl : Live g ⟨blk, 0, none⟩ (.map (some b))) (hm : MapG Tryd.prog g 9 b nn fv) (hK : Srt K) (hk : ∀ s, fv s ≠ none ↔ s ∈ K) (hlen : K.length ≤ 1048576) :
    CallsP Tryd.prog 36 #[.func (.func 55) #[] #[.pointer (some ⟨blk, 0, none⟩)]] g fun v g' => ∃ a n c, v = .slice a n c ∧ SlE strE g' a n c K := by
  obtain ⟨D, hown, hsay⟩ := hm.own
  obtain ⟨hperm, hsz⟩ := map_perm hown hsay hK hk
  exact sorted_of (enters_of Tryd.func55 (by kernel_rfl) rfl) hperm hK hlen hsz
    (AnyZ.keys_gives (ρ := Tryd.keysB_ren) { Tryd.keysB with } Fence.wide _ trivial rfl (by omega) blk b nn D _ (cell_lt hl.1) hl.1 hown)
theorem names_inj : ∀ {L : List UnitD}, (namesU L).Nodup → ∀ {u v : UnitD}, u ∈ L → v ∈ L → u.name = v.name → u = v
  | [], _, _, _, h, _, _ => by cases h
  | x :: r, hn, u, v, hu, hv, e => by
    have hn' : (x.name :: namesU r).Nodup := hn
    obtain ⟨h1, h2⟩ := List.nodup_cons.1 hn'
    rcases List.mem_cons.1 hu with rfl | hu2 <;> rcases List.mem_cons.1 hv with rfl | hv2
    · rfl
    · exact (h1 (mem_names.2 ⟨v, hv2, e.symm⟩)).elim
    · exact (h1 (mem_names.2 ⟨u, hu2, e⟩)).elim
    · exact names_inj h2 hu2 hv2 e
theorem srt_below {N : List Lab} (h : Srt N) {j : Nat} {s x : Lab} (hj : N[j]? = some s) (hx : x ∈ N) (hlt : klt x s) : x ∈ N.take j := by
  obtain ⟨hjl, hje⟩ := List.getElem?_eq_some_iff.1 hj
  obtain ⟨i, hi, rfl⟩ := List.getElem_of_mem hx
  rcases Nat.lt_trichotomy i j with h1 | h1 | h1
  · exact List.mem_take_iff_getElem.2 ⟨i, by omega, rfl⟩
  · subst h1
    rw [hje] at hlt
    exact absurd rfl (klt_ne hlt)
  · have := List.pairwise_iff_getElem.1 h j i hjl hi h1
    rw [hje] at this
    exact absurd rfl (klt_ne (klt_trans this hlt))
theorem ImpF.put {g : G} {f : List UInt8 → Option Value} {L : List UnitD} {u : UnitD} {j : Nat} (h : ImpF g f (L.take j)) (gj : L[j]? = some u) (hn : u.name ∉ namesU (L.take j)) {a : Option Addr} {n c : Nat} (hs : SlE strE g a n c u.imps) :
    ImpF g (upd f u.name (some (.slice a n c))) (L.take (j + 1)) := by
  have et : L.take (j + 1) = L.take j ++ [u] := by rw [List.take_add_one, gj]; rfl
  refine ⟨fun s hs2 => ?_, fun v hv => ?_⟩
  · rw [names_take gj, List.mem_append]
    by_cases e : s = u.name
    · exact .inr (by simp [e])
    · rw [upd_other _ _ e] at hs2
      exact .inl (h.no s hs2)
  · rw [et, List.mem_append] at hv
    rcases hv with hv | hv
    · have e : v.name ≠ u.name := fun e => hn (mem_names.2 ⟨v, hv, e⟩)
      obtain ⟨a', n', c', h1, h2⟩ := h.at_ v hv
      exact ⟨a', n', c', by rw [upd_other _ _ e]; exact h1, h2⟩
    · cases List.mem_singleton.1 hv
      exact ⟨a, n, c, upd_same _ _ _, hs⟩
/-- Order. -/
theorem kq77 {L : List UnitD} {a : Option Addr} {n c : Nat} {g : G} (hL : ∀ u ∈ L, unitOK u) (ht : TabG g) (h : SlE unitE g a n c L) : CallsP Tryd.prog 28 #[.slice a n c] g fun v g' => OrdSay L v g' := by
  refine call28 a n c g _ ?_
  have hl := h.len
  unfold F28
  refine ifLt (fun q g1 _ => ord_err (by unfold orderN; rw [if_pos (by omega)]) g1) (fun q => ?_)
  have h16 : ¬ 16 < L.length := by omega
  refine (kq96 34 #[] (fun u => ¬ unitP u) L h (by omega) ⟨_, Tryd.func34, by kernel_rfl, by kernel_rfl⟩ (fun g' u le hu ia im ic da dn dc hI => (kq97 (hL u hu) (ht.mono le) hI).mono (by
    rintro v g2 _ rfl
    exact ⟨_, rfl, tf_true ▸ Iff.rfl⟩))).mono ?_
  rintro v g2 m2 rfl
  refine ⟨_, rfl, ifP (fun q1 g3 _ => ord_err (by unfold orderN; rw [if_neg h16, if_pos q1]) g3) (fun q1 => ?_)⟩
  have hall : ∀ u ∈ L, unitP u := fun u hu => Classical.byContradiction fun e => q1 ⟨u, hu, e⟩
  intro g4 n4 g5 n5
  have z2 := m2.size
  have z4 := n4.ex.size
  have z5 := n5.ex.size
  have zm : g2.w.heap.size < g4.w.heap.size := heap_lt n4.blk
  have mi : MutB g5 g4.w.heap.size 50 [.map none] := n5.mut
  refine ⟨mi.ok0 (Nat.le_refl _), mi.nx, mi.mut0 _, fun hh => absurd hh (by show ¬ g4.w.heap.size < _; omega), fun g6 k6 => ?_⟩
  obtain ⟨hlive, but6⟩ := mi.pub1 k6
  have mg6 : MapG Tryd.prog g6 9 g2.w.heap.size 0 (fun _ => none) := ((MapG.new n4 Tryd.prog 9).ex n5.ex).but but6 (by omega)
  have le46 : Le g5 g6 := mut_le mi but6
  have le06 : Le g g6 := ((m2.trans n4.ex).trans n5.ex).le.trans le46
  refine ⟨fun m i g' => ∃ (j : Nat) (f : List UInt8 → Option Value), i = ((j : Nat) : Int) ∧ j + m = n ∧ MapG Tryd.prog g' 9 g2.w.heap.size j f ∧ ImpF g' f (L.take j) ∧ (namesU (L.take j)).Nodup,
    ⟨n, 0, _, rfl, by omega, mg6, ⟨fun s hs => absurd rfl hs, by simp⟩, by simp [namesU]⟩, ?_⟩
  rintro m i g7 le7 ⟨j, f, rfl, hj, hm, hf, hnd⟩
  have le07 := le06.trans le7
  refine ifLt (fun q2 => ⟨⟨by omega, by omega⟩, ?_⟩) (fun q2 => ?_)
  · have gj := List.getElem?_eq_getElem (show j < L.length by omega)
    generalize L[j] = u at gj
    have hu := List.mem_of_getElem? gj
    have hul := upper_len (hall u hu).1
    refine rdUA (h.mono le07) j rfl gj (fun ad ia im ic da dn dc hI hc => ?_)
    obtain ⟨c0, c1, c2⟩ := hc g7 (Le.refl _)
    refine ⟨_, _, _, _, _, _, _, c0, c1, c2, fun g8 m8 => ?_⟩
    have hm8 := hm.ex m8
    have hf8 := hf.mono m8.le
    obtain ⟨la, ln, lc, hlk⟩ := look_ok hm8 hf8 u.name (by omega)
    have hlv8 := (hlive.mono le7).ex m8
    refine ⟨_, hlv8.1, la, ln, lc, _, _, hlk, g8, rfl, Stp.refl _ _ _, ifP (fun q3 g10 _ => ord_err ?_ g10) (fun q3 => ?_)⟩
    · unfold orderN
      rw [if_neg h16, if_neg q1, if_pos]
      intro hh
      have h1 : (namesU (L.take (j + 1))).Nodup := by
        unfold namesU at hh ⊢
        rw [List.map_take]
        exact hh.sublist (List.take_sublist _ _)
      rw [names_take gj] at h1
      exact (List.nodup_append.1 h1).2.2 _ q3 _ (by simp) rfl
    · obtain ⟨w', hr, g11, hw, hs, hm11, _⟩ := hm8.put Tryd.underlying9 Tryd.underlying50 (by unfold maxLen; omega) u.name (by unfold maxLen; omega) (.slice ia im ic) (B := g.w.heap.size) z2
      refine ⟨_, hlv8.1, w', hr, g11, hw, hs, i64 (by omega) (by omega), m - 1, by omega, j + 1, _, by omega, by omega, hm11, (hf8.mono hs.le).put gj q3 ((hI.imps.exm m8).mono hs.le), ?_⟩
      rw [names_take gj]
      refine List.nodup_append.2 ⟨hnd, by simp, fun x hx y hy e => q3 ?_⟩
      cases List.mem_singleton.1 hy
      exact e ▸ hx
  rw [take_all (by omega)] at hf hnd
  have hlv7 := hlive.mono le7
  refine ⟨_, hlv7.1, (kq100 _ g7).mono ?_⟩
  rintro v g12 m12 ⟨blk, rfl, hlb⟩
  obtain ⟨N, hN⟩ : ∃ N, N = sortS (namesU L) := ⟨_, rfl⟩
  have hNs : Srt N := hN ▸ srt_sortS _
  have hNm : ∀ s, s ∈ N ↔ s ∈ namesU L := fun s => by rw [hN, mem_sortS]
  have hNl : N.length = L.length := by rw [hN, (sortS_nodup _).2 hnd]; unfold namesU; simp
  refine ⟨_, _, rfl, (k74B hlb (hm.ex m12) hNs (fun s => by rw [hNm]; exact hf.iff s) (by omega)).mono ?_⟩
  rintro v g13 m13 ⟨na, nn, nc, rfl, hna⟩
  have hnl := hna.len
  refine ⟨na, nn, nc, rfl, ?_⟩
  have m713 := m12.trans m13
  have uniq : ∀ s ∈ N, ∃ u ∈ L, u.name = s := fun s hs => mem_names.1 ((hNm s).1 hs)
  refine ⟨fun m i g' => ∃ j : Nat, i = ((j : Nat) : Int) ∧ j + m = nn ∧ MapG Tryd.prog g' 9 g2.w.heap.size n f ∧ ∀ s ∈ N.take j, ∃ u ∈ L, u.name = s ∧ ∀ x ∈ u.imps, x ∈ namesU L,
    ⟨nn, 0, rfl, by omega, (hm.ex m713).mono (by omega), by simp⟩, ?_⟩
  rintro m1 i1 g14 le14 ⟨j1, rfl, hj1, hm14, himp⟩
  have le714 : Le g7 g14 := m713.le.trans le14
  have hf14 := hf.mono le714
  have hlv14 := hlv7.mono le714
  have le014 := le07.trans le714
  refine ifLt (fun q2 => ⟨⟨by omega, by omega⟩, ?_⟩) (fun q2 => ?_)
  · have gj := List.getElem?_eq_getElem (show j1 < N.length by omega)
    generalize N[j1] = s at gj
    obtain ⟨u, hu, rfl⟩ := uniq s (List.mem_of_getElem? gj)
    have hul := upper_len (hall u hu).1
    obtain ⟨ia, im, ic, h1, h2⟩ := hf14.at_ u hu
    have hil := h2.len
    have hi16 := (hall u hu).2.1
    have hlk := hm14.look Tryd.underlying9 Tryd.underlying50 (zero22 g14.w) u.name (by unfold maxLen; omega)
    rw [h1] at hlk
    refine rdS (hna.mono le14) j1 rfl gj ⟨_, hlv14.1, ia, im, ic, _, hlk, g14, rfl, Stp.refl _ _ _, ?_⟩
    refine (kq61x 38 #[.pointer (some ⟨g4.w.heap.size, 0, none⟩)] (fun x => x ∉ namesU L) u.imps h2 (by omega) ⟨_, Tryd.func38, by kernel_rfl, by kernel_rfl⟩ (fun g' m' x hx => kq101 (hm14.ex m') (hf14.mono m'.le) (hlv14.ex m') x (by have := upper_len ((hall u hu).2.2.1 x hx); omega))).mono ?_
    rintro v g16 m16 rfl
    refine ⟨_, rfl, ifP (fun q3 g17 _ => ord_err ?_ g17) (fun q3 => ⟨i64 (by omega) (by omega), m1 - 1, by omega, j1 + 1, by omega, by omega, hm14.ex m16, (all_take gj _).2 ⟨himp, u, hu, rfl, fun x hx => Classical.byContradiction fun e => q3 ⟨x, hx, e⟩⟩⟩)⟩
    unfold orderN
    rw [if_neg h16, if_neg q1, if_neg (fun hh => hh hnd), if_pos ⟨u, hu, q3⟩]
  rw [take_all (by omega)] at himp
  have hmiss : ¬ ∃ u ∈ L, ∃ s ∈ u.imps, s ∉ namesU L := by
    rintro ⟨u, hu, s, hs, hns⟩
    obtain ⟨v, hv, e, h2⟩ := himp u.name ((hNm _).2 (mem_names.2 ⟨u, hu, rfl⟩))
    cases names_inj hnd hv hu e
    exact hns (h2 s hs)
  have hord : orderN L = topo L L.length [] := by
    unfold orderN
    rw [if_neg h16, if_neg q1, if_neg (fun hh => hh hnd), if_neg hmiss]
  intro g18 n18
  have zs : g.w.heap.size ≤ g14.w.heap.size := le014.size
  have zm14 : g2.w.heap.size < g14.w.heap.size := hm14.lt
  have mo : MutB g18 g14.w.heap.size 30 [.slice none 0 0] := n18.mut
  have z18 : g14.w.heap.size + 1 ≤ g18.w.heap.size := mo.lt
  refine ⟨fun m g' => ∃ (oa : Option Addr) (on oc : Nat) (out : List Lab), MutB g' g14.w.heap.size 30 [.slice oa on oc] ∧ OwnE strE g' (g14.w.heap.size + 1) 9 oa on oc out ∧ MapG Tryd.prog g' 9 g2.w.heap.size n f ∧ out.length + m = L.length ∧ topo L m out = topo L L.length [],
    ⟨L.length, none, 0, 0, [], mo, OwnE.nil _ _ _, hm14.ex n18.ex, by simp, rfl⟩, ?_⟩
  rintro m3 g19 le19 ⟨oa, on, oc, out, mo19, ho, hm19, hlen, htop⟩
  have hol := ho.len
  have le1419 : Le g14 g19 := n18.ex.le.trans le19
  have hf19 := hf14.mono le1419
  have hlv19 := hlv14.mono le1419
  refine ⟨_, _, _, mo19.rd0 rfl, ifLt (fun q3 => ?_) (fun q3 => ⟨_, _, _, mo19.rd0 rfl, fun g26 m26 => ?_⟩)⟩
  · obtain ⟨m4, rfl⟩ : ∃ m4, m3 = m4 + 1 := ⟨m3 - 1, by omega⟩
    refine (kq15 39 ⟨[.pointer (some ⟨g14.w.heap.size, 0, none⟩), .pointer (some ⟨g4.w.heap.size, 0, none⟩)]⟩ (fun s => ∃ u ∈ L, u.name = s ∧ readyU out u) N ((hna.mono le14).mono le1419) (by omega) ⟨_, Tryd.func39, by kernel_rfl, by kernel_rfl⟩ (fun g' m' s hs => ?_)).mono ?_
    · obtain ⟨u, hu, rfl⟩ := uniq s hs
      refine (kq102 (hm19.ex m') (hf19.mono m'.le) (hlv19.ex m') (mo19.ex m') (ho.sl.exm m') (by omega) u hu (by have := upper_len (hall u hu).1; omega) (by have := (hall u hu).2.1; omega)).mono ?_
      rintro v g'' _ rfl
      exact vP ⟨fun hh => ⟨u, hu, rfl, hh⟩, fun ⟨v, hv, e, hh⟩ => by cases names_inj hnd hv hu e; exact hh⟩
    rintro v g20 m20 ⟨i, rfl, hi⟩
    refine ⟨_, rfl, ?_⟩
    rcases hi with ⟨rfl, hno⟩ | ⟨jx, s, rfl, hjx, ⟨u, hu, rfl, hready⟩, hmin⟩
    · refine ifLt (fun _ g21 _ => ord_err ?_ g21) (fun hh => by omega)
      rw [hord, ← htop, topo_none (pick_none (fun u hu hr => hno u.name ((hNm _).2 (mem_names.2 ⟨u, hu, rfl⟩)) ⟨u, hu, rfl, hr⟩))]
    · have hjl := (List.getElem?_eq_some_iff.1 hjx).1
      refine ifLt (fun hh => by omega) (fun _ g22 m22 => ?_)
      have m1922 := m20.trans m22
      have mo22 := mo19.ex m1922
      refine ⟨_, _, _, mo22.rd0 rfl, ⟨by omega, by omega⟩, rdS (((hna.mono le14).mono le1419).exm m1922) jx rfl hjx (fun g23 n23 => ?_)⟩
      obtain ⟨a', c', w', hr, g24, hw, hs, ho24, hs24, hb24⟩ := (ho.exm m1922).app1 E30 30 (Nat.le_trans (Nat.le_trans z18 le19.size) m1922.size) n23 (x := u.name) rfl (by omega) (by unfold maxLen; omega)
      have bt24 : But (blkOf oa) g23 g24 := hs24.but (Nat.le_refl _)
      have mo24 := (mo22.ex n23.ex).but bt24 (ho.ne (by omega))
      have hm24 := ((hm19.ex m1922).ex n23.ex).but bt24 (ho.ne (by omega))
      refine ⟨a', _, c', w', hr, g24, hw, hs.mono (by omega) (fun _ _ hh => hh), mo24.ok0 (Nat.le_refl _), mo24.nx, mo24.mut0 _, fun hh => absurd hh (by show ¬ g14.w.heap.size < _; omega), fun g25 kq96 => ?_⟩
      obtain ⟨mo25, bt25⟩ := mo24.st0 kq96
      rw [set1] at mo25
      refine ⟨m4, by omega, a', _, c', out ++ [u.name], mo25, ho24.but bt25 (fun b hb e => by have := ho24.ge hb; omega) (mut_le mo24 bt25), hm24.but bt25 (by omega), by simp; omega, ?_⟩
      rw [← htop, topo_some (pick_some hu hready (fun v hv hr2 hlt => ?_))]
      exact hmin v.name (srt_below hNs hjx ((hNm _).2 (mem_names.2 ⟨v, hv, rfl⟩)) hlt) ⟨v, hv, rfl, hr2⟩
  · have hm0 : m3 = 0 := by omega
    subst hm0
    rw [topo_zero] at htop
    have e : orderN L = (out, 0) := hord.trans htop.symm
    exact ⟨oa, on, oc, by rw [e], by rw [e]; exact ho.sl.exm m26⟩
end Go.Proofs.YtmkdbndniffkfaaDoor
/- Records: digests, names, valid records. -/
set_option linter.unusedVariables false
namespace Go.Proofs.YtmkdbndniffkfaaDoor
open Go Go.Vc Go.RowKit Go.Syn

section
variable {r : RecD} {ia : Option Addr} {im ic : Nat} {da : Option Addr} {dn dc : Nat} {g : G}
end
end Go.Proofs.YtmkdbndniffkfaaDoor
