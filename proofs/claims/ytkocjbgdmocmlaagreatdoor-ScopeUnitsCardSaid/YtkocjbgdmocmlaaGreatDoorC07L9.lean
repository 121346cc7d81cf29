/- Scope: the law ScopeUnits. -/
import Derived.Test.YtkocjbgdmocmlaaGreatDoorC07af
import Derived.Test.YtkocjbgdmocmlaaGreatDoorC07D
import Derived.Test.YtkocjbgdmocmlaaGreatDoorFnL9
set_option linter.unusedVariables false
namespace Go.Proofs.YtkocjbgdmocmlaaGreatDoor
open Go Go.Vc Go.RowKit Go.Syn Go.Maps Go.Sort Go.Shelf

def builtL : List Lab := [[116, 121, 112, 101, 46, 105, 110, 116], [116, 121, 112, 101, 46, 116, 101, 120, 116], [116, 121, 112, 101, 46, 98, 111, 111, 108], [116, 121, 112, 101, 46, 117, 110, 105, 116], [118, 97, 108, 46, 110, 111, 116], [118, 97, 108, 46, 115, 105, 122, 101], [118, 97, 108, 46, 115, 104, 111, 119], [118, 97, 108, 46, 115, 97, 109, 101], [118, 97, 108, 46, 112, 114, 105, 110, 116], [118, 97, 108, 46, 97, 98, 111, 114, 116], [99, 111, 110, 46, 84, 114, 117, 101], [99, 111, 110, 46, 70, 97, 108, 115, 101]]
theorem k86 (s : Lab) (g : G) : CallsP Tryz.prog 86 #[.string (bstr s)] g fun v _ => v = .bool (tf (s ∈ builtL)) := by
  refine PL9.call86 _ g _ ?_
  unfold PL9.F86
  intro g1 n1
  refine (kk19 builtL s (names_row (K := builtL) n1 (by decide)) (by decide)).mono ?_
  rintro v g2 _ rfl
  exact ⟨_, rfl, fun g3 _ => rfl⟩
theorem k90 (s : Lab) (g : G) : CallsP Tryz.prog 90 #[.string (bstr s)] g fun v _ => v = .bool (tf (s ∈ builtL)) := by
  refine PL9.call90 _ g _ ?_
  unfold PL9.F90
  intro g1 n1
  refine (k79 builtL s (names_row (K := builtL) n1 (by decide)) (by decide)).mono ?_
  rintro v g2 _ rfl
  exact ⟨_, rfl, fun g3 _ => rfl⟩
theorem k87 {g : G} {sb : Nat} {s : Lab} (hl : Live g ⟨sb, 0, none⟩ (.string (bstr s))) (ht : TabG g) (n : Lab) (hn : upperP n) : CallsP Tryz.prog 87 #[.string (bstr n), .pointer (some ⟨sb, 0, none⟩)] g fun v _ => v = .bool (tf (s = hMod ++ n)) := by
  refine PL9.call87 _ _ g _ ?_
  unfold PL9.F87
  intro g1 m1
  refine ⟨_, (hl.ex m1).1, (k88 4 n (by omega) (by unfold fitsK; rw [if_neg (by omega)]; exact hn) g1 (ht.exm m1)).mono ?_⟩
  rintro v g2 _ rfl
  refine ⟨_, rfl, fun g3 _ => ?_⟩
  rw [strEq_bstr]
  rfl
def lackP (imps : List Lab) (s : Lab) : Prop := s ∈ builtL ∨ ∃ n ∈ imps, s = hMod ++ n
theorem k85 {g : G} {ub : Nat} {ia : Option Addr} {im ic : Nat} {imps : List Lab} (hl : Live g (Addr.add ⟨ub, 0, none⟩ 1) (.slice ia im ic)) (hI : SlE strE g ia im ic imps) (hin : imps.length ≤ 1048576) (hup : ∀ n ∈ imps, upperP n) (ht : TabG g) (s : Lab) :
    CallsP Tryz.prog 85 #[.string (bstr s), .pointer (some ⟨ub, 0, none⟩)] g fun v _ => v = .bool (tf (lackP imps s)) := by
  refine PL9.call85 _ _ g _ ?_
  unfold PL9.F85
  intro g1 n1
  have hs := n1.at0 (v := .string (bstr s)) rfl
  have hil := hI.len
  refine ⟨_, hs.1, (k86 s g1).mono ?_⟩
  rintro v g2 m2 rfl
  have m02 := n1.ex.trans m2
  refine ⟨_, rfl, ifP (fun q g3 _ => .trans ?_ (congrArg Value.bool (tf_of (.inl q)).symm)) (fun q => ?_)⟩
  · rfl
  refine ⟨_, _, _, (hl.ex m02).1, (k33x 87 #[.pointer (some ⟨g.w.heap.size, 0, none⟩)] (fun n => s = hMod ++ n) imps (hI.exm m02) (by omega) ⟨_, Tryz.func87, by kernel_rfl, by kernel_rfl⟩ (fun g' m' n hn => k87 ((hs.ex m2).ex m') (ht.exm (m02.trans m')) n (hup n hn))).mono ?_⟩
  rintro v g4 _ rfl
  refine ⟨_, rfl, fun g5 _ => vP ?_⟩
  unfold lackP
  exact ⟨fun hh => .inr hh, fun hh => hh.resolve_left q⟩
/-- .. as rows of one's own. -/
theorem k74Am {g : G} {blk b nn : Nat} {fv : List UInt8 → Option Value} {K : List Lab} (hl : Live g ⟨blk, 0, none⟩ (.map (some b))) (hm : MapG Tryz.prog g 9 b nn fv) (hK : Srt K) (hk : ∀ s, fv s ≠ none ↔ s ∈ K) (hlen : K.length ≤ 1048576) :
    CallsP Tryz.prog 74 #[.func (.func 129) #[] #[.pointer (some ⟨blk, 0, none⟩)]] g fun v g' => ∃ a c, v = .slice a K.length c ∧ MutR g' g.w.heap.size 9 1 a K.length c (K.map encStr) := by
  obtain ⟨D, hown, hsay⟩ := hm.own
  obtain ⟨hperm, hsz⟩ := map_perm hown hsay hK hk
  have cS := AnyZ.sorted_in Tryz.sortedA Fence.wide 5 trivial trivial trivial trivial rfl (by omega) (sortsA _) (enters_of Tryz.func20 (by kernel_rfl) rfl) 129 #[.pointer (some ⟨blk, 0, none⟩)] trivial (enters_of Tryz.func129 (by kernel_rfl) rfl) _ _ (by unfold maxLen; omega) (by omega) _
    (AnyZ.keys_gives (ρ := Tryz.keysA_ren) { Tryz.keysA with } Fence.wide _ trivial rfl (by omega) blk b nn D _ (cell_lt hl.1) hl.1 hown)
  change CallsIn _ _ Tryz.prog 74 _ _ _ at cS
  refine calls_mut ((callsIn_wide.1 cS).mono ?_)
  rintro e w' ⟨v, ss, rfl, hS, hrow, _, hb⟩
  refine ⟨v, rfl, hb, ?_⟩
  have hp : ss.Perm K := hS.trans hperm.symm
  have e1 : ss.mergeSort leB = K := by rw [mergeSort_of_perm hp]; exact srt_merge hK
  have hrow' := hrow
  rw [hp.length_eq] at hrow'
  change w'.ownsRow g.w.heap.size 9 1 v K.length ((ss.mergeSort leB).map encStr) at hrow'
  rwa [e1] at hrow'
theorem k59m (t : Sy) (w : Bool) (dep : Nat) (hw : walkP t w dep) (hsz : size t ≤ 80000) {na : Option Addr} {nn nc : Nat} {a : Option Addr} {n c : Nat} {g : G} (ht : TabG g) (h : SynI g t na nn nc a n c) :
    CallsP Tryz.prog 59 #[synV t na nn nc a n c] g fun v g' => ∃ oa oc, v = .slice oa (sortS (freeT t [])).length oc ∧ MutR g' g.w.heap.size 9 1 oa (sortS (freeT t [])).length oc ((sortS (freeT t [])).map encStr) := by
  refine call59 _ _ _ _ _ _ _ _ _ g _ ?_
  unfold F59
  intro g1 m1 g2 n2 g3 n3
  have ws : WS g3 g2.w.heap.size g1.w.heap.size 0 [] := ⟨n3.mut, by rw [← setF_nil]; exact (MapG.new n2 Tryz.prog 9).ex n3.ex, by have := n2.blk; have := heap_lt this; omega⟩
  have le3 : Le g g3 := (m1.trans n2.ex).le.trans n3.ex.le
  have hz1 := m1.size
  have hz2 := n2.ex.size
  refine ⟨fun b => b = g1.w.heap.size, fun b hb e => by omega, CallsG.mono (k97 t w dep hw [] [] 0 (by simp; omega) (by omega) (ht.mono le3) (h.mono le3) (SlE.zero _) ws) ?_⟩
  rintro v g4 s4 ⟨rfl, ws4⟩
  refine ⟨rfl, _, ws4.pm.rd0 rfl, (k98 _ g4).mono ?_⟩
  rintro v g5 m5 ⟨blk, rfl, hl⟩
  have hfl := free_len t []
  have hsl := sortS_len (freeT t [])
  have hz : g.w.heap.size ≤ g5.w.heap.size := Nat.le_trans (Nat.le_trans le3.size s4.le.size) m5.size
  refine ⟨129, _, rfl, (k74Am hl (ws4.mg.ex m5) (srt_sortS (freeT t [])) (fun s => ?_) (by omega)).mono ?_⟩
  · rw [mem_sortS]
    unfold setF
    by_cases e : s ∈ [] ++ freeT t []
    · rw [if_pos e]; simpa using e
    · rw [if_neg e]; simpa using e
  · rintro v g6 m6 ⟨oa, oc, rfl, ho⟩
    refine ⟨oa, _, oc, rfl, fun g7 m7 => ⟨_, _, rfl, ?_⟩⟩
    have ho7 := ho.ex m7
    rcases ho7.row with hr | ⟨b, cur, e, hge, hr⟩
    · exact ⟨ho7.len, .inl hr⟩
    · exact ⟨ho7.len, .inr ⟨b, cur, e, by omega, hr⟩⟩
noncomputable def unbN (u : UnitD) : List Lab := keepS (lackP u.imps) (sortS (freeT (unitT u) []))
/-- Unbound. -/
theorem k38 {u : UnitD} {ia : Option Addr} {im ic : Nat} {da : Option Addr} {dn dc : Nat} {g : G} (hu : unitOK u) (ht : TabG g) (h : UnI g u ia im ic da dn dc) :
    CallsP Tryz.prog 38 #[unitV u ia im ic da dn dc] g fun v g' => (¬ unitP u ∧ v = .tuple ⟨[.slice none 0 0, .int .i64 1]⟩) ∨ (unitP u ∧ ∃ oa on oc, v = .tuple ⟨[.slice oa on oc, .int .i64 0]⟩ ∧ SlE strE g' oa on oc (unbN u)) := by
  have main : CallsP Tryz.prog 38 #[unitV u ia im ic da dn dc] g fun v g' => (¬ unitP u ∧ v = .tuple ⟨[.slice none 0 0, .int .i64 1]⟩) ∨ (unitP u ∧ ∃ oa on oc, v = .tuple ⟨[.slice oa on oc, .int .i64 0]⟩ ∧ MutR g' g.w.heap.size 9 1 oa on oc ((unbN u).map encStr)) := by
    refine PL9.call38 _ _ _ _ _ _ _ g _ ?_
    unfold PL9.F38
    intro g1 n1
    have c0 := n1.at0 (v := .string (bstr u.name)) rfl
    have c1 := n1.at_ (i := 1) (v := .slice ia im ic) rfl
    have c2 := n1.at_ (i := 2) (v := .slice da dn dc) rfl
    refine ⟨_, _, _, _, _, _, _, c0.1, c1.1, c2.1, (k73 hu (ht.exm n1.ex) (h.exm n1.ex)).mono ?_⟩
    rintro v g2 m2 rfl
    have m02 := n1.ex.trans m2
    refine ⟨_, rfl, ifPn (fun q g3 _ => .inl ⟨q, rfl⟩) (fun q => ⟨_, _, _, (c2.ex m2).1, ?_⟩)⟩
    have hfm : formedP (unitT u) := q.2.2.2.2.2.2
    have hszu := hu.size
    refine (k59m (unitT u) false 1 hfm (by omega) (ht.exm m02) (unit_syn (h.exm m02))).mono ?_
    rintro v g4 m4 ⟨oa, oc, rfl, ho⟩
    have m04 := m02.trans m4
    have hz := m02.size
    have hfl := free_len (unitT u) []
    have hsl := sortS_len (freeT (unitT u) [])
    refine ⟨_, _, _, rfl, blkOf oa, fun b hb hh => absurd (ho.ge hh) (by omega), CallsG.mono (k16 85 #[.pointer (some ⟨g.w.heap.size, 0, none⟩)] (lackP u.imps) ho (by omega) ⟨_, Tryz.func85, by kernel_rfl, by kernel_rfl⟩ (fun g' le s hs => ?_)) ?_⟩
    · have le' : Le g1 g' := (m2.trans m4).le.trans le
      exact k85 (c1.mono le') (h.imps.mono (n1.ex.le.trans le')) hu.2.2 q.2.2.1 (ht.mono (n1.ex.le.trans le')) s
    · rintro v g5 s5 ⟨n', rfl, _, hm⟩
      refine ⟨_, _, _, rfl, fun g6 m6 => .inr ⟨q, _, _, _, rfl, ?_⟩⟩
      have hm6 := hm.ex m6
      rcases hm6.row with hr | ⟨b, cur, e, hge, hr⟩
      · exact ⟨hm6.len, .inl hr⟩
      · exact ⟨hm6.len, .inr ⟨b, cur, e, by omega, hr⟩⟩
  refine CallsP.ghost main ?_
  rintro v g1 hs (⟨h1, rfl⟩ | ⟨h1, oa, on, oc, rfl, hm⟩)
  · exact ⟨g1, rfl, hs, .inl ⟨h1, rfl⟩⟩
  · have hln : (unbN u).length = on := by have := hm.len; simpa using this
    rcases hm.row with ⟨rfl, rfl, rfl⟩ | ⟨b, cur, rfl, hge, _⟩
    · have : unbN u = [] := List.eq_nil_of_length_eq_zero hln
      exact ⟨g1, rfl, hs, .inr ⟨h1, _, _, _, rfl, by rw [this]; exact SlE.zero _⟩⟩
    · exact ⟨g1.froz b, rfl, hs.froz (.inl hge), .inr ⟨h1, _, _, _, rfl, strs_sle hm.frozen hln⟩⟩
/-- Unbound, of the reference. -/
theorem k40 {u : UnitD} {ia : Option Addr} {im ic : Nat} {da : Option Addr} {dn dc : Nat} {g : G} (hu : unitOK u) (hP : unitP u) (h : UnI g u ia im ic da dn dc) :
    CallsP Tryz.prog 40 #[unitV u ia im ic da dn dc] g fun v g' => ∃ oa on oc, v = .slice oa on oc ∧ SlE strE g' oa on oc (unbN u) := by
  refine PL9.call40 _ _ _ _ _ _ _ g _ ?_
  unfold PL9.F40
  have hfm : formedP (unitT u) := hP.2.2.2.2.2.2
  have hszu := hu.size
  have hfl := free_len (unitT u) []
  have hsl := sortS_len (freeT (unitT u) [])
  refine fun g1 m1 => (k36 (unitT u) false 1 hfm hu.ok (by omega) (unit_syn (h.exm m1))).mono ?_
  rintro v g2 m2 ⟨la, ln, lc, rfl, hl⟩
  have m02 := m1.trans m2
  obtain ⟨F, hF⟩ : ∃ F, F = sortS (freeT (unitT u) []) := ⟨_, rfl⟩
  rw [← hF] at hl hsl
  have hll := hl.len
  have hkl : ∀ j, (keepS (lackP u.imps) (F.take j)).length ≤ F.length := fun j => Nat.le_trans (List.length_filter_le _ _) (by rw [List.length_take]; omega)
  refine ⟨la, ln, lc, rfl, ?_⟩
  refine ⟨fun m oa on oc i g' => ∃ j : Nat, i = ((j : Nat) : Int) ∧ j + m = ln ∧ OwnE strE g' g.w.heap.size 9 oa on oc (keepS (lackP u.imps) (F.take j)), ⟨ln, 0, rfl, by omega, by simpa [keepS] using OwnE.nil _ _ _⟩, ?_⟩
  rintro m oa on oc i g3 le3 ⟨j, rfl, hj, ho⟩
  have le03 : Le g g3 := m02.le.trans le3
  have hol := ho.len
  refine ifLt (fun q => ?_) (fun q g10 m10 => ⟨_, _, _, rfl, by rw [take_all (by omega), hF] at ho; exact ho.sl.exm m10⟩)
  have gj := List.getElem?_eq_getElem (show j < F.length by omega)
  generalize F[j] = s at gj
  refine ⟨fun m imp k g' => ∃ p : Nat, k = ((p : Nat) : Int) ∧ p + m = im ∧ Ex g3 g' ∧ (imp = true ↔ ∃ n ∈ u.imps.take p, s = hMod ++ n), ⟨im, 0, rfl, by omega, Ex.refl _, by simp⟩, ?_⟩
  rintro m2' imp k g4 le4 ⟨p, rfl, hp, m34, himp⟩
  have hil := h.imps.len
  have h3u := hu.2.2
  refine ifLt (fun q2 g5 m5 => ?_) (fun q2 => ?_)
  · have m35 := m34.trans m5
    have gp := List.getElem?_eq_getElem (show p < u.imps.length by omega)
    generalize u.imps[p] = x at gp
    have hx24 := upper_len (hP.2.2.1 x (List.mem_of_getElem? gp))
    refine ⟨⟨by omega, by omega⟩, rdS ((hl.mono le3).exm m35) j rfl gj ⟨⟨by omega, by omega⟩, rdS ((h.imps.mono le03).exm m35) p rfl gp ⟨hd_size hMod x (by decide) (by omega), ?_⟩⟩⟩
    rw [show bs [109, 111, 100, 46] = bstr hMod from rfl, bstr_cat, strEq_bstr]
    have et : u.imps.take (p + 1) = u.imps.take p ++ [x] := by rw [List.take_add_one, gp]; rfl
    refine ifP (fun e => ⟨i64 (by omega) (by omega), m2' - 1, by omega, p + 1, by omega, by omega, m35, ?_⟩) (fun e => ⟨i64 (by omega) (by omega), m2' - 1, by omega, p + 1, by omega, by omega, m35, ?_⟩)
    · rw [et]
      exact ⟨fun _ => ⟨x, by simp, e⟩, fun _ => rfl⟩
    · rw [himp, et]
      constructor
      · rintro ⟨n, hn, hh⟩; exact ⟨n, by simp [hn], hh⟩
      · rintro ⟨n, hn, hh⟩
        rcases List.mem_append.1 hn with hn | hn
        · exact ⟨n, hn, hh⟩
        · cases List.mem_singleton.1 hn; exact absurd hh e
  · rw [take_all (by omega)] at himp
    intro J hJ
    have HJ : ∀ v g6, Ex g3 g6 → (v = true ↔ ¬ lackP u.imps s) → J v g6 := by
      intro v g6 m36 hv
      refine hJ v g6 ?_
      have hkt := keep_take (p := lackP u.imps) gj
      refine ifT (fun e => ⟨⟨by omega, by omega⟩, rdS ((hl.mono le3).exm m36) j rfl gj (fun g7 n7 => ?_)⟩) (fun e => ⟨i64 (by omega) (by omega), m - 1, by omega, j + 1, by omega, by omega, ?_⟩)
      · rw [if_pos (tf_of (hv.1 e))] at hkt
        have := hkl j
        obtain ⟨a', c', w', hr, g8, hw, hs, ho8, _, _⟩ := (ho.exm m36).app1 E22 22 (Nat.le_trans le03.size m36.size) n7 (x := s) rfl (by omega) (by unfold maxLen; omega)
        refine ⟨a', _, c', w', hr, g8, hw, hs, i64 (by omega) (by omega), m - 1, by omega, j + 1, by omega, by omega, ?_⟩
        rw [hkt]
        exact ho8
      · rw [if_neg (by rw [tf_true]; exact fun hh => by rw [hv.2 hh] at e; cases e), List.append_nil] at hkt
        rw [hkt]
        exact ho.exm m36
    refine ifF (fun e => ⟨⟨by omega, by omega⟩, rdS ((hl.mono le3).exm m34) j rfl gj ((k90 s g4).mono ?_)⟩) (fun e => HJ false g4 m34 ⟨fun hh => (by cases hh), fun hh => absurd (.inr (himp.1 e)) hh⟩)
    rintro v g9 m9 rfl
    refine ⟨_, rfl, HJ _ g9 (m34.trans m9) ?_⟩
    rw [tf_not, tf_true]
    unfold lackP
    constructor
    · rintro hh (h1 | h1)
      · exact hh h1
      · rw [himp.2 h1] at e; cases e
    · exact fun hh h1 => hh (.inl h1)
/-- ScopeUnits. -/
theorem law9 (u : UnitD) {ia : Option Addr} {im ic : Nat} {da : Option Addr} {dn dc : Nat} {g : G} (ht : TabG g) (h : UnI g u ia im ic da dn dc) : CallsP Tryz.prog 9 #[unitV u ia im ic da dn dc] g fun v _ => v = .bool true := by
  refine PL9.call9 _ _ _ _ _ _ _ g _ ?_
  unfold PL9.F9
  refine fun g1 m1 => (k11 g1 (ht.exm m1)).mono ?_
  rintro v g2 m2 rfl
  have m02 := m1.trans m2
  refine ⟨_, rfl, ifF (fun hh => by cases hh) (fun _ => (k27 (h.exm m02)).mono ?_)⟩
  rintro v g4 m4 ⟨b, rfl, hb⟩
  have m04 := m02.trans m4
  refine ⟨_, rfl, ifF (fun _ g5 _ => rfl) (fun q => ?_)⟩
  have hu := (hb q).1
  refine (k38 hu (ht.exm m04) (h.exm m04)).mono ?_
  intro v g6 m6 h38
  have m06 := m04.trans m6
  obtain ⟨x0a, x0l, x0c, x1, rfl, hF⟩ : ∃ x0a x0l x0c x1, v = .tuple ⟨[.slice x0a x0l x0c, .int .i64 x1]⟩ ∧ ((¬ unitP u ∧ x0l = 0 ∧ x1 = 1) ∨ (unitP u ∧ x1 = 0 ∧ SlE strE g6 x0a x0l x0c (unbN u))) := by
    rcases h38 with ⟨h1, rfl⟩ | ⟨h1, oa, on, oc, rfl, ho⟩
    · exact ⟨_, _, _, _, rfl, .inl ⟨h1, rfl, rfl⟩⟩
    · exact ⟨_, _, _, _, rfl, .inr ⟨h1, rfl, ho⟩⟩
  refine ⟨_, _, _, _, rfl, (k39 hu (h.exm m06)).mono ?_⟩
  rintro v g7 m7 rfl
  refine ⟨_, rfl, ifPn (fun q2 => ?_) (fun q2 => ?_)⟩
  · rcases hF with ⟨_, rfl, rfl⟩ | ⟨h1, _⟩
    · exact ifEq (fun _ g8 _ => by simp [eqI]) (fun hh => absurd rfl hh)
    · exact absurd h1 q2
  · rcases hF with ⟨h1, _⟩ | ⟨h1, rfl, hF⟩
    · exact absurd q2 h1
    · refine ifEq (fun _ => (k40 hu h1 (h.exm (m06.trans m7))).mono ?_) (fun hh => absurd rfl hh)
      rintro v g10 m10 ⟨xa, xl, xc, rfl, hx⟩
      refine ⟨_, _, _, rfl, (kk21 _ _ ((hF.exm m7).exm m10) hx).mono ?_⟩
      rintro v g11 _ rfl
      exact ⟨_, rfl, fun g12 _ => (vT rfl).symm⟩
end Go.Proofs.YtkocjbgdmocmlaaGreatDoor
