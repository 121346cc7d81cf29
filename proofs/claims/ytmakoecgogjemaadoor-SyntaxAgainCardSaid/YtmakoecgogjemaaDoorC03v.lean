/- Syntax trees: Replace, and its law. -/
import Derived.Test.YtmakoecgogjemaaDoorC03u
set_option linter.unusedVariables false
namespace Go.Proofs.YtmakoecgogjemaaDoor
open Go Go.Vc Go.RowKit Go.Syn

/-- The cells of the variable out. -/
theorem out_cells {w : World} {S : Nat} {u : Sy} {na : Option Addr} {nn nc : Nat} {a : Option Addr} {n c : Nat} (h : w.heap[S]? = some (.cells ⟨synC u na nn nc a n c⟩ 25 (0, 0))) :
    w.cell? ⟨S, 0, none⟩ = some (.int .i64 u.dat.op) ∧ w.cell? (Addr.add ⟨S, 0, none⟩ 1) = some (.int .i64 u.dat.n) ∧ w.cell? (Addr.add ⟨S, 0, none⟩ 2) = some (.string (bstr u.dat.s)) ∧
      w.cell? (Addr.add ⟨S, 0, none⟩ 3) = some (.slice na nn nc) ∧ w.cell? (Addr.add ⟨S, 0, none⟩ 4) = some (.slice a n c) := by
  simp only [add_zero_row]
  unfold World.cell?
  simp only [h]
  exact ⟨rfl, rfl, rfl, rfl, rfl⟩
/-- Replace. -/
theorem k27 (t : Sy) (at_ : List Int) (b : Sy) (hok : okT t) (hsz : size t ≤ 10000) (hokb : okT b) (hsb : size b ≤ 10000) {na : Option Addr} {nn nc : Nat} {a : Option Addr} {n c : Nat} {ata : Option Addr} {atl atc : Nat} {ba : Option Addr} {bn bc : Nat} {ka : Option Addr} {kn kc : Nat} {g : G} (ht : TabG g) (h : SynI g t na nn nc a n c) (hat : SlE intE' g ata atl atc at_) (hb : SynI g b ba bn bc ka kn kc) :
    CallsP Tryd.prog 27 #[synV t na nn nc a n c, .slice ata atl atc, synV b ba bn bc ka kn kc] g fun v g' => RepV t at_ b v g' := by
  refine call27 _ _ _ _ _ _ _ _ _ _ _ _ _ _ _ _ _ _ _ _ _ g _ ?_
  have hal := hat.len
  have hac := hat.le
  have hamx := hat.cap
  unfold maxLen at hamx
  unfold F27
  refine fun g1 m1 => (k39 t hok (by omega) (ht.exm m1) (h.exm m1)).mono ?_
  rintro v g2 m12 rfl
  have m2 := m1.trans m12
  refine ⟨_, rfl, ifPn (fun q g3 _ => repV_no g3 (.inl ⟨q, rfl, rfl⟩)) (fun q => ?_)⟩
  refine (k47m t hok (by omega) (h.exm m2)).mono ?_
  rintro v g4 m24 ⟨na', nn', nc', a', n', c', rfl, hsep4, hnew4⟩
  have m4 := m2.trans m24
  have sz2 := m2.size
  have sz4 := m24.size
  refine ⟨_, _, _, _, _, _, _, _, _, rfl, fun g5 n5 => ?_⟩
  have hm5 := n5.mut
  refine ⟨hm5.ok0 (Nat.le_refl _), hm5.nx, hm5.mut0 _, fun hh => absurd hh (by show ¬ g4.w.heap.size < g.w.heap.size; omega), fun g6 k6 => ?_⟩
  obtain ⟨hm6, but6⟩ := hm5.st0 k6
  rw [show setsAt [.int .i64 0, .int .i64 0, .string (bs []), .slice none 0 0, .slice none 0 0] 0 [.int .i64 t.dat.op, .int .i64 t.dat.n, .string (bstr t.dat.s), .slice na' nn' nc', .slice a' n' c'] = synC t na' nn' nc' a' n' c' from rfl] at hm6
  generalize hB : g2.w.heap.size = B at hsep4 hnew4 sz2 sz4
  generalize hS : g4.w.heap.size = S at hsep4 hnew4 sz4 hm5 hm6 but6 ⊢
  have le46 : Le g4 g6 := n5.ex.le.trans (mut_le hm5 but6)
  have le6 : Le g g6 := m4.le.trans le46
  have sz6 : S < g6.w.heap.size := hm6.lt
  have new6 : ∀ z, B ≤ z → z < S → ¬ g6.X z ∧ (∀ i, g6.D z i) ∧ g6.w.heap[z]? = g4.w.heap[z]? := by
    intro z e1 e2
    obtain ⟨q1, q2⟩ := hnew4 z e1 e2
    have l4 : z < g4.w.heap.size := by omega
    have x5 := n5.ex.x z l4 q1
    have l5 : z < g5.w.heap.size := Nat.lt_of_lt_of_le l4 n5.ex.size
    have ne : ¬ z = S := by omega
    exact ⟨but6.x z l5 x5, fun i => (but6.d z l5 x5 ne i).2 ((n5.ex.d z l4 q1 i).2 (q2 i)), (but6.same z l5 x5 ne).trans (n5.ex.same z l4 q1)⟩
  have hsep6 : sepT g6.w t (synC t na' nn' nc' a' n' c') B S := sepT_same t hsep4 (fun z e1 e2 => (new6 z e1 e2).2.2)
  have no2 : ∀ g', putT b at_ t = none → RepV t at_ b (.tuple ⟨[(.agg ⟨[(.int .i64 (0 : Int)), (.int .i64 (0 : Int)), (.string (bs [])), (.slice none 0 0), (.slice none 0 0)]⟩), (.int .i64 2)]⟩) g' := fun g' hn => repV_no g' (.inr (.inl ⟨q, hn, rfl, rfl⟩))
  refine ⟨fun m place v x0 x1 x2 x3a x3l x3c x4a x4l x4c g' => g' = g6 ∧ ∃ (j pb : Nat) (A cs C : List Value) (e : TypeId) (u : Sy), place = some ⟨pb, A.length, none⟩ ∧ v = ((j : Nat) : Int) ∧ j + m = atl ∧ Plc g6.w B S b at_ t (at_.drop j) pb A cs C e u, ?_, ?_⟩
  · refine ⟨atl, rfl, 0, S, [], synC t na' nn' nc' a' n' c', [], 25, t, rfl, rfl, by omega, ⟨(by rw [List.append_nil, List.nil_append]; exact hm6.blk), rfl, by omega, Nat.le_refl _, B, S, Nat.le_refl _, by omega, Nat.le_refl _, by omega, hsep6, id, by simp, ?_⟩⟩
    intro g' cs' z hl5 hh _ _ hr
    exact ⟨cs', hl5, by simpa using hh, hr⟩
  rintro m place v x0 x1 x2 x3a x3l x3c x4a x4l x4c g7 le67 ⟨rfl, j, pb, A, cs, C, e, u, rfl, rfl, hj, hP⟩
  refine ifLt (fun hlt => ⟨⟨by omega, by omega⟩, ?_⟩) (fun hge => ?_)
  · -- a step down
    have gj := List.getElem?_eq_getElem (show j < at_.length by omega)
    generalize at_[j] = i at gj
    have hdr : at_.drop j = i :: at_.drop (j + 1) := by
      rw [List.drop_eq_getElem_cons (by omega)]
      have := List.getElem?_eq_getElem (show j < at_.length by omega)
      rw [gj] at this
      cases this
      rfl
    have hP2 := hP
    rw [hdr] at hP2
    have hnone : putT b (i :: at_.drop (j + 1)) u = none → putT b at_ t = none := by
      intro hn
      obtain ⟨_, _, _, _, _, _, _, F, hF, _⟩ := hP2.sep
      rw [hF, hn]; rfl
    refine rdN (hat.mono le6) j rfl gj ?_
    intro J hJ
    obtain ⟨_, _, _, _, _, _, hsu, _⟩ := hP.sep
    obtain ⟨ua, un, uc, va, vn, vc, L, md, rfl, _, _, _, _, hvn, _⟩ := sepT_eq.1 hsu
    have hc4 : g7.w.cell? (Addr.add ⟨pb, A.length, none⟩ 4) = some (.slice va vn vc) := by
      rw [add_row]
      exact cell_mid hP.heap rfl
    refine ifLt (fun q1 g9 _ => no2 g9 (hnone (put_none (.inl q1)))) (fun q1 => ⟨_, _, _, hc4, ifLe (fun q2 g10 _ => no2 g10 (hnone (put_none (.inr (by omega))))) (fun q2 => hJ _ _ _ _ _ _ _ _ _ g7 ?_)⟩)
    obtain ⟨k, rfl⟩ : ∃ k : Nat, i = ((k : Nat) : Int) := ⟨i.toNat, by omega⟩
    have gk := List.getElem?_eq_getElem (show k < u.kids.length by omega)
    obtain ⟨na2, nn2, nc2, pb2, c2, e2, A2, cs2, C2, hcs, hA2, hP3⟩ := hP2.step gk
    cases hcs
    refine ⟨_, _, _, hc4, ⟨by omega, by omega⟩, i64 (by omega) (by omega), m - 1, by omega, rfl, j + 1, pb2, A2, cs2, C2, e2, _, ?_, by omega, by omega, hP3⟩
    rw [add_zero_row, Int.toNat_natCast, hA2]
  · -- the write
    rw [List.drop_of_length_le (by omega)] at hP
    obtain ⟨x, y, p1, p2, p3, p4, p5, F, p6, p7⟩ := hP.sep
    have hput : putT b at_ t = some (F b) := by rw [p6]; rfl
    have hmP : MutB g7 pb e (A ++ (cs ++ C)) := by
      rcases Nat.lt_or_ge pb S with hlt | hge2
      · obtain ⟨q1, q2, _⟩ := new6 pb hP.lo hlt
        exact ⟨hP.heap, q1, q2⟩
      · obtain rfl : pb = S := Nat.le_antisymm hP.hi hge2
        exact ⟨hP.heap, hm6.nx, hm6.d⟩
    show derefP (some ⟨pb, A.length, none⟩) _
    rw [← add_zero_row]
    have hlo := hP.lo
    refine ⟨hmP.ok (by rw [List.length_append, List.length_append, hP.len]; omega), hmP.nxA _, hmP.mutA _ _, fun hh => absurd hh (by rw [add_block]; show ¬ pb < g.w.heap.size; omega), fun g11 k11 => ?_⟩
    obtain ⟨hm11, but11⟩ := hmP.st k11
    rw [setsAt_mid _ _ _ _ (show cs.length = 5 from hP.len)] at hm11
    have le11 : Le g g11 := le6.trans (mut_le hmP but11)
    intro J1 hJ1 g18 m18
    have hm18 := hm11.ex m18
    have le18 := le11.trans m18.le
    -- the state in which the copy's rows are frozen
    have fr : CleanG (g18.frozP fun z => B ≤ z ∧ z < S) B S ∧ ∀ z, B ≤ z → z ≤ S → z ≠ pb → g18.w.heap[z]? = g7.w.heap[z]? := by
      have xs : ∀ z, B ≤ z → z ≤ S → ¬ g7.X z := by
        intro z e1 e2
        rcases Nat.lt_or_ge z S with h1 | h1
        · exact (new6 z e1 h1).1
        · obtain rfl : z = S := Nat.le_antisymm e2 h1
          exact hm6.nx
      have x11 : ∀ z, B ≤ z → z ≤ S → ¬ g11.X z := fun z e1 e2 => but11.x z (by omega) (xs z e1 e2)
      have sz11 := but11.size
      refine ⟨fun z e1 e2 => ⟨m18.x z (by omega) (x11 z e1 (by omega)), fun i hh => hh.2 ⟨e1, e2⟩⟩, fun z e1 e2 e3 => ?_⟩
      exact (m18.same z (by omega) (x11 z e1 e2)).trans (but11.same z (by omega) (xs z e1 e2) e3)
    obtain ⟨r, hr5, hrS, hrep⟩ := p7 (g18.frozP fun z => B ≤ z ∧ z < S) (synC b ba bn bc ka kn kc) b rfl hm18.blk (fun z e1 e2 e3 _ => fr.2 z e1 e2 e3) fr.1 (hb.mono (le18.trans (frozP_le _ _))).rep
    obtain ⟨ua, un, uc, va, vn, vc, rfl, hI⟩ := syn_un hrep
    generalize F b = z at hput hI hrS hrep
    obtain ⟨hsz', hokz⟩ := put_size b at_ t z hput
    have hokz := hokz hok hokb
    have hX18 : ¬ g18.X S := by
      have : ¬ g11.X S := but11.x S (by omega) hm6.nx
      have sz11 := but11.size
      exact m18.x S (by omega) this
    have sz18 : S < g18.w.heap.size := heap_lt hrS
    -- the variable out
    have out : ∀ g', Ex g18 g' → g'.w.heap[S]? = some (.cells ⟨synC z ua un uc va vn vc⟩ 25 (0, 0)) := fun g' m => (m.same S sz18 hX18).trans hrS
    have tree : ∀ g', Ex g18 g' → SynI (g'.frozP fun z => B ≤ z ∧ z < S) z ua un uc va vn vc := fun g' m => hI.exm (m.frozP _)
    have hpl : ∀ g', Ex g18 g' → ∀ k, (B ≤ k ∧ k < S) → k < g'.w.heap.size := fun g' m k hk => by have := m.size; omega
    have no3 : ∀ g', ¬ (catOK t z ∧ formedP z) → RepV t at_ b (.tuple ⟨[(.agg ⟨[(.int .i64 (0 : Int)), (.int .i64 (0 : Int)), (.string (bs [])), (.slice none 0 0), (.slice none 0 0)]⟩), (.int .i64 3)]⟩) g' := fun g' hn => repV_no g' (.inr (.inr (.inl ⟨z, q, hput, hn, rfl, rfl⟩)))
    have fin : ∀ g12, Ex g18 g12 → J1 (tf (catOK t z)) g12 := by
      intro g12 m12
      refine hJ1 _ g12 (ifPn (fun q2 g13 _ => no3 g13 (fun hh => q2 hh.1)) (fun q2 => ?_))
      obtain ⟨o0, o1, o2, o3, o4⟩ := out_cells (out g12 m12)
      refine ⟨_, _, _, _, _, _, _, _, _, o0, o1, o2, o3, o4, CallsP.thawP (hpl g12 m12) (k32 z hokz (by omega) (ht.mono ((le18.trans m12.le).trans (frozP_le _ _))) (tree g12 m12)) ?_⟩
      rintro v ga g14 rfl m1214 _ _ _
      have m14 := m12.trans m1214
      refine ⟨_, rfl, ifPn (fun q3 g15 _ => no3 g15 (fun hh => q3 hh.2)) (fun q3 => ?_)⟩
      obtain ⟨o0, o1, o2, o3, o4⟩ := out_cells (out g14 m14)
      refine ⟨_, _, _, _, _, _, _, _, _, o0, o1, o2, o3, o4, CallsP.thawP (hpl g14 m14) (k47c z hokz (by omega) (tree g14 m14)) ?_⟩
      rintro v gb g16 ⟨wa, wn, wc, ya, yn, yc, rfl, hs16, hc16⟩ m1416 mb ew ed
      have hlt : S < g14.w.heap.size := by have := m14.size; omega
      refine ⟨_, _, _, _, _, _, _, _, _, rfl, fun g17 m17 => ⟨z, 0, _, _, _, _, _, _, rfl, (syn_of (sepT_syn z (lo := g14.w.heap.size) (hi := gb.w.heap.size) (by rw [ew]; exact hs16) ?_)).exm m17, .inr (.inr (.inr ⟨q, hput, q2, q3, rfl⟩))⟩⟩
      intro k e1 e2
      obtain ⟨c1, c2⟩ := hc16 k e1 e2
      have e1' : g14.w.heap.size ≤ k := e1
      refine ⟨mb.x k e2 c1, fun i hh => c2 i ((ed k (fun hh => by omega) i).1 hh)⟩
    obtain ⟨o0, o1, o2, o3, o4⟩ := out_cells (out g18 (Ex.refl _))
    refine ⟨_, _, _, _, _, _, _, _, _, o0, o1, o2, o3, o4, (k13 t.dat.op g18).mono ?_⟩
    rintro v g19 m19 rfl
    refine ⟨_, rfl, (k31 _ z ua un uc va vn vc g19).mono ?_⟩
    rintro v g20 m20 rfl
    have m1820 := m19.trans m20
    refine ⟨_, rfl, ifP (fun q2 => ?_) (fun q2 => (k31 5 t na nn nc a n c g20).mono ?_)⟩
    · have := fin g20 m1820
      rwa [tf_of (show catOK t z from .inl q2)] at this
    · rintro v g21 m21 rfl
      have m1821 := m1820.trans m21
      refine ⟨_, rfl, ifP (fun q3 => ?_) (fun q3 => ?_)⟩
      · obtain ⟨o0, o1, o2, o3, o4⟩ := out_cells (out g21 m1821)
        refine ⟨_, _, _, _, _, _, _, _, _, o0, o1, o2, o3, o4, (k31 5 z ua un uc va vn vc g21).mono ?_⟩
        rintro v g22 m22 rfl
        have := fin g22 (m1821.trans m22)
        rw [tf_iff (show catOK t z ↔ belP 5 z.dat.op from ⟨fun hh => hh.elim (fun hh => absurd hh q2) (fun hh => hh.2), fun hh => .inr ⟨q3, hh⟩⟩)] at this
        exact ⟨_, rfl, this⟩
      · have := fin g21 m1821
        rwa [tf_no (show ¬ catOK t z from fun hh => hh.elim q2 (fun hh => q3 hh.1))] at this
theorem law7 (t : Sy) (at_ : List Int) (b : Sy) {na : Option Addr} {nn nc : Nat} {a : Option Addr} {n c : Nat} {ata : Option Addr} {atl atc : Nat} {ba : Option Addr} {bn bc : Nat} {ka : Option Addr} {kn kc : Nat} {g : G} (ht : TabG g) (h : SynI g t na nn nc a n c) (hat : SlE intE' g ata atl atc at_) (hb : SynI g b ba bn bc ka kn kc) :
    CallsP Tryd.prog 7 #[synV t na nn nc a n c, .slice ata atl atc, synV b ba bn bc ka kn kc] g fun v _ => v = .bool true := by
  refine call7 _ _ _ _ _ _ _ _ _ _ _ _ _ _ _ _ _ _ _ _ _ g _ ?_
  unfold F7
  refine fun g1 m1 => (k9 g1 (ht.exm m1)).mono ?_
  rintro v g2 m2 rfl
  have m02 := m1.trans m2
  refine ⟨_, rfl, ifF (fun hh => by cases hh) (fun _ => ?_)⟩
  intro J hJ
  have main : ∀ g4, Ex g g4 → size t ≤ 4500 → okT t → size b ≤ 4500 → okT b → J g4 := by
    intro g4 m4 h1 h2 h3 h4
    refine hJ g4 ((k27 t at_ b h2 (by omega) h4 (by omega) (ht.exm m4) (h.exm m4) (hat.exm m4) (hb.exm m4)).mono ?_)
    rintro v g5 m5 ⟨u, cd, ua, un, uc, va, vn, vc, rfl, hu, hr⟩
    refine ⟨_, _, _, _, _, _, _, _, _, _, rfl, fun g6 m6 => ?_⟩
    have m56 := m5.trans m6
    have m06 := m4.trans m56
    refine (k28 t at_ b h2 (by omega) h4 (by omega) (h.exm m06) (hat.exm m06) (hb.exm m06)).mono ?_
    rintro v g7 m7 ⟨u', cd', ua', un', uc', va', vn', vc', rfl, hu', hr'⟩
    obtain ⟨rfl, rfl⟩ := hr.one hr'
    refine ⟨_, _, _, _, _, _, _, _, _, _, rfl, fun g8 m8 => ?_⟩
    refine (k26 u u (hu.exm (m6.trans (m7.trans m8))) (hu'.exm m8)).mono ?_
    rintro v g9 _ rfl
    rw [tf_of rfl]
    exact ⟨_, rfl, ifT (fun _ g10 _ => by rw [eqI_true.mpr rfl]) (fun hh => by cases hh)⟩
  refine (k10 t (h.exm m02)).mono ?_
  rintro v g12 m12 ⟨q, rfl, hq⟩
  have m012 := m02.trans m12
  refine ⟨_, rfl, ifF (fun _ g13 _ => rfl) (fun e => (k10 b (hb.exm m012)).mono ?_)⟩
  rintro v g14 m14 ⟨q2, rfl, hq2⟩
  refine ⟨_, rfl, ifF (fun _ g15 _ => rfl) (fun e2 => ifLt (fun _ g16 _ => rfl) (fun _ => main g14 (m012.trans m14) (hq e).1 (hq e).2 (hq2 e2).1 (hq2 e2).2))⟩
end Go.Proofs.YtmakoecgogjemaaDoor
