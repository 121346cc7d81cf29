/- Syntax trees: Replace, of the reference. -/
import Derived.Test.YtmakoecgogjemaaDoorC03r
set_option linter.unusedVariables false
namespace Go.Proofs.YtmakoecgogjemaaDoor
open Go Go.Vc Go.RowKit Go.Syn

/-- What is new, made mutable; or frozen. -/
theorem melt_new {g g1 : G} (hs : Stp g.size nobody g g1) : ∃ g' : G, g'.w = g1.w ∧ Stp g.size nobody g g' ∧ (∀ z, g.w.heap.size ≤ z → z < g1.w.heap.size → ¬ g'.X z ∧ ∀ i, g'.D z i) := by
  refine ⟨⟨g1.w, g1.X, fun x i => g1.D x i ∨ (g.w.heap.size ≤ x ∧ x < g1.w.heap.size), g1.hX, fun x i hh => ?_⟩, rfl, ?_, ?_⟩
  · rcases hh with hh | hh
    · exact g1.hD x i hh
    · exact hh.2
  · refine ⟨⟨hs.le.size, ?_, ?_, ?_⟩, hs.x, hs.keepX, hs.os, hs.tape, hs.output, hs.same, ?_⟩
    · intro a v h
      obtain ⟨k1, k2, k3⟩ := hs.le.cell a v h
      have hl := cell_lt h.1
      exact ⟨k1, k2, fun hh => hh.elim k3 (fun q => by omega)⟩
    · intro x m n h
      obtain ⟨k1, k2, k3⟩ := hs.le.obj x m n h
      have hl := heap_lt h.1
      exact ⟨k1, k2, fun hh => hh.elim k3 (fun q => by omega)⟩
    · intro x o h
      obtain ⟨ty, fr, k1, k2, k3⟩ := hs.le.blk x o h
      obtain ⟨_, _, h1, _⟩ := h
      have hl := heap_lt h1
      exact ⟨ty, fr, k1, k2, fun i hh => hh.elim (k3 i) (fun q => by omega)⟩
    · intro x hx hn i
      have := hs.d x hx hn i
      have hx' : x < g.w.heap.size := hx
      constructor
      · rintro (k | k)
        · exact this.1 k
        · omega
      · intro k
        exact .inl (this.2 k)
  · intro z h1 h2
    refine ⟨fun hh => ?_, fun i => .inr ⟨h1, h2⟩⟩
    have := g.hX z ((hs.x z).1 hh)
    omega
theorem clean_new {g g1 : G} (hs : Stp g.size nobody g g1) : ∃ g' : G, g'.w = g1.w ∧ Stp g.size nobody g g' ∧ CleanG g' g.w.heap.size g1.w.heap.size := by
  refine ⟨⟨g1.w, g1.X, fun x i => g1.D x i ∧ x < g.w.heap.size, g1.hX, fun x i hh => g1.hD x i hh.1⟩, rfl, ?_, ?_⟩
  · refine ⟨⟨hs.le.size, ?_, ?_, ?_⟩, hs.x, hs.keepX, hs.os, hs.tape, hs.output, hs.same, ?_⟩
    · intro a v h
      obtain ⟨k1, k2, k3⟩ := hs.le.cell a v h
      exact ⟨k1, k2, fun hh => k3 hh.1⟩
    · intro x m n h
      obtain ⟨k1, k2, k3⟩ := hs.le.obj x m n h
      exact ⟨k1, k2, fun hh => k3 hh.1⟩
    · intro x o h
      obtain ⟨ty, fr, k1, k2, k3⟩ := hs.le.blk x o h
      exact ⟨ty, fr, k1, k2, fun i hh => k3 i hh.1⟩
    · intro x hx hn i
      have := hs.d x hx hn i
      exact ⟨fun k => this.1 k.1, fun k => ⟨this.2 k, hx⟩⟩
  · intro z h1 h2
    refine ⟨fun hh => ?_, fun i hh => by have := hh.2; omega⟩
    have := g.hX z ((hs.x z).1 hh)
    omega
abbrev synC (t : Sy) (na : Option Addr) (nn nc : Nat) (a : Option Addr) (n c : Nat) : List Value := [.int .i64 t.dat.op, .int .i64 t.dat.n, .string (bstr t.dat.s), .slice na nn nc, .slice a n c]
theorem k47m (t : Sy) (hok : okT t) (hsz : size t ≤ 1048576) {na : Option Addr} {nn nc : Nat} {a : Option Addr} {n c : Nat} {g : G} (h : SynI g t na nn nc a n c) :
    CallsP Tryd.prog 47 #[synV t na nn nc a n c] g fun v g' => ∃ na' nn' nc' a' n' c', v = synV t na' nn' nc' a' n' c' ∧ sepT g'.w t (synC t na' nn' nc' a' n' c') g.w.heap.size g'.w.heap.size ∧ (∀ z, g.w.heap.size ≤ z → z < g'.w.heap.size → ¬ g'.X z ∧ ∀ i, g'.D z i) := by
  refine CallsP.ghost (k47 t hok hsz h) ?_
  rintro v g1 hs ⟨na', nn', nc', a', n', c', rfl, q⟩
  obtain ⟨g', e, hs', hd⟩ := melt_new hs
  refine ⟨g', e, hs', na', nn', nc', a', n', c', rfl, by rw [e]; exact q, by rw [e]; exact hd⟩
theorem k47c (t : Sy) (hok : okT t) (hsz : size t ≤ 1048576) {na : Option Addr} {nn nc : Nat} {a : Option Addr} {n c : Nat} {g : G} (h : SynI g t na nn nc a n c) :
    CallsP Tryd.prog 47 #[synV t na nn nc a n c] g fun v g' => ∃ na' nn' nc' a' n' c', v = synV t na' nn' nc' a' n' c' ∧ sepT g'.w t (synC t na' nn' nc' a' n' c') g.w.heap.size g'.w.heap.size ∧ CleanG g' g.w.heap.size g'.w.heap.size := by
  refine CallsP.ghost (k47 t hok hsz h) ?_
  rintro v g1 hs ⟨na', nn', nc', a', n', c', rfl, q⟩
  obtain ⟨g', e, hs', hd⟩ := clean_new hs
  refine ⟨g', e, hs', na', nn', nc', a', n', c', rfl, by rw [e]; exact q, by rw [e]; exact hd⟩
theorem syn_of {g : G} {t : Sy} {na : Option Addr} {nn nc : Nat} {a : Option Addr} {n c : Nat} (h : synE.rep g (synC t na nn nc a n c) t) : SynI g t na nn nc a n c := by
  obtain ⟨_, _, _, _, _, _, e, hI⟩ := syn_un h
  cases e
  exact hI
/-! ### put -/
theorem no_syn (g : G) : SynI g noSy none 0 0 none 0 0 := ⟨SlE.zero _, SlE.zero _⟩
/-- A read of a tree whose block is not private. -/
theorem rdX {L : List Sy} {a : Option Addr} {n c : Nat} {g : G} (h : SlE synE g a n c L) {i : Int} (p : Nat) (hi : i = (p : Int)) {t : Sy} (ht : L[p]? = some t) {K : Int → Int → ByteArray → Option Addr → Nat → Nat → Option Addr → Nat → Nat → Prop}
    (hk : ∀ na nn nc ka kn kc, SynI g t na nn nc ka kn kc → K t.dat.op t.dat.n (bstr t.dat.s) na nn nc ka kn kc) :
    derefP a fun ad => ¬ g.X (Addr.block (Addr.add ad (Int.toNat i * 5))) ∧ ∃ x0 : Int, ∃ x1 : Int, ∃ x2 : ByteArray, ∃ x3a : Option Addr, ∃ x3l : Nat, ∃ x3c : Nat, ∃ x4a : Option Addr, ∃ x4l : Nat, ∃ x4c : Nat,
      g.w.cell? (Addr.add ad (Int.toNat i * 5)) = some (.int .i64 x0) ∧ g.w.cell? (Addr.add (Addr.add ad (Int.toNat i * 5)) 1) = some (.int .i64 x1) ∧ g.w.cell? (Addr.add (Addr.add ad (Int.toNat i * 5)) 2) = some (.string x2) ∧
      g.w.cell? (Addr.add (Addr.add ad (Int.toNat i * 5)) 3) = some (.slice x3a x3l x3c) ∧ g.w.cell? (Addr.add (Addr.add ad (Int.toNat i * 5)) 4) = some (.slice x4a x4l x4c) ∧ K x0 x1 x2 x3a x3l x3c x4a x4l x4c := by
  subst hi
  refine h.rd (i := p) ht ?_
  intro r ad hr hl
  obtain ⟨na, nn, nc, ka, kn, kc, rfl, hI⟩ := syn_un hr
  rw [Int.toNat_natCast]
  have h0 := hl 0 _ rfl
  rw [Addr.add_zero'] at h0
  exact ⟨h0.2.1, _, _, _, _, _, _, _, _, _, h0.1, (hl 1 _ rfl).1, (hl 2 _ rfl).1, (hl 3 _ rfl).1, (hl 4 _ rfl).1, hk na nn nc ka kn kc hI⟩
/-- What put answers. -/
def PutR (t : Sy) (at_ : List Int) (by_ : Sy) (v : Value) (g' : G) : Prop :=
  ∃ (u : Sy) (ok : Bool) (na : Option Addr) (nn nc : Nat) (a : Option Addr) (n c : Nat), v = .tuple ⟨[synV u na nn nc a n c, .bool ok]⟩ ∧ SynI g' u na nn nc a n c ∧ ((ok = true ∧ putT by_ at_ t = some u) ∨ (ok = false ∧ u = noSy ∧ putT by_ at_ t = none))
theorem k48 (b : Sy) : ∀ (at_ : List Int) (t : Sy), size t ≤ 1048576 → ∀ {na : Option Addr} {nn nc : Nat} {a : Option Addr} {n c : Nat} {ata : Option Addr} {atl atc : Nat} {ba : Option Addr} {bn bc : Nat} {ka : Option Addr} {kn kc : Nat} {g : G}, SynI g t na nn nc a n c → SlE intE' g ata atl atc at_ → SynI g b ba bn bc ka kn kc →
    CallsP Tryd.prog 48 #[synV t na nn nc a n c, .slice ata atl atc, synV b ba bn bc ka kn kc] g fun v g' => PutR t at_ b v g' := by
  intro at_
  induction at_ with
  | nil =>
    intro t hsz na nn nc a n c ata atl atc ba bn bc ka kn kc g h hat hb
    refine call48 _ _ _ _ _ _ _ _ _ _ _ _ _ _ _ _ _ _ _ _ _ g _ ?_
    have hal := hat.len
    unfold F48
    refine ifEq (fun _ g1 m1 => ⟨b, true, _, _, _, _, _, _, rfl, hb.exm m1, .inl ⟨rfl, rfl⟩⟩) (fun q => absurd (by simp at hal; omega) q)
  | cons i0 rest ih =>
    intro t hsz na nn nc a n c ata atl atc ba bn bc ka kn kc g h hat hb
    refine call48 _ _ _ _ _ _ _ _ _ _ _ _ _ _ _ _ _ _ _ _ _ g _ ?_
    have hal := hat.len
    have hac := hat.le
    have hamx := hat.cap
    unfold maxLen at hamx
    have hK : SlE synE g a n c t.kids := h.kids
    have hl := hK.len
    have hcp := hK.le
    have hmx := hK.cap
    unfold maxLen at hmx
    have hll := len_sizeL t.kids
    have hse := size_eq t
    simp only [List.length_cons] at hal
    have no : ∀ g', putT b (i0 :: rest) t = none → PutR t (i0 :: rest) b (.tuple ⟨[(.agg ⟨[(.int .i64 (0 : Int)), (.int .i64 (0 : Int)), (.string (bs [])), (.slice none 0 0), (.slice none 0 0)]⟩), (.bool false)]⟩) g' := fun g' hn => ⟨noSy, false, none, 0, 0, none, 0, 0, rfl, no_syn g', .inr ⟨rfl, rfl, hn⟩⟩
    unfold F48
    refine ifEq (fun q => by omega) (fun _ => ?_)
    intro J hJ g27 m27
    refine ⟨⟨by omega, by omega⟩, rdN (hat.exm m27) 0 rfl (x := i0) rfl (ifLt (fun q g28 _ => no g28 (put_none (.inl q))) (fun q => ⟨⟨by omega, by omega⟩, rdN (hat.exm m27) 0 rfl (x := i0) rfl (ifLe (fun q2 g29 _ => no g29 (put_none (.inr (by omega)))) (fun q2 => ?_))⟩))⟩
    obtain ⟨k, rfl⟩ : ∃ k : Nat, i0 = ((k : Nat) : Int) := ⟨i0.toNat, by omega⟩
    have gk := List.getElem?_eq_getElem (show k < t.kids.length by omega)
    generalize t.kids[k] = x at gk
    have hinx := List.mem_of_getElem? gk
    have hsx := size_mem hinx
    have hput := put_some (u := b) (r := rest) gk
    refine hJ _ _ _ _ _ _ _ _ _ g27 ⟨fun m i x0 x1 x2 x3a x3l x3c x4a x4l x4c o0 o1 o2 o3a o3l o3c o4a o4l o4c g' => ∃ (j : Nat) (M : List Sy), i = ((j : Nat) : Int) ∧ o0 = t.dat.op ∧ o1 = t.dat.n ∧ o2 = bstr t.dat.s ∧ o3a = na ∧ o3l = nn ∧ o3c = nc ∧ j + m = n ∧ o4l = j ∧ OwnE synE g' g.w.heap.size 25 o4a o4l o4c M ∧
        (j ≤ k → M = t.kids.take j) ∧ (k < j → ∃ u, putT b rest x = some u ∧ M = (t.kids.set k u).take j), fun g3 m3 => ⟨n, 0, [], rfl, rfl, rfl, rfl, rfl, rfl, rfl, by omega, rfl, OwnE.nil _ _ _, fun _ => by simp, fun hh => by omega⟩, ?_⟩
    rintro m i x0 x1 x2 x3a x3l x3c x4a x4l x4c o0 o1 o2 o3a o3l o3c o4a o4l o4c g4 le ⟨j, M, rfl, rfl, rfl, rfl, rfl, rfl, rfl, hj, rfl, hown, hM1, hM2⟩
    have le4 : Le g g4 := m27.le.trans le
    have hol := hown.len
    refine ifLt (fun hlt => ⟨⟨by omega, by omega⟩, rdN (hat.mono le4) 0 rfl (x := ((k : Nat) : Int)) rfl (ifNe (fun q3 g5 m5 => ?_) (fun q3 => ?_))⟩) (fun hge g26 m26 => ?_)
    · -- a part that stays
      have gj := List.getElem?_eq_getElem (show o4l < t.kids.length by omega)
      generalize t.kids[o4l] = y at gj
      refine ⟨⟨by omega, by omega⟩, rdX (hK.mono (le4.trans m5.le)) o4l rfl gj (fun ya yl yc za zl zc hy => rep (fun g6 m6 g7 n7 => ?_) _)⟩
      have m46 := m5.trans m6
      have z6 := (le4.trans m46.le).size
      obtain ⟨a', c', w', hr, g8, hw, hs, ho8, _, _⟩ := (hown.exm m46).app1 E23 23 z6 n7 (hy.exm m6).rep (by omega) (by unfold maxLen; omega)
      refine ⟨a', o4l + 1, c', w', hr, g8, hw, hs, i64 (by omega) (by omega), fun g9 m9 => ⟨m - 1, by omega, o4l + 1, M ++ [y], by omega, rfl, rfl, rfl, rfl, rfl, rfl, by omega, rfl, ho8.exm m9, fun hh => ?_, fun hh => ?_⟩⟩
      · rw [hM1 (by omega), List.take_add_one, gj]; rfl
      · obtain ⟨u, e1, e2⟩ := hM2 (by omega)
        refine ⟨u, e1, ?_⟩
        rw [e2, List.take_add_one, List.getElem?_set_ne (by omega), gj]; rfl
    · -- the part that is another
      obtain rfl : o4l = k := by omega
      intro J1 hJ1 g19 m19
      refine ⟨⟨by omega, by omega⟩, rdX (hK.mono (le4.trans m19.le)) o4l rfl gk (fun ya yl yc za zl zc hy => ⟨⟨by omega, by omega⟩, rep (fun g20 m20 => ?_) _⟩)⟩
      have le20 := (le4.trans m19.le).trans m20.le
      refine (ih x (by omega) (hy.exm m20) ((hat.mono le20).drop (lo := 1) (by omega)) (hb.mono le20)).mono ?_
      rintro v g21 m21 ⟨u, ok, ua, un, uc, va, vn, vc, rfl, hu, hp⟩
      refine ⟨_, _, _, _, _, _, _, _, _, _, rfl, fun g22 m22 => hJ1 _ _ _ _ _ _ _ _ _ _ g22 ?_⟩
      rcases hp with ⟨rfl, hp⟩ | ⟨rfl, rfl, hp⟩
      · refine ifF (fun hh => by cases hh) (fun _ g16 n16 => ?_)
        have m422 := m19.trans (m20.trans (m21.trans m22))
        have z22 := (le4.trans m422.le).size
        obtain ⟨a', c', w', hr, g17, hw, hs, ho17, _, _⟩ := (hown.exm m422).app1 E23 23 z22 n16 (hu.exm m22).rep (by omega) (by unfold maxLen; omega)
        refine ⟨a', o4l + 1, c', w', hr, g17, hw, hs, i64 (by omega) (by omega), fun g18 m18 => ⟨m - 1, by omega, o4l + 1, M ++ [u], by omega, rfl, rfl, rfl, rfl, rfl, rfl, by omega, rfl, ho17.exm m18, fun hh => by omega, fun _ => ⟨u, hp, ?_⟩⟩⟩
        rw [hM1 (Nat.le_refl _), List.take_add_one, List.getElem?_set_self (by omega), List.take_set_of_le (Nat.le_refl _)]
        rfl
      · exact ifF (fun _ g15 _ => no g15 (by rw [hput, hp]; rfl)) (fun hh => by cases hh)
    · obtain ⟨u, e1, e2⟩ := hM2 (by omega)
      rw [List.take_of_length_le (by rw [List.length_set]; omega)] at e2
      subst e2
      refine ⟨.mk t.dat (t.kids.set k u), true, _, _, _, _, _, _, rfl, ⟨h.names.mono (le4.trans m26.le), hown.sl.exm m26⟩, .inl ⟨rfl, ?_⟩⟩
      rw [hput, e1]
      rfl
end Go.Proofs.YtmakoecgogjemaaDoor
