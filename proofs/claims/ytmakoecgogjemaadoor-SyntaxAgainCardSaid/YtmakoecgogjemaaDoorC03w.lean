/- Syntax trees: the law that Replace can be undone. -/
import Derived.Test.YtmakoecgogjemaaDoorC03v
import Derived.Test.YtmakoecgogjemaaDoorFn8
set_option linter.unusedVariables false
namespace Go.Proofs.YtmakoecgogjemaaDoor
open Go Go.Vc Go.RowKit Go.Syn

theorem get_some {i : Nat} {r : List Int} {t x : Sy} (h : t.kids[i]? = some x) : getT (((i : Nat) : Int) :: r) t = getT r x := by
  show (match t.kids[(((i : Nat) : Int)).toNat]? with | none => none | some x => if (((i : Nat) : Int)) < 0 then none else _) = _
  rw [Int.toNat_natCast, h]
  show (if (((i : Nat) : Int)) < 0 then none else _) = _
  rw [if_neg (by omega)]
theorem get_none {i : Int} {r : List Int} {t : Sy} (h : i < 0 ∨ ((t.kids.length : Nat) : Int) ≤ i) : getT (i :: r) t = none := by
  unfold getT
  split
  · rfl
  · rename_i x hx
    rcases h with h | h
    · rw [if_pos h]
    · have := (List.getElem?_eq_some_iff.1 hx).1
      omega
/-- A first step: there is none, or it leads to a part. -/
theorem step_cases (i : Int) (t : Sy) : (i < 0 ∨ ((t.kids.length : Nat) : Int) ≤ i) ∨ ∃ (k : Nat) (x : Sy), i = ((k : Nat) : Int) ∧ t.kids[k]? = some x := by
  by_cases h : i < 0 ∨ ((t.kids.length : Nat) : Int) ≤ i
  · exact .inl h
  · refine .inr ⟨i.toNat, t.kids[i.toNat]'(by omega), by omega, List.getElem?_eq_getElem (by omega)⟩
theorem get_put_none (b : Sy) : ∀ (at_ : List Int) (t : Sy), getT at_ t = none ↔ putT b at_ t = none := by
  intro at_
  induction at_ with
  | nil => intro t; simp [getT, putT]
  | cons i r ih =>
    intro t
    rcases step_cases i t with h | ⟨k, x, rfl, hx⟩
    · rw [get_none h, put_none h]
    · rw [get_some hx, put_some hx, ih x]
      cases putT b r x <;> simp
theorem set_self {l : List Sy} {i : Nat} {x : Sy} (h : l[i]? = some x) : l.set i x = l := by
  apply List.ext_getElem?
  intro j
  rw [List.getElem?_set]
  split
  · rename_i e
    subst e
    have := (List.getElem?_eq_some_iff.1 h).1
    rw [if_pos this, h]
  · rfl
theorem put_get : ∀ (at_ : List Int) (t w : Sy), getT at_ t = some w → putT w at_ t = some t := by
  intro at_
  induction at_ with
  | nil => intro t w h; cases h; rfl
  | cons i r ih =>
    intro t w h
    rcases step_cases i t with h' | ⟨k, x, rfl, hx⟩
    · rw [get_none h'] at h; cases h
    · rw [get_some hx] at h
      rw [put_some hx, ih x w h]
      show some (Tr.mk t.dat (t.kids.set k x)) = some t
      rw [set_self hx, ← t.eta]
theorem get_put (b : Sy) : ∀ (at_ : List Int) (t u : Sy), putT b at_ t = some u → getT at_ u = some b ∧ ∀ w, putT w at_ u = putT w at_ t := by
  intro at_
  induction at_ with
  | nil => intro t u h; cases h; exact ⟨rfl, fun w => rfl⟩
  | cons i r ih =>
    intro t u h
    rcases step_cases i t with h' | ⟨k, x, rfl, hx⟩
    · rw [put_none h'] at h; cases h
    · rw [put_some hx] at h
      cases hp : putT b r x with
      | none => rw [hp] at h; cases h
      | some y =>
        rw [hp] at h
        cases h
        obtain ⟨h1, h2⟩ := ih x y hp
        have hk := (List.getElem?_eq_some_iff.1 hx).1
        have hy : (Tr.mk t.dat (t.kids.set k y)).kids[k]? = some y := List.getElem?_set_self hk
        refine ⟨by rw [get_some hy]; exact h1, fun w => ?_⟩
        rw [put_some hy, put_some hx, h2 w]
        congr 1
        funext z
        show Tr.mk t.dat ((t.kids.set k y).set k z) = _
        rw [List.set_set]
theorem get_size : ∀ (at_ : List Int) (t w : Sy), getT at_ t = some w → size w ≤ size t ∧ (okT t → okT w) ∧ ∀ b u, putT b at_ t = some u → size u + size w = size t + size b := by
  intro at_
  induction at_ with
  | nil =>
    intro t w h
    cases h
    exact ⟨Nat.le_refl _, id, fun b u h => by cases h; omega⟩
  | cons i r ih =>
    intro t w h
    rcases step_cases i t with h' | ⟨k, x, rfl, hx⟩
    · rw [get_none h'] at h; cases h
    · rw [get_some hx] at h
      obtain ⟨h1, h2, h3⟩ := ih x w h
      have hm := List.mem_of_getElem? hx
      have hs := size_mem hm
      have he := size_eq t
      refine ⟨by omega, fun ht => h2 ((okT_iff.1 ht).2 x hm), fun b u hu => ?_⟩
      rw [put_some hx] at hu
      cases hp : putT b r x with
      | none => rw [hp] at hu; cases hu
      | some y =>
        rw [hp] at hu
        cases hu
        have h4 := h3 b y hp
        have h5 := sizeL_set (z := y) hx
        have h6 : size (.mk t.dat (t.kids.set k y)) = sizeL (t.kids.set k y) + 1 := size_eq _
        show size (.mk t.dat (t.kids.set k y)) + _ = _
        omega
/-- The part at a place. -/
def GetV (t : Sy) (at_ : List Int) (v : Value) (g' : G) : Prop :=
  ∃ (u : Sy) (ok : Bool) (na : Option Addr) (nn nc : Nat) (a : Option Addr) (n c : Nat), v = .tuple ⟨[synV u na nn nc a n c, .bool ok]⟩ ∧ SynI g' u na nn nc a n c ∧ ((ok = true ∧ getT at_ t = some u) ∨ (ok = false ∧ getT at_ t = none))
theorem k29 (t : Sy) (at_ : List Int) {cb : Nat} {na : Option Addr} {nn nc : Nat} {a : Option Addr} {n c : Nat} {ata : Option Addr} {atl atc : Nat} {g : G} (h : SynI g t na nn nc a n c) (hat : SlE intE' g ata atl atc at_) (hc : Live g ⟨cb, 0, none⟩ (.slice ata atl atc)) :
    CallsP Tryd.prog 29 #[synV t na nn nc a n c, .pointer (some ⟨cb, 0, none⟩)] g fun v g' => GetV t at_ v g' := by
  refine call29 _ _ _ _ _ _ _ _ _ _ g _ ?_
  have hal := hat.len
  have hac := hat.le
  have hamx := hat.cap
  unfold maxLen at hamx
  unfold F29
  intro g1 m1
  refine ⟨_, _, _, (hc.mono m1.le).1, fun m v t0 t1 t2 t3a t3l t3c t4a t4l t4c x0 x1 x2 x3a x3l x3c x4a x4l x4c g' => ∃ (j : Nat) (u : Sy), v = ((j : Nat) : Int) ∧ j + m = atl ∧ t0 = u.dat.op ∧ t1 = u.dat.n ∧ t2 = bstr u.dat.s ∧ SynI g' u t3a t3l t3c t4a t4l t4c ∧ getT at_ t = getT (at_.drop j) u,
    ⟨atl, 0, t, rfl, by omega, rfl, rfl, rfl, h.exm m1, rfl⟩, ?_⟩
  rintro m v t0 t1 t2 t3a t3l t3c t4a t4l t4c x0 x1 x2 x3a x3l x3c x4a x4l x4c g2 le ⟨j, u, rfl, hj, rfl, rfl, rfl, hu, hg⟩
  have no : ∀ g', getT at_ t = none → GetV t at_ (.tuple ⟨[(.agg ⟨[(.int .i64 (0 : Int)), (.int .i64 (0 : Int)), (.string (bs [])), (.slice none 0 0), (.slice none 0 0)]⟩), (.bool false)]⟩) g' := fun g' hn => ⟨noSy, false, none, 0, 0, none, 0, 0, rfl, no_syn g', .inr ⟨rfl, hn⟩⟩
  have hul := hu.kids.len
  refine ifLt (fun hlt => ⟨⟨by omega, by omega⟩, ?_⟩) (fun hge g6 m6 => ⟨u, true, _, _, _, _, _, _, rfl, hu.exm m6, .inl ⟨rfl, ?_⟩⟩)
  · have gj := List.getElem?_eq_getElem (show j < at_.length by omega)
    generalize at_[j] = i at gj
    have hdr : at_.drop j = i :: at_.drop (j + 1) := by
      rw [List.drop_eq_getElem_cons (by omega)]
      have := List.getElem?_eq_getElem (show j < at_.length by omega)
      rw [gj] at this
      cases this
      rfl
    rw [hdr] at hg
    refine rdN (hat.mono (m1.le.trans le)) j rfl gj (ifLt (fun q g3 _ => no g3 (hg.trans (get_none (.inl q)))) (fun q => ifLe (fun q2 g4 _ => no g4 (hg.trans (get_none (.inr (by omega))))) (fun q2 => ⟨⟨by omega, by omega⟩, ?_⟩)))
    obtain ⟨k, rfl⟩ : ∃ k : Nat, i = ((k : Nat) : Int) := ⟨i.toNat, by omega⟩
    have gk := List.getElem?_eq_getElem (show k < u.kids.length by omega)
    generalize u.kids[k] = x at gk
    rw [get_some gk] at hg
    exact rdT hu.kids k rfl gk (fun xa xn xc ya yn yc hx => ⟨i64 (by omega) (by omega), fun g5 m5 => ⟨m - 1, by omega, j + 1, x, by omega, by omega, rfl, rfl, rfl, hx.exm m5, hg⟩⟩)
  · rw [hg, List.drop_of_length_le (by omega)]
    rfl
theorem bel_cat {c op : Int} (hc : c ≠ 0) (h : belP c op) : catN op ≠ 0 := by
  rcases h with ⟨_, h | h⟩ | ⟨_, h⟩
  · subst h; decide
  · subst h; decide
  · omega
theorem law8 (t : Sy) (at_ : List Int) (b : Sy) {na : Option Addr} {nn nc : Nat} {a : Option Addr} {n c : Nat} {ata : Option Addr} {atl atc : Nat} {ba : Option Addr} {bn bc : Nat} {ka : Option Addr} {kn kc : Nat} {g : G} (ht : TabG g) (h : SynI g t na nn nc a n c) (hat : SlE intE' g ata atl atc at_) (hb : SynI g b ba bn bc ka kn kc) :
    CallsP Tryd.prog 8 #[synV t na nn nc a n c, .slice ata atl atc, synV b ba bn bc ka kn kc] g fun v _ => v = .bool true := by
  refine P8.call8 _ _ _ _ _ _ _ _ _ _ _ _ _ _ _ _ _ _ _ _ _ g _ ?_
  unfold P8.F8
  intro g1 m1 g2 n2 g3 m3
  have hv2 : Live g2 ⟨g1.w.heap.size, 0, none⟩ (.slice ata atl atc) := n2.at0 rfl
  have m02 := m1.trans n2.ex
  have m03 := m02.trans m3
  have z1 : g1.w.heap.size < g2.w.heap.size := heap_lt n2.blk
  refine (k9 g3 (ht.exm m03)).mono ?_
  rintro v g4 m4 rfl
  have m04 := m03.trans m4
  have hv4 := hv2.mono (m3.trans m4).le
  have z4 := m04.size
  have z24 := (m3.trans m4).size
  refine ⟨_, rfl, ifF (fun hh => by cases hh) (fun _ g6 n6 g7 n7 => ?_)⟩
  have hA6 := n6.mut
  have hA7 := hA6.ex n7.ex
  have hB7 := n7.mut
  have z6 : g4.w.heap.size < g6.w.heap.size := hA6.lt
  refine ⟨hA7.ok0 (Nat.le_refl _), hA7.nx, hA7.mut0 _, fun hh => absurd hh (by show ¬ g4.w.heap.size < g.w.heap.size; omega), fun g8 k8 => ?_⟩
  obtain ⟨hA8, but8⟩ := hA7.st0 k8
  rw [set1] at hA8
  have neAB : ¬ g6.w.heap.size = g4.w.heap.size := by omega
  have neBA : ¬ g4.w.heap.size = g6.w.heap.size := by omega
  have hB8 := hB7.but but8 neAB
  refine ⟨hB8.ok0 (Nat.le_refl _), hB8.nx, hB8.mut0 _, fun hh => absurd hh (by show ¬ g6.w.heap.size < g.w.heap.size; omega), fun g9 k9' => ?_⟩
  obtain ⟨hB9, but9⟩ := hB8.st0 k9'
  rw [set1] at hB9
  have hA9 := hA8.but but9 neBA
  have le49 : Le g4 g9 := n6.ex.le.trans (n7.ex.le.trans ((mut_le hA7 but8).trans (mut_le hB8 but9)))
  intro J hJ g40 m40
  have le440 := le49.trans m40.le
  have le40 := m04.le.trans le440
  have hA40 := hA9.ex m40
  have hB40 := hB9.ex m40
  have z40 := le40.size
  refine ⟨fun k => k = g4.w.heap.size ∨ k = g6.w.heap.size, ?_, fun k => k = g4.w.heap.size, fun k hk e => by omega, CallsG.mono (k15 t 0 1000 (h.mono le40) (by omega) (by omega) hA40) ?_⟩
  · rintro k (rfl | rfl)
    · exact hA40.nx
    · exact hB40.nx
  rintro v g41 s41 ⟨b1, k1, rfl, _, hb1⟩
  have le41 := le40.trans s41.le
  refine ⟨b1, rfl, fun k hk _ hne => s41.same k hk (fun e => hne (.inl e)), ifF (fun _ g42 _ => rfl) (fun q1 => ?_)⟩
  have hB41 := hB40.but (s41.but (Nat.le_refl _)) neAB
  refine ⟨fun k => k = g6.w.heap.size, fun k hk e => by omega, CallsG.mono (k15 b 0 1000 (hb.mono le41) (by omega) (by omega) hB41) ?_⟩
  rintro v g43 s43 ⟨b2, k2, rfl, _, hb2⟩
  have le43 := le41.trans s43.le
  refine ⟨b2, rfl, fun k hk hx hne => (s43.same k (Nat.lt_of_lt_of_le hk s41.le.size) (fun e => hne (.inr e))).trans (s41.same k hk (fun e => hne (.inl e))), ifF (fun _ g44 _ => rfl) (fun q2 => ?_)⟩
  refine ⟨by show ¬ (g1.w.heap.size = g4.w.heap.size ∨ g1.w.heap.size = g6.w.heap.size); omega, _, _, _, (hv4.mono le440).1, ifLt (fun _ g45 _ => rfl) (fun _ => (k13 t.dat.op g43).mono ?_)⟩
  obtain ⟨hsz1, _, hok⟩ := hb1 q1
  obtain ⟨hsz2, _, hokb⟩ := hb2 q2
  have hst : size t ≤ 1000 := by omega
  have hsb : size b ≤ 1000 := by omega
  rintro v g46 m46 rfl
  have le46 := le43.trans m46.le
  refine ⟨_, rfl, (k11 _ t hok (by omega) (ht.mono le46) (h.mono le46)).mono ?_⟩
  rintro v g47 m47 rfl
  have le47 := le46.trans m47.le
  have hv47 : Live g47 ⟨g1.w.heap.size, 0, none⟩ (.slice ata atl atc) := (((hv4.mono le440).mono s41.le).mono s43.le).mono (m46.trans m47).le
  refine ⟨_, rfl, ifPn (fun _ g48 _ => rfl) (fun hval => hJ g47 ?_)⟩
  have hcat : catN t.dat.op ≠ 0 := by
    rcases hval.1 with ⟨e, _⟩ | ⟨e, _⟩
    · omega
    · exact e
  have hkn : knownP t := ⟨hcat, hval.2⟩
  -- all that follows stands behind g47
  have h' := h.mono le47
  have hb' := hb.mono le47
  have hat' := hat.mono le47
  have ht' := ht.mono le47
  have en : Go.Vc.Enters Tryd.prog 29 := ⟨_, Tryd.func29, by kernel_rfl, by kernel_rfl⟩
  refine ⟨en, (k29 t at_ h' hat' hv47).mono ?_⟩
  rintro v g11 m11 ⟨w, ok, wa, wn, wc, xa, xn, xc, rfl, hw, hget⟩
  refine ⟨_, _, _, _, _, _, _, _, _, _, rfl, fun g12 m12 => ?_⟩
  have m4712 := m11.trans m12
  refine ⟨_, _, _, (hv47.mono m4712.le).1, (k27 t at_ b hok (by omega) hokb (by omega) (ht'.exm m4712) (h'.exm m4712) (hat'.exm m4712) (hb'.exm m4712)).mono ?_⟩
  rintro v g13 m13 ⟨u1, c1, ua, un, uc, va, vn, vc, rfl, hu1, hr1⟩
  have m4713 := m4712.trans m13
  refine ⟨_, _, _, _, _, _, _, _, _, _, rfl, ?_⟩
  rcases hget with ⟨rfl, hget⟩ | ⟨rfl, hget⟩
  case inr =>
    refine ifF (fun _ => ?_) (fun hh => by cases hh)
    have hpn := (get_put_none b at_ t).1 hget
    have hr2 : RepR t at_ b noSy 2 := .inr (.inl ⟨hkn, hpn, rfl, rfl⟩)
    obtain ⟨rfl, rfl⟩ := hr1.one hr2
    exact ifEq (fun _ g14 _ => by rw [show eqI (Tr.dat noSy).op 0 = true from eqI_true.mpr rfl]) (fun hh => absurd rfl hh)
  refine ifF (fun hh => by cases hh) (fun _ g16 m16 => ?_)
  obtain ⟨hsw, hokw0, hsizes⟩ := get_size at_ t w hget
  have hokw := hokw0 hok
  clear hokw0
  have m4716 := m4713.trans m16
  have hw16 := hw.exm (m12.trans (m13.trans m16))
  refine ⟨_, _, _, (hv47.mono m4716.le).1, (k27 t at_ w hok (by omega) hokw (by omega) (ht'.exm m4716) (h'.exm m4716) (hat'.exm m4716) hw16).mono ?_⟩
  rintro v g17 m17 ⟨u2, c2, ua2, un2, uc2, va2, vn2, vc2, rfl, hu2, hr2⟩
  have m4717 := m4716.trans m17
  refine ⟨_, _, _, _, _, _, _, _, _, _, rfl, ?_⟩
  have htt : catOK t t := (catOK_iff hcat).2 (.inl rfl)
  obtain ⟨rfl, rfl⟩ := hr2.one (u' := t) (c' := 0) (.inr (.inr (.inr ⟨hkn, put_get at_ t w hget, htt, hkn.2, rfl⟩)))
  intro J1 hJ1
  refine ifNe (fun hh => absurd rfl hh) (fun _ g37 m37 => (k25 _ _ (hu2.exm m37) (h'.exm (m4717.trans m37))).mono ?_)
  rintro v g38 m38 rfl
  rw [tf_of rfl]
  refine ⟨_, rfl, ifF (fun hh => by cases hh) (fun _ => hJ1 g38 ?_)⟩
  have m1738 := m37.trans m38
  have m4738 := m4717.trans m1738
  have hw38 := hw16.exm (m17.trans m1738)
  have hu38 := hu1.exm (m16.trans (m17.trans m1738))
  rcases hr1 with ⟨e, _⟩ | ⟨_, e, _⟩ | ⟨z, _, hz, hnz, rfl, rfl⟩ | ⟨_, hp1, hc1, hf1, rfl⟩
  · exact absurd hkn e
  · rw [(get_put_none b at_ u2).2 e] at hget; cases hget
  · exact ifNe (fun _ => ifEq (fun _ g19 _ => by rw [show eqI (Tr.dat noSy).op 0 = true from eqI_true.mpr rfl]) (fun hh => absurd rfl hh)) (fun hh => by cases hh)
  refine ifNe (fun hh => absurd rfl hh) (fun _ => ⟨en, (k29 u1 at_ hu38 (hat'.exm m4738) (hv47.mono m4738.le)).mono ?_⟩)
  obtain ⟨hg1, hpp⟩ := get_put b at_ u2 u1 hp1
  obtain ⟨hsu1, hoku0⟩ := put_size b at_ u2 u1 hp1
  have hoku1 := hoku0 hok hokb
  clear hoku0
  have hcu1 : catN u1.dat.op ≠ 0 := by
    rcases (catOK_iff hcat).1 hc1 with e | ⟨_, e⟩
    · omega
    · exact bel_cat (by omega) e
  have hc2 : catOK u1 u2 := (catOK_iff hcu1).2 (((catOK_iff hcat).1 hc1).imp (fun e => e.symm) (fun e => ⟨e.2, e.1⟩))
  rintro v g21 m21 ⟨x3, ok3, xa3, xn3, xc3, ya3, yn3, yc3, rfl, hx3, hget3⟩
  rcases hget3 with ⟨rfl, hget3⟩ | ⟨_, hget3⟩
  case inr => rw [hg1] at hget3; cases hget3
  obtain rfl : x3 = b := Option.some.inj (hget3.symm.trans hg1)
  refine ⟨_, _, _, _, _, _, _, _, _, _, rfl, fun g22 m22 => ?_⟩
  have m3822 := m21.trans m22
  have m4722 := m4738.trans m3822
  refine ⟨_, _, _, (hv47.mono m4722.le).1, (k27 u1 at_ w hoku1 (by omega) hokw (by omega) (ht'.exm m4722) (hu38.exm m3822) (hat'.exm m4722) (hw38.exm m3822)).mono ?_⟩
  rintro v g23 m23 ⟨u4, c4, ua4, un4, uc4, va4, vn4, vc4, rfl, hu4, hr4⟩
  obtain ⟨rfl, rfl⟩ := hr4.one (u' := u2) (c' := 0) (.inr (.inr (.inr ⟨⟨hcu1, hf1⟩, (hpp w).trans (put_get at_ u2 w hget), hc2, hkn.2, rfl⟩)))
  refine ⟨_, _, _, _, _, _, _, _, _, _, rfl, fun g24 m24 => ?_⟩
  have m2224 := m23.trans m24
  have m4724 := m4722.trans m2224
  refine ⟨fun _ => False, fun _ hh => hh.elim, ifT (fun _ => (k25 _ _ (hx3.exm (m22.trans m2224)) (hb'.exm m4724)).mono ?_) (fun hh => by cases hh)⟩
  rintro v g25 m25 rfl
  rw [tf_of rfl]
  refine ⟨_, rfl, ifT (fun _ => ifEq (fun _ => (k25 _ _ (hu4.exm (m24.trans m25)) (h'.exm (m4724.trans m25))).mono ?_) (fun hh => absurd rfl hh)) (fun hh => by cases hh)⟩
  rintro v g26 m26 rfl
  rw [tf_of rfl]
  have m2426 := m25.trans m26
  have m4726 := m4724.trans m2426
  refine ⟨_, rfl, ifT (fun _ => (k17 u1 (by omega) (hu38.exm (m3822.trans (m2224.trans m2426)))).mono ?_) (fun hh => by cases hh)⟩
  rintro v g27 m27 rfl
  refine ⟨_, rfl, (k17 _ (by omega) (h'.exm (m4726.trans m27))).mono ?_⟩
  rintro v g28 m28 rfl
  have m2628 := m27.trans m28
  refine ⟨_, rfl, (k17 w (by omega) (hw38.exm (m3822.trans (m2224.trans (m2426.trans m2628))))).mono ?_⟩
  rintro v g29 m29 rfl
  refine ⟨_, rfl, i64 (by omega) (by omega), (k17 _ (by omega) (hb'.exm (m4726.trans (m2628.trans m29)))).mono ?_⟩
  rintro v g30 m30 rfl
  have hs := hsizes _ u1 hp1
  exact ⟨_, rfl, i64 (by omega) (by omega), fun g31 _ => by rw [eqI_true.mpr (by omega)]⟩
end Go.Proofs.YtmakoecgogjemaaDoor
