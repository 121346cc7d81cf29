/- Scope: the law ScopeLets. -/
import Derived.Test.YtkocjbgdmocmlaaGreatDoorC07af
import Derived.Test.YtkocjbgdmocmlaaGreatDoorC07D
import Derived.Test.YtkocjbgdmocmlaaGreatDoorSfree2
import Derived.Test.YtkocjbgdmocmlaaGreatDoorFnL3
import Derived.Lib.AppendZeros
set_option linter.unusedVariables false
namespace Go.Proofs.YtkocjbgdmocmlaaGreatDoor
open Go Go.Vc Go.RowKit Go.Syn Go.Sort

theorem sl00 (a : Option Addr) (m : Nat) : slAddr a m 0 1 = a := by
  unfold slAddr
  split
  · rfl
  · cases a with
    | none => rfl
    | some x => simp [Addr.add_zero']
/-- slices.Grow of nil. -/
theorem k62 (n : Nat) (hn : n ≤ 1048576) (g : G) : CallsP Tryz.prog 62 #[(.slice none 0 0), (.int .i64 (n : Int))] g fun v g' => ∃ a c, v = .slice a 0 c ∧ OwnE strE g' g.size 9 a 0 c [] := by
  refine PL3.call62 none 0 0 n g _ ?_
  unfold PL3.F62
  intro J hJ
  refine ifLt (fun h => by omega) (fun _ => hJ g ⟨i64 (by omega) (by omega), i64 (by omega) (by omega), ifLt (fun h => ?_) (fun h g4 m4 => ⟨none, 0, rfl, OwnE.nil _ _ _⟩)⟩)
  obtain ⟨i, z, hi, hz, hs, hby, hzs, hm0⟩ := E22.info
  have e2 : ((n : Int) - (((0 : Nat) : Int) - ((0 : Nat) : Int))) = (n : Int) := by omega
  have hr := Lib.run_append_nil_zeros (P := Tryz.prog) g.w 22 3 22 9 i z .i64 .i64 Tryz.underlying22 Tryz.underlying3 hi hz n (by omega) (by omega) (by omega) (by rw [hby]; omega)
  have e1 : slAddr none 0 0 1 = none := rfl
  have hge := grownCap_ge g.w n 0 9
  have hcm := grownCap_le_maxLen g.w n 0 9 (by unfold maxLen; omega)
  refine ⟨⟨by omega, by omega⟩, _, _, _, _, by rw [e1, e2]; exact hr, ?_⟩
  have hsz : g.w.heap.size < (g.w.drew.alloc (.cells (Builtin.zeroCells z.cells n ++ Builtin.zeroCells z.cells (grownCap g.w n 0 9 - n)) 9)).heap.size := by simp
  obtain ⟨s1, s2⟩ := row_stp (hs := hsz) (k := 0) (M := nobody) (B := g.w.heap.size) (Nat.le_refl _) ⟨rfl, rfl, rfl⟩ (fun b hb => Below.heap_alloc g.w.drew _ b hb)
  refine ⟨_, rfl, s1, ⟨by omega, by omega⟩, fun g3 m3 => ?_⟩
  refine ⟨_, _, rfl, ⟨⟨[], OwnG.ex ⟨by simp, Or.inr ⟨_, Builtin.zeroCells z.cells n ++ Builtin.zeroCells z.cells (grownCap g.w n 0 9 - n), ?_, Nat.le_refl _, ?_, by omega, ?_, ?_, by simp, ?_, by omega, ?_⟩⟩ m3, Rws.nil⟩, rfl⟩⟩
  · exact sl00 _ _
  · show (g.w.heap.push _)[g.w.heap.size]? = _
    simp
  · simpa using hcm
  · have : z.cells.size = 1 := hzs
    simp [Builtin.zeroCells, this]
    show n + (grownCap g.w n 0 9 - n) = grownCap g.w n 0 9 * 1
    omega
  · intro hx
    exact absurd (g.hX _ hx) (by simp)
  · intro j _ _
    exact Or.inr ⟨rfl, Nat.zero_le _⟩
/-- slices.Concat of two. -/
theorem k15 (x y : List Lab) {a : Option Addr} {xa ya : Option Addr} {xl xc yl yc : Nat} {g : G} (h : Sl g 1 a 2 2 [.slice xa xl xc, .slice ya yl yc]) (hx : SlE strE g xa xl xc x) (hy : SlE strE g ya yl yc y)
    (hl : xl + yl ≤ 1048576) : CallsP Tryz.prog 15 #[.slice a 2 2] g fun v g' => ∃ a' c', v = .slice a' (xl + yl) c' ∧ OwnE strE g' g.size 9 a' (xl + yl) c' (x ++ y) := by
  refine PL3.call15 a 2 2 g _ ?_
  have hlx := hx.len
  have hly := hy.len
  unfold PL3.F15
  refine ⟨fun m s v g' => ∃ i : Nat, v = i ∧ i + m = 2 ∧ s = ((([xl, yl].take i).sum : Nat) : Int), ⟨2, 0, rfl, rfl, rfl⟩, ?_⟩
  rintro m s v g1 le ⟨i, rfl, him, rfl⟩
  have h1 := h.mono le
  have pick : ∀ {K : Option Addr → Nat → Nat → Prop} {g1 : G}, Sl g1 1 a 2 2 [.slice xa xl xc, .slice ya yl yc] → ∀ i : Nat, i < 2 → (i = 0 → K xa xl xc) → (i = 1 → K ya yl yc) →
      derefP a fun ad => ∃ sa : Option Addr, ∃ sl : Nat, ∃ sc : Nat, g1.w.cell? (Addr.add ad (Int.toNat (i : Int) * 1)) = some (.slice sa sl sc) ∧ K sa sl sc := by
    intro K g1 h i hi k0 k1
    rw [Int.toNat_natCast, Nat.mul_one]
    rcases (by omega : i = 0 ∨ i = 1) with rfl | rfl
    · exact h.rd (k := 0) rfl fun ad _ hc => ⟨_, _, _, hc.1, k0 rfl⟩
    · exact h.rd (k := 1) rfl fun ad _ hc => ⟨_, _, _, hc.1, k1 rfl⟩
  refine ifLt (fun hlt => ⟨⟨by omega, by omega⟩, pick h1 i (by omega) ?_ ?_⟩) (fun hge => ?_)
  · rintro rfl
    exact ⟨i64 (by simp) (by simp; omega), ifLt (fun h => by simp at h; omega) fun _ => ⟨i64 (by omega) (by omega), m - 1, by omega, 1, by omega, by omega, by simp⟩⟩
  · rintro rfl
    exact ⟨i64 (by simp; omega) (by simp; omega), ifLt (fun h => by simp at h; omega) fun _ => ⟨i64 (by omega) (by omega), m - 1, by omega, 2, by omega, by omega, by simp⟩⟩
  · have : i = 2 := by omega
    subst this
    rw [show (([xl, yl].take 2).sum : Nat) = xl + yl by simp]
    refine (k62 (xl + yl) hl g1).mono ?_
    rintro v g2 m2 ⟨na, nc, rfl, ho⟩
    have hgs := le.size
    refine ⟨_, _, _, rfl, fun m na l nc v g3 => ∃ i : Nat, v = i ∧ i + m = 2 ∧ l = ([xl, yl].take i).sum ∧ g.size ≤ g3.size ∧ OwnE strE g3 g.size 9 na l nc (([x, y].take i).flatten), ⟨2, 0, rfl, rfl, rfl, Nat.le_trans hgs m2.size, ho.base hgs⟩, ?_⟩
    rintro m na l nc v g3 le3 ⟨i, rfl, him, rfl, hsz, ho⟩
    have hm : Le g g3 := (le.trans m2.le).trans le3
    have h3 := h.mono hm
    refine ifLt (fun hlt => ⟨⟨by omega, by omega⟩, pick h3 i (by omega) ?_ ?_⟩) (fun hge g5 m5 => ?_)
    · rintro rfl
      obtain ⟨a', c', w', hr, g4, hw, hs, ho', _, _⟩ := OwnE.app E22 22 hsz ho (hx.mono hm) (by simp; omega) (by simp; unfold maxLen; omega)
      exact ⟨a', _, c', w', hr, g4, hw, hs, i64 (by omega) (by omega), m - 1, by omega, 1, by omega, by omega, by simp, Nat.le_trans hsz hs.le.size, by simpa using ho'⟩
    · rintro rfl
      obtain ⟨a', c', w', hr, g4, hw, hs, ho', _, _⟩ := OwnE.app E22 22 hsz ho (hy.mono hm) (by simp; omega) (by simp; unfold maxLen; omega)
      exact ⟨a', _, c', w', hr, g4, hw, hs, i64 (by omega) (by omega), m - 1, by omega, 2, by omega, by omega, by simp, Nat.le_trans hsz hs.le.size, by simpa using ho'⟩
    · have : i = 2 := by omega
      subst this
      refine ⟨na, nc, by simp, ?_⟩
      have := ho.exm m5
      simpa using this
theorem k18 {g : G} {bb : Nat} {ba : Option Addr} {bn bc : Nat} {B : List Lab} (hl : Live g ⟨bb, 0, none⟩ (.slice ba bn bc)) (hB : SlE strE g ba bn bc B) (hn : bn ≤ 1048576) (s : Lab) :
    CallsP Tryz.prog 18 #[.string (bstr s), .pointer (some ⟨bb, 0, none⟩)] g fun v _ => v = .bool (tf (s ∈ B)) := by
  refine PL3.call18 _ _ g _ ?_
  unfold PL3.F18
  refine ⟨_, _, _, hl.1, (kk19 B s hB hn).mono ?_⟩
  rintro v g1 _ rfl
  exact ⟨_, rfl, fun g2 _ => rfl⟩
/-- A row behind a call, frozen. -/
theorem froz_call {k : FuncId} {args : Array Value} {g : G} {a : Option Addr} {c : Nat} {F : Nat → List Lab → Prop} (h : CallsG Tryz.prog k args g (blkOf a) fun v g' => ∃ n' xs B, v = .slice a n' c ∧ F n' xs ∧ MutR g' B 9 1 a n' c (xs.map encStr)) :
    CallsG Tryz.prog k args g (blkOf a) fun v g' => ∃ n' xs, v = .slice a n' c ∧ F n' xs ∧ SlE strE g' a n' c xs := by
  refine CallsG.ghost h ?_
  rintro v g1 hs ⟨n', xs, B, rfl, hF, hm⟩
  have hln : xs.length = n' := by have := hm.len; simpa using this
  rcases hm.row with ⟨rfl, rfl, rfl⟩ | ⟨b, cur, rfl, hge, _⟩
  · have : xs = [] := List.eq_nil_of_length_eq_zero hln
    subst this
    exact ⟨g1, rfl, hs, _, _, rfl, hF, SlE.zero _⟩
  · exact ⟨g1.froz b, rfl, hs.froz (.inr ⟨_, rfl, rfl⟩), _, _, rfl, hF, strs_sle hm.frozen hln⟩
/-- The law, in plain words. -/
theorem let_free {d t : Sy} (hd : d.dat.op ∈ ([41, 42, 50] : List Int)) : sortS (sortS (freeT d []) ++ keepS (· ∈ sortS (bindsT d)) (sortS (freeT t []))) = sortS (freeT (.mk ⟨31, 0, [], []⟩ [d, t]) []) := by
  have e : freeT (.mk ⟨31, 0, [], []⟩ [d, t]) [] = freeT d [] ++ freeT t ([] ++ bindsT d) := by
    show ownRef ⟨31, 0, [], []⟩ [] ++ (freeT d ([] ++ extra ⟨31, 0, [], []⟩) ++ (freeT t ([] ++ extra ⟨31, 0, [], []⟩ ++ addOf ⟨31, 0, [], []⟩ d) ++ [])) = _
    have h1 : ownRef ⟨31, 0, [], []⟩ [] = [] := by decide
    have h2 : extra ⟨31, 0, [], []⟩ = [] := by decide
    have h3 : addOf ⟨31, 0, [], []⟩ d = bindsT d := rfl
    rw [h1, h2, h3]
    simp
  rw [e]
  refine sortS_eq fun s => ?_
  rw [List.mem_append, List.mem_append, mem_sortS, mem_keep, mem_sortS, mem_sortS, free_more t [] (bindsT d) s]
theorem let_valid {d t : Sy} (h : validP 3 (.mk ⟨31, 0, [], []⟩ [d, t])) : d.dat.op ∈ ([41, 42, 50] : List Int) ∧ validP 4 d ∧ (validP 2 d ∨ validP 4 d ∨ validP 5 d) ∧ validP 3 t := by
  obtain ⟨_, _, h3, h4⟩ := walk_iff.1 h.2
  unfold shapeP at h3
  simp [Tr.dat, Tr.kids, onlyP] at h3
  have hd := h4 d (by simp [Tr.kids])
  have ht := h4 t (by simp [Tr.kids])
  have hw : decide ((Tr.mk (⟨31, 0, [], []⟩ : SynD) [d, t]).dat.op = 74) = false := decide_eq_false (by show ¬ (31 : Int) = 74; omega)
  rw [hw] at hd ht
  have hop : d.dat.op ∈ ([41, 42, 50] : List Int) := by
    have := h3.2
    simpa [Tr.dat] using this
  have h4d : validP 4 d := ⟨.inr ⟨by omega, by
    simp only [List.mem_cons, List.not_mem_nil, or_false] at hop
    rcases hop with e | e | e <;> rw [e] <;> decide⟩, walk_down d false 2 1 (by omega) hd⟩
  exact ⟨hop, h4d, .inr (.inl h4d), h3.1, walk_down t false 2 1 (by omega) ht⟩
/-- ScopeLets. -/
theorem law3 (d t : Sy) {na : Option Addr} {nn nc : Nat} {a : Option Addr} {n c : Nat} {na' : Option Addr} {nn' nc' : Nat} {a' : Option Addr} {n' c' : Nat} {g : G} (ht : TabG g) (hd : SynI g d na nn nc a n c) (htr : SynI g t na' nn' nc' a' n' c') :
    CallsP Tryz.prog 3 #[synV d na nn nc a n c, synV t na' nn' nc' a' n' c'] g fun v _ => v = .bool true := by
  refine PL3.call3 _ _ _ _ _ _ _ _ _ _ _ _ _ _ _ _ _ _ g _ ?_
  unfold PL3.F3
  refine fun g1 m1 => (k11 g1 (ht.exm m1)).mono ?_
  rintro v g2 m2 rfl
  have m02 := m1.trans m2
  refine ⟨_, rfl, ifF (fun hh => by cases hh) (fun _ g4 n4 => ?_)⟩
  have h2 : SlE synE g4 (some ⟨g2.w.heap.size, 0, none⟩) 2 2 [d, t] := n4.sle (E := synE) (xs := [d, t]) ((Rws.single (hd.exm m02).rep).append (Rws.single (htr.exm m02).rep)) (by simp [maxLen])
  refine ⟨nobody, fun _ _ hh => hh, (k12 [d, t] h2).mono ?_⟩
  rintro v g5 m5 ⟨b, rfl, hb⟩
  have m05 := (m02.trans n4.ex).trans m5
  refine ⟨_, rfl, ifF (fun _ g6 _ => rfl) (fun q g7 n7 g8 m8 => ?_)⟩
  obtain ⟨hsz, hok1⟩ := hb q
  have hs2 : size d + size t ≤ 600 := by simpa [sizeL] using hsz
  have hokd := hok1 d (by simp)
  have hokt := hok1 t (by simp)
  obtain ⟨lt, hlt⟩ : ∃ lt : Sy, lt = .mk ⟨31, 0, [], []⟩ [d, t] := ⟨_, rfl⟩
  have hoklt : okT lt := by rw [hlt]; exact okT_iff.2 ⟨⟨by simp [Tr.dat], by simp [Tr.dat]⟩, fun x hx => by
    simp [Tr.kids] at hx
    rcases hx with rfl | rfl
    · exact hokd
    · exact hokt⟩
  have hslt : size lt ≤ 601 := by
    rw [hlt]
    show sizeL [d, t] + 1 ≤ _
    simp [sizeL]; omega
  have m08 := (m05.trans n7.ex).trans m8
  have hlI : SynI g8 lt none 0 0 (some ⟨g5.w.heap.size, 0, none⟩) 2 2 := by
    rw [hlt]
    exact ⟨SlE.zero _, (n7.sle (E := synE) (xs := [d, t]) ((Rws.single (hd.exm m05).rep).append (Rws.single (htr.exm m05).rep)) (by simp [maxLen])).exm m8⟩
  have call13 := k13 3 lt hoklt (by omega) (ht.exm m08) hlI
  rw [hlt] at call13
  refine call13.mono ?_
  rintro v g9 m9 (⟨_, rfl⟩ | ⟨hv, la, ln, lc, rfl, hfl⟩)
  · exact ⟨_, _, _, _, rfl, ifNe (fun _ g10 _ => by simp [eqI]) (fun hh => by simp at hh)⟩
  obtain ⟨hop, hv4, hv245, hv3⟩ := let_valid hv
  refine ⟨_, _, _, _, rfl, ifNe (fun hh => absurd rfl hh) (fun _ => ?_)⟩
  have m09 := m08.trans m9
  have hfd := free_len d []
  have hft := free_len t []
  have hbd := binds_le d
  have s1 := sortS_len (freeT d [])
  have s2 := sortS_len (freeT t [])
  have s3 := sortS_len (bindsT d)
  refine (k13 4 d hokd (by omega) (ht.exm m09) (hd.exm m09)).mono ?_
  rintro v g11 m11 (⟨hh, _⟩ | ⟨_, oa, on, oc, rfl, how⟩)
  · exact absurd hv4 hh
  have m011 := m09.trans m11
  refine ⟨_, _, _, _, rfl, (k14 d hokd (by omega) (ht.exm m011) (hd.exm m011)).mono ?_⟩
  rintro v g12 m12 (⟨hh, _⟩ | ⟨_, ba, bn, bc, rfl, hbo⟩)
  · exact absurd hv245 hh
  have m012 := m011.trans m12
  refine ⟨_, _, _, _, rfl, fun g13 n13 => ?_⟩
  have mi : MutB g13 g12.w.heap.size 22 [.slice none 0 0] := n13.mut
  refine ⟨mi.ok0 (Nat.le_refl _), mi.nx, mi.mut0 _, fun hh => absurd hh (by have := m012.size; show ¬ g12.w.heap.size < _; omega), fun g14 k14' => ?_⟩
  obtain ⟨hlive, but14⟩ := mi.pub1 k14'
  have le1214 : Le g12 g14 := n13.ex.le.trans (mut_le mi but14)
  have le014 : Le g g14 := m012.le.trans le1214
  refine (k13 3 t hokt (by omega) (ht.mono le014) (htr.mono le014)).mono ?_
  rintro v g15 m15 (⟨hh, _⟩ | ⟨_, ra, rn, rc, rfl, hre⟩)
  · exact absurd hv3 hh
  have hrl := hre.len
  have hol := how.len
  have hbl := hbo.len
  refine ⟨_, _, _, _, rfl, ?_⟩
  intro J hJ
  have HJ : J g15 := by
    refine hJ g15 ((k17 hre (by omega)).mono ?_)
    rintro v g17 m17 ⟨xa, xc, rfl, hm⟩
    have le17 : Le g12 g17 := (le1214.trans m15.le).trans m17.le
    have zz : g.w.heap.size ≤ g15.w.heap.size := Nat.le_trans le014.size m15.size
    refine ⟨_, _, _, rfl, blkOf xa, fun b hb hh => absurd (hm.ge hh) (by omega), CallsG.mono (froz_call (F := fun n' xs => n' ≤ rn ∧ xs = keepS (· ∈ sortS (bindsT d)) (sortS (freeT t []))) (CallsG.mono (k16 18 #[.pointer (some ⟨g12.w.heap.size, 0, none⟩)] (· ∈ sortS (bindsT d)) hm (by omega) ⟨_, Tryz.func18, by kernel_rfl, by kernel_rfl⟩ (fun g' le s _ => k18 ((hlive.mono (m15.le.trans m17.le)).mono le) (hbo.mono (le17.trans le)) (by omega) s)) (fun v g' _ ⟨n', e, hn', hm'⟩ => ⟨n', _, _, e, ⟨hn', rfl⟩, hm'⟩))) ?_⟩
    rintro v g18 s18 ⟨n', xs, rfl, ⟨hn', rfl⟩, hks⟩
    have le18 : Le g12 g18 := le17.trans s18.le
    refine ⟨_, _, _, rfl, fun g19 n19 => ?_⟩
    have hown19 := (how.mono (m12.le.trans le18)).exm n19.ex
    have hks19 := hks.exm n19.ex
    have hS : Sl g19 1 (some ⟨g18.w.heap.size, 0, none⟩) 2 2 [.slice oa on oc, .slice xa n' xc] := n19.sl rfl (by unfold maxLen; omega)
    have c15 := own_calls (Q := fun _ n2 _ zs => n2 = on + n' ∧ zs = sortS (freeT d []) ++ keepS (· ∈ sortS (bindsT d)) (sortS (freeT t []))) ((k15 _ _ hS hown19 hks19 (by omega)).mono (by
      rintro v g' _ ⟨a2, c2, rfl, ho⟩
      exact ⟨a2, _, c2, _, rfl, ⟨rfl, rfl⟩, ho⟩))
    refine c15.mono ?_
    rintro v g20 m20 ⟨wa, wn, wc, ws, rfl, ⟨rfl, rfl⟩, hmw⟩
    have z20 : g.w.heap.size ≤ g19.w.heap.size := Nat.le_trans (Nat.le_trans m012.size le18.size) n19.ex.size
    refine ⟨_, _, _, rfl, blkOf wa, fun b hb hh => absurd (hmw.ge hh) (by omega), CallsG.mono (k20 hmw (by omega)) ?_⟩
    rintro v g21 s21 ⟨rfl, hm21⟩
    refine ⟨rfl, blkOf wa, fun b hb hh => absurd (hmw.ge hh) (by omega), CallsG.mono (froz_call (F := fun _ xs => xs = sortS (freeT lt [])) (CallsG.mono (k22 hm21 (by omega)) (fun v g' _ ⟨e, hm'⟩ => ⟨_, _, _, e, by rw [compact_sorted, hlt, let_free hop], hm'⟩))) ?_⟩
    rintro v g22 s22 ⟨n22, xs, rfl, rfl, hfin⟩
    have lefin : Le g9 g22 := (((m11.trans m12).le.trans le18).trans (n19.ex.trans m20).le).trans (s21.le.trans s22.le)
    rw [← hlt] at hfl
    refine ⟨_, _, _, rfl, (kk21 _ _ (hfl.mono lefin) hfin).mono ?_⟩
    rintro v g23 _ rfl
    exact ⟨_, rfl, fun g24 _ => (vT rfl).symm⟩
  exact ifNe (fun hh => absurd rfl hh) (fun _ => ifNe (fun hh => absurd rfl hh) (fun _ => ifNe (fun hh => absurd rfl hh) (fun _ => HJ)))
end Go.Proofs.YtkocjbgdmocmlaaGreatDoor
