/- Joined texts. -/
import Derived.Test.YthlcdgpemjdgnaaC45B
import Derived.Test.YthlcdgpemjdgnaaLcount
/- Closure: law 4. -/
set_option linter.unusedVariables false
namespace Go.Proofs.Ythlcdgpemjdgnaa
open Go Go.Vc Go.RowKit Go.Syn Go.Lam Go.Sort

theorem k28 (n lo hi : Int) (g : G) : CallsP Try.prog 28 #[.int .i64 n, .int .i64 lo, .int .i64 hi] g fun v _ => v = .bool (tf (lo ≤ n ∧ n ≤ hi)) := by
  refine call28 _ _ _ g _ ?_
  unfold F28
  refine ifLe (fun q g1 _ => ?_) (fun q g2 _ => vF (fun h => by omega))
  show Value.bool (leI n hi) = _
  rw [tf_le]
  exact vP ⟨fun h => ⟨q, h⟩, fun h => h.2⟩
theorem k28t {n lo hi : Int} (h : lo ≤ n ∧ n ≤ hi) (g : G) : CallsP Try.prog 28 #[.int .i64 n, .int .i64 lo, .int .i64 hi] g fun v _ => v = .bool true := by
  have := k28 n lo hi g
  rw [tf_of h] at this
  exact this
theorem k67 (n : Int) (g : G) : CallsP Try.prog 67 #[.int .i64 n] g fun v _ => v = .int .i64 ((arityR n : Nat) : Int) := by
  refine call67 _ g _ ?_
  unfold F67
  intro J hJ
  unfold arityR arityN
  refine ifEq (fun e g5 _ => by rw [if_pos (by omega), if_pos (by omega)]; rfl) (fun e6 => ifEq (fun e g6 _ => by rw [if_pos (by omega), if_pos (by omega)]; rfl) (fun e11 => ifEq (fun e g7 _ => by rw [if_pos (by omega), if_pos (by omega)]; rfl) (fun e13 => ifEq (fun e g8 _ => by rw [if_pos (by omega), if_pos (by omega)]; rfl) (fun e14 => hJ g ?_))))
  exact ifLt (fun q g2 _ => by show _ = Value.int .i64 ((arityR n : Nat) : Int); unfold arityR; rw [if_neg (by omega)]; rfl) (fun q => ifLt (fun q2 g3 _ => by show _ = Value.int .i64 ((arityR n : Nat) : Int); unfold arityR; rw [if_neg (by omega)]; rfl) (fun q2 g4 _ => by show _ = Value.int .i64 ((arityR n : Nat) : Int); unfold arityR arityN; rw [if_pos (by omega), if_neg (by omega)]; rfl))
/-- Functions. -/
theorem k13 (x : E) : ∀ {fixed : Bool} {a : Option Addr} {n c : Nat} {g : G}, sizeE x ≤ 1000 → SlE expE g a n c x.kids →
    CallsP Try.prog 13 #[expV x a n c, .bool fixed] g fun v g' => ∃ oa on oc, v = .slice oa on oc ∧ SlE expE g' oa on oc (funs fixed x) := by
  induction x using Tr.ind with
  | h d l ih =>
    intro fixed a n c g hs hI
    refine call13 _ _ _ _ _ _ _ g _ ?_
    have hI' : SlE expE g a n c l := hI
    have hl : l.length = n := hI'.len
    have hsz : sizeE (.mk d l) = sizeEL l + 1 := rfl
    have hll := sizeEL_len l
    unfold F13
    intro J hJ J1 hJ1
    have loop : ∀ oa on oc g1 (pre : List E), Le g g1 → OwnE expE g1 g.w.heap.size 24 oa on oc pre → pre = (if d.op = 10 ∨ (d.op = 4 ∧ fixed = false) then [.mk d l] else []) → pre.length ≤ 1 → J oa on oc g1 := by
      intro oa on oc g1 pre le1 ho hpre hp1
      refine hJ oa on oc g1 ⟨fun m oa on oc i g' => ∃ j : Nat, i = ((j : Nat) : Int) ∧ j + m = n ∧ OwnE expE g' g.w.heap.size 24 oa on oc (pre ++ funsL (decide (d.op = 10)) (l.take j)), ⟨n, 0, rfl, by omega, by simpa [funsL] using ho⟩, ?_⟩
      clear ho
      rintro m oa on oc i g2 le2 ⟨j, rfl, hj, ho⟩
      have hlen := ho.len
      refine ifLt (fun q => ⟨⟨by omega, by omega⟩, ?_⟩) (fun q g6 m6 => ?_)
      · have gj := List.getElem?_eq_getElem (show j < l.length by omega)
        generalize l[j] = y at gj
        have hy := List.mem_of_getElem? gj
        have hsm := sizeE_mem hy
        have htk := funsL_take (decide (d.op = 10)) gj
        refine rdE ((hI'.mono le1).mono le2) j rfl gj (fun ka kn kc hk g3 m3 => (ih y hy (fixed := eqI d.op 10) (by omega) (hk.exm m3)).mono ?_)
        rintro v g4 m4 ⟨ya, yn, yc, rfl, hY⟩
        have hyl := hY.len
        have hf1 := funs_len y (eqI d.op 10)
        have hbnd : (pre ++ funsL (decide (d.op = 10)) (l.take j)).length ≤ 1 + sizeEL l := by
          have key : ∀ (c : Bool) (r : List E), (funsL c r).length ≤ sizeEL r := by
            intro c r
            induction r with
            | nil => simp [funsL, sizeEL]
            | cons t r ihr =>
              have h1 := funs_len t c
              simp only [funsL, sizeEL, List.length_append]
              omega
          have h1 := key (decide (d.op = 10)) (l.take j)
          have h2 := sizeEL_le l j
          rw [List.length_append]
          omega
        have h4 : OwnE expE g4 g.w.heap.size 24 oa on oc (pre ++ funsL (decide (d.op = 10)) (l.take j)) := (ho.exm m3).exm m4
        obtain ⟨a', c', w', hr, g5, hw, hst, ho5, _, _⟩ := OwnE.app (P := Try.prog) E22 22 (Nat.le_trans (Nat.le_trans le1.size le2.size) (m3.trans m4).size) h4 hY (by omega) (by unfold maxLen; omega)
        refine ⟨_, _, _, rfl, a', _, c', w', hr, g5, hw, hst, i64 (by omega) (by omega), m - 1, by omega, j + 1, by omega, by omega, ?_⟩
        rw [htk, ← List.append_assoc]
        have e : eqI d.op 10 = decide (d.op = 10) := by by_cases h : d.op = 10 <;> simp [h]
        rw [e] at ho5
        exact ho5
      · rw [List.take_of_length_le (by omega)] at ho
        refine ⟨oa, on, oc, rfl, ?_⟩
        rw [funs, ← hpre]
        exact ho.sl.exm m6
    clear hJ
    have go : ∀ b g7, Ex g g7 → (b = true ↔ (d.op = 10 ∨ (d.op = 4 ∧ fixed = false))) → J1 b g7 := by
      intro b g7 m7 hb
      refine hJ1 b g7 (ifT (fun h g8 n8 => ?_) (fun h => loop none 0 0 g7 [] m7.le (OwnE.nil _ _ _) (by rw [if_neg (fun q => by rw [hb.2 q] at h; cases h)]) (by simp)))
      have hrow : SlE expE g8 (some ⟨g7.w.heap.size, 0, none⟩) 1 1 [.mk d l] := new1 (t := .mk d l) (hI.exm m7) n8
      obtain ⟨a', c', w', hr, g9, hw, hst, ho9, _, _⟩ := OwnE.app (P := Try.prog) E22 22 (Nat.le_trans m7.size n8.ex.size) (OwnE.nil g8 g.w.heap.size 24) hrow (by omega) (by unfold maxLen; omega)
      exact ⟨a', _, c', w', hr, g9, hw, hst, loop _ _ _ g9 _ ((m7.trans n8.ex).le.trans hst.le) ho9 (by rw [if_pos (hb.1 h)]; rfl) (by simp)⟩
    refine ifEq (fun e g10 m10 => go _ g10 m10 (by simp; exact .inl e)) (fun e => ifEq (fun e4 g11 m11 => go _ g11 m11 ?_) (fun e4 g12 m12 => go _ g12 m12 ?_))
    · have e' : d.op ≠ 10 := e
      have e4' : d.op = 4 := e4
      simp [e4']
    · have e' : d.op ≠ 10 := e
      have e4' : d.op ≠ 4 := e4
      simp [e', e4']
/-- Captures. -/
theorem k14 {x : E} (hx : i64E x) (hv : validE x) (hop : x.dat.op = 4 ∨ x.dat.op = 10) {a : Option Addr} {n c : Nat} {g : G} (hI : SlE expE g a n c x.kids) :
    CallsP Try.prog 14 #[expV x a n c] g fun v _ => ∃ fa fc, v = .tuple ⟨[.slice fa (freeA x).length fc, .int .i64 0]⟩ := by
  refine call14 _ _ _ _ _ _ g _ ?_
  unfold F14
  refine fun g1 m1 => (kk17 hx (hI.exm m1)).mono ?_
  rintro v g2 m2 ⟨fa, fn, fc, fe, rfl, hFS⟩
  rcases hFS with ⟨_, rfl, F, hF, hA⟩ | ⟨h, _⟩
  rotate_left
  · exact absurd hv h
  have e : F = freeA x := ascF_unique hA ⟨asc_freeA x, fun s => mem_freeA⟩
  subst e
  have hl := hF.len
  subst hl
  exact ⟨_, _, _, _, rfl, ifNe (fun h => absurd rfl h) (fun _ => ifNe (fun h4 => ifNe (fun h10 => absurd hop (by omega)) (fun _ g5 _ => ⟨_, _, rfl⟩)) (fun _ g6 _ => ⟨_, _, rfl⟩))⟩
/-- locals. -/
theorem k29 (x : E) : ∀ {k : Nat} {a : Option Addr} {n c : Nat} {g : G}, k + depthE x ≤ 1000000 → SlE expE g a n c x.kids →
    CallsP Try.prog 29 #[expV x a n c, .int .i64 ((k : Nat) : Int)] g fun v _ => ∃ r : Nat, v = .int .i64 ((r : Nat) : Int) ∧ k ≤ r ∧ r + 1 ≤ k + depthE x := by
  induction x using Tr.ind with
  | h d l ih =>
    intro k a n c g hk hI
    refine call29 _ _ _ _ _ _ _ g _ ?_
    have hI' : SlE expE g a n c l := hI
    have hl : l.length = n := hI'.len
    have hcap := hI'.cap
    have hle := hI'.le
    unfold maxLen at hcap
    have hdp : depthE (.mk d l) = depthEL l + 1 := rfl
    unfold F29
    refine ⟨fun m most i g' => ∃ j r : Nat, i = ((j : Nat) : Int) ∧ j + m = n ∧ most = ((r : Nat) : Int) ∧ k ≤ r ∧ r ≤ k + depthEL l, fun g1 m1 => ⟨n, 0, k, rfl, by omega, rfl, by omega, by omega⟩, ?_⟩
    rintro m most i g2 le ⟨j, r, rfl, hj, rfl, hr1, hr2⟩
    refine ifLt (fun q => ⟨⟨by omega, by omega⟩, ?_⟩) (fun q g7 _ => ⟨r, rfl, hr1, by omega⟩)
    have gj := List.getElem?_eq_getElem (show j < l.length by omega)
    generalize l[j] = y at gj
    have hy := List.mem_of_getElem? gj
    have hdm := depthE_mem hy
    refine rdE (hI'.mono le) j rfl gj (fun ka kn kc hk' g3 m3 => (k35 d.op j g3).mono ?_)
    rintro v g4 m4 rfl
    have fin : ∀ (u : Nat) (g5 : G), k ≤ u → u ≤ k + depthEL l → ∃ m_1 : Nat, m_1 < m ∧ ∃ j' r' : Nat, ((j : Nat) : Int) + 1 = ((j' : Nat) : Int) ∧ j' + m_1 = n ∧ maxI ((r : Nat) : Int) ((u : Nat) : Int) = ((r' : Nat) : Int) ∧ k ≤ r' ∧ r' ≤ k + depthEL l := by
      intro u g5 h1 h2
      refine ⟨m - 1, by omega, j + 1, max r u, by omega, by omega, ?_, by omega, by omega⟩
      unfold maxI
      split <;> omega
    refine ⟨_, rfl, ifP (fun _ => ⟨i64 (by omega) (by omega), ?_⟩) (fun _ => ?_)⟩
    · rw [show ((k : Nat) : Int) + 1 = ((k + 1 : Nat) : Int) by omega]
      refine (ih y hy (k := k + 1) (by omega) ((hk'.exm m3).exm m4)).mono ?_
      rintro v g5 _ ⟨u, rfl, u1, u2⟩
      exact ⟨_, rfl, i64 (by omega) (by omega), fin u g5 (by omega) (by omega)⟩
    · refine (ih y hy (k := k) (by omega) ((hk'.exm m3).exm m4)).mono ?_
      rintro v g5 _ ⟨u, rfl, u1, u2⟩
      exact ⟨_, rfl, i64 (by omega) (by omega), fin u g5 (by omega) (by omega)⟩
end Go.Proofs.Ythlcdgpemjdgnaa
/- Closure: the check of a body; law 4. -/
set_option linter.unusedVariables false
namespace Go.Proofs.Ythlcdgpemjdgnaa
open Go Go.Vc Go.RowKit Go.Syn Go.Lam Go.Sort

theorem zero3 (w : World) : (zeroValue 3).run Try.prog w = .ok (.int .i64 0) w := by kernel_rfl
/-- The map of the functions that were met. -/
structure Met (g : G) (cs : List Int) (pb b cnt : Nat) : Prop where
  ptr : Live g ⟨pb, 0, none⟩ (.map (some b))
  map : ∃ f, MapI Try.prog g 3 b cnt f ∧ ∀ s v, f s = some v → ∃ c : Int, v = .int .i64 c ∧ cs[s.toNat]? = some c
theorem Met.ex {g g' : G} {cs : List Int} {pb b cnt : Nat} (h : Met g cs pb b cnt) (m : Ex g g') : Met g' cs pb b cnt := by
  obtain ⟨h1, f, h2, h3⟩ := h
  exact ⟨h1.ex m, f, h2.ex m, h3⟩
theorem Met.up {g : G} {cs : List Int} {pb b cnt cnt' : Nat} (h : Met g cs pb b cnt) (hc : cnt ≤ cnt') : Met g cs pb b cnt' := by
  obtain ⟨h1, f, h2, h3⟩ := h
  exact ⟨h1, f, h2.mono hc, h3⟩
theorem k27 {cs : List Int} {pb b cnt : Nat} {n : Int} {parts : Nat} (h0 : 0 ≤ n ∧ n ≤ 4095) (hc : cs[n.toNat]? = some ((parts : Nat) : Int)) (hcnt : cnt ≤ 1000000) {g : G} (h : Met g cs pb b cnt) :
    CallsG Try.prog 27 #[.int .i64 n, .int .i64 ((parts : Nat) : Int), .pointer (some ⟨pb, 0, none⟩)] g (fun z => z = b) fun v g' => v = .bool true ∧ Met g' cs pb b (cnt + 1) := by
  refine call27 _ _ _ g _ _ ?_
  obtain ⟨hp, f, hm, hf⟩ := h
  unfold F27
  have hwf : (Lit.int .i64 n).wf = true := by
    simp only [Lit.wf, Bool.and_eq_true, IntKind.min, IntKind.max, IntKind.signed, IntKind.bits]
    simp
    omega
  have hl := hm.lookOk Try.underlying3 Try.underlying58 (zero3 g.w) n hwf
  have hmax : (1000000 : Nat) < maxLen := by unfold maxLen; omega
  obtain ⟨w', hrun, g2, hw, hst, hm2⟩ := hm.putM (t := 58) (e := 3) Try.underlying3 Try.underlying58 (by omega) n hwf (.int .i64 ((parts : Nat) : Int))
  have met : Met g2 cs pb b (cnt + 1) := by
    refine ⟨hp.mono (hst 0).le, _, hm2, fun s v hs => ?_⟩
    by_cases e : s = n
    · subst e
      rw [updI_same] at hs
      cases hs
      exact ⟨_, rfl, hc⟩
    · rw [updI_other _ _ e] at hs
      exact hf s v hs
  refine ⟨some b, hp.1, ?_⟩
  cases hfn : f n with
  | none =>
    rw [hfn] at hl
    refine ⟨0, false, g.w, hl, g, rfl, Stp.refl _ _ _, some b, hp.1, w', hrun, g2, hw, hst _, (k28t h0 g2).mono ?_⟩
    rintro v g3 m3 rfl
    exact ⟨_, rfl, ifT (fun _ => ifT (fun _ g4 m4 => ⟨rfl, (met.ex m3).ex m4⟩) (fun h => by cases h)) (fun h => by cases h)⟩
  | some u =>
    obtain ⟨c, rfl, hc2⟩ := hf n u hfn
    rw [hc] at hc2
    cases hc2
    rw [hfn] at hl
    refine ⟨_, true, g.w, hl, g, rfl, Stp.refl _ _ _, some b, hp.1, w', hrun, g2, hw, hst _, (k28t h0 g2).mono ?_⟩
    rintro v g3 m3 rfl
    exact ⟨_, rfl, ifT (fun _ => ifF (fun h => by cases h) (fun _ g5 m5 => ⟨by simp, (met.ex m3).ex m5⟩)) (fun h => by cases h)⟩
structure Chk (g : G) (cs : List Int) (cap cb pb b cnt : Nat) : Prop where
  blk : MutB g cb 79 [.int .i64 ((cap : Nat) : Int), .func (.func 27) #[] #[.pointer (some ⟨pb, 0, none⟩)]]
  met : Met g cs pb b cnt
  ne : cb ≠ b
theorem Chk.ex {g g' : G} {cs : List Int} {cap cb pb b cnt : Nat} (h : Chk g cs cap cb pb b cnt) (m : Ex g g') : Chk g' cs cap cb pb b cnt := ⟨h.blk.ex m, h.met.ex m, h.ne⟩
theorem Chk.up {g : G} {cs : List Int} {cap cb pb b cnt cnt' : Nat} (h : Chk g cs cap cb pb b cnt) (hc : cnt ≤ cnt') : Chk g cs cap cb pb b cnt' := ⟨h.blk, h.met.up hc, h.ne⟩
/-- form. -/
theorem k54 {cs : List Int} {cap k cb pb b cnt : Nat} {d : ExpD} {l : List E} (hn : fnodeP cs cap k d l) (hk : k ≤ 1000000) (hcap : cap ≤ 1000000) (hcnt : cnt ≤ 1000000) {a : Option Addr} {n c : Nat} {g : G} (hl : l.length = n) (h : Chk g cs cap cb pb b cnt) :
    CallsG Try.prog 54 #[.pointer (some ⟨cb, 0, none⟩), .agg ⟨[.int .i64 d.op, .int .i64 d.n, .string (bstr d.s), .slice a n c]⟩, .int .i64 ((k : Nat) : Int)] g (fun z => z = b) fun v g' => v = .bool true ∧ Chk g' cs cap cb pb b (cnt + 1) := by
  refine call54 _ _ _ _ _ _ _ _ g _ _ ?_
  obtain ⟨hs, hn⟩ := hn
  subst hl
  unfold F54
  intro J hJ
  have hst : d.op ≠ 3 → strEq (bstr d.s) (bs []) = true := by
    intro h3
    rw [hs.resolve_left h3, strEq_true]
    rfl
  have fin : ∀ g', Ex g g' → Chk g' cs cap cb pb b (cnt + 1) := fun g' m => (h.ex m).up (by omega)
  have tt : ∀ (q : Prop) (g' : G), q → Ex g g' → (fun (v : Value) (g' : G) => v = .bool true ∧ Chk g' cs cap cb pb b (cnt + 1)) (.bool (tf q)) g' := fun q g' hq m => ⟨by rw [tf_of hq], fin g' m⟩
  have main : ∀ g1, Ex g g1 → J g1 := by
    intro g1 m1
    refine hJ g1 ?_
    refine ifEq (fun e => ifEq (fun _ => (k28t (by omega) g1).mono ?_) (fun q => by omega)) (fun e2 => ?_)
    · rintro v g2 m2 rfl
      exact ⟨_, rfl, fun g3 m3 => ⟨rfl, fin g3 ((m1.trans m2).trans m3)⟩⟩
    refine ifEq (fun e => ifEq (fun _ => ifEq (fun _ g5 m5 => tt _ g5 ?_ (m1.trans m5)) (fun q => by omega)) (fun q => by omega)) (fun e3 => ?_)
    · have : (bstr d.s).size = d.s.length := bstr_size _
      omega
    refine ifEq (fun e => ifEq (fun _ g8 m8 => tt _ g8 (by omega) (m1.trans m8)) (fun q => by omega)) (fun e6 => ?_)
    intro J1 hJ1
    have key1 : ∀ b1, (b1 = true ↔ (d.op = 7 ∨ d.op = 8)) → J1 b1 g1 := by
      intro b1 hb
      refine hJ1 b1 g1 (ifT (fun q => ifEq (fun _ => (k28t (by have := hb.1 q; omega) g1).mono ?_) (fun q2 => by have := hb.1 q; omega)) (fun q => ?_))
      · rintro v g11 m11 rfl
        exact ⟨_, rfl, fun g12 m12 => ⟨rfl, fin g12 ((m1.trans m11).trans m12)⟩⟩
      have e78 : ¬ (d.op = 7 ∨ d.op = 8) := fun h => by rw [hb.2 h] at q; cases q
      refine ifEq (fun e => ifEq (fun _ => (k28t (by omega) g1).mono ?_) (fun q => by omega)) (fun e9 => ?_)
      · rintro v g14 m14 rfl
        exact ⟨_, rfl, fun g15 m15 => ⟨rfl, fin g15 ((m1.trans m14).trans m15)⟩⟩
      intro J2 hJ2
      have key2 : ∀ b2, (b2 = true ↔ (d.op = 11 ∨ d.op = 25)) → J2 b2 g1 := by
        intro b2 hb2
        refine hJ2 b2 g1 (ifT (fun q => ifEq (fun _ g18 m18 => tt _ g18 (by have := hb2.1 q; omega) (m1.trans m18)) (fun q2 => by have := hb2.1 q; omega)) (fun q => ?_))
        have e1125 : ¬ (d.op = 11 ∨ d.op = 25) := fun h => by rw [hb2.2 h] at q; cases q
        refine ifEq (fun e12 => (k67 d.n g1).mono ?_) (fun e12 => ?_)
        · have hh : 1 ≤ d.n ∧ d.n ≤ 14 ∧ l.length = arityN d.n := by
            rcases hn with h | h | h | h | h | h | h | h | h | h | h | h
            · omega
            · omega
            · omega
            · omega
            · omega
            · omega
            · exact h.2
            · omega
            · omega
            · omega
            · omega
            · omega
          have ha : arityR d.n = arityN d.n := by unfold arityR; rw [if_pos ⟨hh.1, hh.2.1⟩]
          have hap := arityN_pos d.n
          rintro v g20 m20 rfl
          refine ⟨_, rfl, ifLt (fun _ => (k67 d.n g20).mono ?_) (fun q => by omega)⟩
          rintro v g21 m21 rfl
          exact ⟨_, rfl, fun g22 m22 => tt _ g22 (by omega) (((m1.trans m20).trans m21).trans m22)⟩
        refine ifEq (fun e13 => ifEq (fun _ => (k28t (by omega) g1).mono ?_) (fun q => by omega)) (fun e13 => ?_)
        · rintro v g24 m24 rfl
          exact ⟨_, rfl, fun g25 m25 => ⟨rfl, fin g25 ((m1.trans m24).trans m25)⟩⟩
        refine ifEq (fun e21 => ifEq (fun _ => ⟨i64 (by omega) (by omega), (k28t (by omega) g1).mono ?_⟩) (fun q => by omega)) (fun e21 => ?_)
        · rintro v g27 m27 rfl
          exact ⟨_, rfl, fun g28 m28 => ⟨rfl, fin g28 ((m1.trans m27).trans m28)⟩⟩
        refine ifEq (fun e22 => ifEq (fun _ g30 m30 => tt _ g30 (by omega) (m1.trans m30)) (fun q => by omega)) (fun e22 => ?_)
        refine ifEq (fun e23 g32 m32 => ifEq (fun _ => ⟨_, (h.ex (m1.trans m32)).blk.rd0 rfl, i64 (by omega) (by omega), (k28t (by omega) g32).mono ?_⟩) (fun q => by omega)) (fun e23 => ?_)
        · rintro v g33 m33 rfl
          exact ⟨_, rfl, fun g34 m34 => ⟨rfl, fin g34 (((m1.trans m32).trans m33).trans m34)⟩⟩
        refine ifEq (fun e24 g36 m36 => ?_) (fun e24 => by omega)
        have hh : l.length ≤ 1000 ∧ 0 ≤ d.n ∧ d.n ≤ 4095 ∧ cs[d.n.toNat]? = some ((l.length : Nat) : Int) := by
          rcases hn with h | h | h | h | h | h | h | h | h | h | h | h
          · omega
          · omega
          · omega
          · omega
          · omega
          · omega
          · omega
          · omega
          · omega
          · omega
          · omega
          · exact h.2
        refine ifLe (fun _ => ?_) (fun q => by omega)
        have h36 := h.ex (m1.trans m36)
        refine ⟨27, #[.pointer (some ⟨pb, 0, none⟩)], h36.blk.rd (j := 1) rfl, ⟨_, Try.func27, by kernel_rfl, by kernel_rfl⟩, fun z => z = b, fun _ _ h => h, (k27 ⟨hh.2.1, hh.2.2.1⟩ hh.2.2.2 hcnt h36.met).mono ?_⟩
        rintro v g37 hs37 ⟨rfl, hm37⟩
        have hbk : MutB g37 cb 79 _ := h36.blk.but (hs37.but (Nat.le_refl _)) h36.ne
        exact ⟨_, rfl, fun g38 m38 => ⟨rfl, (⟨hbk, hm37, h36.ne⟩ : Chk g37 cs cap cb pb b (cnt + 1)).ex m38⟩⟩
      exact ifEq (fun e => key2 true ⟨fun _ => .inl e, fun _ => rfl⟩) (fun e => key2 _ (by simp [show d.op ≠ 11 from e]))
    exact ifEq (fun e => key1 true ⟨fun _ => .inl e, fun _ => rfl⟩) (fun e => key1 _ (by simp [show d.op ≠ 7 from e]))
  exact ifNe (fun q => ifF (fun e => by rw [hst q] at e; cases e) (fun _ g42 m42 => main g42 m42)) (fun _ g43 m43 => main g43 m43)
/-- flat. -/
theorem k46 {cs : List Int} {cap cb pb b : Nat} (x : E) : ∀ {k cnt : Nat} {a : Option Addr} {n c : Nat} {g : G}, goodB cs cap k x → k + depthE x ≤ 1000000 → cap ≤ 1000000 → cnt + sizeE x ≤ 1000000 → SlE expE g a n c x.kids → Chk g cs cap cb pb b cnt →
    CallsG Try.prog 46 #[.pointer (some ⟨cb, 0, none⟩), expV x a n c, .int .i64 ((k : Nat) : Int)] g (fun z => z = b) fun v g' => v = .bool true ∧ Chk g' cs cap cb pb b (cnt + sizeE x) := by
  induction x using Tr.ind with
  | h d l ih =>
    intro k cnt a n c g hg hk hcap hcnt hI hC
    obtain ⟨hn, hgl⟩ := hg
    have hI' : SlE expE g a n c l := hI
    have hl : l.length = n := hI'.len
    have hsz : sizeE (.mk d l) = sizeEL l + 1 := rfl
    have hdp : depthE (.mk d l) = depthEL l + 1 := rfl
    have hll := sizeEL_len l
    refine call46 _ _ _ _ _ _ _ _ g _ _ ?_
    unfold F46
    refine fun g1 m1 => ⟨fun z => z = b, fun _ _ h => h, (k54 hn (by omega) hcap (by omega) hl (hC.ex m1)).mono ?_⟩
    rintro v g2 hs2 ⟨rfl, hC2⟩
    have le2 : Le g g2 := m1.le.trans hs2.le
    refine ⟨_, rfl, ifF (fun e => by cases e) (fun _ => ?_)⟩
    refine ⟨fun m i g' => ∃ j : Nat, i = ((j : Nat) : Int) ∧ j + m = n ∧ Chk g' cs cap cb pb b (cnt + 1 + sizeEL (l.take j)), ⟨n, 0, rfl, by omega, hC2.up (by omega)⟩, ?_⟩
    rintro m i g4 le4 ⟨j, rfl, hj, hC4⟩
    refine ifLt (fun q => ⟨⟨by omega, by omega⟩, ?_⟩) (fun q g11 m11 => ⟨rfl, ?_⟩)
    · have gj := List.getElem?_eq_getElem (show j < l.length by omega)
      generalize l[j] = y at gj
      have hy := List.mem_of_getElem? gj
      have htk := sizeEL_take gj
      have hle2 := sizeEL_le l (j + 1)
      have hdm := depthE_mem hy
      have hgy := goodBL_get hgl gj
      rw [Nat.zero_add] at hgy
      refine rdE ((hI'.mono le2).mono le4) j rfl gj (fun ka kn kc hk' g5 m5 => (k35 d.op j g5).mono ?_)
      rintro v g6 m6 rfl
      have hk6 := (hk'.exm m5).exm m6
      have hC6 := (hC4.ex m5).ex m6
      refine ⟨_, rfl, ifP (fun hf => ⟨i64 (by omega) (by omega), fun z => z = b, fun _ _ h => h, ?_⟩) (fun hf => ⟨fun z => z = b, fun _ _ h => h, ?_⟩)⟩
      · rw [if_pos hf] at hgy
        rw [show ((k : Nat) : Int) + 1 = ((k + 1 : Nat) : Int) by omega]
        refine (ih y hy (k := k + 1) hgy (by omega) hcap (by omega) hk6 hC6).mono ?_
        rintro v g7 _ ⟨rfl, hC7⟩
        exact ⟨_, rfl, ifF (fun e => by cases e) (fun _ => ⟨i64 (by omega) (by omega), m - 1, by omega, j + 1, by omega, by omega, hC7.up (by omega)⟩)⟩
      · rw [if_neg hf] at hgy
        refine (ih y hy (k := k) hgy (by omega) hcap (by omega) hk6 hC6).mono ?_
        rintro v g7 _ ⟨rfl, hC7⟩
        exact ⟨_, rfl, ifF (fun e => by cases e) (fun _ => ⟨i64 (by omega) (by omega), m - 1, by omega, j + 1, by omega, by omega, hC7.up (by omega)⟩)⟩
    · rw [List.take_of_length_le (by omega)] at hC4
      exact (hC4.ex m11).up (by omega)
/-- valid. -/
theorem k26 {cs : List Int} {f : FlatD} {cap pb b : Nat} (hcp : f.cap = ((cap : Nat) : Int)) (hcap : cap ≤ 1000) (hg : goodB cs cap 1 f.body) (hs : flatB 20000 400 f) {a : Option Addr} {n c : Nat} {g : G} (hI : SlE expE g a n c f.body.kids) (hM : Met g cs pb b 0) :
    CallsG Try.prog 26 #[flatV f a n c, .func (.func 27) #[] #[.pointer (some ⟨pb, 0, none⟩)]] g (fun z => z = b) fun v g' => v = .bool true := by
  refine call26 _ _ _ _ _ _ _ _ _ g _ _ ?_
  obtain ⟨fc, fb⟩ := f
  have hcp : fc = ((cap : Nat) : Int) := hcp
  subst hcp
  unfold F26
  intro g1 m1 g2 n2
  obtain ⟨f0, hm0, _⟩ := hM.map
  have hlt := hm0.lt
  have hb2 := n2.mut
  have hC2 : Chk g2 cs cap g1.w.heap.size pb b 0 := ⟨hb2, hM.ex (m1.trans n2.ex), by have := m1.size; omega⟩
  have hI2 := hI.exm (m1.trans n2.ex)
  refine (k28t (by show (0 : Int) ≤ ((cap : Nat) : Int) ∧ _; omega) g2).mono ?_
  rintro v g3 m3 rfl
  refine ⟨_, rfl, ifT (fun _ => (k21 hs (hI2.exm m3)).mono ?_) (fun h => by cases h)⟩
  rintro v g4 m4 rfl
  have h1 := hs.1
  have h2 := hs.2
  refine ⟨_, rfl, ifT (fun _ => ⟨fun z => z = b, fun _ _ h => h, (k46 fb (k := 1) hg (by simp only at h2; omega) (by omega) (by simp only at h1; omega) ((hI2.exm m3).exm m4) ((hC2.ex m3).ex m4)).mono ?_⟩) (fun h => by cases h)⟩
  rintro v g5 _ ⟨rfl, _⟩
  exact ⟨_, rfl, fun g6 _ => rfl⟩
/-- Locals. -/
theorem k15 {cs : List Int} {f : FlatD} {cap : Nat} (hcp : f.cap = ((cap : Nat) : Int)) (hcap : cap ≤ 1000) (hg : goodB cs cap 1 f.body) (hs : flatB 20000 400 f) {a : Option Addr} {n c : Nat} {g : G} (hI : SlE expE g a n c f.body.kids) :
    CallsP Try.prog 15 #[flatV f a n c] g fun v _ => ∃ r : Nat, v = .tuple ⟨[.int .i64 ((r : Nat) : Int), .int .i64 0]⟩ ∧ 1 ≤ r ∧ r ≤ depthE f.body := by
  refine call15 _ _ _ _ _ _ _ g _ ?_
  unfold F15
  intro g1 m1 g2 n2 g3 n3
  have hb3 := n3.mut
  have hz2 : g.w.heap.size ≤ g2.w.heap.size := Nat.le_trans m1.size n2.ex.size
  refine ⟨hb3.ok0 (by simp), hb3.nx, hb3.mut0 1, fun h => absurd h (by show ¬ g2.w.heap.size < _; omega), fun g4 s4 => ?_⟩
  obtain ⟨hp4, hbut⟩ := hb3.pub1 s4
  have hm2 := MapI.new n2 Try.prog 3
  have hlt := hm2.lt
  have hne : g1.w.heap.size ≠ g2.w.heap.size := by omega
  have hM : Met g4 cs g2.w.heap.size g1.w.heap.size 0 := ⟨hp4, _, (hm2.ex n3.ex).but hbut hne, fun s v h => by cases h⟩
  have hle4 : Le g3 g4 := hbut.le (by rintro b rfl i; exact hb3.d i)
  have hI4 : SlE expE g4 a n c f.body.kids := ((((hI.exm m1).exm n2.ex).exm n3.ex)).mono hle4
  refine ⟨fun z => z = g1.w.heap.size, fun b hb h => absurd h (by have := m1.size; omega), (k26 hcp hcap hg hs hI4 hM).mono ?_⟩
  rintro v g5 hs5 rfl
  have h2 := hs.2
  refine ⟨_, rfl, ifF (fun e => by cases e) (fun _ => (k29 f.body (k := 1) (by omega) (hI4.mono hs5.le)).mono ?_)⟩
  rintro v g7 _ ⟨r, rfl, r1, r2⟩
  exact ⟨_, rfl, fun g8 _ => ⟨r, rfl, r1, by omega⟩⟩
end Go.Proofs.Ythlcdgpemjdgnaa
/- Closure: law 4. -/
set_option linter.unusedVariables false
namespace Go.Proofs.Ythlcdgpemjdgnaa
open Go Go.Vc Go.RowKit Go.Syn Go.Lam Go.Sort

theorem depth_size (x : E) : depthE x ≤ sizeE x := by
  induction x using Tr.ind with
  | h d l ih =>
    have key : ∀ r : List E, (∀ y ∈ r, depthE y ≤ sizeE y) → depthEL r ≤ sizeEL r := by
      intro r
      induction r with
      | nil => intro _; simp [depthEL]
      | cons z r ihr =>
        intro h
        have h1 := h z (by simp)
        have h2 := ihr (fun y hy => h y (by simp [hy]))
        simp only [depthEL, sizeEL]
        omega
    have := key l ih
    simp only [depthE, sizeE]
    omega
theorem convF_in {x : E} (hx : formE x) : ∀ f ∈ convF x, flatB (sizeE x) (depthE x) f := by
  have hp := sizeE_pos x
  have hdp := depth_pos x
  have h := cv_bound (S := sizeE x) (D := depthE x) 400 x [] 1 [f0] hx (Nat.le_refl _) (Nat.le_refl _) (by simp) (fun f hf => by
    have : f = f0 := by simpa using hf
    rw [this]
    exact ⟨by show 1 ≤ sizeE x; omega, by show 1 ≤ depthE x; omega⟩)
  intro f hf
  rcases mem_setBody hf with h1 | ⟨g, hg, rfl⟩
  · exact h.all f h1
  · exact ⟨h.size, h.depth⟩
/-- Law 4. -/
theorem law4 {x : E} (hx : i64E x) {a : Option Addr} {n c : Nat} {g : G} (hX : SlE expE g a n c x.kids) : CallsP Try.prog 4 #[expV x a n c] g fun v _ => v = .bool true := by
  refine call4 _ _ _ _ _ _ g _ ?_
  unfold F4
  intro J hJ g19 m19
  have sl : ∀ g', CallsP Try.prog 5 #[] g' fun v g21 => ∃ x_3 : Bool, v = (.bool x_3) ∧ ∀ g22 : G, Ex g21 g22 → (fun (v : Value) (_ : G) => v = .bool true) (.bool x_3) g22 := by
    intro g'
    refine (k5 g').mono ?_
    rintro v g2 _ rfl
    exact ⟨_, rfl, fun _ _ => rfl⟩
  refine (k5 g19).mono ?_
  rintro v g20 m20 rfl
  refine ⟨_, rfl, ifF (fun e => by cases e) (fun _ => (k12 x (most := 200) (depth := 1) (by omega) (by omega) (by omega) (hX.exm (m19.trans m20))).mono ?_)⟩
  rintro v g23 m23 ⟨r, rfl, r1, r2, r3⟩
  have m023 := (m19.trans m20).trans m23
  refine ⟨_, rfl, ifLe (fun _ => sl g23) (fun q => (kk8 hx (hX.exm m023)).mono ?_)⟩
  obtain ⟨r4, r5⟩ := r3 q
  rintro v g26 m26 rfl
  have m026 := m023.trans m26
  refine ⟨_, rfl, ifPn (fun _ => sl g26) (fun hv => (kk9 hx hv (hX.exm m026)).mono ?_)⟩
  rintro v g29 m29 ⟨fa, fn, fc, F, rfl, hF, hA⟩
  have hFl := hF.len
  have h0 := asc_nil hA
  have m029 := m026.trans m29
  refine ⟨_, _, _, rfl, ifLt (fun _ => sl g29) (fun qn => hJ g29 ?_)⟩
  clear hJ
  have hsc : scopedE 0 x := h0.1 (List.eq_nil_of_length_eq_zero (by omega))
  have e : convA x = (convF x, 0) := by unfold convA; rw [if_pos ⟨hv, hsc⟩]
  have hds := depth_size x
  obtain ⟨hcaps, hgood⟩ := conv_good hv.1 hv.2.2 (by omega) hsc
  have hcaps : capsF (convF x) = 0 :: capsX (funs false x) := hcaps
  have hgood : ∀ (i : Nat) (f : FlatD), (convF x)[i]? = some f → ∃ c : Nat, f.cap = ((c : Nat) : Int) ∧ goodB (0 :: capsX (funs false x)) c 1 f.body := hgood
  have hcl : (convF x).length = (funs false x).length + 1 := by
    have := congrArg List.length hcaps
    simpa using this
  refine (k7 hx (by omega) (hX.exm m029)).mono ?_
  rintro v g2 m2 ⟨ca, cn, cc, rfl, hC⟩
  rw [e] at hC ⊢
  have hCl := hC.len
  have hC : SlE flatE g2 ca cn cc (convF x) := hC
  have hCl : (convF x).length = cn := hCl
  have hCc := hC.cap
  have hCe := hC.le
  unfold maxLen at hCc
  refine ⟨_, _, _, _, _, rfl, (k13 x (fixed := false) (by omega) (hX.exm (m029.trans m2))).mono ?_⟩
  rintro v g3 m3 ⟨ua, un, uc, rfl, hU⟩
  have hUl := hU.len
  have hC3 := hC.exm m3
  refine ⟨_, _, _, rfl, ?_⟩
  intro J1 hJ1
  have start : J1 g3 := by
    refine hJ1 g3 ⟨fun m i g' => ∃ j : Nat, i = ((j : Nat) : Int) ∧ j + m = un, ⟨un, 0, rfl, by omega⟩, ?_⟩
    rintro m i g5 le5 ⟨j, rfl, hj⟩
    refine ifLt (fun q5 => ?_) (fun q5 g15 _ => rfl)
    intro J2 hJ2
    have gy := List.getElem?_eq_getElem (show j < (funs false x).length by omega)
    generalize (funs false x)[j] = y at gy
    have gf := List.getElem?_eq_getElem (show j + 1 < (convF x).length by omega)
    generalize (convF x)[j + 1] = f at gf
    have hy := List.mem_of_getElem? gy
    have hfm := List.mem_of_getElem? gf
    obtain ⟨⟨y1, y2, y3, y4⟩, y5⟩ := mem_funs_of (P := fun t => i64E t ∧ formE t ∧ sizeE t ≤ sizeE x ∧ depthE t ≤ depthE x) (fun d l h t ht => ⟨(i64E_un h.1).2 t ht, (formE_un h.2.1).2 t ht, by have := sizeE_mem ht; have e2 : sizeE (.mk d l) = sizeEL l + 1 := rfl; omega, by have := depthE_mem ht; have e2 : depthE (.mk d l) = depthEL l + 1 := rfl; omega⟩) x ⟨hx, hv.1, Nat.le_refl _, Nat.le_refl _⟩ hy
    have hfr : (freeA y).length + 1 ≤ sizeE y := by
      have h1 := len_freeA y
      have h2 := frees_kids (x := y) (by omega)
      omega
    have hfc : f.cap = (((freeA y).length : Nat) : Int) := by
      have h1 : (capsF (convF x))[j + 1]? = some f.cap := by rw [List.getElem?_map, gf]; rfl
      rw [hcaps, List.getElem?_cons_succ, List.getElem?_map, gy] at h1
      exact (Option.some.inj h1).symm
    obtain ⟨cp, hcp, hgd⟩ := hgood (j + 1) f gf
    have hcpe : cp = (freeA y).length := by omega
    have hfd := (convF_in hv.1 f hfm).2
    have hfs := convF_small hv.1 hv.2.1 hv.2.2 f hfm
    refine ⟨⟨by omega, by omega⟩, rdE (hU.mono le5) j rfl gy (fun ka kn kc hk g7 m7 => (k14 y1 ⟨y2, by have := hv.2.1; omega, by have := hv.2.2; omega⟩ y5 (hk.exm m7)).mono ?_)⟩
    rintro v g8 m8 ⟨ra, rc, rfl⟩
    have hC8 := ((hC3.mono le5).exm m7).exm m8
    refine ⟨_, _, _, _, rfl, i64 (by omega) (by omega), ⟨by omega, by omega⟩, rdFl (i := ((j : Nat) : Int) + 1) hC8 (j + 1) (by omega) gf (fun ad pa pn pc hp hl => ⟨_, _, _, _, _, _, _, (live0 (hl 0 _ rfl)).1, (hl 1 _ rfl).1, (hl 2 _ rfl).1, (hl 3 _ rfl).1, (hl 4 _ rfl).1, (k15 hcp (by omega) hgd hfs hp).mono ?_⟩)⟩
    rintro v g9 m9 ⟨r, rfl, s1, s2⟩
    refine ⟨_, _, rfl, ifNe (fun h => absurd rfl h) (fun _ => ifNe (fun h => absurd rfl h) (fun _ => ⟨i64 (by omega) (by omega), ⟨by omega, by omega⟩, rdFl (i := ((j : Nat) : Int) + 1) (hC8.exm m9) (j + 1) (by omega) gf (fun ad2 pa2 pn2 pc2 hp2 hl2 => ⟨_, (live0 (hl2 0 _ rfl)).1, ifNe (fun h => absurd hfc h) (fun _ => ifLt (fun h => by omega) (fun _ => ifLt (fun h => by omega) (fun _ => hJ2 g9 ⟨i64 (by omega) (by omega), m - 1, by omega, j + 1, by omega, by omega⟩)))⟩)⟩))⟩
  clear hJ1
  have gf := List.getElem?_eq_getElem (show 0 < (convF x).length by omega)
  generalize (convF x)[0] = f at gf
  have hfc : f.cap = 0 := by
    have h1 : (capsF (convF x))[0]? = some f.cap := by rw [List.getElem?_map, gf]; rfl
    rw [hcaps] at h1
    exact (Option.some.inj h1).symm
  exact ifNe (fun h => absurd rfl h) (fun _ => ⟨i64 (by omega) (by omega), ifNe (fun h => absurd (by omega) h) (fun _ => ⟨⟨by omega, by omega⟩, rdFl (i := 0) hC3 0 rfl gf (fun ad pa pn pc hp hl => ⟨_, (live0 (hl 0 _ rfl)).1, ifNe (fun h => absurd hfc h) (fun _ => start)⟩)⟩)⟩)
end Go.Proofs.Ythlcdgpemjdgnaa
