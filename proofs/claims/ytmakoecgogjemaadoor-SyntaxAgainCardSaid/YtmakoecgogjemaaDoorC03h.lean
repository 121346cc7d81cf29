/- Syntax trees: size, depth, equality; and that a tree is small. -/
import Derived.Test.YtmakoecgogjemaaDoorC03g
set_option linter.unusedVariables false
namespace Go.Proofs.YtmakoecgogjemaaDoor
open Go Go.Vc Go.RowKit Go.Syn

theorem maxI_nat (a b : Nat) : maxI ((a : Nat) : Int) ((b : Nat) : Int) = ((max a b : Nat) : Int) := by
  simp only [maxI]
  split <;> omega
/-- Size. -/
theorem k17 : ∀ (t : Sy), size t ≤ 1048576 → ∀ {na : Option Addr} {nn nc : Nat} {a : Option Addr} {n c : Nat} {g : G}, SynI g t na nn nc a n c → CallsP Tryd.prog 17 #[synV t na nn nc a n c] g fun v _ => v = .int .i64 ((size t : Nat) : Int) := by
  intro t
  induction t using Tr.ind with
  | h d l ih =>
    intro hs na nn nc a n c g h
    refine call17 _ _ _ _ _ _ _ _ _ g _ ?_
    have hl : l.length = n := h.kids.len
    have hc := h.kids.le
    have hm := h.kids.cap
    unfold maxLen at hm
    have hse : size (.mk d l) = sizeL l + 1 := rfl
    unfold F17
    refine ⟨fun m x i g' => ∃ j : Nat, i = ((j : Nat) : Int) ∧ x = ((1 + sizeL (l.take j) : Nat) : Int) ∧ j + m = n, fun g1 _ => ⟨n, 0, rfl, by simp [sizeL], by omega⟩, ?_⟩
    rintro m x i g2 le ⟨j, rfl, rfl, hj⟩
    refine ifLt (fun hlt => ⟨⟨by omega, by omega⟩, ?_⟩) (fun hge g5 _ => ?_)
    · have gj := List.getElem?_eq_getElem (show j < l.length by omega)
      generalize l[j] = y at gj
      have hin := List.mem_of_getElem? gj
      have hsy := size_mem hin
      have htk := sizeL_take gj
      have hle := sizeL_le l (j + 1)
      refine rdT (h.kids.mono le) j rfl gj (fun na' nn' nc' ka kn kc hy => fun g3 m3 => (ih y hin (by omega) (hy.exm m3)).mono ?_)
      rintro v g4 _ rfl
      exact ⟨_, rfl, i64 (by omega) (by omega), i64 (by omega) (by omega), m - 1, by omega, j + 1, by omega, by omega, by omega⟩
    · rw [take_all (by omega), hse, show 1 + sizeL l = sizeL l + 1 by omega]
theorem k23 : ∀ (t : Sy), size t ≤ 1048576 → ∀ {na : Option Addr} {nn nc : Nat} {a : Option Addr} {n c : Nat} {g : G}, SynI g t na nn nc a n c → CallsP Tryd.prog 23 #[synV t na nn nc a n c] g fun v _ => v = .int .i64 ((size t : Nat) : Int) := by
  intro t
  induction t using Tr.ind with
  | h d l ih =>
    intro hs na nn nc a n c g h
    refine call23 _ _ _ _ _ _ _ _ _ g _ ?_
    have hl : l.length = n := h.kids.len
    have hc := h.kids.le
    have hm := h.kids.cap
    unfold maxLen at hm
    have hse : size (.mk d l) = sizeL l + 1 := rfl
    unfold F23
    refine ⟨fun m x i g' => ∃ j : Nat, i = ((j : Nat) : Int) ∧ x = ((1 + sizeL (l.take j) : Nat) : Int) ∧ j + m = n, fun g1 _ => ⟨n, 0, rfl, by simp [sizeL], by omega⟩, ?_⟩
    rintro m x i g2 le ⟨j, rfl, rfl, hj⟩
    refine ifLt (fun hlt => ⟨⟨by omega, by omega⟩, ?_⟩) (fun hge g5 _ => ?_)
    · have gj := List.getElem?_eq_getElem (show j < l.length by omega)
      generalize l[j] = y at gj
      have hin := List.mem_of_getElem? gj
      have hsy := size_mem hin
      have htk := sizeL_take gj
      have hle := sizeL_le l (j + 1)
      refine rdT (h.kids.mono le) j rfl gj (fun na' nn' nc' ka kn kc hy => (ih y hin (by omega) hy).mono ?_)
      rintro v g4 _ rfl
      exact ⟨_, rfl, i64 (by omega) (by omega), i64 (by omega) (by omega), m - 1, by omega, j + 1, by omega, by omega, by omega⟩
    · rw [take_all (by omega), hse, show 1 + sizeL l = sizeL l + 1 by omega]
theorem depth_le (t : Sy) : depth t ≤ size t := by
  induction t using Tr.ind with
  | h d l ih =>
    show depthL l + 1 ≤ sizeL l + 1
    have : ∀ l : List Sy, (∀ t ∈ l, depth t ≤ size t) → depthL l ≤ sizeL l := by
      intro l
      induction l with
      | nil => intro _; exact Nat.le_refl _
      | cons x r ih2 =>
        intro hh
        have h1 := hh x (by simp)
        have h2 := ih2 (fun t ht => hh t (by simp [ht]))
        show max (depth x) (depthL r) ≤ size x + sizeL r
        omega
    have := this l ih
    omega
/-- Depth. -/
theorem k18 : ∀ (t : Sy), size t ≤ 1048576 → ∀ {na : Option Addr} {nn nc : Nat} {a : Option Addr} {n c : Nat} {g : G}, SynI g t na nn nc a n c → CallsP Tryd.prog 18 #[synV t na nn nc a n c] g fun v _ => v = .int .i64 ((depth t : Nat) : Int) := by
  intro t
  induction t using Tr.ind with
  | h d l ih =>
    intro hs na nn nc a n c g h
    refine call18 _ _ _ _ _ _ _ _ _ g _ ?_
    have hl : l.length = n := h.kids.len
    have hc := h.kids.le
    have hm := h.kids.cap
    unfold maxLen at hm
    have hse : size (.mk d l) = sizeL l + 1 := rfl
    have hde : depth (.mk d l) = depthL l + 1 := rfl
    have hds := depth_le (.mk d l)
    unfold F18
    refine ⟨fun m x i g' => ∃ j : Nat, i = ((j : Nat) : Int) ∧ x = ((depthL (l.take j) : Nat) : Int) ∧ j + m = n, fun g1 _ => ⟨n, 0, rfl, by simp [depthL], by omega⟩, ?_⟩
    rintro m x i g2 le ⟨j, rfl, rfl, hj⟩
    refine ifLt (fun hlt => ⟨⟨by omega, by omega⟩, ?_⟩) (fun hge => ?_)
    · have gj := List.getElem?_eq_getElem (show j < l.length by omega)
      generalize l[j] = y at gj
      have hin := List.mem_of_getElem? gj
      have hsy := size_mem hin
      have htk := depthL_take gj
      refine rdT (h.kids.mono le) j rfl gj (fun na' nn' nc' ka kn kc hy => fun g3 m3 => (ih y hin (by omega) (hy.exm m3)).mono ?_)
      rintro v g4 _ rfl
      exact ⟨_, rfl, i64 (by omega) (by omega), m - 1, by omega, j + 1, by omega, by rw [maxI_nat, htk], by omega⟩
    · rw [take_all (by omega), hde]
      exact ⟨i64 (by omega) (by omega), fun g5 _ => by congr 1⟩
theorem k24 : ∀ (t : Sy), size t ≤ 1048576 → ∀ {na : Option Addr} {nn nc : Nat} {a : Option Addr} {n c : Nat} {g : G}, SynI g t na nn nc a n c → CallsP Tryd.prog 24 #[synV t na nn nc a n c] g fun v _ => v = .int .i64 ((depth t : Nat) : Int) := by
  intro t
  induction t using Tr.ind with
  | h d l ih =>
    intro hs na nn nc a n c g h
    refine call24 _ _ _ _ _ _ _ _ _ g _ ?_
    have hl : l.length = n := h.kids.len
    have hc := h.kids.le
    have hm := h.kids.cap
    unfold maxLen at hm
    have hse : size (.mk d l) = sizeL l + 1 := rfl
    have hde : depth (.mk d l) = depthL l + 1 := rfl
    have hds := depth_le (.mk d l)
    unfold F24
    refine ⟨fun m x i g' => ∃ j : Nat, i = ((j : Nat) : Int) ∧ x = ((depthL (l.take j) : Nat) : Int) ∧ j + m = n, fun g1 _ => ⟨n, 0, rfl, by simp [depthL], by omega⟩, ?_⟩
    rintro m x i g2 le ⟨j, rfl, rfl, hj⟩
    refine ifLt (fun hlt => ⟨⟨by omega, by omega⟩, ?_⟩) (fun hge => ?_)
    · have gj := List.getElem?_eq_getElem (show j < l.length by omega)
      generalize l[j] = y at gj
      have hin := List.mem_of_getElem? gj
      have hsy := size_mem hin
      have htk := depthL_take gj
      refine rdT (h.kids.mono le) j rfl gj (fun na' nn' nc' ka kn kc hy => (ih y hin (by omega) hy).mono ?_)
      rintro v g4 _ rfl
      exact ⟨_, rfl, i64 (by omega) (by omega), m - 1, by omega, j + 1, by omega, by rw [maxI_nat, htk], by omega⟩
    · rw [take_all (by omega), hde]
      exact ⟨i64 (by omega) (by omega), fun g5 _ => by congr 1⟩
/-- slices.Equal, of strings. -/
theorem k30 (xs ys : List (List UInt8)) {a b : Option Addr} {n c m d : Nat} {g : G} (hx : SlE strE g a n c xs) (hy : SlE strE g b m d ys) : CallsP Tryd.prog 30 #[.slice a n c, .slice b m d] g fun v _ => v = .bool (tf (xs = ys)) := by
  refine call30 a n c b m d g _ ?_
  have h1 := hx.len
  have h2 := hy.len
  have hc := hx.le
  have hm := hx.cap
  unfold maxLen at hm
  unfold F30
  refine ifNe (fun q g1 _ => vF (fun hh => by rw [hh] at h1; omega)) (fun q => ?_)
  refine ⟨fun k i g' => ∃ j : Nat, i = ((j : Nat) : Int) ∧ j + k = n ∧ xs.take j = ys.take j, ⟨n, 0, rfl, by omega, by simp⟩, ?_⟩
  rintro k i g2 le ⟨j, rfl, hj, hall⟩
  refine ifLt (fun hlt g3 m3 => ⟨⟨by omega, by omega⟩, ?_⟩) (fun hge g5 _ => vT ?_)
  · have gx := List.getElem?_eq_getElem (show j < xs.length by omega)
    have gy := List.getElem?_eq_getElem (show j < ys.length by omega)
    refine rdS ((hx.mono le).exm m3) j rfl gx ⟨⟨by omega, by omega⟩, rdS ((hy.mono le).exm m3) j rfl gy ?_⟩
    rw [strEq_bstr]
    refine ifPn (fun q2 g4 _ => vF (fun hh => q2 ?_)) (fun q2 => ⟨i64 (by omega) (by omega), k - 1, by omega, j + 1, by omega, by omega, (take_eq gx gy).2 ⟨hall, q2⟩⟩)
    have : xs.take (j + 1) = ys.take (j + 1) := by rw [hh]
    exact ((take_eq gx gy).1 this).2
  · rwa [take_all (by omega), take_all (by omega)] at hall
/-- Equal. -/
theorem k46 (L M : List Sy) (H : ∀ x ∈ L, ∀ (y : Sy) {na : Option Addr} {nn nc : Nat} {a : Option Addr} {n c : Nat} {na' : Option Addr} {nn' nc' : Nat} {a' : Option Addr} {n' c' : Nat} {g : G}, SynI g x na nn nc a n c → SynI g y na' nn' nc' a' n' c' →
      CallsP Tryd.prog 25 #[synV x na nn nc a n c, synV y na' nn' nc' a' n' c'] g fun v _ => v = .bool (tf (x = y))) {a b : Option Addr} {n c m d : Nat} {g : G} (hx : SlE synE g a n c L) (hy : SlE synE g b m d M) :
    CallsP Tryd.prog 46 #[.slice a n c, .slice b m d, .func (.func 25) #[] #[]] g fun v _ => v = .bool (tf (L = M)) := by
  refine call46 a n c b m d 25 #[] g _ ?_
  have h1 := hx.len
  have h2 := hy.len
  have hc := hx.le
  have hm := hx.cap
  unfold maxLen at hm
  unfold F46
  refine ifNe (fun q g1 _ => vF (fun hh => by rw [hh] at h1; omega)) (fun q => ?_)
  refine ⟨fun k i g' => ∃ j : Nat, i = ((j : Nat) : Int) ∧ j + k = n ∧ L.take j = M.take j, ⟨n, 0, rfl, by omega, by simp⟩, ?_⟩
  rintro k i g2 le ⟨j, rfl, hj, hall⟩
  refine ifLt (fun hlt => ⟨⟨by omega, by omega⟩, ?_⟩) (fun hge g5 _ => vT ?_)
  · have gx := List.getElem?_eq_getElem (show j < L.length by omega)
    have gy := List.getElem?_eq_getElem (show j < M.length by omega)
    have hin := List.mem_of_getElem? gx
    refine rdT (hx.mono le) j rfl gx (fun na nn nc ka kn kc hX => ⟨⟨by omega, by omega⟩, rdA (hy.mono le) j rfl gy (fun ad na' nn' nc' ka' kn' kc' hY hcell => fun g3 m3 => ?_)⟩)
    obtain ⟨c0, c1, c2, c3, c4⟩ := hcell g3 m3.le
    refine ⟨_, _, _, _, _, _, _, _, _, c0, c1, c2, c3, c4, fun g4 m4 => ⟨⟨_, Tryd.func25, by kernel_rfl, by kernel_rfl⟩, (H _ hin _ ((hX.exm m3).exm m4) ((hY.exm m3).exm m4)).mono ?_⟩⟩
    rintro v g5 _ rfl
    refine ⟨_, rfl, ifPn (fun q2 g6 _ => vF (fun hh => q2 ?_)) (fun q2 => ⟨i64 (by omega) (by omega), k - 1, by omega, j + 1, by omega, by omega, (take_eq gx gy).2 ⟨hall, q2⟩⟩)⟩
    have : L.take (j + 1) = M.take (j + 1) := by rw [hh]
    exact ((take_eq gx gy).1 this).2
  · rwa [take_all (by omega), take_all (by omega)] at hall
theorem k25 : ∀ (t u : Sy) {na : Option Addr} {nn nc : Nat} {a : Option Addr} {n c : Nat} {na' : Option Addr} {nn' nc' : Nat} {a' : Option Addr} {n' c' : Nat} {g : G}, SynI g t na nn nc a n c → SynI g u na' nn' nc' a' n' c' →
      CallsP Tryd.prog 25 #[synV t na nn nc a n c, synV u na' nn' nc' a' n' c'] g fun v _ => v = .bool (tf (t = u)) := by
  intro t
  induction t using Tr.ind with
  | h d l ih =>
    intro u na nn nc a n c na' nn' nc' a' n' c' g ht hu
    refine call25 _ _ _ _ _ _ _ _ _ _ _ _ _ _ _ _ _ _ g _ ?_
    unfold F25
    have hx := ht.kids
    rw [tf_iff sy_ext, strEq_bstr]
    refine ifEq (fun q1 => ifEq (fun q2 => ifP (fun q3 g1 m1 => (k30 _ _ (ht.names.exm m1) (hu.names.exm m1)).mono ?_) (fun q3 g6 _ => vF (fun hh => q3 hh.2.2.1))) (fun q2 g7 _ => vF (fun hh => q2 hh.2.1))) (fun q1 g8 _ => vF (fun hh => q1 hh.1))
    rintro v g2 m2 rfl
    refine ⟨_, rfl, ifP (fun q4 => (k46 l u.kids (fun x hx y => ih x hx y) (hx.exm (m1.trans m2)) (hu.kids.exm (m1.trans m2))).mono ?_) (fun q4 g5 _ => vF (fun hh => q4 hh.2.2.2.1))⟩
    rintro v g3 _ rfl
    exact ⟨_, rfl, fun g4 _ => vP ⟨fun hh => ⟨q1, q2, q3, q4, hh⟩, fun hh => hh.2.2.2.2⟩⟩
/-- Equal, of the reference. -/
theorem k26 : ∀ (t u : Sy) {na : Option Addr} {nn nc : Nat} {a : Option Addr} {n c : Nat} {na' : Option Addr} {nn' nc' : Nat} {a' : Option Addr} {n' c' : Nat} {g : G}, SynI g t na nn nc a n c → SynI g u na' nn' nc' a' n' c' →
      CallsP Tryd.prog 26 #[synV t na nn nc a n c, synV u na' nn' nc' a' n' c'] g fun v _ => v = .bool (tf (t = u)) := by
  intro t
  induction t using Tr.ind with
  | h d l ih =>
    intro u na nn nc a n c na' nn' nc' a' n' c' g ht hu
    refine call26 _ _ _ _ _ _ _ _ _ _ _ _ _ _ _ _ _ _ g _ ?_
    unfold F26
    have hx : SlE synE g a n c l := ht.kids
    have hN : SlE strE g na nn nc d.names := ht.names
    have e1 := hx.len
    have e2 := hu.kids.len
    have e3 := hN.len
    have e4 := hu.names.len
    have f1 := hx.le
    have f2 := hx.cap
    have f3 := hN.le
    have f4 := hN.cap
    unfold maxLen at f2 f4
    rw [tf_iff sy_ext, strEq_bstr]
    intro J hJ
    refine ifNe (fun q g10 _ => vF (fun hh => q hh.1)) (fun q1 => ifNe (fun q g10 _ => vF (fun hh => q hh.2.1)) (fun q2 => ifPn (fun q g10 _ => vF (fun hh => q hh.2.2.1)) (fun q3 => ifNe (fun q g10 _ => vF (fun hh => ?_)) (fun q4 => ifNe (fun q g10 _ => vF (fun hh => ?_)) (fun q5 g15 m15 => hJ g15 ?_)))))
    · have h : d.names = u.dat.names := hh.2.2.2.1
      rw [h] at e3; omega
    · have h : l = u.kids := hh.2.2.2.2
      rw [h] at e1; omega
    refine ⟨fun k i g' => ∃ j : Nat, i = ((j : Nat) : Int) ∧ j + k = nn ∧ d.names.take j = u.dat.names.take j, ⟨nn, 0, rfl, by omega, by simp⟩, ?_⟩
    rintro k i g2 le ⟨j, rfl, hj, hall⟩
    have m2 := m15.le.trans le
    refine ifLt (fun hlt g3 m3 => ⟨⟨by omega, by omega⟩, ?_⟩) (fun hge => ?_)
    · have gx := List.getElem?_eq_getElem (show j < d.names.length by omega)
      have gy := List.getElem?_eq_getElem (show j < u.dat.names.length by omega)
      refine rdS ((hN.mono m2).exm m3) j rfl gx ⟨⟨by omega, by omega⟩, rdS ((hu.names.mono m2).exm m3) j rfl gy ?_⟩
      rw [strEq_bstr]
      refine ifPn (fun q6 g4 _ => vF (fun hh => q6 ?_)) (fun q6 => ⟨i64 (by omega) (by omega), k - 1, by omega, j + 1, by omega, by omega, (take_eq gx gy).2 ⟨hall, q6⟩⟩)
      have h : d.names = u.dat.names := hh.2.2.2.1
      have : d.names.take (j + 1) = u.dat.names.take (j + 1) := by rw [h]
      exact ((take_eq gx gy).1 this).2
    rw [take_all (by omega), take_all (by omega)] at hall
    refine ⟨fun k i g' => ∃ j : Nat, i = ((j : Nat) : Int) ∧ j + k = n ∧ l.take j = u.kids.take j, ⟨n, 0, rfl, by omega, by simp⟩, ?_⟩
    rintro k2 i2 g5 le5 ⟨j2, rfl, hj2, hall2⟩
    have m5 := m2.trans le5
    refine ifLt (fun hlt g6 m6 => ⟨⟨by omega, by omega⟩, ?_⟩) (fun hge2 g9 _ => vT ⟨q1, q2, q3, hall, ?_⟩)
    · have gx := List.getElem?_eq_getElem (show j2 < l.length by omega)
      have gy := List.getElem?_eq_getElem (show j2 < u.kids.length by omega)
      have hin := List.mem_of_getElem? gx
      refine rdT ((hx.mono m5).exm m6) j2 rfl gx (fun na1 nn1 nc1 ka kn kc hX => ⟨⟨by omega, by omega⟩, rdT ((hu.kids.mono m5).exm m6) j2 rfl gy (fun na2 nn2 nc2 ka' kn' kc' hY => (ih _ hin _ hX hY).mono ?_)⟩)
      rintro v g7 _ rfl
      refine ⟨_, rfl, ifPn (fun q6 g8 _ => vF (fun hh => q6 ?_)) (fun q6 => ⟨i64 (by omega) (by omega), k2 - 1, by omega, j2 + 1, by omega, by omega, (take_eq gx gy).2 ⟨hall2, q6⟩⟩)⟩
      have h : l = u.kids := hh.2.2.2.2
      have : l.take (j2 + 1) = u.kids.take (j2 + 1) := by rw [h]
      exact ((take_eq gx gy).1 this).2
    · rw [take_all (by omega), take_all (by omega)] at hall2
      exact hall2
end Go.Proofs.YtmakoecgogjemaaDoor
