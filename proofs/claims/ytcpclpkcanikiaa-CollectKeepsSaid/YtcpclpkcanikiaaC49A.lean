/- Joined texts. -/
import Derived.Test.YtcpclpkcanikiaaFn49b
import Derived.Test.YtcpclpkcanikiaaVfa
import Derived.Lib.AppendZeros
import Derived.Test.YtcpclpkcanikiaaVfb
import Derived.Test.YtcpclpkcanikiaaVbits
/- The heap: words, kinds, and right blocks. -/
set_option linter.unusedVariables false
namespace Go.Proofs.Ytcpclpkcanikiaa
open Go Go.Vc Go.RowKit

/-- A word: whether it is a reference, and its number. -/
abbrev Wd := Bool × Int
def wdV (x : Wd) : Value := .agg ⟨[.bool x.1, .int .i64 x.2]⟩
def wordE : El Wd where
  m := 2
  rep g r x := r = [.bool x.1, .int .i64 x.2]
  len := by rintro g r x rfl; rfl
  mono := by rintro g g' r x k rfl; rfl
  one := by
    rintro g r x rfl u hu
    simp only [List.mem_cons, List.not_mem_nil, or_false] at hu
    rcases hu with rfl | rfl <;> rfl

theorem k97 (n : Int) (g : G) : CallsP Try.prog 97 #[.int .i64 n] g fun v _ => v = wdV (false, n) := by
  refine call97 n g _ ?_
  unfold F97
  exact fun g1 _ g2 _ => rfl
theorem k98 (n : Int) (g : G) : CallsP Try.prog 98 #[.int .i64 n] g fun v _ => v = wdV (true, n) := by
  refine call98 n g _ ?_
  unfold F98
  exact fun g1 _ g2 _ => rfl
def plainP (n : Int) : Prop := -4503599627370496 ≤ n ∧ n ≤ 4503599627370496
theorem k99 (n : Int) (g : G) : CallsP Try.prog 99 #[.int .i64 n] g fun v _ => v = .bool (tf (plainP n)) := by
  refine call99 n g _ ?_
  unfold F99
  refine ifLe (fun h g1 _ => vP ?_) (fun h g1 _ => vF ?_)
  all_goals unfold plainP; omega
theorem k95 (n : Int) (g : G) : CallsP Try.prog 95 #[.int .i64 n] g fun v _ => v = .bool (tf (plainP n)) := by
  refine call95 n g _ ?_
  unfold F95
  refine ifLe (fun h g1 _ => vP ?_) (fun h g1 _ => vF ?_)
  all_goals unfold plainP; omega
theorem k61 (n a b : Int) (g : G) : CallsP Try.prog 61 #[.int .i64 n, .int .i64 a, .int .i64 b] g fun v _ => v = .bool (tf (a ≤ n ∧ n ≤ b)) := by
  refine call61 n a b g _ ?_
  unfold F61
  refine ifLe (fun h g1 _ => vP ?_) (fun h g1 _ => vF ?_)
  all_goals omega

/-- How many words a block of a kind may have. -/
def lenP (kind n : Int) : Prop := (kind = 1 ∨ kind = 3) ∧ 0 ≤ n ∧ n ≤ 1000 ∨ kind = 2 ∧ n = 1 ∨ kind = 4 ∧ 0 ≤ n ∧ n ≤ 16384
theorem k59 (kind n : Int) (g : G) : CallsP Try.prog 59 #[.int .i64 kind, .int .i64 n] g fun v _ => v = .bool (tf (lenP kind n)) := by
  refine call59 kind n g _ ?_
  unfold F59
  intro J hJ
  have h1 : kind = 1 ∨ kind = 3 → J true g := fun hk => hJ _ _ (ifT (fun _ => ifLe (fun h g2 _ => vP (by unfold lenP; omega)) (fun h g2 _ => vF (by unfold lenP; omega))) (fun hh => by cases hh))
  refine ifEq (fun h => h1 (.inl h)) (fun h => ?_)
  by_cases h3 : kind = 3
  · rw [eqI_true.mpr h3]; exact h1 (.inr h3)
  · rw [eqI_false.mpr h3]
    exact hJ _ _ (ifT (fun hh => by cases hh) (fun _ => ifEq (fun h2 g4 _ => vP (by unfold lenP; omega)) (fun h2 => ifEq (fun h4 => ifLe (fun h g5 _ => vP (by unfold lenP; omega)) (fun h g6 _ => vF (by unfold lenP; omega))) (fun h4 g7 _ => vF (by unfold lenP; omega)))))
theorem k22 (kind n : Int) (g : G) : CallsP Try.prog 22 #[.int .i64 kind, .int .i64 n] g fun v _ => v = .bool (tf (lenP kind n)) := by
  refine call22 kind n g _ ?_
  unfold F22
  intro J hJ
  have h1 : kind = 1 ∨ kind = 3 → J true g := by
    refine fun hk => hJ _ _ (ifT (fun _ => (k61 n 0 1000 g).mono ?_) (fun hh => by cases hh))
    rintro v g2 m2 rfl
    exact ⟨_, rfl, fun g3 _ => congrArg Value.bool (tf_iff (by unfold lenP; omega))⟩
  refine ifEq (fun h => h1 (.inl h)) (fun h => ?_)
  by_cases h3 : kind = 3
  · rw [eqI_true.mpr h3]; exact h1 (.inr h3)
  · rw [eqI_false.mpr h3]
    refine hJ _ _ (ifT (fun hh => by cases hh) (fun _ => ifEq (fun h2 g4 _ => vP (by unfold lenP; omega)) (fun h2 => ifEq (fun h4 => (k61 n 0 16384 g).mono ?_) (fun h4 g7 _ => vF (by unfold lenP; omega)))))
    rintro v g2 m2 rfl
    exact ⟨_, rfl, fun g3 _ => congrArg Value.bool (tf_iff (by unfold lenP; omega))⟩
theorem k18 (kind n : Int) (g : G) : CallsP Try.prog 18 #[.int .i64 kind, .int .i64 n] g fun v _ => (lenP kind n ∧ v = .tuple ⟨[.int .i64 (n + 3), .int .i64 0]⟩) ∨ (¬ lenP kind n ∧ v = .tuple ⟨[.int .i64 0, .int .i64 2]⟩) := by
  refine call18 kind n g _ ?_
  unfold F18
  refine (k59 kind n g).mono ?_
  rintro v g1 m1 rfl
  refine ⟨_, rfl, ifPn (fun h g2 _ => .inr ⟨h, rfl⟩) (fun h => ⟨?_, fun g3 _ => .inl ⟨h, rfl⟩⟩)⟩
  unfold lenP at h
  exact i64 (by omega) (by omega)

/-- A byte's word. -/
def byteW (w : Wd) : Prop := w.1 = false ∧ 0 ≤ w.2 ∧ w.2 ≤ 255
/-- A block that is right, but for the references in it. -/
def rightP (kind n : Int) (l : List Wd) : Prop :=
  kind = 1 ∧ n = 0 ∧ l.length ≤ 1000 ∨ kind = 2 ∧ 0 ≤ n ∧ n ≤ 1000 ∧ l.length = 1 ∨ kind = 3 ∧ 0 ≤ n ∧ n ≤ 4096 ∧ l.length ≤ 1000 ∨ kind = 4 ∧ n = l.length ∧ l.length ≤ 16384 ∧ ∀ w ∈ l, byteW w
theorem k102 (w : Wd) (g : G) : CallsP Try.prog 102 #[wdV w] g fun v _ => v = .bool (tf (¬ byteW w)) := by
  refine call102 w.1 w.2 g _ ?_
  unfold F102
  refine ifT (fun h g1 _ => vT (by unfold byteW; simp [h])) (fun h => ifLt (fun h1 g2 _ => vT (by unfold byteW; omega)) (fun h1 g3 _ => vP ?_))
  unfold byteW
  simp only [h, true_and]
  omega
/-- slices.IndexFunc and slices.ContainsFunc at words. -/
theorem k103 (f : FuncId) (fc : Array Value) (p : Wd → Prop) (l : List Wd) {a : Option Addr} {n c : Nat} {g : G} (h : SlE wordE g a n c l) (he : Go.Vc.Enters Try.prog f)
    (hf : ∀ g', Le g g' → ∀ w ∈ l, CallsP Try.prog f (#[wdV w] ++ fc) g' fun v _ => v = .bool (tf (p w))) :
    CallsP Try.prog 103 #[.slice a n c, .func (.func f) #[] fc] g fun v _ => ∃ i : Int, v = .int .i64 i ∧ (0 ≤ i ↔ ∃ w ∈ l, p w) := by
  refine call103 a n c f fc g _ ?_
  have hl := h.len
  have hcap := h.cap
  have hle := h.le
  unfold maxLen at hcap
  unfold F103
  refine ⟨fun m i g' => ∃ j : Nat, i = j ∧ j + m = n ∧ ∀ w ∈ l.take j, ¬ p w, ⟨n, 0, rfl, by omega, by simp⟩, ?_⟩
  rintro m i g1 le ⟨j, rfl, hjm, hj⟩
  refine ifLt (fun hlt => ⟨⟨by omega, by omega⟩, ?_⟩) (fun hge g3 m3 => ⟨-1, rfl, ⟨fun hh => by omega, ?_⟩⟩)
  · have hjl : j < l.length := by omega
    have gj := List.getElem?_eq_getElem hjl
    refine (h.mono le).rd (i := j) gj ?_
    rintro r ad rfl hr
    rw [Int.toNat_natCast]
    refine ⟨l[j].1, l[j].2, ?_, (hr 1 _ rfl).1, he, (hf g1 le l[j] (List.mem_of_getElem? gj)).mono ?_⟩
    · have := (hr 0 _ rfl).1
      rwa [Addr.add_zero'] at this
    rintro v g2 m2 rfl
    refine ⟨_, rfl, ifP (fun hs g3 m3 => ⟨j, rfl, ⟨fun _ => ⟨_, List.mem_of_getElem? gj, hs⟩, fun _ => by omega⟩⟩) (fun hs => ⟨i64 (by omega) (by omega), m - 1, by omega, j + 1, by omega, by omega, ?_⟩)⟩
    intro w hm
    rw [List.take_add_one, gj] at hm
    simp only [Option.toList_some, List.mem_append, List.mem_singleton] at hm
    rcases hm with hm | rfl
    · exact hj w hm
    · exact hs
  · rintro ⟨w, hw, hp⟩
    have : l.take j = l := List.take_of_length_le (by omega)
    rw [this] at hj
    exact absurd hp (hj w hw)
theorem k76 (f : FuncId) (fc : Array Value) (p : Wd → Prop) (l : List Wd) {a : Option Addr} {n c : Nat} {g : G} (h : SlE wordE g a n c l) (he : Go.Vc.Enters Try.prog f)
    (hf : ∀ g', Le g g' → ∀ w ∈ l, CallsP Try.prog f (#[wdV w] ++ fc) g' fun v _ => v = .bool (tf (p w))) :
    CallsP Try.prog 76 #[.slice a n c, .func (.func f) #[] fc] g fun v _ => v = .bool (tf (∃ w ∈ l, p w)) := by
  refine call76 a n c f fc g _ ?_
  unfold F76
  refine (k103 f fc p l h he hf).mono ?_
  rintro v g1 m1 ⟨i, rfl, hi⟩
  refine ⟨i, rfl, fun g2 m2 => ?_⟩
  rw [tf_le]
  exact congrArg Value.bool (tf_iff hi)
theorem enters102 : Go.Vc.Enters Try.prog 102 := ⟨_, Try.func102, by kernel_rfl, by kernel_rfl⟩
theorem k75 (kind n : Int) (l : List Wd) {a : Option Addr} {ll c : Nat} {g : G} (h : SlE wordE g a ll c l) : CallsP Try.prog 75 #[.int .i64 kind, .int .i64 n, .slice a ll c] g fun v _ => v = .bool (tf (rightP kind n l)) := by
  refine call75 kind n a ll c g _ ?_
  have hl := h.len
  unfold F75
  refine (k59 kind ll g).mono ?_
  rintro v g1 m1 rfl
  refine ⟨_, rfl, ifPn (fun hk g2 _ => vF ?_) (fun hk => ?_)⟩
  · unfold lenP at hk; unfold rightP; omega
  unfold lenP at hk
  refine ifEq (fun h1 g3 _ => vP (by unfold rightP; omega)) (fun h1 => ifEq (fun h2 => ifLe (fun h0 g4 _ => vP (by unfold rightP; omega)) (fun h0 g5 _ => vF (by unfold rightP; omega))) (fun h2 => ifEq (fun h3 => ifLe (fun h0 g6 _ => vP (by unfold rightP; omega)) (fun h0 g7 _ => vF (by unfold rightP; omega))) (fun h3 => ifEq (fun hn => ?_) (fun hn g10 _ => vF (by unfold rightP; omega)))))
  refine (k76 102 #[] (fun w => ¬ byteW w) l (h.exm m1) enters102 (fun g' _ w _ => k102 w g')).mono ?_
  rintro v g8 m8 rfl
  refine ⟨_, rfl, fun g9 _ => ?_⟩
  rw [tf_not]
  refine congrArg Value.bool (tf_iff ⟨fun hh => ?_, fun hh => ?_⟩)
  · refine .inr (.inr (.inr ⟨by omega, by omega, by omega, fun w hw => Classical.byContradiction fun hn => hh ⟨w, hw, hn⟩⟩))
  · rintro ⟨w, hw, hn⟩
    unfold rightP at hh
    rcases hh with hh | hh | hh | ⟨_, _, _, hh⟩
    · omega
    · omega
    · omega
    · exact hn (hh w hw)
theorem k79 (kind n : Int) (l : List Wd) {a : Option Addr} {ll c : Nat} {g : G} (h : SlE wordE g a ll c l) : CallsP Try.prog 79 #[.int .i64 kind, .int .i64 n, .slice a ll c] g fun v _ => v = .bool (tf (rightP kind n l)) := by
  refine call79 kind n a ll c g _ ?_
  have hl := h.len
  have hcap := h.cap
  have hle := h.le
  unfold maxLen at hcap
  unfold F79
  refine ifEq (fun h1 => ifEq (fun h0 g1 _ => vP (by unfold rightP; omega)) (fun h0 g2 _ => vF (by unfold rightP; omega))) (fun h1 => ifEq (fun h2 => (k61 n 0 1000 g).mono ?_) (fun h2 => ifEq (fun h3 => (k61 n 0 4096 g).mono ?_) (fun h3 => ifEq (fun h4 => ?_) (fun h4 g15 _ => vF (by unfold rightP; omega)))))
  · rintro v g3 m3 rfl
    exact ⟨_, rfl, ifP (fun hh g4 _ => vP (by unfold rightP; omega)) (fun hh g5 _ => vF (by unfold rightP; omega))⟩
  · rintro v g3 m3 rfl
    exact ⟨_, rfl, ifP (fun hh g4 _ => vP (by unfold rightP; omega)) (fun hh g5 _ => vF (by unfold rightP; omega))⟩
  refine ⟨fun m i g' => ∃ j : Nat, i = j ∧ j + m = ll ∧ ∀ w ∈ l.take j, byteW w, ⟨ll, 0, rfl, by omega, by simp⟩, ?_⟩
  rintro m i g9 le ⟨j, rfl, hjm, hj⟩
  have bad : ∀ w ∈ l, ¬ byteW w → ¬ rightP kind n l := by
    intro w hw hb hr
    unfold rightP at hr
    rcases hr with hr | hr | hr | ⟨_, _, _, hr⟩
    · omega
    · omega
    · omega
    · exact hb (hr w hw)
  refine ifLt (fun hlt => ⟨⟨by omega, by omega⟩, ?_⟩) (fun hge => ?_)
  · have hjl : j < l.length := by omega
    have gj := List.getElem?_eq_getElem hjl
    have hmem := List.mem_of_getElem? gj
    refine (h.mono le).rd (i := j) gj ?_
    rintro r ad rfl hr
    refine ⟨l[j].1, ?_, ifT (fun hh g10 _ => vF (bad _ hmem (fun hb => by rw [hb.1] at hh; cases hh))) (fun hh => ⟨⟨by omega, by omega⟩, ?_⟩)⟩
    · rw [Int.toNat_natCast]
      have := (hr 0 _ rfl).1
      rwa [Addr.add_zero'] at this
    refine (h.mono le).rd (i := j) gj ?_
    rintro r2 ad2 rfl hr2
    refine ⟨l[j].2, ?_, (k61 l[j].2 0 255 g9).mono ?_⟩
    · rw [Int.toNat_natCast]
      exact (hr2 1 _ rfl).1
    rintro v g11 m11 rfl
    refine ⟨_, rfl, ifPn (fun hb g12 _ => vF (bad _ hmem (fun hb2 => hb ⟨hb2.2.1, hb2.2.2⟩))) (fun hb => ⟨i64 (by omega) (by omega), m - 1, by omega, j + 1, by omega, by omega, ?_⟩)⟩
    intro w hm
    rw [List.take_add_one, gj] at hm
    simp only [Option.toList_some, List.mem_append, List.mem_singleton] at hm
    rcases hm with hm | rfl
    · exact hj w hm
    · exact ⟨hh, hb.1, hb.2⟩
  · have ht : l.take j = l := List.take_of_length_le (by omega)
    rw [ht] at hj
    refine ifEq (fun hn g13 _ => vP ⟨fun hh => .inr (.inr (.inr ⟨h4, by omega, by omega, hj⟩)), fun hh => ?_⟩) (fun hn g14 _ => vF (by unfold rightP; omega))
    unfold rightP at hh
    omega
end Go.Proofs.Ytcpclpkcanikiaa
/- The heap: lists of words are compared; the reference's search. -/
set_option linter.unusedVariables false
namespace Go.Proofs.Ytcpclpkcanikiaa
open Go Go.Vc Go.RowKit

/-- The test of two words. -/
theorem eqW (a b : Bool) (x y : Int) : ((a == b) && (eqI x y && true)) = tf ((a, x) = (b, y)) := by
  rw [Bool.and_true, tf_eq, ← tf_bool (a == b), tf_and]
  exact tf_iff (by simp)

/-- SameWords. -/
theorem k39 (xs ys : List Wd) {a b : Option Addr} {n c m d : Nat} {g : G} (hx : SlE wordE g a n c xs) (hy : SlE wordE g b m d ys) :
    CallsP Try.prog 39 #[.slice a n c, .slice b m d] g fun v _ => v = .bool (tf (xs = ys)) := by
  refine call39 a n c b m d g _ ?_
  have hlx := hx.len
  have hly := hy.len
  have hcap := hx.cap
  have hle := hx.le
  unfold maxLen at hcap
  unfold F39
  refine ifNe (fun hne g1 m1 => vF ?_) (fun he => ?_)
  · rintro rfl; omega
  refine ⟨fun k i g' => ∃ j : Nat, i = j ∧ j + k = n ∧ xs.take j = ys.take j, ⟨n, 0, rfl, by omega, by simp⟩, ?_⟩
  rintro k i g2 le ⟨j, rfl, hjk, hj⟩
  refine ifLt (fun hlt g3 m3 => ⟨⟨by omega, by omega⟩, ?_⟩) (fun hge g7 m7 => vT ?_)
  · have hjx : j < xs.length := by omega
    have hjy : j < ys.length := by omega
    have gx := List.getElem?_eq_getElem hjx
    have gy := List.getElem?_eq_getElem hjy
    refine ((hx.mono le).exm m3).rd (i := j) gx ?_
    rintro r ad rfl hr
    rw [Int.toNat_natCast]
    refine ⟨xs[j].1, xs[j].2, ?_, (hr 1 _ rfl).1, ⟨by omega, by omega⟩, ?_⟩
    · have := (hr 0 _ rfl).1
      rwa [Addr.add_zero'] at this
    refine ((hy.mono le).exm m3).rd (i := j) gy ?_
    rintro r2 ad2 rfl hr2
    refine ⟨ys[j].1, ys[j].2, ?_, (hr2 1 _ rfl).1, ?_⟩
    · have := (hr2 0 _ rfl).1
      rwa [Addr.add_zero'] at this
    rw [eqW]
    refine ifPn (fun hne g4 m4 => vF ?_) (fun hk => ⟨i64 (by omega) (by omega), k - 1, by omega, j + 1, by omega, by omega, ?_⟩)
    · rintro rfl; exact hne rfl
    · have hk' : xs[j] = ys[j] := hk
      rw [List.take_add_one, List.take_add_one, gx, gy, hj, hk']
  · have h1 : xs.take j = xs := List.take_of_length_le (by omega)
    have h2 : ys.take j = ys := List.take_of_length_le (by omega)
    rwa [h1, h2] at hj

/-- A heap's value. -/
def hpV (a : Option Addr) (n c : Nat) (fr lim : Int) : Value := .agg ⟨[.slice a n c, .int .i64 fr, .int .i64 lim]⟩
/-- Same. -/
theorem k20 (xs ys : List Wd) {a b : Option Addr} {n c m d : Nat} {g : G} (hx : SlE wordE g a n c xs) (hy : SlE wordE g b m d ys) (f1 l1 f2 l2 : Int) :
    CallsP Try.prog 20 #[hpV a n c f1 l1, hpV b m d f2 l2] g fun v _ => v = .bool (tf (xs = ys ∧ f1 = f2 ∧ l1 = l2)) := by
  refine call20 a n c f1 l1 b m d f2 l2 g _ ?_
  unfold F20
  refine ifEq (fun h1 => ifEq (fun h2 g1 m1 => (k39 xs ys (hx.exm m1) (hy.exm m1)).mono ?_) (fun h2 g4 _ => vF (by rintro ⟨_, _, h⟩; exact h2 h))) (fun h1 g5 _ => vF (by rintro ⟨_, h, _⟩; exact h1 h))
  rintro v g2 m2 rfl
  exact ⟨_, rfl, fun g3 _ => congrArg Value.bool (tf_iff (by simp [h1, h2]))⟩

/-- A number. -/
def intE : El Int where
  m := 1
  rep g r x := r = [.int .i64 x]
  len := by rintro g r x rfl; rfl
  mono := by rintro g g' r x k rfl; rfl
  one := by
    rintro g r x rfl u hu
    simp only [List.mem_cons, List.not_mem_nil, or_false] at hu
    subst hu
    rfl
/-- Has, of an ascending list. -/
theorem k81 (l : List Int) (hs : l.Pairwise (· < ·)) (n : Int) {a : Option Addr} {ll c : Nat} {g : G} (h : SlE intE g a ll c l) (hll : ll ≤ 1000000) : CallsP Try.prog 81 #[.slice a ll c, .int .i64 n] g fun v _ => v = .bool (tf (n ∈ l)) := by
  refine call81 a ll c n g _ ?_
  have hl := h.len
  have hcap := h.cap
  have hle := h.le
  unfold maxLen at hcap
  have hlt : ∀ {i j : Nat} {x y : Int}, l[i]? = some x → l[j]? = some y → i < j → x < y := by
    intro i j x y hi hj hij
    obtain ⟨hi', rfl⟩ := List.getElem?_eq_some_iff.1 hi
    obtain ⟨hj', rfl⟩ := List.getElem?_eq_some_iff.1 hj
    exact List.pairwise_iff_getElem.1 hs i j hi' hj' hij
  unfold F81
  refine ⟨fun m low high g' => ∃ p q : Nat, low = p ∧ high = q ∧ p + m = q ∧ q ≤ ll ∧ (∀ i x, i < p → l[i]? = some x → x < n) ∧ (∀ i x, q ≤ i → l[i]? = some x → n ≤ x), ⟨ll, 0, ll, rfl, rfl, by omega, by omega, fun i x hi _ => absurd hi (Nat.not_lt_zero i), fun i x hi hx => ?_⟩, ?_⟩
  · have := (List.getElem?_eq_some_iff.1 hx).1; omega
  rintro m low high g1 le ⟨p, q, rfl, rfl, hm, hq, hlo, hhi⟩
  refine ifLt (fun hpq => ?_) (fun hpq => ?_)
  · obtain ⟨k, hk, hk1, hk2⟩ : ∃ k : Nat, Int.tdiv (((p : Nat) : Int) + ((q : Nat) : Int)) 2 = k ∧ p ≤ k ∧ k < q := by
      refine ⟨(p + q) / 2, ?_, by omega, by omega⟩
      rw [Int.tdiv_eq_ediv_of_nonneg (by omega)]
      omega
    rw [hk]
    refine ⟨i64 (by omega) (by omega), by omega, i64 (by omega) (by omega), ⟨by omega, by omega⟩, ?_⟩
    have gk := List.getElem?_eq_getElem (show k < l.length by omega)
    refine (h.mono le).rd (i := k) gk ?_
    rintro r ad rfl hr
    rw [Int.toNat_natCast]
    refine ⟨l[k], ?_, ifLt (fun hx => ⟨i64 (by omega) (by omega), q - (k + 1), by omega, k + 1, q, by omega, rfl, by omega, hq, fun i x hi hxi => ?_, hhi⟩) (fun hx => ⟨k - p, by omega, p, k, rfl, rfl, by omega, by omega, hlo, fun i x hi hxi => ?_⟩)⟩
    · have := (hr 0 _ rfl).1
      rwa [Addr.add_zero'] at this
    · by_cases e : i = k
      · subst e; rw [gk] at hxi; cases hxi; exact hx
      · have := hlt hxi gk (by omega); omega
    · by_cases e : i = k
      · subst e; rw [gk] at hxi; cases hxi; omega
      · have := hlt gk hxi (by omega); omega
  · have e : p = q := by omega
    subst e
    refine ifLt (fun hpl => ⟨⟨by omega, by omega⟩, ?_⟩) (fun hpl g3 _ => vF ?_)
    · have gk := List.getElem?_eq_getElem (show p < l.length by omega)
      refine (h.mono le).rd (i := p) gk ?_
      rintro r ad rfl hr
      rw [Int.toNat_natCast]
      refine ⟨l[p], ?_, fun g2 _ => ?_⟩
      · have := (hr 0 _ rfl).1
        rwa [Addr.add_zero'] at this
      rw [tf_eq]
      refine congrArg Value.bool (tf_iff ⟨fun hx => ?_, fun hx => ?_⟩)
      · rw [← hx]; exact List.mem_of_getElem? gk
      · obtain ⟨i, hi⟩ := List.getElem?_of_mem hx
        by_cases h1 : i < p
        · have := hlo i n h1 hi; omega
        · by_cases h2 : i = p
          · subst h2; rw [gk] at hi; exact (Option.some.inj hi)
          · have h3 := hlt gk hi (by omega)
            have h4 := hhi p _ (Nat.le_refl _) gk
            omega
    · intro hx
      obtain ⟨i, hi⟩ := List.getElem?_of_mem hx
      have hil := (List.getElem?_eq_some_iff.1 hi).1
      have := hlo i n (by omega) hi
      omega
/-- What makes a word right. -/
def wordP (l : List Int) (w : Wd) : Prop := if w.1 = true then w.2 ∈ l else plainP w.2
theorem k63 (l : List Int) (hs : l.Pairwise (· < ·)) (w : Wd) {a : Option Addr} {ll c : Nat} {g : G} (h : SlE intE g a ll c l) (hll : ll ≤ 1000000) : CallsP Try.prog 63 #[.slice a ll c, wdV w] g fun v _ => v = .bool (tf (wordP l w)) := by
  refine call63 a ll c w.1 w.2 g _ ?_
  unfold F63 wordP
  refine ifT (fun hw g1 m1 => (k81 l hs w.2 (h.exm m1) hll).mono ?_) (fun hw g4 m4 => (k95 w.2 g4).mono ?_)
  · rintro v g2 m2 rfl
    rw [if_pos hw]
    exact ⟨_, rfl, fun g3 _ => rfl⟩
  · rintro v g2 m2 rfl
    rw [if_neg (by rw [hw]; simp)]
    exact ⟨_, rfl, fun g3 _ => rfl⟩
end Go.Proofs.Ytcpclpkcanikiaa
/- The heap: where blocks begin, by the reference. -/
set_option linter.unusedVariables false
namespace Go.Proofs.Ytcpclpkcanikiaa
open Go Go.Vc Go.RowKit

def zW : Wd := (false, 0)
/-- A right block, but for its references, stands at p. -/
def hdrP (l : List Wd) (p : Nat) : Prop := p + 3 ≤ l.length ∧ (l.getD p zW).1 = false ∧ (l.getD (p + 1) zW).1 = false ∧ (l.getD (p + 2) zW).1 = false ∧ 0 ≤ (l.getD (p + 2) zW).2 ∧ p + 3 + (l.getD (p + 2) zW).2.toNat ≤ l.length ∧
  rightP (l.getD p zW).2 (l.getD (p + 1) zW).2 ((l.drop (p + 3)).take (l.getD (p + 2) zW).2.toNat)
/-- Where the next block begins. -/
def stepN (l : List Wd) (p : Nat) : Nat := p + 3 + (l.getD (p + 2) zW).2.toNat
noncomputable def stsF (l : List Wd) : Nat → Nat → Option (List Int)
  | 0, _ => some []
  | f + 1, p => if l.length ≤ p then some [] else match tf (hdrP l p) with
    | true => (stsF l f (stepN l p)).map (((p : Nat) : Int) :: ·)
    | false => none
/-- Where the blocks of words begin; none: they are no right blocks. -/
noncomputable def sts (l : List Wd) : Option (List Int) := stsF l l.length 0
theorem stsF_end {l : List Wd} {f p : Nat} (h : l.length ≤ p) : stsF l f p = some [] := by
  cases f with
  | zero => rfl
  | succ f => unfold stsF; rw [if_pos h]
theorem stsF_yes {l : List Wd} {f p : Nat} (h : p < l.length) (hp : hdrP l p) : stsF l (f + 1) p = (stsF l f (stepN l p)).map (((p : Nat) : Int) :: ·) := by
  show (if l.length ≤ p then some [] else match tf (hdrP l p) with | true => (stsF l f (stepN l p)).map (((p : Nat) : Int) :: ·) | false => none) = _
  rw [if_neg (by omega), tf_of hp]
theorem stsF_no {l : List Wd} {f p : Nat} (h : p < l.length) (hp : ¬ hdrP l p) : stsF l (f + 1) p = none := by
  show (if l.length ≤ p then some [] else match tf (hdrP l p) with | true => (stsF l f (stepN l p)).map (((p : Nat) : Int) :: ·) | false => none) = _
  rw [if_neg (by omega), tf_no hp]
/-- What starts returns. -/
def StsSay (l : List Wd) (v : Value) (g : G) (B : Nat) : Prop :=
  (sts l = none ∧ v = .tuple ⟨[.slice none 0 0, .bool false]⟩) ∨ ∃ L a n c, sts l = some L ∧ v = .tuple ⟨[.slice a n c, .bool true]⟩ ∧ OwnE intE g B 3 a n c L ∧ n ≤ l.length
theorem E55 : Elem Try.prog 55 3 1 8 := ⟨Try.underlying55, by kernel_rfl⟩

theorem getW {l : List Wd} {p : Nat} (h : p < l.length) : l[p]? = some (l.getD p zW) := by
  rw [List.getElem?_eq_getElem h]
  simp [List.getD_eq_getElem?_getD, h]
/-- A word is read: its flag, or its number. -/
theorem rd0 {l : List Wd} {a : Option Addr} {n c : Nat} {g : G} (h : SlE wordE g a n c l) {i : Int} (p : Nat) (hi : i = (p : Int)) (hp : p < n) {K : Addr → Prop} (hk : ∀ ad, g.w.cell? (Addr.add ad (Int.toNat i * 2)) = some (.bool (l.getD p zW).1) → K ad) : derefP a K := by
  subst hi
  have hl := h.len
  refine h.rd (i := p) (getW (by omega)) ?_
  rintro r ad rfl hr
  refine hk ad ?_
  rw [Int.toNat_natCast]
  have := (hr 0 _ rfl).1
  rwa [Addr.add_zero'] at this
theorem rd1 {l : List Wd} {a : Option Addr} {n c : Nat} {g : G} (h : SlE wordE g a n c l) {i : Int} (p : Nat) (hi : i = (p : Int)) (hp : p < n) {K : Addr → Prop} (hk : ∀ ad, g.w.cell? (Addr.add (Addr.add ad (Int.toNat i * 2)) 1) = some (.int .i64 (l.getD p zW).2) → K ad) : derefP a K := by
  subst hi
  have hl := h.len
  refine h.rd (i := p) (getW (by omega)) ?_
  rintro r ad rfl hr
  refine hk ad ?_
  rw [Int.toNat_natCast]
  exact (hr 1 _ rfl).1

theorem k62 (l : List Wd) {a : Option Addr} {ll c : Nat} {g : G} (h : SlE wordE g a ll c l) (hll : ll ≤ 1000000) : CallsP Try.prog 62 #[.slice a ll c] g fun v g' => StsSay l v g' g.size := by
  refine call62 a ll c g _ ?_
  have hl := h.len
  have hle := h.le
  unfold F62
  refine ⟨fun m oa on oc at0 g1 => ∃ (p f : Nat) (done : List Int), at0 = p ∧ p + m = ll + 1000 ∧ p ≤ ll ∧ l.length ≤ p + f ∧ sts l = (stsF l f p).map (done ++ ·) ∧ OwnE intE g1 g.size 3 oa on oc done ∧ on ≤ p ∧ g.size ≤ g1.w.heap.size,
    ⟨ll + 1000, 0, l.length, [], rfl, by omega, by omega, by omega, by unfold sts; simp, OwnE.nil _ _ _, by omega, Nat.le_refl _⟩, ?_⟩
  rintro m oa on oc at0 g1 le ⟨p, f, done, rfl, hpm, hpl, hf, hst, ho, hop, hsz⟩
  refine ifLt (fun hlt => ?_) (fun hge g15 m15 => ?_)
  · have hpl' : p < l.length := by omega
    have no : ¬ hdrP l p → ∀ g', (StsSay l (.tuple ⟨[.slice none 0 0, .bool false]⟩) g' g.size) := by
      intro hn g'
      obtain ⟨f', rfl⟩ : ∃ f', f = f' + 1 := ⟨f - 1, by omega⟩
      rw [stsF_no hpl' hn] at hst
      exact .inl ⟨hst, rfl⟩
    have h1 := h.mono le
    intro J hJ
    refine ⟨i64 (by omega) (by omega), ifLt (fun hs g11 m11 => no (fun hh => by have := hh.1; omega) _) (fun hs => ⟨⟨by omega, by omega⟩, rd0 h1 p rfl (by omega) ?_⟩)⟩
    intro ad hc
    refine ⟨_, hc, ?_⟩
    refine ifT (fun ht g12 m12 => no (fun hh => by have := hh.2.1; rw [this] at ht; cases ht) _) (fun ht0 => ⟨i64 (by omega) (by omega), ⟨by omega, by omega⟩, ?_⟩)
    refine rd0 h1 (i := ((p : Nat) : Int) + 1) (p + 1) (by omega) (by omega) ?_
    intro ad hc
    refine ⟨_, hc, ?_⟩
    refine ifT (fun ht g12 m12 => no (fun hh => by have := hh.2.2.1; rw [this] at ht; cases ht) _) (fun ht1 => ⟨i64 (by omega) (by omega), ⟨by omega, by omega⟩, ?_⟩)
    refine rd0 h1 (i := ((p : Nat) : Int) + 2) (p + 2) (by omega) (by omega) ?_
    intro ad hc
    refine ⟨_, hc, ?_⟩
    refine ifT (fun ht g12 m12 => no (fun hh => by have := hh.2.2.2.1; rw [this] at ht; cases ht) _) (fun ht2 => hJ g1 ?_)
    refine ⟨i64 (by omega) (by omega), ⟨by omega, by omega⟩, rd1 h1 (i := ((p : Nat) : Int) + 2) (p + 2) (by omega) (by omega) ?_⟩
    intro ad hc
    refine ⟨_, hc, ?_⟩
    intro J1 hJ1 g6 m6
    have h6 := h1.exm m6
    refine ifLt (fun hn g7 m7 => no (fun hh => by have := hh.2.2.2.2.1; omega) _) (fun hn => ⟨i64 (by omega) (by omega), i64 (by omega) (by omega), ifLt (fun hb g8 m8 => no (fun hh => by have := hh.2.2.2.2.2.1; omega) _) (fun hb => ?_)⟩)
    obtain ⟨n, hnn⟩ : ∃ n : Nat, (l.getD (p + 2) zW).2 = n := ⟨(l.getD (p + 2) zW).2.toNat, by omega⟩
    rw [hnn] at hn hb hJ1 ⊢
    refine ⟨⟨by omega, by omega⟩, rd1 h6 p rfl (by omega) ?_⟩
    intro ad hc
    refine ⟨_, hc, i64 (by omega) (by omega), ⟨by omega, by omega⟩, rd1 h6 (i := ((p : Nat) : Int) + 1) (p + 1) (by omega) (by omega) ?_⟩
    intro ad hc
    refine ⟨_, hc, i64 (by omega) (by omega), i64 (by omega) (by omega), i64 (by omega) (by omega), ⟨by omega, by omega⟩, ⟨by omega, by omega⟩, ?_⟩
    have e3 : Int.toNat (((p : Nat) : Int) + 3) = p + 3 := by omega
    have e4 : Int.toNat (((p : Nat) : Int) + 3 + (n : Nat)) = p + 3 + n := by omega
    rw [e3, e4]
    refine (k79 _ _ _ (h6.sub (lo := p + 3) (hi := p + 3 + n) (by omega) (by omega))).mono ?_
    rintro v g9 m9 rfl
    have en : (p + 3 + n) - (p + 3) = n := by omega
    rw [en]
    have hiff : rightP (l.getD p zW).2 (l.getD (p + 1) zW).2 ((l.drop (p + 3)).take n) ↔ hdrP l p := by
      unfold hdrP
      rw [hnn]
      refine ⟨fun hr => ⟨by omega, ht0, ht1, ht2, by omega, ?_, ?_⟩, fun hh => ?_⟩
      · rw [Int.toNat_natCast]; omega
      · rw [Int.toNat_natCast]; exact hr
      · have := hh.2.2.2.2.2.2; rwa [Int.toNat_natCast] at this
    refine ⟨_, rfl, ifPn (fun hr g10 m10 => no (fun hh => hr (hiff.2 hh)) _) (fun hr => hJ1 g9 ?_)⟩
    have hh := hiff.1 hr
    intro g4 n4
    have hsz9 : g.size ≤ g9.w.heap.size := Nat.le_trans hsz (m6.trans m9).size
    obtain ⟨a', c', w', hrun, g5, hw, hs5, ho5, _, _⟩ := OwnE.app1 E55 55 (B := g.size) hsz9 (ho.exm (m6.trans m9)) n4 (x := ((p : Nat) : Int)) rfl (by omega) (by unfold maxLen; omega)
    refine ⟨a', _, c', w', hrun, g5, hw, hs5, i64 (by omega) (by omega), i64 (by omega) (by omega), m - (3 + n), by omega, p + 3 + n, f - 1, done ++ [((p : Nat) : Int)], by omega, by omega, by omega, by omega, ?_, ho5, by omega, Nat.le_trans hsz9 (Nat.le_trans n4.ex.size hs5.le.size)⟩
    obtain ⟨f', rfl⟩ : ∃ f', f = f' + 1 := ⟨f - 1, by omega⟩
    rw [hst, stsF_yes hpl' hh, Option.map_map]
    have es : stepN l p = p + 3 + n := by unfold stepN; rw [hnn, Int.toNat_natCast]
    rw [es, show f' + 1 - 1 = f' from rfl]
    refine congrArg (fun q => Option.map q (stsF l f' (p + 3 + n))) ?_
    funext x
    simp
  · refine .inr ⟨done, oa, on, oc, ?_, rfl, ho.exm m15, by omega⟩
    rw [hst, stsF_end (by omega)]
    simp
end Go.Proofs.Ytcpclpkcanikiaa
/- The heap: what is valid, by the reference. -/
set_option linter.unusedVariables false
namespace Go.Proofs.Ytcpclpkcanikiaa
open Go Go.Vc Go.RowKit

theorem stsF_spec (l : List Wd) : ∀ (f p : Nat) (L : List Int), stsF l f p = some L → L.Pairwise (· < ·) ∧ ∀ x ∈ L, ∃ q : Nat, x = q ∧ p ≤ q ∧ q < l.length ∧ hdrP l q := by
  intro f
  induction f with
  | zero => intro p L h; cases h; exact ⟨List.Pairwise.nil, by simp⟩
  | succ f ih =>
    intro p L h
    by_cases hp : l.length ≤ p
    · rw [stsF_end hp] at h; cases h; exact ⟨List.Pairwise.nil, by simp⟩
    by_cases hh : hdrP l p
    · rw [stsF_yes (by omega) hh] at h
      cases hr : stsF l f (stepN l p) with
      | none => rw [hr] at h; cases h
      | some R =>
        rw [hr] at h
        cases h
        obtain ⟨h1, h2⟩ := ih _ _ hr
        have hstep : p < stepN l p := by unfold stepN; omega
        refine ⟨List.pairwise_cons.2 ⟨fun x hx => ?_, h1⟩, fun x hx => ?_⟩
        · obtain ⟨q, rfl, hq, _⟩ := h2 x hx; omega
        · rcases List.mem_cons.1 hx with rfl | hx
          · exact ⟨p, rfl, Nat.le_refl _, by omega, hh⟩
          · obtain ⟨q, rfl, hq, h3⟩ := h2 x hx
            exact ⟨q, rfl, by omega, h3⟩
    · rw [stsF_no (by omega) hh] at h; cases h
theorem sts_asc {l : List Wd} {L : List Int} (h : sts l = some L) : L.Pairwise (· < ·) := (stsF_spec l _ _ _ h).1
theorem sts_hdr {l : List Wd} {L : List Int} (h : sts l = some L) {x : Int} (hx : x ∈ L) : ∃ q : Nat, x = q ∧ q < l.length ∧ hdrP l q := by
  obtain ⟨q, h1, _, h3⟩ := (stsF_spec l _ _ _ h).2 x hx
  exact ⟨q, h1, h3⟩
/-- The words of the block at x are right. -/
def blkP (L : List Int) (l : List Wd) (x : Int) : Prop := ∀ k, k < (l.getD (x.toNat + 2) zW).2.toNat → wordP L (l.getD (x.toNat + 3 + k) zW)
/-- What is a valid heap. -/
def validP (l : List Wd) (fr lim : Int) : Prop := 0 ≤ lim ∧ lim ≤ 65536 ∧ fr = l.length ∧ fr ≤ lim ∧ ∃ L, sts l = some L ∧ ∀ x ∈ L, blkP L l x

theorem rdI {L : List Int} {a : Option Addr} {n c : Nat} {g : G} (h : SlE intE g a n c L) {i : Int} (p : Nat) (hi : i = (p : Int)) {x : Int} (hx : L[p]? = some x) {K : Addr → Prop} (hk : ∀ ad, g.w.cell? (Addr.add ad (Int.toNat i * 1)) = some (.int .i64 x) → K ad) : derefP a K := by
  subst hi
  refine h.rd (i := p) hx ?_
  rintro r ad rfl hr
  refine hk ad ?_
  rw [Int.toNat_natCast]
  have := (hr 0 _ rfl).1
  rwa [Addr.add_zero'] at this

theorem k23 (l : List Wd) {a : Option Addr} {ll c : Nat} {g : G} (h : SlE wordE g a ll c l) (fr lim : Int) : CallsP Try.prog 23 #[hpV a ll c fr lim] g fun v _ => v = .bool (tf (validP l fr lim)) := by
  refine call23 a ll c fr lim g _ ?_
  have hl := h.len
  unfold F23
  intro J hJ
  refine ifLt (fun h1 g11 _ => vF (by unfold validP; omega)) (fun h1 => ifLt (fun h2 g12 _ => vF (by unfold validP; omega)) (fun h2 => ifNe (fun h3 g13 _ => vF (by unfold validP; omega)) (fun h3 => ifLt (fun h4 g14 _ => vF (by unfold validP; omega)) (fun h4 g15 m15 => hJ g15 ?_))))
  have h15 := h.exm m15
  refine (k62 l h15 (by omega)).mono ?_
  rintro v g2 m2 (⟨hn, rfl⟩ | ⟨L, oa, on, oc, hL, rfl, ho, hol⟩)
  · exact ⟨_, _, _, _, rfl, ifT (fun _ g3 _ => vF (by rintro ⟨_, _, _, _, L, hL, _⟩; rw [hn] at hL; cases hL)) (fun hh => by cases hh)⟩
  have h2' := h15.exm m2
  have hos := ho.sl
  have hLl := hos.len
  have hasc := sts_asc hL
  have bad : ∀ x ∈ L, ¬ blkP L l x → ¬ validP l fr lim := by
    rintro x hx hb ⟨_, _, _, _, L', hL', hv⟩
    rw [hL] at hL'
    cases hL'
    exact hb (hv x hx)
  refine ⟨_, _, _, _, rfl, ifT (fun hh => by cases hh) (fun _ => ?_)⟩
  refine ⟨fun m i g' => ∃ j : Nat, i = j ∧ j + m = on ∧ ∀ x ∈ L.take j, blkP L l x, ⟨on, 0, rfl, by omega, by simp⟩, ?_⟩
  rintro m i g4 le4 ⟨j, rfl, hjm, hj⟩
  refine ifLt (fun hlt g5 m5 => ⟨⟨by omega, by omega⟩, ?_⟩) (fun hge g10 _ => vT ?_)
  · have hjl : j < L.length := by omega
    have gj := List.getElem?_eq_getElem hjl
    have hmem := List.mem_of_getElem? gj
    obtain ⟨q, hq, hql, hhdr⟩ := sts_hdr hL hmem
    rw [hq] at gj hmem
    have ho5 := (hos.mono le4).exm m5
    have h5 := (h2'.mono le4).exm m5
    have hh1 := hhdr.1
    have hh5 := hhdr.2.2.2.2.1
    have hh6 := hhdr.2.2.2.2.2.1
    obtain ⟨n, hnn⟩ : ∃ n : Nat, (l.getD (q + 2) zW).2 = n := ⟨(l.getD (q + 2) zW).2.toNat, by omega⟩
    rw [hnn, Int.toNat_natCast] at hh6
    refine rdI ho5 j rfl gj ?_
    intro ad hc
    refine ⟨_, hc, i64 (by omega) (by omega), ⟨by omega, by omega⟩, ?_⟩
    refine rd1 h5 (i := ((q : Nat) : Int) + 2) (q + 2) (by omega) (by omega) ?_
    intro ad hc
    refine ⟨_, hc, ?_⟩
    rw [hnn]
    have hblk : blkP L l ((q : Nat) : Int) ↔ ∀ k, k < n → wordP L (l.getD (q + 3 + k) zW) := by unfold blkP; rw [Int.toNat_natCast, hnn, Int.toNat_natCast]
    refine ⟨fun m2 k g' => ∃ r : Nat, k = r ∧ r + m2 = n ∧ ∀ k, k < r → wordP L (l.getD (q + 3 + k) zW), ⟨n, 0, rfl, by omega, fun k hk => by omega⟩, ?_⟩
    rintro m2 k g6 le6 ⟨r, rfl, hrm, hr⟩
    refine ifLt (fun hlt2 g7 m7 => ⟨⟨by omega, by omega⟩, ?_⟩) (fun hge2 => ⟨i64 (by omega) (by omega), m - 1, by omega, j + 1, by omega, by omega, ?_⟩)
    · refine rdI ((ho5.mono le6).exm m7) j rfl gj ?_
      intro ad hc
      refine ⟨_, hc, i64 (by omega) (by omega), i64 (by omega) (by omega), ⟨by omega, by omega⟩, ?_⟩
      have e1 : Int.toNat (((q : Nat) : Int) + 3 + (r : Nat)) = q + 3 + r := by omega
      rw [e1]
      refine ((h5.mono le6).exm m7).rd (i := q + 3 + r) (getW (by omega)) ?_
      rintro rr ad rfl hrr
      refine ⟨(l.getD (q + 3 + r) zW).1, (l.getD (q + 3 + r) zW).2, ?_, (hrr 1 _ rfl).1, ?_⟩
      · have := (hrr 0 _ rfl).1
        rwa [Addr.add_zero'] at this
      refine (k63 L hasc (l.getD (q + 3 + r) zW) ((ho5.mono le6).exm m7) (by omega)).mono ?_
      rintro v g8 m8 rfl
      refine ⟨_, rfl, ifPn (fun hb g9 _ => vF (bad _ hmem (fun hv => hb (hblk.1 hv r (by omega))))) (fun hb => ⟨i64 (by omega) (by omega), m2 - 1, by omega, r + 1, by omega, by omega, fun k hk => ?_⟩)⟩
      by_cases e : k = r
      · subst e; exact hb
      · exact hr k (by omega)
    · intro x hx
      rw [List.take_add_one, gj] at hx
      simp only [Option.toList_some, List.mem_append, List.mem_singleton] at hx
      rcases hx with hx | rfl
      · exact hj x hx
      · exact hblk.2 (fun k hk => hr k (by omega))
  · have : L.take j = L := List.take_of_length_le (by omega)
    rw [this] at hj
    exact ⟨by omega, by omega, by omega, by omega, L, hL, hj⟩
end Go.Proofs.Ytcpclpkcanikiaa
/- The heap: lists of words are compared by the library; the words of a text. -/
set_option linter.unusedVariables false
namespace Go.Proofs.Ytcpclpkcanikiaa
open Go Go.Vc Go.RowKit

/-- slices.Equal of words. -/
theorem k91 (xs ys : List Wd) {a b : Option Addr} {n c m d : Nat} {g : G} (hx : SlE wordE g a n c xs) (hy : SlE wordE g b m d ys) :
    CallsP Try.prog 91 #[.slice a n c, .slice b m d] g fun v _ => v = .bool (tf (xs = ys)) := by
  refine call91 a n c b m d g _ ?_
  have hlx := hx.len
  have hly := hy.len
  have hcap := hx.cap
  have hle := hx.le
  unfold maxLen at hcap
  unfold F91
  refine ifNe (fun hne g1 m1 => vF ?_) (fun he => ?_)
  · rintro rfl; omega
  refine ⟨fun k i g' => ∃ j : Nat, i = j ∧ j + k = n ∧ xs.take j = ys.take j, ⟨n, 0, rfl, by omega, by simp⟩, ?_⟩
  rintro k i g2 le ⟨j, rfl, hjk, hj⟩
  refine ifLt (fun hlt g3 m3 => ⟨⟨by omega, by omega⟩, ?_⟩) (fun hge g7 m7 => vT ?_)
  · have hjx : j < xs.length := by omega
    have hjy : j < ys.length := by omega
    have gx := List.getElem?_eq_getElem hjx
    have gy := List.getElem?_eq_getElem hjy
    refine ((hx.mono le).exm m3).rd (i := j) gx ?_
    rintro r ad rfl hr
    rw [Int.toNat_natCast]
    refine ⟨xs[j].1, xs[j].2, ?_, (hr 1 _ rfl).1, ⟨by omega, by omega⟩, ?_⟩
    · have := (hr 0 _ rfl).1
      rwa [Addr.add_zero'] at this
    refine ((hy.mono le).exm m3).rd (i := j) gy ?_
    rintro r2 ad2 rfl hr2
    refine ⟨ys[j].1, ys[j].2, ?_, (hr2 1 _ rfl).1, ?_⟩
    · have := (hr2 0 _ rfl).1
      rwa [Addr.add_zero'] at this
    rw [eqW]
    refine ifPn (fun hne g4 m4 => vF ?_) (fun hk => ⟨i64 (by omega) (by omega), k - 1, by omega, j + 1, by omega, by omega, ?_⟩)
    · rintro rfl; exact hne rfl
    · have hk' : xs[j] = ys[j] := hk
      rw [List.take_add_one, List.take_add_one, gx, gy, hj, hk']
  · have h1 : xs.take j = xs := List.take_of_length_le (by omega)
    have h2 : ys.take j = ys := List.take_of_length_le (by omega)
    rwa [h1, h2] at hj


theorem k74 (n : Int) (g : G) : CallsP Try.prog 74 #[.int .i64 n] g fun v _ => v = wdV (false, n) := by
  refine call74 n g _ ?_
  unfold F74
  first | exact fun g1 _ g2 _ => rfl | exact fun g1 _ => rfl
theorem E22 : Elem Try.prog 22 41 2 16 := ⟨Try.underlying22, by kernel_rfl⟩
/-- The words of a text. -/
def bytesW (s : List UInt8) : List Wd := s.map fun b => (false, ((b.toNat : Nat) : Int))
theorem bytesW_take (s : List UInt8) (j : Nat) {b : UInt8} (h : s[j]? = some b) : bytesW (s.take (j + 1)) = bytesW (s.take j) ++ [(false, ((b.toNat : Nat) : Int))] := by
  unfold bytesW
  rw [List.take_add_one, h]
  simp
theorem k71 (s : List UInt8) (hs : s.length ≤ 100000) (g : G) : CallsP Try.prog 71 #[.string ⟨s.toArray⟩] g fun v g' => ∃ a c, v = .slice a s.length c ∧ OwnE wordE g' g.size 41 a s.length c (bytesW s) := by
  refine call71 ⟨s.toArray⟩ g _ ?_
  have hsz : (⟨s.toArray⟩ : ByteArray).size = s.length := by simp [ByteArray.size]
  unfold F71
  rw [hsz]
  refine ⟨fun m oa on oc i g1 => ∃ j : Nat, i = j ∧ j + m = s.length ∧ on = j ∧ OwnE wordE g1 g.size 41 oa on oc (bytesW (s.take j)) ∧ g.size ≤ g1.w.heap.size, ⟨s.length, 0, rfl, by omega, rfl, OwnE.nil _ _ _, Nat.le_refl _⟩, ?_⟩
  rintro m oa on oc i g1 le ⟨j, rfl, hjm, rfl, ho, hsz1⟩
  refine ifLt (fun hlt => ?_) (fun hge g5 m5 => ?_)
  · have hj : on < s.length := by omega
    have gj := List.getElem?_eq_getElem hj
    refine ⟨s[on], ⟨by omega, ?_⟩, i64 (by omega) (by have := s[on].toNat_lt; omega), (k74 _ g1).mono ?_⟩
    · rw [Int.toNat_natCast]
      show (s.toArray)[on]? = _
      simp [hj]
    rintro v g2 m2 rfl
    refine ⟨_, _, rfl, fun g3 n3 => ?_⟩
    have hsz2 : g.size ≤ g2.w.heap.size := Nat.le_trans hsz1 m2.size
    obtain ⟨a', c', w', hrun, g4, hw, hs4, ho4, _, _⟩ := OwnE.app1 (E := wordE) E22 22 (B := g.size) hsz2 (ho.exm m2) n3 (x := (false, ((s[on].toNat : Nat) : Int))) rfl (by omega) (by unfold maxLen; omega)
    refine ⟨a', _, c', w', hrun, g4, hw, hs4, i64 (by omega) (by omega), m - 1, by omega, on + 1, by omega, by omega, rfl, ?_, Nat.le_trans hsz2 (Nat.le_trans n3.ex.size hs4.le.size)⟩
    rw [bytesW_take s on gj]
    exact ho4
  · have e : on = s.length := by omega
    subst e
    rw [List.take_length] at ho
    exact ⟨oa, oc, rfl, ho.exm m5⟩
end Go.Proofs.Ytcpclpkcanikiaa
/- The heap: slices.Grow and slices.Concat of words. -/
set_option linter.unusedVariables false
namespace Go.Proofs.Ytcpclpkcanikiaa
open Go Go.Vc Go.RowKit

theorem slAddr_zero2 (a : Option Addr) (m : Nat) : slAddr a m 0 2 = a := by
  unfold slAddr
  split
  · rfl
  · cases a with
    | none => rfl
    | some x => simp [Addr.add_zero']
/-- slices.Grow of nil. -/
theorem k111 (n : Nat) (hn : n ≤ 4398046511104) (g : G) : CallsP Try.prog 111 #[(.slice none 0 0), (.int .i64 (n : Int))] g fun v g' => ∃ a c, v = .slice a 0 c ∧ OwnE wordE g' g.size 41 a 0 c [] := by
  refine call111 none 0 0 n g _ ?_
  unfold F111
  intro J hJ
  refine ifLt (fun h => by omega) (fun _ => hJ g ⟨i64 (by omega) (by omega), i64 (by omega) (by omega), ifLt (fun h => ?_) (fun h g4 m4 => ⟨none, 0, rfl, OwnE.nil _ _ _⟩)⟩)
  obtain ⟨i, z, hi, hz, hs, hby, hzs, hm0⟩ := E22.info
  have e2 : ((n : Int) - (((0 : Nat) : Int) - ((0 : Nat) : Int))) = (n : Int) := by omega
  have hr := Lib.run_append_nil_zeros (P := Try.prog) g.w 22 3 22 41 i z .i64 .i64 Try.underlying22 Try.underlying3 hi hz n (by omega) (by omega) (by omega) (by rw [hby]; omega)
  have e1 : slAddr none 0 0 2 = none := rfl
  have hge := grownCap_ge g.w n 0 41
  have hcm := grownCap_le_maxLen g.w n 0 41 (by unfold maxLen; omega)
  refine ⟨⟨by omega, by omega⟩, _, _, _, _, by rw [e1, e2]; exact hr, ?_⟩
  have hsz : g.w.heap.size < (g.w.drew.alloc (.cells (Builtin.zeroCells z.cells n ++ Builtin.zeroCells z.cells (grownCap g.w n 0 41 - n)) 41)).heap.size := by simp
  obtain ⟨s1, s2⟩ := row_stp (hs := hsz) (k := 0) (M := nobody) (B := g.w.heap.size) (Nat.le_refl _) ⟨rfl, rfl, rfl⟩ (fun b hb => Below.heap_alloc g.w.drew _ b hb)
  refine ⟨_, rfl, s1, ⟨by omega, by omega⟩, fun g3 m3 => ?_⟩
  have e3 : ∀ (x : Addr) (c : Nat), slAddr (some x) c 0 2 = some x ∨ True := fun _ _ => .inr trivial
  refine ⟨_, _, rfl, ⟨⟨[], OwnG.ex ⟨by simp, Or.inr ⟨_, Builtin.zeroCells z.cells n ++ Builtin.zeroCells z.cells (grownCap g.w n 0 41 - n), ?_, Nat.le_refl _, ?_, by omega, ?_, ?_, by simp, ?_, by omega, ?_⟩⟩ m3, Rws.nil⟩, rfl⟩⟩
  · exact slAddr_zero2 _ _
  · show (g.w.heap.push _)[g.w.heap.size]? = _
    simp
  · simpa using hcm
  · have : z.cells.size = 2 := hzs
    simp [Builtin.zeroCells, this]
    show n * 2 + (grownCap g.w n 0 41 - n) * 2 = grownCap g.w n 0 41 * 2
    omega
  · intro hx
    exact absurd (g.hX _ hx) (by simp)
  · intro j _ _
    exact Or.inr ⟨rfl, Nat.zero_le _⟩

/-- slices.Concat of three. -/
theorem k96 (x y z : List Wd) {a : Option Addr} {xa ya za : Option Addr} {xl xc yl yc zl zc : Nat} {g : G} (h : Sl g 1 a 3 3 [.slice xa xl xc, .slice ya yl yc, .slice za zl zc]) (hx : SlE wordE g xa xl xc x) (hy : SlE wordE g ya yl yc y) (hz : SlE wordE g za zl zc z)
    (hl : xl + yl + zl ≤ 4398046511104) : CallsP Try.prog 96 #[.slice a 3 3] g fun v g' => ∃ a' c', v = .slice a' (xl + yl + zl) c' ∧ OwnE wordE g' g.size 41 a' (xl + yl + zl) c' (x ++ y ++ z) := by
  refine call96 a 3 3 g _ ?_
  have hlx := hx.len
  have hly := hy.len
  have hlz := hz.len
  unfold F96
  refine ⟨fun m s v g' => ∃ i : Nat, v = i ∧ i + m = 3 ∧ s = ((([xl, yl, zl].take i).sum : Nat) : Int), ⟨3, 0, rfl, rfl, rfl⟩, ?_⟩
  rintro m s v g1 le ⟨i, rfl, him, rfl⟩
  have h1 := h.mono le
  have pick : ∀ {K : Option Addr → Nat → Nat → Prop} {g1 : G}, Sl g1 1 a 3 3 [.slice xa xl xc, .slice ya yl yc, .slice za zl zc] → i < 3 → (i = 0 → K xa xl xc) → (i = 1 → K ya yl yc) → (i = 2 → K za zl zc) →
      derefP a fun ad => ∃ sa : Option Addr, ∃ sl : Nat, ∃ sc : Nat, g1.w.cell? (Addr.add ad (Int.toNat (i : Int) * 1)) = some (.slice sa sl sc) ∧ K sa sl sc := by
    intro K g1 h hi k0 k1 k2
    rw [Int.toNat_natCast, Nat.mul_one]
    rcases (by omega : i = 0 ∨ i = 1 ∨ i = 2) with rfl | rfl | rfl
    · exact h.rd (k := 0) rfl fun ad _ hc => ⟨_, _, _, hc.1, k0 rfl⟩
    · exact h.rd (k := 1) rfl fun ad _ hc => ⟨_, _, _, hc.1, k1 rfl⟩
    · exact h.rd (k := 2) rfl fun ad _ hc => ⟨_, _, _, hc.1, k2 rfl⟩
  refine ifLt (fun hlt => ⟨⟨by omega, by omega⟩, pick h1 (by omega) ?_ ?_ ?_⟩) (fun hge => ?_)
  · rintro rfl
    exact ⟨i64 (by simp) (by simp; omega), ifLt (fun h => by simp at h; omega) fun _ => ⟨i64 (by omega) (by omega), m - 1, by omega, 1, by omega, by omega, by simp⟩⟩
  · rintro rfl
    exact ⟨i64 (by simp; omega) (by simp; omega), ifLt (fun h => by simp at h; omega) fun _ => ⟨i64 (by omega) (by omega), m - 1, by omega, 2, by omega, by omega, by simp⟩⟩
  · rintro rfl
    exact ⟨i64 (by simp; omega) (by simp; omega), ifLt (fun h => by simp at h; omega) fun _ => ⟨i64 (by omega) (by omega), m - 1, by omega, 3, by omega, by omega, by simp; omega⟩⟩
  · have : i = 3 := by omega
    subst this
    rw [show (([xl, yl, zl].take 3).sum : Nat) = xl + yl + zl by simp; omega]
    refine (k111 (xl + yl + zl) hl g1).mono ?_
    rintro v g2 m2 ⟨na, nc, rfl, ho⟩
    have hgs := le.size
    refine ⟨_, _, _, rfl, fun m na l nc v g3 => ∃ i : Nat, v = i ∧ i + m = 3 ∧ l = ([xl, yl, zl].take i).sum ∧ g.size ≤ g3.size ∧ OwnE wordE g3 g.size 41 na l nc (([x, y, z].take i).flatten), ⟨3, 0, rfl, rfl, rfl, Nat.le_trans hgs m2.size, ho.base hgs⟩, ?_⟩
    rintro m na l nc v g3 le3 ⟨i, rfl, him, rfl, hsz, ho⟩
    have hm : Le g g3 := (le.trans m2.le).trans le3
    have h3 := h.mono hm
    have hsum : ([xl, yl, zl].take i).sum ≤ xl + yl + zl := by
      rcases (by omega : i = 0 ∨ i = 1 ∨ i = 2 ∨ i = 3) with rfl | rfl | rfl | rfl <;> simp <;> omega
    have pick : ∀ {K : Option Addr → Nat → Nat → Prop}, i < 3 → (i = 0 → K xa xl xc) → (i = 1 → K ya yl yc) → (i = 2 → K za zl zc) →
        derefP a fun ad => ∃ sa : Option Addr, ∃ sl : Nat, ∃ sc : Nat, g3.w.cell? (Addr.add ad (Int.toNat (i : Int) * 1)) = some (.slice sa sl sc) ∧ K sa sl sc := by
      intro K hi k0 k1 k2
      rw [Int.toNat_natCast, Nat.mul_one]
      rcases (by omega : i = 0 ∨ i = 1 ∨ i = 2) with rfl | rfl | rfl
      · exact h3.rd (k := 0) rfl fun ad _ hc => ⟨_, _, _, hc.1, k0 rfl⟩
      · exact h3.rd (k := 1) rfl fun ad _ hc => ⟨_, _, _, hc.1, k1 rfl⟩
      · exact h3.rd (k := 2) rfl fun ad _ hc => ⟨_, _, _, hc.1, k2 rfl⟩
    refine ifLt (fun hlt => ⟨⟨by omega, by omega⟩, pick (by omega) ?_ ?_ ?_⟩) (fun hge g5 m5 => ?_)
    · rintro rfl
      obtain ⟨a', c', w', hr, g4, hw, hs, ho', _, _⟩ := OwnE.app E22 22 hsz ho (hx.mono hm) (by simp; omega) (by simp; unfold maxLen; omega)
      exact ⟨a', _, c', w', hr, g4, hw, hs, i64 (by omega) (by omega), m - 1, by omega, 1, by omega, by omega, by simp, Nat.le_trans hsz hs.le.size, by simpa using ho'⟩
    · rintro rfl
      obtain ⟨a', c', w', hr, g4, hw, hs, ho', _, _⟩ := OwnE.app E22 22 hsz ho (hy.mono hm) (by simp; omega) (by simp; unfold maxLen; omega)
      exact ⟨a', _, c', w', hr, g4, hw, hs, i64 (by omega) (by omega), m - 1, by omega, 2, by omega, by omega, by simp, Nat.le_trans hsz hs.le.size, by simpa using ho'⟩
    · rintro rfl
      obtain ⟨a', c', w', hr, g4, hw, hs, ho', _, _⟩ := OwnE.app E22 22 hsz ho (hz.mono hm) (by simp; omega) (by simp; unfold maxLen; omega)
      exact ⟨a', _, c', w', hr, g4, hw, hs, i64 (by omega) (by omega), m - 1, by omega, 3, by omega, by omega, by simp; omega, Nat.le_trans hsz hs.le.size, by simpa [Nat.add_assoc] using ho'⟩
    · have : i = 3 := by omega
      subst this
      refine ⟨na, nc, by simp; omega, ?_⟩
      have := ho.exm m5
      simpa [Nat.add_assoc] using this
end Go.Proofs.Ytcpclpkcanikiaa
/- The heap: one more block. -/
set_option linter.unusedVariables false
namespace Go.Proofs.Ytcpclpkcanikiaa
open Go Go.Vc Go.RowKit

/-- The words of a block. -/
def blkW (kind n : Int) (x : List Wd) : List Wd := [(false, kind), (false, n), (false, ((x.length : Nat) : Int))] ++ x
theorem blkW_len (kind n : Int) (x : List Wd) : (blkW kind n x).length = x.length + 3 := by simp [blkW]
/-- What add returns. -/
def AddSay (l : List Wd) (fr lim kind n : Int) (x : List Wd) (v : Value) (g : G) : Prop :=
  (lim - fr < ((x.length : Nat) : Int) + 3 ∧ v = .tuple ⟨[hpV none 0 0 0 0, wdV (false, 0), .bool false]⟩) ∨
  (((x.length : Nat) : Int) + 3 ≤ lim - fr ∧ ∃ a c, v = .tuple ⟨[hpV a (l.length + (x.length + 3)) c ((l.length + (x.length + 3) : Nat) : Int) lim, wdV (true, fr), .bool true]⟩ ∧ SlE wordE g a (l.length + (x.length + 3)) c (l ++ blkW kind n x))
theorem k64 (l x : List Wd) {a xa : Option Addr} {ll c xl xc : Nat} {g : G} (h : SlE wordE g a ll c l) (hx : SlE wordE g xa xl xc x) (fr lim kind n : Int) (hf : 0 ≤ fr ∧ fr ≤ lim ∧ lim ≤ 65536) (hl : fr = ll) (hxl : xl ≤ 1000000) :
    CallsP Try.prog 64 #[hpV a ll c fr lim, .int .i64 kind, .int .i64 n, .slice xa xl xc] g fun v g' => AddSay l fr lim kind n x v g' := by
  refine call64 a ll c fr lim kind n xa xl xc g _ ?_
  have hlen := h.len
  have hxlen := hx.len
  unfold F64
  refine ⟨i64 (by omega) (by omega), i64 (by omega) (by omega), ifLt (fun hh g1 _ g2 _ => .inl ⟨by omega, rfl⟩) (fun hh g3 m3 => ?_)⟩
  refine (k97 kind g3).mono ?_
  rintro v g4 m4 rfl
  refine ⟨_, _, rfl, (k97 n g4).mono ?_⟩
  rintro v g5 m5 rfl
  refine ⟨_, _, rfl, (k97 _ g5).mono ?_⟩
  rintro v g6 m6 rfl
  refine ⟨_, _, rfl, fun g7 n7 g8 n8 => ?_⟩
  have m7 := (((m3.trans m4).trans m5).trans m6).trans n7.ex
  have hrow : SlE wordE g7 (some ⟨g6.w.heap.size, 0, none⟩) 3 3 [(false, kind), (false, n), (false, ((xl : Nat) : Int))] :=
    n7.sle (xs := [(false, kind), (false, n), (false, ((xl : Nat) : Int))]) ((Rws.single (E := wordE) (g := g6) (x := (false, kind)) rfl).append ((Rws.single (E := wordE) (g := g6) (x := (false, n)) rfl).append (Rws.single (E := wordE) (g := g6) (x := (false, ((xl : Nat) : Int))) rfl))) (by unfold maxLen; simp)
  have hsl : Sl g8 1 (some ⟨g7.w.heap.size, 0, none⟩) 3 3 [.slice a ll c, .slice (some ⟨g6.w.heap.size, 0, none⟩) 3 3, .slice xa xl xc] := n8.sl (m := 1) (n := 3) rfl (by unfold maxLen; omega)
  refine (k96 l _ x hsl (h.exm (m7.trans n8.ex)) (hrow.exm n8.ex) (hx.exm (m7.trans n8.ex)) (by omega)).mono ?_
  rintro v g9 m9 ⟨ya, yc, rfl, hy⟩
  refine ⟨_, _, _, rfl, fun g10 m10 => (k98 fr g10).mono ?_⟩
  rintro v g11 m11 rfl
  refine ⟨_, _, rfl, fun g12 m12 => .inr ⟨by omega, ya, yc, ?_, ?_⟩⟩
  · rw [show ll + 3 + xl = l.length + (x.length + 3) by omega]
    rfl
  · have hy' := (hy.exm ((m10.trans m11).trans m12)).sl
    rw [show ll + 3 + xl = l.length + (x.length + 3) by omega] at hy'
    have e : l ++ blkW kind n x = l ++ [(false, kind), (false, n), (false, ((xl : Nat) : Int))] ++ x := by unfold blkW; rw [hxlen, List.append_assoc]
    rw [e]
    exact hy'
end Go.Proofs.Ytcpclpkcanikiaa
/- The heap: one more block, by the reference. -/
set_option linter.unusedVariables false
namespace Go.Proofs.Ytcpclpkcanikiaa
open Go Go.Vc Go.RowKit

/-- Two results' variables are stored. -/
theorem two_st {gx : G} {b c n : Nat} {t u : TypeId} {o1 o2 o3 p1 p2 : Value} (M1 : MutB gx b t [o1, o2, o3]) (M2 : MutB gx c u [p1, p2]) (hbc : b ≠ c) (hb : n ≤ b) (hc : n ≤ c) (v1 v2 v3 u1 u2 : Value) :
    (stOk gx.w ⟨b, 0, none⟩ 3 ∧ ¬ gx.X (Addr.block ⟨b, 0, none⟩) ∧ mutAt gx ⟨b, 0, none⟩ 3 ∧ ((Addr.block ⟨b, 0, none⟩) < n → nobody (Addr.block ⟨b, 0, none⟩))) ∧
    ∀ g17, StG false gx ⟨b, 0, none⟩ [v1, v2, v3] g17 → SameBut (fun x => x = b) gx g17 ∧
      (stOk g17.w ⟨c, 0, none⟩ 2 ∧ ¬ g17.X (Addr.block ⟨c, 0, none⟩) ∧ mutAt g17 ⟨c, 0, none⟩ 2 ∧ ((Addr.block ⟨c, 0, none⟩) < n → nobody (Addr.block ⟨c, 0, none⟩))) ∧
      ∀ g18, StG false g17 ⟨c, 0, none⟩ [u1, u2] g18 → (g18.w.cell? ⟨b, 0, none⟩ = some v1 ∧ g18.w.cell? (Addr.add ⟨b, 0, none⟩ 1) = some v2 ∧ g18.w.cell? (Addr.add ⟨b, 0, none⟩ 2) = some v3) ∧
        (g18.w.cell? ⟨c, 0, none⟩ = some u1 ∧ g18.w.cell? (Addr.add ⟨c, 0, none⟩ 1) = some u2) ∧ Le gx g18 := by
  refine ⟨⟨M1.ok0 (by simp), M1.nx, M1.mut0 _, fun h => absurd h (by show ¬ b < n; omega)⟩, fun g17 k17 => ?_⟩
  obtain ⟨N1, b1⟩ := M1.st0 k17
  have N2 := M2.but b1 (fun e => hbc e.symm)
  refine ⟨fun x hx hnx hne => b1.same x hx hnx hne, ⟨N2.ok0 (by simp), N2.nx, N2.mut0 _, fun h => absurd h (by show ¬ c < n; omega)⟩, fun g18 k18 => ?_⟩
  obtain ⟨O2, b2⟩ := N2.st0 k18
  have O1 := N1.but b2 hbc
  exact ⟨⟨O1.rd0 rfl, O1.rd (j := 1) rfl, O1.rd (j := 2) rfl⟩, ⟨O2.rd0 rfl, O2.rd (j := 1) rfl⟩, (b1.le (fun x e i => e ▸ M1.d i)).trans (b2.le (fun x e i => e ▸ N2.d i))⟩

theorem k70 (l x : List Wd) {a xa : Option Addr} {ll c xl xc : Nat} {g : G} (h : SlE wordE g a ll c l) (hx : SlE wordE g xa xl xc x) (fr lim kind n : Int) (hf : 0 ≤ fr ∧ fr ≤ lim ∧ lim ≤ 65536) (hl : fr = ll) (hxl : xl ≤ 1000000) :
    CallsP Try.prog 70 #[hpV a ll c fr lim, .int .i64 kind, .int .i64 n, .slice xa xl xc] g fun v g' => AddSay l fr lim kind n x v g' := by
  refine call70 a ll c fr lim kind n xa xl xc g _ ?_
  have hlen := h.len
  have hxlen := hx.len
  unfold F70
  intro g1 m1 g2 n2 g3 n3
  have M1 := n2.mut.ex n3.ex
  have M2 := n3.mut
  have hbc : g1.w.heap.size ≠ g2.w.heap.size := Nat.ne_of_lt (heap_lt n2.blk)
  have hB1 : g.w.heap.size ≤ g1.w.heap.size := m1.size
  have hB2 : g.w.heap.size ≤ g2.w.heap.size := Nat.le_trans hB1 n2.ex.size
  have m3 : Ex g g3 := (m1.trans n2.ex).trans n3.ex
  refine ⟨i64 (by omega) (by omega), i64 (by omega) (by omega), ifLt (fun hh => ?_) (fun hh => ?_)⟩
  · obtain ⟨⟨s1, s2, s3, s4⟩, hk⟩ := two_st M1 M2 hbc hB1 hB2 (.slice none 0 0) (.int .i64 0) (.int .i64 0) (.bool false) (.int .i64 0)
    refine ⟨s1, s2, s3, s4, fun g4 k4 => ?_⟩
    obtain ⟨_, ⟨t1, t2, t3, t4⟩, hk2⟩ := hk g4 k4
    refine ⟨t1, t2, t3, t4, fun g5 k5 => ?_⟩
    obtain ⟨⟨r1, r2, r3⟩, ⟨q1, q2⟩, _⟩ := hk2 g5 k5
    exact ⟨_, _, _, _, _, r1, r2, r3, _, _, q1, q2, fun g6 m6 => .inl ⟨by omega, rfl⟩⟩
  intro J hJ g23 m23
  have m23' := m3.trans m23
  have hB23 : g.w.heap.size ≤ g23.w.heap.size := m23'.size
  -- what follows the first append
  have main : ∀ (g7 : G) (oa : Option Addr) (oc : Nat), Ex g23 g7 → OwnE wordE g7 g23.w.heap.size 41 oa ll oc l → J oa ll oc (fr + 3 + ((xl : Nat) : Int)) lim g7 := by
    intro g7 oa oc m7 ho
    refine hJ _ _ _ _ _ _ (fun g8 m8 => ⟨nobody, fun b hb => hb.elim, (k74 kind g8).mono ?_⟩)
    rintro v g9 m9 rfl
    refine ⟨_, _, rfl, (k74 n g9).mono ?_⟩
    rintro v g10 m10 rfl
    refine ⟨_, _, rfl, (k74 _ g10).mono ?_⟩
    rintro v g11 m11 rfl
    refine ⟨_, _, rfl, fun g12 n12 => ?_⟩
    have hrow : SlE wordE g12 (some ⟨g11.w.heap.size, 0, none⟩) 3 3 [(false, kind), (false, n), (false, ((xl : Nat) : Int))] :=
      n12.sle (xs := [(false, kind), (false, n), (false, ((xl : Nat) : Int))]) ((Rws.single (E := wordE) (g := g11) (x := (false, kind)) rfl).append ((Rws.single (E := wordE) (g := g11) (x := (false, n)) rfl).append (Rws.single (E := wordE) (g := g11) (x := (false, ((xl : Nat) : Int))) rfl))) (by unfold maxLen; simp)
    have m12 := (((m8.trans m9).trans m10).trans m11).trans n12.ex
    have hB12 : g23.w.heap.size ≤ g12.w.heap.size := (m7.trans m12).size
    obtain ⟨a1, c1, w1, hr1, g13, hw1, hs1, ho1, hst1, _⟩ := OwnE.app E22 22 (B := g23.w.heap.size) hB12 (ho.exm m12) hrow (by omega) (by unfold maxLen; omega)
    refine ⟨a1, _, c1, w1, hr1, g13, hw1, hs1.mono hB23 (fun _ _ h => h.elim), fun g14 m14 => ?_⟩
    have m13 : Ex g23 g13 := ((m7.trans m12).but _ |>.trans (hst1.but (Nat.le_refl _))).ex (fun b hb _ e => by have := (ho.exm m12).ge e; omega)
    have hx14 := hx.exm ((m23'.trans m13).trans m14)
    have hB14 : g23.w.heap.size ≤ g14.w.heap.size := (m13.trans m14).size
    obtain ⟨a2, c2, w2, hr2, g15, hw2, hs2, ho2, hst2, _⟩ := OwnE.app E22 22 (B := g23.w.heap.size) hB14 (ho1.exm m14) hx14 (by omega) (by unfold maxLen; omega)
    refine ⟨a2, _, c2, w2, hr2, g15, hw2, hs2.mono hB23 (fun _ _ h => h.elim), fun g16 m16 => ?_⟩
    have m15 : Ex g23 g15 := ((m13.trans m14).but _ |>.trans (hst2.but (Nat.le_refl _))).ex (fun b hb _ e => by have := (ho1.exm m14).ge e; omega)
    have m16' := (m23.trans m15).trans m16
    have M1' := M1.ex m16'
    have M2' := M2.ex m16'
    obtain ⟨⟨s1, s2, s3, s4⟩, hk⟩ := two_st M1' M2' hbc hB1 hB2 (.slice a2 (ll + 3 + xl) c2) (.int .i64 (fr + 3 + ((xl : Nat) : Int))) (.int .i64 lim) (.bool true) (.int .i64 fr)
    have done : ∀ g18 g19, Le g16 g18 → Ex g18 g19 → AddSay l fr lim kind n x (.tuple ⟨[(.agg ⟨[(.slice a2 (ll + 3 + xl) c2), (.int .i64 (fr + 3 + ((xl : Nat) : Int))), (.int .i64 lim)]⟩), (.agg ⟨[(.bool true), (.int .i64 fr)]⟩), (.bool true)]⟩) g19 := by
      intro g18 g19 hle m19
      refine .inr ⟨by omega, a2, c2, ?_, ?_⟩
      · rw [show fr + 3 + ((xl : Nat) : Int) = ((ll + 3 + xl : Nat) : Int) by omega, show ll + 3 + xl = l.length + (x.length + 3) by omega]
        rfl
      · have hy' := ((ho2.exm m16).sl.mono hle).exm m19
        rw [show ll + 3 + xl = l.length + (x.length + 3) by omega] at hy'
        have e : l ++ blkW kind n x = l ++ [(false, kind), (false, n), (false, ((xl : Nat) : Int))] ++ x := by unfold blkW; rw [hxlen, List.append_assoc]
        rw [e]
        exact hy'
    refine ⟨fun z => z = g1.w.heap.size, fun z e => e ▸ M1'.nx, ⟨s1, s2, s3, s4, fun g17 k17 => ?_⟩, s1, s2, s3, s4, fun g17 k17 => ?_⟩
    all_goals
      obtain ⟨hsame, ⟨t1, t2, t3, t4⟩, hk2⟩ := hk g17 k17
      refine ⟨hsame, t1, t2, t3, t4, fun g18 k18 => ?_⟩
      obtain ⟨⟨r1, r2, r3⟩, ⟨q1, q2⟩, hle⟩ := hk2 g18 k18
      exact ⟨_, _, _, _, _, r1, r2, r3, _, _, q1, q2, fun g19 m19 => done g18 g19 hle m19⟩
  -- the copy
  have cp : ∀ (gy gz : G), Ex g23 gy → NewL gy gz 41 [] → ∀ gw, Ex gz gw → ∃ a' c' w', (Builtin.append_ #[22, 22] 22 #[.slice (some ⟨gy.w.heap.size, 0, none⟩) 0 0, .slice a ll c]).run Try.prog gw.w = .ok (.slice a' ll c') w' ∧ ∃ g', g'.w = w' ∧ Stp g.w.heap.size nobody gw g' ∧ SameBut nobody g23 g' ∧ ∀ g26, Ex g' g26 → J a' ll c' (fr + 3 + ((xl : Nat) : Int)) lim g26 := by
    intro gy gz my nz gw mw
    have o : OwnE wordE gz g23.w.heap.size 41 (some ⟨gy.w.heap.size, 0, none⟩) 0 0 [] := OwnE.lit (xs := []) nz Rws.nil my.size (by unfold maxLen; simp)
    have mz := (my.trans nz.ex).trans mw
    obtain ⟨a', c', w', hr, g', hw, hs, ho, hst, _⟩ := OwnE.app E22 22 (B := g23.w.heap.size) mz.size (o.exm mw) (h.exm (m23'.trans mz)) (by omega) (by unfold maxLen; omega)
    have m' : Ex g23 g' := (mz.but _ |>.trans (hst.but (Nat.le_refl _))).ex (fun b hb _ e => by have := (o.exm mw).ge e; omega)
    rw [Nat.zero_add] at hr ho
    exact ⟨a', c', w', hr, g', hw, hs.mono hB23 (fun _ _ h => h.elim), fun b hb hx _ => m'.same b hb hx, fun g26 m26 => main g26 a' c' (m'.trans m26) (ho.exm m26)⟩
  refine ⟨nobody, fun b hb => hb.elim, i64 (by omega) (by omega), i64 (by omega) (by omega), fun g24 n24 => ⟨?_, fun g29 m29 => ?_⟩, fun g32 m32 g33 n33 => ?_⟩
  · obtain ⟨a', c', w', hr, g', hw, hs, hsame, hk⟩ := cp g23 g24 (Ex.refl _) n24 g24 (Ex.refl _)
    exact ⟨a', _, c', w', hr, g', hw, hs, hsame, fun g26 m26 => hk g26 m26, fun g27 m27 g28 m28 => hk g28 (m27.trans m28)⟩
  · obtain ⟨a', c', w', hr, g', hw, hs, hsame, hk⟩ := cp g23 g24 (Ex.refl _) n24 g29 m29
    exact ⟨a', _, c', w', hr, g', hw, hs, hsame, fun g26 m26 => hk g26 m26⟩
  · obtain ⟨a', c', w', hr, g', hw, hs, hsame, hk⟩ := cp g32 g33 m32 n33 g33 (Ex.refl _)
    exact ⟨a', _, c', w', hr, g', hw, hs, hsame, fun g26 m26 => hk g26 m26⟩
end Go.Proofs.Ytcpclpkcanikiaa
/- The heap: texts, blocks, and references, by the reference. -/
set_option linter.unusedVariables false
namespace Go.Proofs.Ytcpclpkcanikiaa
open Go Go.Vc Go.RowKit

theorem bytesW_len (s : List UInt8) : (bytesW s).length = s.length := by simp [bytesW]
theorem k27 (l : List Wd) (s : List UInt8) {a : Option Addr} {ll c : Nat} {g : G} (h : SlE wordE g a ll c l) (hs : s.length ≤ 100000) (fr lim : Int) (hf : 0 ≤ fr ∧ fr ≤ lim ∧ lim ≤ 65536) (hl : fr = ll) :
    CallsP Try.prog 27 #[hpV a ll c fr lim, .string ⟨s.toArray⟩] g fun v g' => AddSay l fr lim 4 (s.length : Nat) (bytesW s) v g' := by
  refine call27 a ll c fr lim ⟨s.toArray⟩ g _ ?_
  have hsz : (⟨s.toArray⟩ : ByteArray).size = s.length := by simp [ByteArray.size]
  unfold F27
  rw [hsz]
  refine fun g1 m1 => (k71 s hs g1).mono ?_
  rintro v g2 m2 ⟨xa, xc, rfl, hx⟩
  refine ⟨_, _, _, rfl, (k70 l (bytesW s) (h.exm (m1.trans m2)) hx.sl fr lim 4 (s.length : Nat) hf hl (by omega)).mono ?_⟩
  rintro v g3 m3 (⟨hh, rfl⟩ | ⟨hh, ya, yc, rfl, hy⟩)
  · exact ⟨_, _, _, _, _, _, _, _, rfl, fun g4 m4 => .inl ⟨hh, rfl⟩⟩
  · exact ⟨_, _, _, _, _, _, _, _, rfl, fun g4 m4 => .inr ⟨hh, ya, yc, rfl, hy.exm m4⟩⟩
/-- Blocks, of words that are right blocks. -/
theorem k36 (l : List Wd) {L : List Int} (hL : sts l = some L) {a : Option Addr} {ll c : Nat} {g : G} (h : SlE wordE g a ll c l) (hll : ll ≤ 1000000) (fr lim : Int) :
    CallsP Try.prog 36 #[hpV a ll c fr lim] g fun v g' => ∃ oa on oc, v = .slice oa on oc ∧ SlE intE g' oa on oc L ∧ on ≤ ll := by
  refine call36 a ll c fr lim g _ ?_
  have hlen := h.len
  unfold F36
  refine fun g1 m1 => (k62 l (h.exm m1) hll).mono ?_
  rintro v g2 m2 (⟨hn, _⟩ | ⟨L', oa, on, oc, hL', rfl, ho, hon⟩)
  · rw [hL] at hn; cases hn
  · rw [hL] at hL'
    cases hL'
    exact ⟨_, _, _, _, rfl, fun g3 m3 => ⟨oa, on, oc, rfl, ho.sl.exm m3, by omega⟩⟩
theorem k37 (l : List Wd) {L : List Int} (hL : sts l = some L) {a : Option Addr} {ll c : Nat} {g : G} (h : SlE wordE g a ll c l) (hll : ll ≤ 1000000) (fr lim : Int) (w : Wd) :
    CallsP Try.prog 37 #[hpV a ll c fr lim, wdV w] g fun v _ => v = .bool (tf (w.1 = true ∧ w.2 ∈ L)) := by
  refine call37 a ll c fr lim w.1 w.2 g _ ?_
  unfold F37
  refine fun g1 m1 => ifT (fun hw => (k36 l hL (h.exm m1) hll fr lim).mono ?_) (fun hw g5 _ => vF (by rintro ⟨h1, _⟩; rw [h1] at hw; cases hw))
  rintro v g2 m2 ⟨oa, on, oc, rfl, ho, hon⟩
  refine ⟨_, _, _, rfl, (k81 L (sts_asc hL) w.2 ho (by omega)).mono ?_⟩
  rintro v g3 m3 rfl
  exact ⟨_, rfl, fun g4 _ => congrArg Value.bool (tf_iff (by simp [hw]))⟩
end Go.Proofs.Ytcpclpkcanikiaa
/- The heap: the text of words, by the reference. -/
set_option linter.unusedVariables false
namespace Go.Proofs.Ytcpclpkcanikiaa
open Go Go.Vc Go.RowKit

def byteX (x : Int) : UInt8 := UInt8.ofNat (x % 256).toNat
theorem byteX_wrap (x : Int) : IntKind.u8.wrap x = (((byteX x).toNat : Nat) : Int) := by
  unfold byteX
  rw [UInt8.toNat_ofNat_of_lt' (by show (x % 256).toNat < 256; omega)]
  simp [IntKind.wrap, IntKind.signed, IntKind.bits]
  omega
def textW (l : List Wd) : List UInt8 := l.map fun w => byteX w.2
theorem E66 : Elem Try.prog 66 5 1 1 := ⟨Try.underlying66, by kernel_rfl⟩
theorem k40 (l : List Wd) {a : Option Addr} {ll c : Nat} {g : G} (h : SlE wordE g a ll c l) (hll : ll ≤ 1000000) : CallsP Try.prog 40 #[.slice a ll c] g fun v _ => v = .string ⟨(textW l).toArray⟩ := by
  refine call40 a ll c g _ ?_
  have hlen := h.len
  unfold F40
  refine ⟨fun m oa on oc i g1 => ∃ j : Nat, i = j ∧ j + m = ll ∧ on = j ∧ OwnB g1 g.size 5 oa on oc (textW (l.take j)) ∧ g.size ≤ g1.w.heap.size, ⟨ll, 0, rfl, by omega, rfl, OwnG.nil _ _ _ _, Nat.le_refl _⟩, ?_⟩
  rintro m oa on oc i g1 le ⟨j, rfl, hjm, rfl, ho, hsz⟩
  refine ifLt (fun hlt => ⟨⟨by omega, by omega⟩, ?_⟩) (fun hge => ?_)
  · have hj : on < l.length := by omega
    have gj := List.getElem?_eq_getElem hj
    refine (h.mono le).rd (i := on) gj ?_
    rintro r ad rfl hr
    rw [Int.toNat_natCast]
    refine ⟨l[on].2, (hr 1 _ rfl).1, fun g2 n2 => ?_⟩
    rw [byteX_wrap] at n2
    have hs : SlB g2 (some ⟨g1.w.heap.size, 0, none⟩) 1 1 [byteX l[on].2] := n2.sl (m := 1) (n := 1) rfl (by unfold maxLen; omega)
    obtain ⟨a', c', w', hrun, g3, hw, hs3, ho3, _, _⟩ := OwnB.app E66 66 (B := g.size) (Nat.le_trans hsz n2.ex.size) (ho.ex n2.ex) hs (by omega) (by unfold maxLen; omega)
    refine ⟨a', _, c', w', hrun, g3, hw, hs3, i64 (by omega) (by omega), m - 1, by omega, on + 1, by omega, by omega, rfl, ?_, Nat.le_trans hsz (Nat.le_trans n2.ex.size hs3.le.size)⟩
    have e : textW (l.take (on + 1)) = textW (l.take on) ++ [byteX l[on].2] := by unfold textW; rw [List.take_add_one, gj, Option.toList_some, List.map_append]; rfl
    rw [e]
    exact ho3
  · have e : l.take on = l := List.take_of_length_le (by omega)
    rw [e] at ho
    exact ⟨_, _, SlB.str ho.sl Try.underlying66 Try.underlying5 Try.underlying9, g1, rfl, Stp.refl _ _ _, fun g5 _ => rfl⟩
end Go.Proofs.Ytcpclpkcanikiaa
/- The heap: the library's search. -/
set_option linter.unusedVariables false
namespace Go.Proofs.Ytcpclpkcanikiaa
open Go Go.Vc Go.RowKit

theorem eqI_self (x : Int) : eqI x x = true := eqI_true.mpr rfl
theorem k127 (x : Int) (g : G) : CallsP Try.prog 127 #[.int .i64 x] g fun v _ => v = .bool false := by
  refine call127 x g _ ?_
  unfold F127
  exact fun g1 _ => by rw [eqI_self]; rfl
theorem k114 (x : Int) (g : G) : CallsP Try.prog 114 #[.int .i64 x] g fun v _ => v = .bool false := by
  refine call114 x g _ ?_
  unfold F114
  exact fun g1 _ => by rw [eqI_self]; rfl
theorem k113 (x y : Int) (g : G) : CallsP Try.prog 113 #[.int .i64 x, .int .i64 y] g fun v _ => v = .bool (tf (x < y)) := by
  refine call113 x y g _ ?_
  unfold F113
  refine (k127 x g).mono ?_
  rintro v g1 m1 rfl
  exact ⟨_, rfl, ifT (fun hh => by cases hh) (fun _ g5 _ => by rw [tf_lt])⟩
theorem half (p q : Nat) (h : p + q < 4294967296) : shrI IntKind.u64 (IntKind.u64.wrap (((p : Nat) : Int) + ((q : Nat) : Int))) 1 = (((p + q) / 2 : Nat) : Int) := by
  have hw : IntKind.u64.wrap (((p : Nat) : Int) + ((q : Nat) : Int)) = ((p + q : Nat) : Int) := by
    simp [IntKind.wrap, IntKind.bits, IntKind.signed]
    omega
  rw [hw]
  unfold shrI
  have : min (Int.toNat (1 : Int)) IntKind.u64.bits = 1 := by decide
  rw [this]
  have h2 : ((2 : Int) ^ 1) = 2 := by decide
  rw [h2, Int.fdiv_eq_ediv_of_nonneg _ (by omega)]
  omega
/-- slices.BinarySearch, of an ascending list. -/
theorem k104 (l : List Int) (hs : l.Pairwise (· < ·)) (n : Int) {a : Option Addr} {ll c : Nat} {g : G} (h : SlE intE g a ll c l) (hll : ll ≤ 1000000) : CallsP Try.prog 104 #[.slice a ll c, .int .i64 n] g fun v _ => ∃ i : Int, v = .tuple ⟨[.int .i64 i, .bool (tf (n ∈ l))]⟩ := by
  refine call104 a ll c n g _ ?_
  have hl := h.len
  have hlt : ∀ {i j : Nat} {x y : Int}, l[i]? = some x → l[j]? = some y → i < j → x < y := by
    intro i j x y hi hj hij
    obtain ⟨hi', rfl⟩ := List.getElem?_eq_some_iff.1 hi
    obtain ⟨hj', rfl⟩ := List.getElem?_eq_some_iff.1 hj
    exact List.pairwise_iff_getElem.1 hs i j hi' hj' hij
  unfold F104
  refine ⟨fun m low high g' => ∃ p q : Nat, low = p ∧ high = q ∧ p + m = q ∧ q ≤ ll ∧ (∀ i x, i < p → l[i]? = some x → x < n) ∧ (∀ i x, q ≤ i → l[i]? = some x → n ≤ x), ⟨ll, 0, ll, rfl, rfl, by omega, by omega, fun i x hi _ => absurd hi (Nat.not_lt_zero i), fun i x hi hx => ?_⟩, ?_⟩
  · have := (List.getElem?_eq_some_iff.1 hx).1; omega
  rintro m low high g1 le ⟨p, q, rfl, rfl, hm, hq, hlo, hhi⟩
  refine ifLt (fun hpq => ?_) (fun hpq => ?_)
  · obtain ⟨k, hk, hk1, hk2⟩ : ∃ k : Nat, shrI IntKind.u64 (IntKind.u64.wrap (((p : Nat) : Int) + ((q : Nat) : Int))) 1 = k ∧ p ≤ k ∧ k < q := ⟨(p + q) / 2, half p q (by omega), by omega, by omega⟩
    rw [hk]
    refine ⟨i64 (by omega) (by omega), by omega, i64 (by omega) (by omega), ⟨by omega, by omega⟩, ?_⟩
    have gk := List.getElem?_eq_getElem (show k < l.length by omega)
    refine rdI (h.mono le) k rfl gk ?_
    intro ad hc
    refine ⟨_, hc, (k113 l[k] n g1).mono ?_⟩
    rintro v g2 m2 rfl
    refine ⟨_, rfl, ifP (fun hx => ⟨i64 (by omega) (by omega), q - (k + 1), by omega, k + 1, q, by omega, rfl, by omega, hq, fun i x hi hxi => ?_, hhi⟩) (fun hx => ⟨k - p, by omega, p, k, rfl, rfl, by omega, by omega, hlo, fun i x hi hxi => ?_⟩)⟩
    · by_cases e : i = k
      · subst e; rw [gk] at hxi; cases hxi; exact hx
      · have := hlt hxi gk (by omega); omega
    · by_cases e : i = k
      · subst e; rw [gk] at hxi; cases hxi; omega
      · have := hlt gk hxi (by omega); omega
  · have e : p = q := by omega
    subst e
    have none_ : (∀ x, l[p]? = some x → x ≠ n) → n ∉ l := by
      intro hne hx
      obtain ⟨i, hi⟩ := List.getElem?_of_mem hx
      by_cases h1 : i < p
      · have := hlo i n h1 hi; omega
      · by_cases h2 : i = p
        · subst h2; exact hne n hi rfl
        · have hil := (List.getElem?_eq_some_iff.1 hi).1
          have gp := List.getElem?_eq_getElem (show p < l.length by omega)
          have h3 := hlt gp hi (by omega)
          have h4 := hhi p _ (Nat.le_refl _) gp
          omega
    refine ifLt (fun hpl => ⟨⟨by omega, by omega⟩, ?_⟩) (fun hpl g8 _ => ⟨((p : Nat) : Int), ?_⟩)
    · have gk := List.getElem?_eq_getElem (show p < l.length by omega)
      refine rdI (h.mono le) p rfl gk ?_
      intro ad hc
      refine ⟨_, hc, ifEq (fun hx g3 _ => ⟨((p : Nat) : Int), ?_⟩) (fun hx => ⟨⟨by omega, by omega⟩, ?_⟩)⟩
      · rw [tf_of (show n ∈ l by rw [← hx]; exact List.mem_of_getElem? gk)]
      · refine rdI (h.mono le) p rfl gk ?_
        intro ad hc
        refine ⟨_, hc, (k114 _ g1).mono ?_⟩
        rintro v g4 m4 rfl
        refine ⟨_, rfl, ifT (fun hh => by cases hh) (fun _ g7 _ => ⟨((p : Nat) : Int), ?_⟩)⟩
        rw [tf_no (none_ (fun x hx2 e => by rw [gk] at hx2; cases hx2; exact hx e))]
    · rw [tf_no (none_ (fun x hx2 _ => by have := (List.getElem?_eq_some_iff.1 hx2).1; omega))]
/-- fits. -/
theorem k78 (l : List Int) (hs : l.Pairwise (· < ·)) (w : Wd) {a : Option Addr} {ll c : Nat} {g : G} (h : SlE intE g a ll c l) (hll : ll ≤ 1000000) : CallsP Try.prog 78 #[.slice a ll c, wdV w] g fun v _ => v = .bool (tf (wordP l w)) := by
  refine call78 a ll c w.1 w.2 g _ ?_
  unfold F78 wordP
  cases hw : w.1 with
  | false =>
    refine ifT (fun _ g1 m1 => (k99 w.2 g1).mono ?_) (fun hh => by cases hh)
    rintro v g2 m2 rfl
    exact ⟨_, rfl, fun g3 _ => by simp⟩
  | true =>
    refine ifT (fun hh => by cases hh) (fun _ g4 m4 => (k104 l hs w.2 (h.exm m4) hll).mono ?_)
    rintro v g5 m5 ⟨i, rfl⟩
    exact ⟨_, _, rfl, fun g6 _ => by simp⟩
end Go.Proofs.Ytcpclpkcanikiaa
/- The heap: what is valid, by the program; what heap.starts returns is taken as given here (K94). -/
set_option linter.unusedVariables false
namespace Go.Proofs.Ytcpclpkcanikiaa
open Go Go.Vc Go.RowKit

/-- The contents of the block at p. -/
def contW (l : List Wd) (p : Nat) : List Wd := (l.drop (p + 3)).take (l.getD (p + 2) zW).2.toNat
theorem k80 (l : List Wd) {a : Option Addr} {ll c : Nat} {g : G} (h : SlE wordE g a ll c l) (hll : ll ≤ 1000000) (fr lim : Int) (p : Nat) (hp : hdrP l p) :
    CallsP Try.prog 80 #[hpV a ll c fr lim, .int .i64 ((p : Nat) : Int)] g fun v g' => ∃ xa xc, v = .slice xa (l.getD (p + 2) zW).2.toNat xc ∧ SlE wordE g' xa (l.getD (p + 2) zW).2.toNat xc (contW l p) := by
  refine call80 a ll c fr lim ((p : Nat) : Int) g _ ?_
  have hl := h.len
  have hle := h.le
  have hp1 := hp.1
  have hp5 := hp.2.2.2.2.1
  have hp6 := hp.2.2.2.2.2.1
  unfold F80
  refine fun g1 m1 => ⟨i64 (by omega) (by omega), i64 (by omega) (by omega), i64 (by omega) (by omega), ⟨by omega, by omega⟩, ?_⟩
  refine rd1 (h.exm m1) (i := ((p : Nat) : Int) + 2) (p + 2) (by omega) (by omega) ?_
  intro ad hc
  obtain ⟨n, hnn⟩ : ∃ n : Nat, (l.getD (p + 2) zW).2 = n := ⟨(l.getD (p + 2) zW).2.toNat, by omega⟩
  unfold contW
  rw [hnn] at hc hp5 hp6 ⊢
  rw [Int.toNat_natCast] at hp6 ⊢
  have e3 : Int.toNat (((p : Nat) : Int) + 3) = p + 3 := by omega
  have e4 : Int.toNat (((p : Nat) : Int) + 3 + (n : Nat)) = p + 3 + n := by omega
  have en : (p + 3 + n) - (p + 3) = n := by omega
  refine ⟨_, hc, i64 (by omega) (by omega), ⟨by omega, by omega⟩, ⟨by omega, by omega⟩, fun g2 m2 => ?_⟩
  rw [e3, e4]
  have hsub := ((h.exm m1).exm m2).sub (lo := p + 3) (hi := p + 3 + n) (by omega) (by omega)
  rw [en] at hsub ⊢
  exact ⟨_, _, rfl, hsub⟩

/-- What heap.starts returns. -/
def StsSl (l : List Wd) (v : Value) (g : G) : Prop :=
  (sts l = none ∧ v = .tuple ⟨[.slice none 0 0, .bool false]⟩) ∨ ∃ L a n c, sts l = some L ∧ v = .tuple ⟨[.slice a n c, .bool true]⟩ ∧ SlE intE g a n c L ∧ n ≤ l.length
def K94 : Prop := ∀ (l : List Wd) (a : Option Addr) (ll c : Nat) (g : G) (fr lim : Int), SlE wordE g a ll c l → ll ≤ 1000000 → CallsP Try.prog 94 #[hpV a ll c fr lim] g fun v g' => StsSl l v g'
/-- What checked returns. -/
def ChkSay (l : List Wd) (fr lim : Int) (v : Value) (g : G) : Prop :=
  (¬ validP l fr lim ∧ v = .tuple ⟨[.slice none 0 0, .bool false]⟩) ∨ (validP l fr lim ∧ ∃ L a n c, sts l = some L ∧ v = .tuple ⟨[.slice a n c, .bool true]⟩ ∧ SlE intE g a n c L ∧ n ≤ l.length)
theorem k60 (H : K94) (l : List Wd) {a : Option Addr} {ll c : Nat} {g : G} (h : SlE wordE g a ll c l) (fr lim : Int) : CallsP Try.prog 60 #[hpV a ll c fr lim] g fun v g' => ChkSay l fr lim v g' := by
  refine call60 a ll c fr lim g _ ?_
  have hl := h.len
  unfold F60
  intro J hJ
  have no : ¬ validP l fr lim → ∀ g', ChkSay l fr lim (.tuple ⟨[.slice none 0 0, .bool false]⟩) g' := fun hn g' => .inl ⟨hn, rfl⟩
  refine ifLt (fun h1 g11 _ => no (by unfold validP; omega) _) (fun h1 => ifLt (fun h2 g12 _ => no (by unfold validP; omega) _) (fun h2 => ifNe (fun h3 g13 _ => no (by unfold validP; omega) _) (fun h3 => ifLt (fun h4 g14 _ => no (by unfold validP; omega) _) (fun h4 g15 m15 => hJ g15 ?_))))
  have h15 := h.exm m15
  refine (H l a ll c g15 fr lim h15 (by omega)).mono ?_
  rintro v g2 m2 (⟨hn, rfl⟩ | ⟨L, oa, on, oc, hL, rfl, ho, hol⟩)
  · exact ⟨_, _, _, _, rfl, ifT (fun _ g3 _ => no (by rintro ⟨_, _, _, _, L, hL, _⟩; rw [hn] at hL; cases hL) _) (fun hh => by cases hh)⟩
  have h2' := h15.exm m2
  have hos := ho
  have hLl := hos.len
  have hasc := sts_asc hL
  have bad : ∀ x ∈ L, ¬ blkP L l x → ¬ validP l fr lim := by
    rintro x hx hb ⟨_, _, _, _, L', hL', hv⟩
    rw [hL] at hL'
    cases hL'
    exact hb (hv x hx)
  refine ⟨_, _, _, _, rfl, ifT (fun hh => by cases hh) (fun _ => ?_)⟩
  refine ⟨fun m i g' => ∃ j : Nat, i = j ∧ j + m = on ∧ ∀ x ∈ L.take j, blkP L l x, ⟨on, 0, rfl, by omega, by simp⟩, ?_⟩
  rintro m i g4 le4 ⟨j, rfl, hjm, hj⟩
  refine ifLt (fun hlt => ⟨⟨by omega, by omega⟩, ?_⟩) (fun hge g10 m10 => .inr ⟨?_, L, oa, on, oc, hL, rfl, (hos.mono le4).exm m10, hol⟩)
  · have hjl : j < L.length := by omega
    have gj := List.getElem?_eq_getElem hjl
    have hmem := List.mem_of_getElem? gj
    obtain ⟨q, hq, hql, hhdr⟩ := sts_hdr hL hmem
    rw [hq] at gj hmem
    have hh5 := hhdr.2.2.2.2.1
    have hh6 := hhdr.2.2.2.2.2.1
    refine rdI (hos.mono le4) j rfl gj ?_
    intro ad hc
    refine ⟨_, hc, (k80 l (h2'.mono le4) (by omega) fr lim q hhdr).mono ?_⟩
    rintro v g5 m5 ⟨xa, xc, rfl, hx⟩
    obtain ⟨n, hnn⟩ : ∃ n : Nat, (l.getD (q + 2) zW).2 = n := ⟨(l.getD (q + 2) zW).2.toNat, by omega⟩
    have hblk : blkP L l ((q : Nat) : Int) ↔ ∀ k, k < n → wordP L (l.getD (q + 3 + k) zW) := by unfold blkP; rw [Int.toNat_natCast, hnn, Int.toNat_natCast]
    unfold contW at hx
    rw [hnn, Int.toNat_natCast] at hx hh6
    rw [hnn, Int.toNat_natCast]
    refine ⟨_, _, _, rfl, fun m2 k g' => ∃ r : Nat, k = r ∧ r + m2 = n ∧ ∀ k, k < r → wordP L (l.getD (q + 3 + k) zW), ⟨n, 0, rfl, by omega, fun k hk => by omega⟩, ?_⟩
    rintro m2 k g6 le6 ⟨r, rfl, hrm, hr⟩
    refine ifLt (fun hlt2 => ⟨⟨by omega, by omega⟩, ?_⟩) (fun hge2 => ⟨i64 (by omega) (by omega), m - 1, by omega, j + 1, by omega, by omega, ?_⟩)
    · have hget : ((l.drop (q + 3)).take n)[r]? = some (l.getD (q + 3 + r) zW) := by
        rw [List.getElem?_take, if_pos (by omega), List.getElem?_drop]
        exact getW (by omega)
      refine (hx.mono le6).rd (i := r) hget ?_
      rintro rr ad rfl hrr
      rw [Int.toNat_natCast]
      refine ⟨(l.getD (q + 3 + r) zW).1, (l.getD (q + 3 + r) zW).2, ?_, (hrr 1 _ rfl).1, fun g7 m7 => ?_⟩
      · have := (hrr 0 _ rfl).1
        rwa [Addr.add_zero'] at this
      refine (k78 L hasc (l.getD (q + 3 + r) zW) (((hos.mono le4).exm m5).mono le6 |>.exm m7) (by omega)).mono ?_
      rintro v g8 m8 rfl
      refine ⟨_, rfl, ifPn (fun hb g9 _ => no (bad _ hmem (fun hv => hb (hblk.1 hv r (by omega)))) _) (fun hb => ⟨i64 (by omega) (by omega), m2 - 1, by omega, r + 1, by omega, by omega, fun k hk => ?_⟩)⟩
      by_cases e : k = r
      · subst e; exact hb
      · exact hr k (by omega)
    · intro x hx
      rw [List.take_add_one, gj] at hx
      simp only [Option.toList_some, List.mem_append, List.mem_singleton] at hx
      rcases hx with hx | rfl
      · exact hj x hx
      · exact hblk.2 (fun k hk => hr k (by omega))
  · have : L.take j = L := List.take_of_length_le (by omega)
    rw [this] at hj
    exact ⟨by omega, by omega, by omega, by omega, L, hL, hj⟩
theorem k21 (H : K94) (l : List Wd) {a : Option Addr} {ll c : Nat} {g : G} (h : SlE wordE g a ll c l) (fr lim : Int) : CallsP Try.prog 21 #[hpV a ll c fr lim] g fun v _ => v = .bool (tf (validP l fr lim)) := by
  refine call21 a ll c fr lim g _ ?_
  unfold F21
  refine fun g1 m1 => (k60 H l (h.exm m1) fr lim).mono ?_
  rintro v g2 m2 (⟨hn, rfl⟩ | ⟨hv, L, oa, on, oc, _, rfl, _⟩)
  · exact ⟨_, _, _, _, rfl, fun g3 _ => congrArg Value.bool (tf_no hn).symm⟩
  · exact ⟨_, _, _, _, rfl, fun g3 _ => congrArg Value.bool (tf_of hv).symm⟩
end Go.Proofs.Ytcpclpkcanikiaa
