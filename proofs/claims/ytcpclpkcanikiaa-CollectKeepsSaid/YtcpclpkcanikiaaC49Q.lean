/- Joined texts. -/
import Derived.Test.YtcpclpkcanikiaaC49p
/- Values of the language: trees; their sizes; what is data. -/
set_option linter.unusedVariables false
namespace Go.Proofs.Ytcpclpkcanikiaa
open Go Go.Vc Go.RowKit

def strE : El (List UInt8) where
  m := 1
  rep g r s := r = [.string ⟨s.toArray⟩]
  len := by rintro g r s rfl; rfl
  mono := by rintro g g' r s k rfl; rfl
  one := by
    rintro g r s rfl u hu
    simp only [List.mem_cons, List.not_mem_nil, or_false] at hu
    subst hu
    rfl
inductive Val where
  | mk (op n : Int) (s : List UInt8) (names : List (List UInt8)) (l : List Val)
namespace Val
def op : Val → Int | .mk o _ _ _ _ => o
def n : Val → Int | .mk _ n _ _ _ => n
def s : Val → List UInt8 | .mk _ _ s _ _ => s
def names : Val → List (List UInt8) | .mk _ _ _ ns _ => ns
def l : Val → List Val | .mk _ _ _ _ l => l
end Val
/-- A value's cells. -/
def valC (v : Val) (na : Option Addr) (nn nc : Nat) (la : Option Addr) (ln lc : Nat) : List Value := [.int .i64 v.op, .int .i64 v.n, .string ⟨v.s.toArray⟩, .slice na nn nc, .slice la ln lc]
structure Rep5 where
  rep : G → List Value → Val → Prop
  len : ∀ {g r x}, rep g r x → r.length = 5
  mono : ∀ {g g' r x}, Le g g' → rep g r x → rep g' r x
  one : ∀ {g r x}, rep g r x → ∀ u ∈ r, u.oneCell' = true
def Rep5.el (R : Rep5) : El Val := ⟨5, R.rep, R.len, R.mono, R.one⟩
/-- Trees of a depth below d. -/
def valR : Nat → Rep5
  | 0 => ⟨fun _ _ _ => False, fun h => h.elim, fun _ h => h.elim, fun h => h.elim⟩
  | d + 1 => ⟨fun g r v => ∃ na nn nc la ln lc, r = valC v na nn nc la ln lc ∧ SlE strE g na nn nc v.names ∧ SlE (valR d).el g la ln lc v.l,
    by rintro g r v ⟨_, _, _, _, _, _, rfl, _⟩; rfl,
    by rintro g g' r v k ⟨_, _, _, _, _, _, rfl, h1, h2⟩; exact ⟨_, _, _, _, _, _, rfl, h1.mono k, h2.mono k⟩,
    by
      rintro g r v ⟨_, _, _, _, _, _, rfl, _⟩ u hu
      simp only [valC, List.mem_cons, List.not_mem_nil, or_false] at hu
      rcases hu with rfl | rfl | rfl | rfl | rfl <;> rfl⟩
abbrev valE (d : Nat) : El Val := (valR d).el
/-- What a value's slices stand for. -/
structure VRep (g : G) (d : Nat) (v : Val) (na : Option Addr) (nn nc : Nat) (la : Option Addr) (ln lc : Nat) : Prop where
  names : SlE strE g na nn nc v.names
  l : SlE (valE d) g la ln lc v.l
theorem VRep.mono {g g' : G} {d : Nat} {v : Val} {na : Option Addr} {nn nc : Nat} {la : Option Addr} {ln lc : Nat} (h : VRep g d v na nn nc la ln lc) (k : Le g g') : VRep g' d v na nn nc la ln lc := ⟨h.names.mono k, h.l.mono k⟩
theorem VRep.ex {g g' : G} {d : Nat} {v : Val} {na : Option Addr} {nn nc : Nat} {la : Option Addr} {ln lc : Nat} (h : VRep g d v na nn nc la ln lc) (k : Ex g g') : VRep g' d v na nn nc la ln lc := h.mono k.le
/-- A value is read from a slice. -/
theorem rdV {d : Nat} {g : G} {a : Option Addr} {n c : Nat} {xs : List Val} (h : SlE (valE d) g a n c xs) {i : Int} (p : Nat) (hi : i = (p : Int)) {x : Val} (hx : xs[p]? = some x) {K : Addr → Prop}
    (hk : ∀ ad d' na nn nc la ln lc, d = d' + 1 → VRep g d' x na nn nc la ln lc → ¬ g.X (Addr.block (Addr.add ad (Int.toNat i * 5))) → g.w.cell? (Addr.add ad (Int.toNat i * 5)) = some (.int .i64 x.op) → g.w.cell? (Addr.add (Addr.add ad (Int.toNat i * 5)) 1) = some (.int .i64 x.n) → g.w.cell? (Addr.add (Addr.add ad (Int.toNat i * 5)) 2) = some (.string ⟨x.s.toArray⟩) →
      g.w.cell? (Addr.add (Addr.add ad (Int.toNat i * 5)) 3) = some (.slice na nn nc) → g.w.cell? (Addr.add (Addr.add ad (Int.toNat i * 5)) 4) = some (.slice la ln lc) → K ad) : derefP a K := by
  subst hi
  refine h.rd (i := p) hx ?_
  intro r ad hrep hr
  cases d with
  | zero => exact hrep.elim
  | succ d' =>
    obtain ⟨na, nn, nc, la, ln, lc, rfl, h1, h2⟩ := hrep
    have h0 := hr 0 _ rfl
    rw [Addr.add_zero'] at h0
    refine hk ad d' na nn nc la ln lc rfl ⟨h1, h2⟩ ?_ ?_ ?_ ?_ ?_ ?_
    all_goals rw [Int.toNat_natCast]
    · exact h0.2.1
    · exact h0.1
    · exact (hr 1 _ rfl).1
    · exact (hr 2 _ rfl).1
    · exact (hr 3 _ rfl).1
    · exact (hr 4 _ rfl).1

mutual
/-- The number of nodes. -/
def szV : Val → Nat
  | .mk _ _ _ _ l => szL l + 1
def szL : List Val → Nat
  | [] => 0
  | v :: r => szV v + szL r
end
mutual
/-- The depth. -/
def dpV : Val → Nat
  | .mk _ _ _ _ l => dpL l + 1
def dpL : List Val → Nat
  | [] => 0
  | v :: r => max (dpV v) (dpL r)
end
mutual
/-- What is untyped data. -/
def dataV : Val → Prop
  | .mk op n s names l => names = [] ∧ (op = 1 ∧ s = [] ∧ plainP n ∧ l = [] ∨ op = 2 ∧ n = 0 ∧ s.length ≤ 16384 ∧ l = [] ∨ op = 3 ∧ s = [] ∧ n = 0 ∧ l.length ≤ 1000 ∧ dataL l ∨ op = 4 ∧ s = [] ∧ 0 ≤ n ∧ n ≤ 1000 ∧ l.length = 1 ∧ dataL l)
def dataL : List Val → Prop
  | [] => True
  | v :: r => dataV v ∧ dataL r
end
theorem szV_eq (v : Val) : szV v = szL v.l + 1 := by cases v; simp [szV, Val.l]
theorem dpV_eq (v : Val) : dpV v = dpL v.l + 1 := by cases v; simp [dpV, Val.l]
theorem dataV_eq (v : Val) : dataV v ↔ v.names = [] ∧ (v.op = 1 ∧ v.s = [] ∧ plainP v.n ∧ v.l = [] ∨ v.op = 2 ∧ v.n = 0 ∧ v.s.length ≤ 16384 ∧ v.l = [] ∨ v.op = 3 ∧ v.s = [] ∧ v.n = 0 ∧ v.l.length ≤ 1000 ∧ dataL v.l ∨ v.op = 4 ∧ v.s = [] ∧ 0 ≤ v.n ∧ v.n ≤ 1000 ∧ v.l.length = 1 ∧ dataL v.l) := by cases v; simp [dataV, Val.l, Val.op, Val.n, Val.s, Val.names]
theorem szL_append (a b : List Val) : szL (a ++ b) = szL a + szL b := by
  induction a with
  | nil => simp [szL]
  | cons x r ih => simp only [List.cons_append, szL, ih]; omega
theorem dpL_append (a b : List Val) : dpL (a ++ b) = max (dpL a) (dpL b) := by
  induction a with
  | nil => simp [dpL]
  | cons x r ih => simp only [List.cons_append, dpL, ih]; omega
theorem dataL_iff : ∀ (l : List Val), dataL l ↔ ∀ x ∈ l, dataV x
  | [] => by simp [dataL]
  | v :: r => by simp [dataL, dataL_iff r]
theorem szL_mem : ∀ {l : List Val} {x : Val}, x ∈ l → szV x ≤ szL l
  | v :: r, x, h => by
    rcases List.mem_cons.1 h with rfl | h
    · simp [szL]
    · have := szL_mem h
      simp [szL]; omega
theorem dpV_le (v : Val) : dpV v ≤ szV v := by
  have key : ∀ k, (∀ v, szV v ≤ k → dpV v ≤ szV v) := by
    intro k
    induction k with
    | zero => intro v hv; rw [szV_eq] at hv; omega
    | succ k ih =>
      intro v hv
      rw [szV_eq] at hv
      rw [szV_eq, dpV_eq]
      have : ∀ l, szL l ≤ k → dpL l ≤ szL l := by
        intro l
        induction l with
        | nil => intro _; simp [dpL, szL]
        | cons x r ih2 =>
          intro hl
          simp only [szL] at hl
          have h1 := ih x (by omega)
          have h2 := ih2 (by omega)
          simp only [dpL, szL]
          omega
      have := this v.l (by omega)
      omega
  exact key _ v (Nat.le_refl _)
theorem dpL_le (l : List Val) : dpL l ≤ szL l := by
  have := dpV_le (.mk 0 0 [] [] l)
  simp only [szV, dpV] at this
  omega
theorem take_snoc {α : Type} {l : List α} {j : Nat} {x : α} (h : l[j]? = some x) : l.take (j + 1) = l.take j ++ [x] := by rw [List.take_add_one, h]; rfl
theorem szL_take (l : List Val) (j : Nat) : szL (l.take j) ≤ szL l := by
  have : szL l = szL (l.take j) + szL (l.drop j) := by rw [← szL_append, List.take_append_drop]
  omega

theorem maxI_nat (a b : Nat) : maxI ((a : Nat) : Int) ((b : Nat) : Int) = ((max a b : Nat) : Int) := by unfold maxI; split <;> omega
/-- heap.size. -/
theorem k66 : ∀ (d : Nat) (v : Val) {na : Option Addr} {nn nc : Nat} {la : Option Addr} {ln lc : Nat} {g : G}, VRep g d v na nn nc la ln lc → szV v ≤ 1000000 → CallsP Try.prog 66 #[.agg ⟨valC v na nn nc la ln lc⟩] g fun u _ => u = .tuple ⟨[.int .i64 ((szV v : Nat) : Int), .int .i64 ((dpV v : Nat) : Int)]⟩ := by
  intro d
  induction d with
  | zero =>
    intro v na nn nc la ln lc g h hs
    refine call66 v.op v.n ⟨v.s.toArray⟩ na nn nc la ln lc g _ ?_
    have hl := h.l.len
    have hn : ln = 0 := by
      rcases Nat.eq_zero_or_pos ln with h0 | h0
      · exact h0
      · obtain ⟨L, _, hr⟩ := h.l.ex
        obtain ⟨r, hrep, _⟩ := hr.get (i := 0) (List.getElem?_eq_getElem (show 0 < v.l.length by omega))
        exact hrep.elim
    have he : v.l = [] := List.eq_nil_of_length_eq_zero (by omega)
    rw [szV_eq, dpV_eq, he]
    unfold F66
    refine ⟨fun m a b i g' => m = 0 ∧ a = 0 ∧ b = 0 ∧ i = 0, fun g1 _ => ⟨0, rfl, rfl, rfl, rfl⟩, ?_⟩
    rintro m a b i g2 _ ⟨rfl, rfl, rfl, rfl⟩
    refine ifLt (fun hlt => by omega) (fun _ => ⟨i64 (by omega) (by omega), i64 (by omega) (by omega), fun g5 _ => ?_⟩)
    simp [szL, dpL]
  | succ d ih =>
    intro v na nn nc la ln lc g h hs
    refine call66 v.op v.n ⟨v.s.toArray⟩ na nn nc la ln lc g _ ?_
    have hl := h.l.len
    have hs' := szV_eq v
    have hd' := dpV_eq v
    unfold F66
    have hcap := h.l.cap
    have hle := h.l.le
    unfold maxLen at hcap
    refine ⟨fun m a b i g' => ∃ j : Nat, i = j ∧ j + m = ln ∧ a = ((szL (v.l.take j) : Nat) : Int) ∧ b = ((dpL (v.l.take j) : Nat) : Int), fun g1 _ => ⟨ln, 0, rfl, by omega, by simp [szL], by simp [dpL]⟩, ?_⟩
    rintro m a b i g2 le ⟨j, rfl, hj, rfl, rfl⟩
    have hst := szL_take v.l j
    have hdt := dpL_le (v.l.take j)
    refine ifLt (fun hlt => ?_) (fun hge => ?_)
    · have hjl : j < v.l.length := by omega
      have gj := List.getElem?_eq_getElem hjl
      have hst1 := szL_take v.l (j + 1)
      rw [take_snoc gj, szL_append] at hst1
      simp only [szL, Nat.add_zero] at hst1
      refine ⟨⟨by omega, by omega⟩, rdV (h.l.mono le) j rfl gj ?_⟩
      rintro ad d' na' nn' nc' la' ln' lc' hd hv _ c0 c1 c2 c3 c4
      cases hd
      refine ⟨_, _, _, _, _, _, _, _, _, c0, c1, c2, c3, c4, fun g3 m3 => (ih v.l[j] (hv.ex m3) (by omega)).mono ?_⟩
      rintro u g4 m4 rfl
      have hdx := dpV_le v.l[j]
      refine ⟨_, _, rfl, i64 (by omega) (by omega), i64 (by omega) (by omega), m - 1, by omega, j + 1, by omega, by omega, ?_, ?_⟩
      · rw [take_snoc gj, szL_append]; simp [szL]
      · rw [take_snoc gj, dpL_append, maxI_nat]; simp [dpL]
    · have ht : v.l.take j = v.l := List.take_of_length_le (by omega)
      rw [ht] at hst hdt ⊢
      refine ⟨i64 (by omega) (by omega), i64 (by omega) (by omega), fun g5 _ => ?_⟩
      rw [hs', hd']
      simp
end Go.Proofs.Ytcpclpkcanikiaa
/- Values: what is data, by the program and by the reference. -/
set_option linter.unusedVariables false
namespace Go.Proofs.Ytcpclpkcanikiaa
open Go Go.Vc Go.RowKit

/-- No tree is of depth 0. -/
theorem no_kids {g : G} {a : Option Addr} {n c : Nat} {l : List Val} (h : SlE (valE 0) g a n c l) : l = [] := by
  cases l with
  | nil => rfl
  | cons x r =>
    obtain ⟨L, _, hr⟩ := h.ex
    obtain ⟨_, hrep, _⟩ := hr.get (i := 0) (x := x) rfl
    exact hrep.elim
theorem str_nil (s : List UInt8) : ((⟨s.toArray⟩ : ByteArray) = bs []) ↔ s = [] := by
  constructor
  · intro h
    have := congrArg (fun b : ByteArray => b.data.toList) h
    simpa [bs] using this
  · rintro rfl; rfl
theorem bsz (s : List UInt8) : (⟨s.toArray⟩ : ByteArray).size = s.length := by simp [ByteArray.size]
/-- slices.IndexFunc and slices.ContainsFunc at values: of the test of data. -/
theorem k112 (f : FuncId) (fc : Array Value) (p : Val → Prop) {d : Nat} (l : List Val) {a : Option Addr} {n c : Nat} {g : G} (h : SlE (valE d) g a n c l) (he : Go.Vc.Enters Try.prog f)
    (hf : ∀ g' d' v na nn nc la ln lc, d = d' + 1 → Le g g' → VRep g' d' v na nn nc la ln lc → CallsP Try.prog f (#[.agg ⟨valC v na nn nc la ln lc⟩] ++ fc) g' fun u _ => u = .bool (tf (p v))) :
    CallsP Try.prog 112 #[.slice a n c, .func (.func f) #[] fc] g fun u _ => ∃ i : Int, u = .int .i64 i ∧ (0 ≤ i ↔ ∃ w ∈ l, p w) := by
  refine call112 a n c f fc g _ ?_
  have hl := h.len
  have hcap := h.cap
  have hle := h.le
  unfold maxLen at hcap
  unfold F112
  refine ⟨fun m i g' => ∃ j : Nat, i = j ∧ j + m = n ∧ ∀ w ∈ l.take j, ¬ p w, ⟨n, 0, rfl, by omega, by simp⟩, ?_⟩
  rintro m i g1 le ⟨j, rfl, hjm, hj⟩
  refine ifLt (fun hlt => ⟨⟨by omega, by omega⟩, ?_⟩) (fun hge g3 m3 => ⟨-1, rfl, ⟨fun hh => by omega, ?_⟩⟩)
  · have hjl : j < l.length := by omega
    have gj := List.getElem?_eq_getElem hjl
    refine rdV (h.mono le) j rfl gj ?_
    rintro ad d' na nn nc la ln lc hd hv _ c0 c1 c2 c3 c4
    refine ⟨_, _, _, _, _, _, _, _, _, c0, c1, c2, c3, c4, he, (hf g1 d' l[j] na nn nc la ln lc hd le hv).mono ?_⟩
    rintro u g2 m2 rfl
    refine ⟨_, rfl, ifP (fun hs g3 m3 => ⟨j, rfl, ⟨fun _ => ⟨_, List.mem_of_getElem? gj, hs⟩, fun _ => by omega⟩⟩) (fun hs => ⟨i64 (by omega) (by omega), m - 1, by omega, j + 1, by omega, by omega, ?_⟩)⟩
    intro w hm
    rw [take_snoc gj] at hm
    rcases List.mem_append.1 hm with hm | hm
    · exact hj w hm
    · cases List.mem_singleton.1 hm; exact hs
  · rintro ⟨w, hw, hp⟩
    have : l.take j = l := List.take_of_length_le (by omega)
    rw [this] at hj
    exact absurd hp (hj w hw)
theorem k100 (f : FuncId) (fc : Array Value) (p : Val → Prop) {d : Nat} (l : List Val) {a : Option Addr} {n c : Nat} {g : G} (h : SlE (valE d) g a n c l) (he : Go.Vc.Enters Try.prog f)
    (hf : ∀ g' d' v na nn nc la ln lc, d = d' + 1 → Le g g' → VRep g' d' v na nn nc la ln lc → CallsP Try.prog f (#[.agg ⟨valC v na nn nc la ln lc⟩] ++ fc) g' fun u _ => u = .bool (tf (p v))) :
    CallsP Try.prog 100 #[.slice a n c, .func (.func f) #[] fc] g fun u _ => u = .bool (tf (∃ w ∈ l, p w)) := by
  refine call100 a n c f fc g _ ?_
  unfold F100
  refine (k112 f fc p l h he hf).mono ?_
  rintro v g1 m1 ⟨i, rfl, hi⟩
  refine ⟨i, rfl, fun g2 m2 => ?_⟩
  rw [tf_le]
  exact congrArg Value.bool (tf_iff hi)
theorem enters101 : Go.Vc.Enters Try.prog 101 := ⟨_, Try.func101, by kernel_rfl, by kernel_rfl⟩
theorem len0 {α : Type} {l : List α} {n : Nat} (h : l.length = n) : (((n : Nat) : Int) = 0) ↔ l = [] := by
  rw [← List.length_eq_zero_iff]; omega

theorem k101 (v : Val) {na : Option Addr} {nn nc : Nat} {la : Option Addr} {ln lc : Nat} {g : G} (H : ∀ g', Ex g g' → CallsP Try.prog 67 #[.agg ⟨valC v na nn nc la ln lc⟩] g' fun u _ => u = .bool (tf (dataV v))) :
    CallsP Try.prog 101 #[.agg ⟨valC v na nn nc la ln lc⟩] g fun u _ => u = .bool (tf (¬ dataV v)) := by
  refine call101 v.op v.n ⟨v.s.toArray⟩ na nn nc la ln lc g _ ?_
  unfold F101
  refine fun g1 m1 => (H g1 m1).mono ?_
  rintro u g2 m2 rfl
  exact ⟨_, rfl, fun g3 _ => by rw [tf_not]⟩
/-- heap.data, where the parts are known. -/
theorem data_step (d : Nat) (ih : ∀ d' (v : Val) {na : Option Addr} {nn nc : Nat} {la : Option Addr} {ln lc : Nat} {g : G}, d = d' + 1 → VRep g d' v na nn nc la ln lc → CallsP Try.prog 67 #[.agg ⟨valC v na nn nc la ln lc⟩] g fun u _ => u = .bool (tf (dataV v)))
    (v : Val) {na : Option Addr} {nn nc : Nat} {la : Option Addr} {ln lc : Nat} {g : G} (h : VRep g d v na nn nc la ln lc) : CallsP Try.prog 67 #[.agg ⟨valC v na nn nc la ln lc⟩] g fun u _ => u = .bool (tf (dataV v)) := by
  refine call67 v.op v.n ⟨v.s.toArray⟩ na nn nc la ln lc g _ ?_
  have hl := h.l.len
  have hn := len0 h.names.len
  have hl0 := len0 hl
  have hdv := dataV_eq v
  have hs := str_nil v.s
  unfold F67
  rw [bsz]
  intro J hJ
  have main : v.names = [] → (v.op ≠ 2 → v.s = []) → (v.op ≠ 1 → v.op ≠ 4 → v.n = 0) → ∀ g1, Ex g g1 → J g1 := by
    intro e1 e2 e3 g1 m1
    refine hJ g1 ?_
    have h1 := h.ex m1
    refine ifEq (fun h0 => (k99 v.n g1).mono ?_) (fun h1' => ifEq (fun h0 => ?_) (fun h2' => ifEq (fun h0 => ?_) (fun h3' => ifEq (fun h0 => ?_) (fun h4' g15 _ => vF ?_))))
    · rintro u g2 m2 rfl
      refine ⟨_, rfl, ifP (fun hp g3 _ => ?_) (fun hp g4 _ => vF ?_)⟩
      · rw [tf_eq]
        refine vP ?_
        rw [hdv, hl0]
        simp [e1, h0, hp, e2 (by omega)]
      · rw [hdv]; simp [h0, hp]
    · refine ifLe (fun hh g5 _ => ?_) (fun hh g6 _ => vF ?_)
      · rw [tf_eq]
        refine vP ?_
        rw [hdv, hl0]
        have := e3 (by omega) (by omega)
        have hh' : v.s.length ≤ 16384 := by omega
        simp [e1, h0, this, hh']
      · rw [hdv]
        have hh' : ¬ v.s.length ≤ 16384 := by omega
        simp [h0, hh']
    · refine ifLe (fun hh => ?_) (fun hh g9 _ => vF ?_)
      · refine (k100 101 #[] (fun w => ¬ dataV w) v.l h1.l enters101 (fun g' d' w na nn nc la ln lc hd le hv => k101 w (fun g2 m2 => ih d' w hd (hv.ex m2)))).mono ?_
        rintro u g7 m7 rfl
        refine ⟨_, rfl, fun g8 _ => ?_⟩
        rw [tf_not]
        refine vP ?_
        rw [hdv, dataL_iff]
        have := e3 (by omega) (by omega)
        have hh' : v.l.length ≤ 1000 := by omega
        simp [e1, h0, this, hh', e2 (by omega)]
      · rw [hdv]
        have hh' : ¬ v.l.length ≤ 1000 := by omega
        simp [h0, hh']
    · have no : ¬ (0 ≤ v.n ∧ v.n ≤ 1000 ∧ v.l.length = 1) → ¬ dataV v := by
        rw [hdv]
        rintro hno ⟨_, hh | hh | hh | ⟨_, _, a1, a2, a3, _⟩⟩
        · omega
        · omega
        · omega
        · exact hno ⟨a1, a2, a3⟩
      refine ifLe (fun a1 => ifLe (fun a2 => ifEq (fun a3 => ?_) (fun a3 g12 _ => vF (no (by omega)))) (fun a2 g13 _ => vF (no (by omega)))) (fun a1 g14 _ => vF (no (by omega)))
      have hl1 : v.l.length = 1 := by omega
      obtain ⟨x, hx⟩ := List.length_eq_one_iff.1 hl1
      refine ⟨⟨by omega, by omega⟩, rdV h1.l 0 rfl (x := x) (by rw [hx]; rfl) ?_⟩
      rintro ad d' na' nn' nc' la' ln' lc' hd hv _ c0 c1 c2 c3 c4
      refine ⟨_, _, _, _, _, _, _, _, _, c0, c1, c2, c3, c4, (ih d' x hd hv).mono ?_⟩
      rintro u g10 m10 rfl
      refine ⟨_, rfl, fun g11 _ => vP ?_⟩
      rw [hdv, dataL_iff]
      have : (∀ y ∈ v.l, dataV y) ↔ dataV x := by rw [hx]; simp
      rw [this]
      simp [e1, h0, a1, a2, hl1, e2 (by omega)]
    · rw [hdv]; simp [h1', h2', h3', h4']
  have noN : ¬ v.names = [] → ¬ dataV v := fun hh hd => hh (hdv.1 hd).1
  have noS : v.op ≠ 2 → ¬ v.s = [] → ¬ dataV v := by
    intro h2 hh hd
    rcases (hdv.1 hd).2 with ⟨_, k, _⟩ | ⟨k, _⟩ | ⟨_, k, _⟩ | ⟨_, k, _⟩
    · exact hh k
    · exact h2 k
    · exact hh k
    · exact hh k
  have noZ : v.op ≠ 1 → v.op ≠ 4 → ¬ v.n = 0 → ¬ dataV v := by
    intro h1 h4 hh hd
    rcases (hdv.1 hd).2 with ⟨k, _⟩ | ⟨_, k, _⟩ | ⟨_, _, k, _⟩ | ⟨k, _⟩
    · exact h1 k
    · exact hh k
    · exact hh k
    · exact h4 k
  refine ifLt (fun hh g16 _ => vF (noN (fun e => by rw [← hn] at e; omega))) (fun hh => ?_)
  have e1 : v.names = [] := hn.1 (by omega)
  have tail : (v.op ≠ 2 → v.s = []) → ifB (!eqI v.op 1) (ifB (!eqI v.op 4) (ifB (!eqI v.n 0) (∀ g18 : G, Ex g g18 → (Value.bool false) = .bool (tf (dataV v))) (∀ g19 : G, Ex g g19 → J g19)) (∀ g20 : G, Ex g g20 → J g20)) (∀ g21 : G, Ex g g21 → J g21) := by
    intro e2
    refine ifNe (fun a1 => ifNe (fun a4 => ifNe (fun a0 g18 _ => vF (noZ a1 a4 a0)) (fun a0 g19 m => main e1 e2 (fun _ _ => a0) g19 m)) (fun a4 g20 m => main e1 e2 (fun _ h => absurd a4 h) g20 m)) (fun a1 g21 m => main e1 e2 (fun h _ => absurd a1 h) g21 m)
  refine ifNe (fun a2 => ifSn (fun hne g17 _ => vF (noS a2 (fun e => hne (hs.2 e)))) (fun he => tail (fun _ => hs.1 he))) (fun a2 => tail (fun h => absurd a2 h))
/-- heap.data. -/
theorem k67 : ∀ (d : Nat) (v : Val) {na : Option Addr} {nn nc : Nat} {la : Option Addr} {ln lc : Nat} {g : G}, VRep g d v na nn nc la ln lc → CallsP Try.prog 67 #[.agg ⟨valC v na nn nc la ln lc⟩] g fun u _ => u = .bool (tf (dataV v)) := by
  intro d
  induction d with
  | zero => exact fun v na nn nc la ln lc g h => data_step 0 (fun d' v na nn nc la ln lc g hd => by cases hd) v h
  | succ d ih =>
    refine fun v na nn nc la ln lc g h => data_step (d + 1) (fun d' v na nn nc la ln lc g hd hv => ?_) v h
    cases hd
    exact ih v hv
end Go.Proofs.Ytcpclpkcanikiaa
/- Values: what is data, by the reference; the number of nodes, by the reference. -/
set_option linter.unusedVariables false
namespace Go.Proofs.Ytcpclpkcanikiaa
open Go Go.Vc Go.RowKit

theorem dpL_mem : ∀ {l : List Val} {x : Val}, x ∈ l → dpV x ≤ dpL l
  | v :: r, x, h => by
    rcases List.mem_cons.1 h with rfl | h
    · simp only [dpL]; omega
    · have := dpL_mem h
      simp only [dpL]; omega
theorem dataL_append (a b : List Val) : dataL (a ++ b) ↔ dataL a ∧ dataL b := by
  rw [dataL_iff, dataL_iff, dataL_iff]
  simp only [List.mem_append]
  constructor
  · exact fun h => ⟨fun x hx => h x (.inl hx), fun x hx => h x (.inr hx)⟩
  · rintro ⟨h1, h2⟩ x (hx | hx)
    · exact h1 x hx
    · exact h2 x hx
/-- data of the reference, where the parts are known. -/
theorem rdata_step (d : Nat) (ih : ∀ d' (v : Val) {na : Option Addr} {nn nc : Nat} {la : Option Addr} {ln lc : Nat} {g : G}, d = d' + 1 → VRep g d' v na nn nc la ln lc → CallsP Try.prog 73 #[.agg ⟨valC v na nn nc la ln lc⟩] g fun u _ => u = .bool (tf (dataV v)))
    (v : Val) {na : Option Addr} {nn nc : Nat} {la : Option Addr} {ln lc : Nat} {g : G} (h : VRep g d v na nn nc la ln lc) : CallsP Try.prog 73 #[.agg ⟨valC v na nn nc la ln lc⟩] g fun u _ => u = .bool (tf (dataV v)) := by
  refine call73 v.op v.n ⟨v.s.toArray⟩ na nn nc la ln lc g _ ?_
  have hl := h.l.len
  have hcap := h.l.cap
  have hle := h.l.le
  unfold maxLen at hcap
  have hn := len0 h.names.len
  have hl0 := len0 hl
  have hdv := dataV_eq v
  have hs := str_nil v.s
  unfold F73
  rw [bsz]
  intro J hJ
  have main : ∀ P : Prop, (dataV v ↔ P ∧ dataL v.l) → ∀ g1, Ex g g1 → J (tf P) g1 := by
    intro P hP g1 m1
    refine hJ _ g1 ?_
    refine ⟨fun m ok i g' => ∃ j : Nat, i = j ∧ j + m = ln ∧ ok = tf (P ∧ dataL (v.l.take j)), ⟨ln, 0, rfl, by omega, by simp [dataL]⟩, ?_⟩
    rintro m ok i g2 le ⟨j, rfl, hjm, rfl⟩
    intro J1 hJ1
    refine ifLt (fun hlt => ifP (fun hok => hJ1 g2 ?_) (fun hok g5 _ => vP ?_)) (fun hge g6 _ => vP ?_)
    · have hjl : j < v.l.length := by omega
      have gj := List.getElem?_eq_getElem hjl
      refine ⟨⟨by omega, by omega⟩, rdV ((h.ex m1).l.mono le) j rfl gj ?_⟩
      rintro ad d' na' nn' nc' la' ln' lc' hd hv _ c0 c1 c2 c3 c4
      refine ⟨_, _, _, _, _, _, _, _, _, c0, c1, c2, c3, c4, (ih d' v.l[j] hd hv).mono ?_⟩
      rintro u g4 m4 rfl
      refine ⟨_, rfl, i64 (by omega) (by omega), m - 1, by omega, j + 1, by omega, by omega, tf_iff ?_⟩
      rw [take_snoc gj, dataL_append]
      simp only [dataL, and_true]
      exact ⟨fun hx => ⟨hok.1, hok.2, hx⟩, fun hx => hx.2.2⟩
    · rw [hP]
      constructor
      · exact fun hh => absurd hh hok
      · rintro ⟨h1, h2⟩
        refine ⟨h1, ?_⟩
        rw [dataL_iff] at h2 ⊢
        exact fun x hx => h2 x (List.mem_of_mem_take hx)
    · have ht : v.l.take j = v.l := List.take_of_length_le (by omega)
      rw [ht, hP]
  have bad : ∀ g1, Ex g g1 → ¬ dataV v → v.op = 3 ∨ v.op = 4 → (dataV v ↔ False ∧ dataL v.l) := fun g1 _ hh _ => by simp [hh]
  have hF : (false : Bool) = tf False := by rw [tf_no (fun h => h)]
  have noN : ¬ v.names = [] → ¬ dataV v := fun hh hd => hh (hdv.1 hd).1
  refine ifEq (fun h0 => ifEq (fun hnn g7 m7 => (k95 v.n g7).mono ?_) (fun hnn g12 _ => vF (noN (fun e => hnn (hn.2 e))))) (fun h1 => ifEq (fun h0 => ?_) (fun h2 => ifEq (fun h0 => ?_) (fun h3 => ifEq (fun h0 => ?_) (fun h4 g24 _ => vF (by rw [hdv]; simp [h1, h2, h3, h4])))))
  · rintro u g8 m8 rfl
    have e1 := hn.1 hnn
    refine ⟨_, rfl, ifP (fun hp => ifS (fun he g9 _ => ?_) (fun he g10 _ => vF ?_)) (fun hp g11 _ => vF (by rw [hdv]; simp [h0, hp]))⟩
    · rw [tf_eq]
      refine vP ?_
      rw [hdv, hl0]
      simp [e1, h0, hp, hs.1 he]
    · rw [hdv]
      have : ¬ v.s = [] := fun e => he (hs.2 e)
      simp [h0, this]
  · refine ifEq (fun hnn => ifEq (fun hz => ifLe (fun hh g13 _ => ?_) (fun hh g14 _ => vF ?_)) (fun hz g15 _ => vF (by rw [hdv]; simp [h0, hz]))) (fun hnn g16 _ => vF (noN (fun e => hnn (hn.2 e))))
    · rw [tf_eq]
      refine vP ?_
      rw [hdv, hl0]
      have hh' : v.s.length ≤ 16384 := by omega
      simp [hn.1 hnn, h0, hz, hh']
    · rw [hdv]
      have hh' : ¬ v.s.length ≤ 16384 := by omega
      simp [h0, hh']
  · refine ifEq (fun hnn => ifEq (fun hz => ifS (fun he g17 m => ?_) (fun he g18 m => ?_)) (fun hz g19 m => ?_)) (fun hnn g20 m => ?_)
    · rw [tf_le]
      refine main _ ?_ g17 m
      rw [hdv]
      have : (((ln : Nat) : Int) ≤ 1000) ↔ v.l.length ≤ 1000 := by omega
      rw [this]
      simp [hn.1 hnn, h0, hz, hs.1 he]
    · rw [hF]
      refine main _ ?_ g18 m
      have : ¬ v.s = [] := fun e => he (hs.2 e)
      rw [hdv]; simp [h0, this]
    · rw [hF]
      refine main _ ?_ g19 m
      rw [hdv]; simp [h0, hz]
    · rw [hF]
      refine main _ ?_ g20 m
      have := noN (fun e => hnn (hn.2 e))
      simp [this]
  · refine ifEq (fun hnn g21 m => (k61 v.n 0 1000 g21).mono ?_) (fun hnn g23 m => ?_)
    · rintro u g22 m22 rfl
      refine ⟨_, rfl, ifP (fun hp => ifS (fun he => ?_) (fun he => ?_)) (fun hp => ?_)⟩
      · rw [tf_eq]
        refine main _ ?_ g22 (m.trans m22)
        rw [hdv]
        have : (((ln : Nat) : Int) = 1) ↔ v.l.length = 1 := by omega
        rw [this]
        simp [hn.1 hnn, h0, hp, hs.1 he]
      · rw [hF]
        refine main _ ?_ g22 (m.trans m22)
        have : ¬ v.s = [] := fun e => he (hs.2 e)
        rw [hdv]; simp [h0, this]
      · rw [hF]
        refine main _ ?_ g22 (m.trans m22)
        rw [hdv]
        constructor
        · rintro ⟨_, hh | hh | hh | ⟨_, _, a1, a2, _⟩⟩
          · omega
          · omega
          · omega
          · exact absurd ⟨a1, a2⟩ hp
        · exact fun hh => hh.1.elim
    · rw [hF]
      refine main _ ?_ g23 m
      have := noN (fun e => hnn (hn.2 e))
      simp [this]
theorem k73 : ∀ (d : Nat) (v : Val) {na : Option Addr} {nn nc : Nat} {la : Option Addr} {ln lc : Nat} {g : G}, VRep g d v na nn nc la ln lc → CallsP Try.prog 73 #[.agg ⟨valC v na nn nc la ln lc⟩] g fun u _ => u = .bool (tf (dataV v)) := by
  intro d
  induction d with
  | zero => exact fun v na nn nc la ln lc g h => rdata_step 0 (fun d' v na nn nc la ln lc g hd => by cases hd) v h
  | succ d ih =>
    refine fun v na nn nc la ln lc g h => rdata_step (d + 1) (fun d' v na nn nc la ln lc g hd hv => ?_) v h
    cases hd
    exact ih v hv
/-- count, of a small tree. -/
theorem count_step (d : Nat) (ih : ∀ d' (v : Val) {na : Option Addr} {nn nc : Nat} {la : Option Addr} {ln lc : Nat} {g : G} (left depth : Nat), d = d' + 1 → VRep g d' v na nn nc la ln lc → szV v < left → left ≤ 1000000 → depth + dpV v ≤ 401 → CallsP Try.prog 72 #[.agg ⟨valC v na nn nc la ln lc⟩, .int .i64 ((left : Nat) : Int), .int .i64 ((depth : Nat) : Int)] g fun u _ => u = .int .i64 ((szV v : Nat) : Int))
    (v : Val) {na : Option Addr} {nn nc : Nat} {la : Option Addr} {ln lc : Nat} {g : G} (left depth : Nat) (h : VRep g d v na nn nc la ln lc) (h1 : szV v < left) (h2 : left ≤ 1000000) (h3 : depth + dpV v ≤ 401) :
    CallsP Try.prog 72 #[.agg ⟨valC v na nn nc la ln lc⟩, .int .i64 ((left : Nat) : Int), .int .i64 ((depth : Nat) : Int)] g fun u _ => u = .int .i64 ((szV v : Nat) : Int) := by
  refine call72 v.op v.n ⟨v.s.toArray⟩ na nn nc la ln lc _ _ g _ ?_
  have hl := h.l.len
  have hcap := h.l.cap
  have hle := h.l.le
  unfold maxLen at hcap
  have hs := szV_eq v
  have hd := dpV_eq v
  unfold F72
  refine ifLt (fun hh => by omega) (fun hh => ?_)
  refine ⟨fun m n i g' => ∃ j : Nat, i = j ∧ j + m = ln ∧ n = (((szL (v.l.take j) + 1 : Nat)) : Int), fun g2 _ => ⟨ln, 0, rfl, by omega, by simp [szL]⟩, ?_⟩
  rintro m n i g3 le ⟨j, rfl, hjm, rfl⟩
  have hst := szL_take v.l j
  intro J hJ
  refine ifLt (fun hlt => ifLt (fun hn => hJ g3 ?_) (fun hn => by omega)) (fun hge g7 _ => ?_)
  · have hjl : j < v.l.length := by omega
    have gj := List.getElem?_eq_getElem hjl
    have hst1 := szL_take v.l (j + 1)
    rw [take_snoc gj, szL_append] at hst1
    simp only [szL, Nat.add_zero] at hst1
    have hdm := dpL_mem (List.mem_of_getElem? gj)
    refine ⟨⟨by omega, by omega⟩, rdV (h.l.mono le) j rfl gj ?_⟩
    rintro ad d' na' nn' nc' la' ln' lc' hdd hv _ c0 c1 c2 c3 c4
    have el : ((left : Nat) : Int) - ((szL (v.l.take j) + 1 : Nat) : Int) = ((left - (szL (v.l.take j) + 1) : Nat) : Int) := by omega
    have ed : ((depth : Nat) : Int) + 1 = ((depth + 1 : Nat) : Int) := by omega
    refine ⟨_, _, _, _, _, _, _, _, _, c0, c1, c2, c3, c4, i64 (by omega) (by omega), i64 (by omega) (by omega), ?_⟩
    rw [el, ed]
    refine (ih d' v.l[j] (left - (szL (v.l.take j) + 1)) (depth + 1) hdd hv (by omega) (by omega) (by omega)).mono ?_
    rintro u g5 m5 rfl
    refine ⟨_, rfl, i64 (by omega) (by omega), i64 (by omega) (by omega), m - 1, by omega, j + 1, by omega, by omega, ?_⟩
    rw [take_snoc gj, szL_append]
    simp only [szL, Nat.add_zero]
    omega
  · have ht : v.l.take j = v.l := List.take_of_length_le (by omega)
    rw [ht, hs]
theorem k72 : ∀ (d : Nat) (v : Val) {na : Option Addr} {nn nc : Nat} {la : Option Addr} {ln lc : Nat} {g : G} (left depth : Nat), VRep g d v na nn nc la ln lc → szV v < left → left ≤ 1000000 → depth + dpV v ≤ 401 → CallsP Try.prog 72 #[.agg ⟨valC v na nn nc la ln lc⟩, .int .i64 ((left : Nat) : Int), .int .i64 ((depth : Nat) : Int)] g fun u _ => u = .int .i64 ((szV v : Nat) : Int) := by
  intro d
  induction d with
  | zero => exact fun v na nn nc la ln lc g left depth h => count_step 0 (fun d' v na nn nc la ln lc g l d hd => by cases hd) v left depth h
  | succ d ih =>
    refine fun v na nn nc la ln lc g left depth h => count_step (d + 1) (fun d' v na nn nc la ln lc g l dd hd hv => ?_) v left depth h
    cases hd
    exact ih v l dd hv
/-- Data, of a small tree. -/
theorem k28 {d : Nat} (v : Val) {na : Option Addr} {nn nc : Nat} {la : Option Addr} {ln lc : Nat} {g : G} (h : VRep g d v na nn nc la ln lc) (hs : szV v ≤ 20000) (hd : dpV v ≤ 400) : CallsP Try.prog 28 #[.agg ⟨valC v na nn nc la ln lc⟩] g fun u _ => u = .bool (tf (dataV v)) := by
  refine call28 v.op v.n ⟨v.s.toArray⟩ na nn nc la ln lc g _ ?_
  unfold F28
  refine fun g1 m1 => (k72 d v 20001 1 (h.ex m1) (by omega) (by omega) (by omega)).mono ?_
  rintro u g2 m2 rfl
  refine ⟨_, rfl, ifLe (fun _ => (k73 d v ((h.ex m1).ex m2)).mono ?_) (fun hh => by omega)⟩
  rintro u g3 m3 rfl
  exact ⟨_, rfl, fun g4 _ => rfl⟩
end Go.Proofs.Ytcpclpkcanikiaa
/- The heap: data is put. -/
set_option linter.unusedVariables false
namespace Go.Proofs.Ytcpclpkcanikiaa
open Go Go.Vc Go.RowKit

/-- One more block. -/
def addF (lim : Int) (l : List Wd) (kind n : Int) (x : List Wd) : Option (List Wd × Wd) := if lim - ((l.length : Nat) : Int) < ((x.length : Nat) : Int) + 3 then none else some (l ++ blkW kind n x, (true, ((l.length : Nat) : Int)))
mutual
/-- Data is put. -/
def putV (lim : Int) : List Wd → Val → Option (List Wd × Wd)
  | l, .mk op n s names vs => if op = 1 then some (l, (false, n)) else if op = 2 then addF lim l 4 ((s.length : Nat) : Int) (bytesW s) else
    match putL lim l [] vs with
    | none => none
    | some (l', ws) => if op = 4 then addF lim l' 2 n ws else addF lim l' 1 0 ws
def putL (lim : Int) : List Wd → List Wd → List Val → Option (List Wd × List Wd)
  | l, acc, [] => some (l, acc)
  | l, acc, v :: r => match putV lim l v with
    | none => none
    | some (l', w) => putL lim l' (acc ++ [w]) r
end
theorem putV_eq (lim : Int) (l : List Wd) (v : Val) : putV lim l v = if v.op = 1 then some (l, (false, v.n)) else if v.op = 2 then addF lim l 4 ((v.s.length : Nat) : Int) (bytesW v.s) else
    match putL lim l [] v.l with
    | none => none
    | some (l', ws) => if v.op = 4 then addF lim l' 2 v.n ws else addF lim l' 1 0 ws := by cases v; rw [putV]; rfl
/-- What a put returns. -/
def PutSay (lim : Int) (r : Option (List Wd × Wd)) (u : Value) (g : G) : Prop := match r with
  | none => u = .tuple ⟨[hpV none 0 0 0 0, wdV (false, 0), .bool false]⟩
  | some (l', w) => ∃ a c, u = .tuple ⟨[hpV a l'.length c ((l'.length : Nat) : Int) lim, wdV w, .bool true]⟩ ∧ SlE wordE g a l'.length c l' ∧ ((l'.length : Nat) : Int) ≤ lim
theorem PutSay.ex {lim : Int} {r : Option (List Wd × Wd)} {u : Value} {g g' : G} (h : PutSay lim r u g) (k : Ex g g') : PutSay lim r u g' := by
  cases r with
  | none => exact h
  | some p => obtain ⟨a, c, h1, h2, h3⟩ := h; exact ⟨a, c, h1, h2.exm k, h3⟩
theorem AddSay.put {l : List Wd} {fr lim kind n : Int} {x : List Wd} {u : Value} {g : G} (h : AddSay l fr lim kind n x u g) (hl : fr = ((l.length : Nat) : Int)) : PutSay lim (addF lim l kind n x) u g := by
  subst hl
  unfold addF
  rcases h with ⟨h1, rfl⟩ | ⟨h1, a, c, rfl, h2⟩
  · rw [if_pos h1]
    rfl
  · rw [if_neg (by omega)]
    have e : (l ++ blkW kind n x).length = l.length + (x.length + 3) := by rw [List.length_append, blkW_len]
    refine ⟨a, c, ?_, ?_, ?_⟩
    · rw [e]
    · rw [e]; exact h2
    · rw [e]; omega
/-- What a put returns, written out. -/
theorem PutSay.cases {lim : Int} {r : Option (List Wd × Wd)} {u : Value} {g : G} (h : PutSay lim r u g) : ∃ a l c fr lm w ok, u = .tuple ⟨[hpV a l c fr lm, wdV w, .bool ok]⟩ ∧ (ok = false ∧ r = none ∧ a = none ∧ l = 0 ∧ c = 0 ∧ fr = 0 ∧ lm = 0 ∧ w = (false, 0) ∨ ok = true ∧ ∃ l', r = some (l', w) ∧ l = l'.length ∧ fr = ((l : Nat) : Int) ∧ lm = lim ∧ SlE wordE g a l c l' ∧ fr ≤ lim) := by
  cases r with
  | none => exact ⟨none, 0, 0, 0, 0, (false, 0), false, h, .inl ⟨rfl, rfl, rfl, rfl, rfl, rfl, rfl, rfl⟩⟩
  | some p =>
    obtain ⟨l', w⟩ := p
    obtain ⟨a, c, rfl, h2, h3⟩ := h
    exact ⟨a, _, c, _, _, w, true, rfl, .inr ⟨rfl, l', rfl, rfl, rfl, rfl, h2, h3⟩⟩

/-- bytesOf. -/
theorem k65 (s : List UInt8) (hs : s.length ≤ 100000) (g : G) : CallsP Try.prog 65 #[.string ⟨s.toArray⟩] g fun v g' => ∃ a c, v = .slice a s.length c ∧ OwnE wordE g' g.size 41 a s.length c (bytesW s) := by
  refine call65 ⟨s.toArray⟩ g _ ?_
  unfold F65
  obtain ⟨a, c, w', hr, g1, hw, hs1, hb, he1⟩ := bytesG (P := Try.prog) (g := g) (B := g.w.heap.size) (src := 9) (dst := 66) (e := 5) ⟨s.toArray⟩ Try.underlying9 Try.underlying66 Try.underlying5 (Nat.le_refl _) (by rw [bsz]; unfold maxLen; omega)
  rw [bsz] at hr hb
  refine ⟨a, s.length, c, w', hr, g1, hw, hs1, ?_⟩
  have hb : SlB g1 a s.length c s := hb
  refine ⟨fun m oa on oc i g2 => ∃ j : Nat, i = j ∧ j + m = s.length ∧ on = j ∧ OwnE wordE g2 g.size 41 oa on oc (bytesW (s.take j)) ∧ g.size ≤ g2.w.heap.size, ⟨s.length, 0, rfl, by omega, rfl, OwnE.nil _ _ _, he1.size⟩, ?_⟩
  rintro m oa on oc i g2 le ⟨j, rfl, hjm, rfl, ho, hsz⟩
  refine ifLt (fun hlt => ⟨⟨by omega, by omega⟩, ?_⟩) (fun hge g6 m6 => ?_)
  · have gj := List.getElem?_eq_getElem (show on < s.length by omega)
    refine SlB.rdN (hb.mono le) on rfl (by omega) ?_
    have hlt8 := nums_lt s on
    refine ⟨i64 (by omega) (by omega), (k97 _ g2).mono ?_⟩
    rintro v g3 m3 rfl
    refine ⟨_, _, rfl, fun g4 n4 => ?_⟩
    have e1 : s.getD on 0 = s[on] := by simp [List.getD_eq_getElem?_getD, gj]
    rw [e1] at n4
    obtain ⟨a', c', w', hrun, g5, hw5, hs5, ho5, _, _⟩ := OwnE.app1 E22 22 (B := g.size) (Nat.le_trans hsz m3.size) (ho.exm m3) n4 (x := (false, ((s[on].toNat : Nat) : Int))) rfl (by omega) (by unfold maxLen; omega)
    refine ⟨a', _, c', w', hrun, g5, hw5, hs5, i64 (by omega) (by omega), m - 1, by omega, on + 1, by omega, by omega, rfl, ?_, Nat.le_trans hsz (Nat.le_trans m3.size (Nat.le_trans n4.ex.size hs5.le.size))⟩
    rw [bytesW_take s on gj]
    exact ho5
  · have e : s.take on = s := List.take_of_length_le (by omega)
    rw [e] at ho
    have : on = s.length := by omega
    subst this
    exact ⟨oa, oc, rfl, ho.exm m6⟩

/-- heap.put, where the parts are known. -/
theorem put_step (d : Nat) (ih : ∀ d' (v : Val) {na : Option Addr} {nn nc : Nat} {la : Option Addr} {ln lc : Nat} {g : G} (l : List Wd) {a : Option Addr} {ll c : Nat} (lim : Int), d = d' + 1 → VRep g d' v na nn nc la ln lc → dataV v → SlE wordE g a ll c l → ((ll : Nat) : Int) ≤ lim → lim ≤ 65536 → CallsP Try.prog 69 #[hpV a ll c ((ll : Nat) : Int) lim, .agg ⟨valC v na nn nc la ln lc⟩] g fun u g' => PutSay lim (putV lim l v) u g')
    (v : Val) {na : Option Addr} {nn nc : Nat} {la : Option Addr} {ln lc : Nat} {g : G} (l : List Wd) {a : Option Addr} {ll c : Nat} (lim : Int) (h : VRep g d v na nn nc la ln lc) (hd : dataV v) (hw : SlE wordE g a ll c l) (h1 : ((ll : Nat) : Int) ≤ lim) (h2 : lim ≤ 65536) :
    CallsP Try.prog 69 #[hpV a ll c ((ll : Nat) : Int) lim, .agg ⟨valC v na nn nc la ln lc⟩] g fun u g' => PutSay lim (putV lim l v) u g' := by
  refine call69 a ll c _ lim v.op v.n ⟨v.s.toArray⟩ na nn nc la ln lc g _ ?_
  have hlen := hw.len
  have hl := h.l.len
  have hcap := h.l.cap
  have hle := h.l.le
  unfold maxLen at hcap
  have hdd := (dataV_eq v).1 hd
  have hbytes : v.s.length ≤ 16384 := by
    rcases hdd.2 with ⟨_, k, _⟩ | ⟨_, _, k, _⟩ | ⟨_, k, _⟩ | ⟨_, k, _⟩
    · simp [k]
    · exact k
    · simp [k]
    · simp [k]
  rw [putV_eq]
  unfold F69
  rw [bsz]
  refine ifEq (fun e1 g1 m1 g2 m2 => ?_) (fun e1 => ?_)
  · rw [if_pos e1]
    refine (k97 v.n g2).mono ?_
    rintro u g3 m3 rfl
    refine ⟨_, _, rfl, fun g4 m4 => ⟨a, c, ?_, ?_, by rw [hlen]; exact h1⟩⟩
    · rw [hlen]; rfl
    · rw [hlen]; exact hw.exm (((m1.trans m2).trans m3).trans m4)
  rw [if_neg e1]
  refine ifEq (fun e2 g5 m5 g6 m6 => ?_) (fun e2 => ?_)
  · rw [if_pos e2]
    refine (k65 v.s (by omega) g6).mono ?_
    rintro u g7 m7 ⟨xa, xc, rfl, hx⟩
    refine ⟨_, _, _, rfl, fun g8 m8 => (k64 l (bytesW v.s) (hw.exm (((m5.trans m6).trans m7).trans m8)) (hx.sl.exm m8) _ lim 4 _ ⟨by omega, h1, h2⟩ rfl (by omega)).mono ?_⟩
    rintro u g9 m9 hs
    obtain ⟨ya, yl, yc, yf, ym, w, ok, rfl, hcs⟩ := (hs.put (by rw [hlen])).cases
    exact ⟨_, _, _, _, _, _, _, _, rfl, fun g10 m10 => (hs.put (by rw [hlen])).ex m10⟩
  rw [if_neg e2]
  have hkids : v.l.length ≤ 1000 ∧ dataL v.l := by
    rcases hdd.2 with ⟨k, _⟩ | ⟨k, _⟩ | ⟨_, _, _, k1, k2⟩ | ⟨_, _, _, _, k1, k2⟩
    · exact absurd k e1
    · exact absurd k e2
    · exact ⟨k1, k2⟩
    · exact ⟨by omega, k2⟩
  have hdl := (dataL_iff v.l).1 hkids.2
  refine ⟨fun m la' ll' lc' i xa xl xc xf xm _ _ _ _ _ _ _ g' => ∃ (j : Nat) (lj ws : List Wd), i = j ∧ j + m = ln ∧ ll' = j ∧ OwnE wordE g' g.size 41 la' ll' lc' ws ∧ g.size ≤ g'.w.heap.size ∧ xf = ((xl : Nat) : Int) ∧ xm = lim ∧ SlE wordE g' xa xl xc lj ∧ xf ≤ lim ∧ putL lim l [] v.l = putL lim lj ws (v.l.drop j),
    fun g11 m11 => ⟨ln, 0, l, [], rfl, by omega, rfl, OwnE.nil _ _ _, m11.size, rfl, rfl, hw.exm m11, h1, by simp⟩, ?_⟩
  rintro m la' ll' lc' i xa xl xc xf xm _ _ _ _ _ _ _ g12 le ⟨j, lj, ws, rfl, hjm, rfl, ho, hsz, rfl, rfl, hx, hxl, hput⟩
  have hxlen := hx.len
  have hwl := ho.len
  refine ifLt (fun hlt => ?_) (fun hge => ?_)
  · have hjl : ll' < v.l.length := by omega
    have gj := List.getElem?_eq_getElem hjl
    refine ⟨⟨by omega, by omega⟩, rdV (h.l.mono le) ll' rfl gj ?_⟩
    rintro ad d' na' nn' nc' la2 ln2 lc2 hd' hv _ c0 c1 c2 c3 c4
    refine ⟨_, _, _, _, _, _, _, _, _, c0, c1, c2, c3, c4, fun g13 m13 => (ih d' v.l[ll'] lj xm hd' (hv.ex m13) (hdl _ (List.mem_of_getElem? gj)) (hx.exm m13) hxl h2).mono ?_⟩
    have hdrop : v.l.drop ll' = v.l[ll'] :: v.l.drop (ll' + 1) := List.drop_eq_getElem_cons hjl
    rw [hdrop, putL] at hput
    rintro u g14 m14 hs
    obtain ⟨ya, yl, yc, yf, ym, w, ok, rfl, ⟨rfl, hr, rfl, rfl, rfl, rfl, rfl, rfl⟩ | ⟨rfl, l', hr, rfl, rfl, rfl, hy, hyl⟩⟩ := hs.cases
    · refine ⟨_, _, _, _, _, _, _, _, rfl, ifT (fun _ g15 _ g16 _ => ?_) (fun hh => by cases hh)⟩
      rw [hput, hr]
      rfl
    · refine ⟨_, _, _, _, _, _, _, _, rfl, ifT (fun hh => by cases hh) (fun _ g17 m17 g18 n18 => ?_)⟩
      rw [hr] at hput
      have hB17 : g.size ≤ g17.w.heap.size := Nat.le_trans hsz ((m13.trans m14).trans m17).size
      obtain ⟨a', c', w', hrun, g19, hw19, hs19, ho19, _, _⟩ := OwnE.app1 E22 22 (B := g.size) hB17 (ho.exm ((m13.trans m14).trans m17)) n18 (x := w) rfl (by omega) (by unfold maxLen; omega)
      refine ⟨a', _, c', w', hrun, g19, hw19, hs19, i64 (by omega) (by omega), m - 1, by omega, ll' + 1, l', ws ++ [w], by omega, by omega, rfl, ho19, Nat.le_trans hB17 (Nat.le_trans n18.ex.size hs19.le.size), rfl, rfl, ((hy.exm m17).exm n18.ex).mono hs19.le, hyl, hput⟩
  · have hdrop : v.l.drop ll' = [] := List.drop_of_length_le (by omega)
    rw [hdrop, putL] at hput
    rw [hput]
    simp only
    have fin : ∀ kind n u g20, AddSay lj ((xl : Nat) : Int) xm kind n ws u g20 → ∃ x0 x1 x2, ∃ x3 x4 : Int, ∃ x5 : Bool, ∃ x6 : Int, ∃ x7 : Bool, u = .tuple ⟨[.agg ⟨[.slice x0 x1 x2, .int .i64 x3, .int .i64 x4]⟩, .agg ⟨[.bool x5, .int .i64 x6]⟩, .bool x7]⟩ ∧ ∀ g21, Ex g20 g21 → PutSay xm (addF xm lj kind n ws) (.tuple ⟨[.agg ⟨[.slice x0 x1 x2, .int .i64 x3, .int .i64 x4]⟩, .agg ⟨[.bool x5, .int .i64 x6]⟩, .bool x7]⟩) g21 := by
      intro kind n u g20 hs
      obtain ⟨ya, yl, yc, yf, ym, w, ok, rfl, _⟩ := (hs.put (by rw [hxlen])).cases
      exact ⟨_, _, _, _, _, _, _, _, rfl, fun g21 m21 => (hs.put (by rw [hxlen])).ex m21⟩
    refine ifEq (fun e4 => ?_) (fun e4 => ?_)
    · rw [if_pos e4]
      refine (k64 lj ws hx ho.sl _ xm 2 v.n ⟨by omega, hxl, h2⟩ rfl (by omega)).mono ?_
      exact fun u g20 m20 hs => fin 2 v.n u g20 hs
    · rw [if_neg e4]
      refine (k64 lj ws hx ho.sl _ xm 1 0 ⟨by omega, hxl, h2⟩ rfl (by omega)).mono ?_
      exact fun u g20 m20 hs => fin 1 0 u g20 hs
theorem k69 : ∀ (d : Nat) (v : Val) {na : Option Addr} {nn nc : Nat} {la : Option Addr} {ln lc : Nat} {g : G} (l : List Wd) {a : Option Addr} {ll c : Nat} (lim : Int), VRep g d v na nn nc la ln lc → dataV v → SlE wordE g a ll c l → ((ll : Nat) : Int) ≤ lim → lim ≤ 65536 → CallsP Try.prog 69 #[hpV a ll c ((ll : Nat) : Int) lim, .agg ⟨valC v na nn nc la ln lc⟩] g fun u g' => PutSay lim (putV lim l v) u g' := by
  intro d
  induction d with
  | zero => exact fun v na nn nc la ln lc g l a ll c lim h => put_step 0 (fun d' v na nn nc la ln lc g l a ll c lim hd => by cases hd) v l lim h
  | succ d ih =>
    refine fun v na nn nc la ln lc g l a ll c lim h => put_step (d + 1) (fun d' v na nn nc la ln lc g l a ll c lim hd hv => ?_) v l lim h
    cases hd
    exact ih v l lim hv
/-- Put of the reference, where the parts are known. -/
theorem rput_step (d : Nat) (ih : ∀ d' (v : Val) {na : Option Addr} {nn nc : Nat} {la : Option Addr} {ln lc : Nat} {g : G} (l : List Wd) {a : Option Addr} {ll c : Nat} (lim : Int), d = d' + 1 → VRep g d' v na nn nc la ln lc → dataV v → SlE wordE g a ll c l → ((ll : Nat) : Int) ≤ lim → lim ≤ 65536 → CallsP Try.prog 29 #[hpV a ll c ((ll : Nat) : Int) lim, .agg ⟨valC v na nn nc la ln lc⟩] g fun u g' => PutSay lim (putV lim l v) u g')
    (v : Val) {na : Option Addr} {nn nc : Nat} {la : Option Addr} {ln lc : Nat} {g : G} (l : List Wd) {a : Option Addr} {ll c : Nat} (lim : Int) (h : VRep g d v na nn nc la ln lc) (hd : dataV v) (hw : SlE wordE g a ll c l) (h1 : ((ll : Nat) : Int) ≤ lim) (h2 : lim ≤ 65536) :
    CallsP Try.prog 29 #[hpV a ll c ((ll : Nat) : Int) lim, .agg ⟨valC v na nn nc la ln lc⟩] g fun u g' => PutSay lim (putV lim l v) u g' := by
  refine call29 a ll c _ lim v.op v.n ⟨v.s.toArray⟩ na nn nc la ln lc g _ ?_
  have hlen := hw.len
  have hl := h.l.len
  have hcap := h.l.cap
  have hle := h.l.le
  unfold maxLen at hcap
  have hdd := (dataV_eq v).1 hd
  have hbytes : v.s.length ≤ 16384 := by
    rcases hdd.2 with ⟨_, k, _⟩ | ⟨_, _, k, _⟩ | ⟨_, k, _⟩ | ⟨_, k, _⟩
    · simp [k]
    · exact k
    · simp [k]
    · simp [k]
  rw [putV_eq]
  unfold F29
  have fin : ∀ (lj : List Wd) (xl : Nat) kind n (ws : List Wd) u g20, lj.length = xl → AddSay lj ((xl : Nat) : Int) lim kind n ws u g20 → ∃ x0 x1 x2, ∃ x3 x4 : Int, ∃ x5 : Bool, ∃ x6 : Int, ∃ x7 : Bool, u = .tuple ⟨[.agg ⟨[.slice x0 x1 x2, .int .i64 x3, .int .i64 x4]⟩, .agg ⟨[.bool x5, .int .i64 x6]⟩, .bool x7]⟩ ∧ ∀ g21, Ex g20 g21 → PutSay lim (addF lim lj kind n ws) (.tuple ⟨[.agg ⟨[.slice x0 x1 x2, .int .i64 x3, .int .i64 x4]⟩, .agg ⟨[.bool x5, .int .i64 x6]⟩, .bool x7]⟩) g21 := by
    intro lj xl kind n ws u g20 hxlen hs
    obtain ⟨ya, yl, yc, yf, ym, w, ok, rfl, _⟩ := (hs.put (by rw [hxlen])).cases
    exact ⟨_, _, _, _, _, _, _, _, rfl, fun g21 m21 => (hs.put (by rw [hxlen])).ex m21⟩
  refine ifEq (fun e1 g1 m1 g2 m2 => ?_) (fun e1 => ?_)
  · rw [if_pos e1]
    refine (k74 v.n g2).mono ?_
    rintro u g3 m3 rfl
    refine ⟨_, _, rfl, fun g4 m4 => ⟨a, c, ?_, ?_, by rw [hlen]; exact h1⟩⟩
    · rw [hlen]; rfl
    · rw [hlen]; exact hw.exm (((m1.trans m2).trans m3).trans m4)
  rw [if_neg e1]
  refine ifEq (fun e2 g5 m5 => ?_) (fun e2 => ?_)
  · rw [if_pos e2]
    refine (k27 l v.s (hw.exm m5) (by omega) _ lim ⟨by omega, h1, h2⟩ rfl).mono ?_
    exact fun u g6 m6 hs => fin l ll 4 _ _ u g6 hlen hs
  rw [if_neg e2]
  have hkids : v.l.length ≤ 1000 ∧ dataL v.l := by
    rcases hdd.2 with ⟨k, _⟩ | ⟨k, _⟩ | ⟨_, _, _, k1, k2⟩ | ⟨_, _, _, _, k1, k2⟩
    · exact absurd k e1
    · exact absurd k e2
    · exact ⟨k1, k2⟩
    · exact ⟨by omega, k2⟩
  have hdl := (dataL_iff v.l).1 hkids.2
  refine ⟨fun m la' ll' lc' i xa xl xc xf xm _ _ _ _ _ _ _ g' => ∃ (j : Nat) (lj ws : List Wd), i = j ∧ j + m = ln ∧ ll' = j ∧ OwnE wordE g' g.size 41 la' ll' lc' ws ∧ g.size ≤ g'.w.heap.size ∧ xf = ((xl : Nat) : Int) ∧ xm = lim ∧ SlE wordE g' xa xl xc lj ∧ xf ≤ lim ∧ putL lim l [] v.l = putL lim lj ws (v.l.drop j),
    fun g11 m11 => ⟨ln, 0, l, [], rfl, by omega, rfl, OwnE.nil _ _ _, m11.size, rfl, rfl, hw.exm m11, h1, by simp⟩, ?_⟩
  rintro m la' ll' lc' i xa xl xc xf xm _ _ _ _ _ _ _ g9 le ⟨j, lj, ws, rfl, hjm, rfl, ho, hsz, rfl, rfl, hx, hxl, hput⟩
  have hxlen := hx.len
  have hwl := ho.len
  refine ifLt (fun hlt => ?_) (fun hge => ?_)
  · have hjl : ll' < v.l.length := by omega
    have gj := List.getElem?_eq_getElem hjl
    have hdrop : v.l.drop ll' = v.l[ll'] :: v.l.drop (ll' + 1) := List.drop_eq_getElem_cons hjl
    rw [hdrop, putL] at hput
    intro J hJ g16 m16
    have hJ' : ∀ (u : Value) (g18 : G), Ex g16 g18 → PutSay xm (putV xm lj v.l[ll']) u g18 → ∃ x0 x1 x2, ∃ x3 x4 : Int, ∃ x5 : Bool, ∃ x6 : Int, ∃ x7 : Bool, u = .tuple ⟨[.agg ⟨[.slice x0 x1 x2, .int .i64 x3, .int .i64 x4]⟩, .agg ⟨[.bool x5, .int .i64 x6]⟩, .bool x7]⟩ ∧ ∀ g19, Ex g18 g19 → J x7 x0 x1 x2 x3 x4 x5 x6 g19 := by
      intro u g18 m18 hs
      obtain ⟨ya, yl, yc, yf, ym, w, ok, rfl, ⟨rfl, hr, rfl, rfl, rfl, rfl, rfl, rfl⟩ | ⟨rfl, l', hr, rfl, rfl, rfl, hy, hyl⟩⟩ := hs.cases
      · refine ⟨_, _, _, _, _, _, _, _, rfl, fun g19 m19 => hJ _ _ _ _ _ _ _ _ g19 (ifT (fun _ g15 _ g16 _ => ?_) (fun hh => by cases hh))⟩
        rw [hput, hr]
        rfl
      · refine ⟨_, _, _, _, _, _, _, _, rfl, fun g19 m19 => hJ _ _ _ _ _ _ _ _ g19 (ifT (fun hh => by cases hh) (fun _ g17 m17 g20 n20 => ?_))⟩
        rw [hr] at hput
        have mm := ((m16.trans m18).trans m19).trans m17
        have hB17 : g.size ≤ g17.w.heap.size := Nat.le_trans hsz mm.size
        obtain ⟨a', c', w', hrun, g21, hw21, hs21, ho21, _, _⟩ := OwnE.app1 E22 22 (B := g.size) hB17 (ho.exm mm) n20 (x := w) rfl (by omega) (by unfold maxLen; omega)
        refine ⟨a', _, c', w', hrun, g21, hw21, hs21, i64 (by omega) (by omega), m - 1, by omega, ll' + 1, l', ws ++ [w], by omega, by omega, rfl, ho21, Nat.le_trans hB17 (Nat.le_trans n20.ex.size hs21.le.size), rfl, rfl, (((hy.exm m19).exm m17).exm n20.ex).mono hs21.le, hyl, hput⟩
    refine ⟨⟨by omega, by omega⟩, rdV ((h.l.mono le).exm m16) ll' rfl gj ?_⟩
    rintro ad d' na' nn' nc' la2 ln2 lc2 hd' hv hnx c0 c1 c2 c3 c4
    refine ⟨hnx, _, _, _, _, _, _, _, _, _, c0, c1, c2, c3, c4, ?_⟩
    repeat' (first | refine rep ?_ _ | refine And.intro ?_ ?_)
    all_goals
      intro g17 m17
      refine (ih d' v.l[ll'] lj xm hd' (hv.ex m17) (hdl _ (List.mem_of_getElem? gj)) ((hx.exm m16).exm m17) hxl h2).mono ?_
      intro u g18 m18 hs
      obtain ⟨x0, x1, x2, x3, x4, x5, x6, x7, rfl, hk⟩ := hJ' u g18 (m17.trans m18) hs
      refine ⟨x0, x1, x2, x3, x4, x5, x6, x7, rfl, ?_⟩
      repeat' (first | refine rep ?_ _ | refine And.intro ?_ ?_)
      all_goals exact fun g19 m19 => hk g19 m19
  · have hdrop : v.l.drop ll' = [] := List.drop_of_length_le (by omega)
    rw [hdrop, putL] at hput
    rw [hput]
    simp only
    refine ifEq (fun e4 => ?_) (fun e4 => ?_)
    · rw [if_pos e4]
      refine (k70 lj ws hx ho.sl _ xm 2 v.n ⟨by omega, hxl, h2⟩ rfl (by omega)).mono ?_
      exact fun u g20 m20 hs => fin lj xl 2 v.n ws u g20 hxlen hs
    · rw [if_neg e4]
      refine (k70 lj ws hx ho.sl _ xm 1 0 ⟨by omega, hxl, h2⟩ rfl (by omega)).mono ?_
      exact fun u g20 m20 hs => fin lj xl 1 0 ws u g20 hxlen hs
theorem k29 : ∀ (d : Nat) (v : Val) {na : Option Addr} {nn nc : Nat} {la : Option Addr} {ln lc : Nat} {g : G} (l : List Wd) {a : Option Addr} {ll c : Nat} (lim : Int), VRep g d v na nn nc la ln lc → dataV v → SlE wordE g a ll c l → ((ll : Nat) : Int) ≤ lim → lim ≤ 65536 → CallsP Try.prog 29 #[hpV a ll c ((ll : Nat) : Int) lim, .agg ⟨valC v na nn nc la ln lc⟩] g fun u g' => PutSay lim (putV lim l v) u g' := by
  intro d
  induction d with
  | zero => exact fun v na nn nc la ln lc g l a ll c lim h => rput_step 0 (fun d' v na nn nc la ln lc g l a ll c lim hd => by cases hd) v l lim h
  | succ d ih =>
    refine fun v na nn nc la ln lc g l a ll c lim h => rput_step (d + 1) (fun d' v na nn nc la ln lc g l a ll c lim hd hv => ?_) v l lim h
    cases hd
    exact ih v l lim hv
end Go.Proofs.Ytcpclpkcanikiaa
