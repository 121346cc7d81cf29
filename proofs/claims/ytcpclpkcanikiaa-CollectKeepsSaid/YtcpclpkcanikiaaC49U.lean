/- Joined texts. -/
import Derived.Test.YtcpclpkcanikiaaC49Q
/- The heap: what its functions return. -/
set_option linter.unusedVariables false
namespace Go.Proofs.Ytcpclpkcanikiaa
open Go Go.Vc Go.RowKit

def errV (e : Int) : Value := .tuple ⟨[hpV none 0 0 0 0, wdV (false, 0), .int .i64 e]⟩
/-- A heap and a word, or an error. -/
def Out (lim : Int) (r : Option (List Wd × Wd)) (e : Int) (u : Value) (g : G) : Prop := match r with
  | none => u = errV e
  | some (l', w) => ∃ a c, u = .tuple ⟨[hpV a l'.length c ((l'.length : Nat) : Int) lim, wdV w, .int .i64 0]⟩ ∧ SlE wordE g a l'.length c l' ∧ ((l'.length : Nat) : Int) ≤ lim
theorem Out.ex {lim : Int} {r : Option (List Wd × Wd)} {e : Int} {u : Value} {g g' : G} (h : Out lim r e u g) (k : Ex g g') : Out lim r e u g' := by
  cases r with
  | none => exact h
  | some p => obtain ⟨a, c, h1, h2, h3⟩ := h; exact ⟨a, c, h1, h2.exm k, h3⟩
/-- What a put returns, with the error of a heap that is full. -/
theorem PutSay.out {lim : Int} {r : Option (List Wd × Wd)} {u : Value} {g : G} (h : PutSay lim r u g) : ∃ x0 x1 x2, ∃ x3 x4 : Int, ∃ x5 : Bool, ∃ x6 : Int, ∃ x7 : Bool, u = .tuple ⟨[.agg ⟨[.slice x0 x1 x2, .int .i64 x3, .int .i64 x4]⟩, .agg ⟨[.bool x5, .int .i64 x6]⟩, .bool x7]⟩ ∧
    (x7 = false → ∀ g', Out lim r 25 (errV 25) g') ∧ (x7 = false → ∀ g', Out lim r 25 (.tuple ⟨[.agg ⟨[.slice x0 x1 x2, .int .i64 x3, .int .i64 x4]⟩, .agg ⟨[.bool x5, .int .i64 x6]⟩, .int .i64 25]⟩) g') ∧
    (x7 = true → ∀ g', Ex g g' → Out lim r 25 (.tuple ⟨[.agg ⟨[.slice x0 x1 x2, .int .i64 x3, .int .i64 x4]⟩, .agg ⟨[.bool x5, .int .i64 x6]⟩, .int .i64 0]⟩) g') := by
  cases r with
  | none =>
    cases h
    exact ⟨_, _, _, _, _, _, _, _, rfl, fun _ _ => rfl, fun _ _ => rfl, fun hh => (by cases hh)⟩
  | some p =>
    obtain ⟨l', w⟩ := p
    obtain ⟨a, c, rfl, h2, h3⟩ := h
    exact ⟨_, _, _, _, _, _, _, _, rfl, fun hh => (by cases hh), fun hh => (by cases hh), fun _ g' m => ⟨a, c, rfl, h2.exm m, h3⟩⟩

/-- slices.Clone. -/
theorem k68 (l : List Wd) {sa : Option Addr} {sl sc : Nat} {g : G} (h : SlE wordE g sa sl sc l) (hll : sl ≤ 1000000) : CallsP Try.prog 68 #[.slice sa sl sc] g fun u g' => ∃ a c, u = .slice a sl c ∧ OwnE wordE g' g.size 41 a sl c l := by
  refine call68 sa sl sc g _ ?_
  have hlen := h.len
  unfold F68
  cases sa with
  | none =>
    have h0 := h.nil rfl
    have h1 := h.le
    have : sl = 0 := by omega
    subst this
    have : l = [] := List.eq_nil_of_length_eq_zero (by omega)
    subst this
    exact ifT (fun _ g1 m1 => ⟨none, 0, rfl, OwnE.nil _ _ _⟩) (fun hh => by cases hh)
  | some ad =>
    refine ifT (fun hh => by cases hh) (fun _ g2 n2 => ?_)
    have o : OwnE wordE g2 g.w.heap.size 41 (some ⟨g.w.heap.size, 0, none⟩) 0 0 [] := OwnE.lit (xs := []) n2 Rws.nil (Nat.le_refl _) (by unfold maxLen; simp)
    obtain ⟨a', c', w', hr, g3, hw, hs, ho, _, _⟩ := OwnE.app E22 22 (B := g.w.heap.size) n2.ex.size o (h.exm n2.ex) (by omega) (by unfold maxLen; omega)
    rw [Nat.zero_add] at hr ho
    exact ⟨a', _, c', w', hr, g3, hw, hs, fun g4 m4 => ⟨a', c', rfl, ho.exm m4⟩⟩

/-- New. -/
theorem k17 (limit : Int) (g : G) : CallsP Try.prog 17 #[.int .i64 limit] g fun u _ => (0 ≤ limit ∧ limit ≤ 65536 ∧ u = .tuple ⟨[hpV none 0 0 0 limit, .int .i64 0]⟩) ∨ (¬ (0 ≤ limit ∧ limit ≤ 65536) ∧ u = .tuple ⟨[hpV none 0 0 0 0, .int .i64 2]⟩) := by
  refine call17 limit g _ ?_
  unfold F17
  exact ifLt (fun h g1 _ g2 _ => .inr ⟨by omega, rfl⟩) (fun h => ifLt (fun h2 g3 _ g4 _ => .inr ⟨by omega, rfl⟩) (fun h2 g5 _ g6 _ => .inl ⟨by omega, by omega, rfl⟩))
/-- Text. -/
theorem k25 (l : List Wd) (s : List UInt8) {a : Option Addr} {ll c : Nat} {g : G} (h : SlE wordE g a ll c l) (fr lim : Int) (hs : s.length ≤ 100000) : CallsP Try.prog 25 #[hpV a ll c fr lim, .string ⟨s.toArray⟩] g fun u g' =>
    ∃ r e, Out lim r e u g' ∧ ((¬ validP l fr lim ∧ r = none ∧ e = 1) ∨ (validP l fr lim ∧ 16384 < s.length ∧ r = none ∧ e = 5) ∨ (validP l fr lim ∧ s.length ≤ 16384 ∧ r = addF lim l 4 ((s.length : Nat) : Int) (bytesW s) ∧ e = 25)) := by
  refine call25 a ll c fr lim ⟨s.toArray⟩ g _ ?_
  have hlen := h.len
  unfold F25
  rw [bsz]
  refine fun g1 m1 => (k21 k94 l (h.exm m1) fr lim).mono ?_
  rintro u g2 m2 rfl
  refine ⟨_, rfl, ifPn (fun hv g3 m3 => ⟨none, 1, rfl, .inl ⟨hv, rfl, rfl⟩⟩) (fun hv => ifLt (fun hb g4 m4 => ⟨none, 5, rfl, .inr (.inl ⟨hv, by omega, rfl, rfl⟩)⟩) (fun hb => ?_))⟩
  obtain ⟨v1, v2, v3, v4, _⟩ := hv
  intro J hJ g9 m9
  have m09 := (m1.trans m2).trans m9
  have main : ∀ g12 xa xc, Ex g9 g12 → SlE wordE g12 xa s.length xc (bytesW s) → ∀ u g13, Ex g12 g13 → AddSay l fr lim 4 ((s.length : Nat) : Int) (bytesW s) u g13 →
      ∃ x0 x1 x2, ∃ x3 x4 : Int, ∃ x5 : Bool, ∃ x6 : Int, ∃ x7 : Bool, u = .tuple ⟨[.agg ⟨[.slice x0 x1 x2, .int .i64 x3, .int .i64 x4]⟩, .agg ⟨[.bool x5, .int .i64 x6]⟩, .bool x7]⟩ ∧ ∀ g14, Ex g13 g14 → J x7 x0 x1 x2 x3 x4 x5 x6 g14 := by
    intro g12 xa xc m12 hx u g13 m13 ha
    obtain ⟨x0, x1, x2, x3, x4, x5, x6, x7, rfl, q1, q2, q3⟩ := (ha.put v3).out
    refine ⟨_, _, _, _, _, _, _, _, rfl, fun g14 m14 => hJ _ _ _ _ _ _ _ _ g14 ?_⟩
    cases x7 with
    | false => exact ifT (fun _ g6 m6 => ⟨_, 25, q1 rfl g6, .inr (.inr ⟨⟨v1, v2, v3, v4, ‹_›⟩, by omega, rfl, rfl⟩)⟩) (fun hh => by cases hh)
    | true => exact ifT (fun hh => by cases hh) (fun _ g7 m7 g8 m8 => ⟨_, 25, q3 rfl g8 ((m14.trans m7).trans m8), .inr (.inr ⟨⟨v1, v2, v3, v4, ‹_›⟩, by omega, rfl, rfl⟩)⟩)
  repeat' (first | refine rep ?_ _ | refine And.intro ?_ ?_)
  all_goals
    intro g10 m10
    refine (k65 s hs g10).mono ?_
    rintro u g11 m11 ⟨xa, xc, rfl, hx⟩
    refine ⟨_, _, _, rfl, ?_⟩
    repeat' (first | refine rep ?_ _ | refine And.intro ?_ ?_)
    all_goals
      intro g12 m12
      refine (k64 l (bytesW s) (h.exm (m09.trans ((m10.trans m11).trans m12))) (hx.sl.exm m12) fr lim 4 _ ⟨by omega, v4, v2⟩ (by omega) (by omega)).mono ?_
      intro u g13 m13 ha
      obtain ⟨x0, x1, x2, x3, x4, x5, x6, x7, rfl, hk⟩ := main g12 xa xc ((m10.trans m11).trans m12) (hx.sl.exm m12) u g13 m13 ha
      refine ⟨_, _, _, _, _, _, _, _, rfl, ?_⟩
      repeat' (first | refine rep ?_ _ | refine And.intro ?_ ?_)
      all_goals exact hk
/-- Put. -/
theorem k26 {d : Nat} (v : Val) {na : Option Addr} {nn nc : Nat} {la : Option Addr} {ln lc : Nat} (l : List Wd) {a : Option Addr} {ll c : Nat} {g : G} (h : SlE wordE g a ll c l) (hv : VRep g d v na nn nc la ln lc) (fr lim : Int) (hs : szV v ≤ 1000000) : CallsP Try.prog 26 #[hpV a ll c fr lim, .agg ⟨valC v na nn nc la ln lc⟩] g fun u g' =>
    ∃ r e, Out lim r e u g' ∧ ((¬ (validP l fr lim ∧ szV v ≤ 20000 ∧ dpV v ≤ 400 ∧ dataV v) ∧ r = none ∧ e = 1) ∨ (validP l fr lim ∧ dataV v ∧ r = putV lim l v ∧ e = 25)) := by
  refine call26 a ll c fr lim v.op v.n ⟨v.s.toArray⟩ na nn nc la ln lc g _ ?_
  have hlen := h.len
  unfold F26
  refine fun g1 m1 => (k66 d v (hv.ex m1) hs).mono ?_
  rintro u g2 m2 rfl
  refine ⟨_, _, rfl, ?_⟩
  intro J hJ
  have no : ∀ g3, ¬ (validP l fr lim ∧ szV v ≤ 20000 ∧ dpV v ≤ 400 ∧ dataV v) → J true g3 := fun g3 hn => hJ _ g3 (ifT (fun _ g4 _ => ⟨none, 1, rfl, .inl ⟨hn, rfl, rfl⟩⟩) (fun hh => by cases hh))
  refine (k21 k94 l (h.exm (m1.trans m2)) fr lim).mono ?_
  rintro u g12 m12 rfl
  have m02 := (m1.trans m2).trans m12
  refine ⟨_, rfl, ifPn (fun hn => no _ (fun hh => hn hh.1)) (fun hval => ifLt (fun h1 => no _ (by omega)) (fun h1 => ifLt (fun h2 => no _ (by omega)) (fun h2 => (k67 d v (hv.ex m02)).mono ?_)))⟩
  rintro u g13 m13 rfl
  refine ⟨_, rfl, ?_⟩
  rw [tf_not]
  rcases Classical.em (dataV v) with hd | hd
  rotate_left
  · rw [tf_of hd]; exact no _ (fun hh => hd hh.2.2.2)
  rw [tf_no (fun hn => hn hd)]
  refine hJ _ g13 (ifT (fun hh => by cases hh) (fun _ => ?_))
  have hval' := hval
  obtain ⟨v1, v2, v3, v4, _⟩ := hval
  refine (k68 l (h.exm (m02.trans m13)) (by omega)).mono ?_
  rintro u g5 m5 ⟨xa, xc, rfl, hx⟩
  have e : fr = ((ll : Nat) : Int) := by omega
  subst e
  refine ⟨_, _, _, rfl, fun g6 m6 => (k69 d v l lim (hv.ex (((m02.trans m13).trans m5).trans m6)) hd (hx.sl.exm m6) v4 v2).mono ?_⟩
  intro u g7 m7 hp
  obtain ⟨x0, x1, x2, x3, x4, x5, x6, x7, rfl, q1, q2, q3⟩ := hp.out
  refine ⟨_, _, _, _, _, _, _, _, rfl, ?_⟩
  cases x7 with
  | false => exact ifT (fun _ g8 m8 g9 m9 => ⟨_, 25, q1 rfl g9, .inr ⟨hval', hd, rfl, rfl⟩⟩) (fun hh => by cases hh)
  | true => exact ifT (fun hh => by cases hh) (fun _ g10 m10 g11 m11 => ⟨_, 25, q3 rfl g11 (m10.trans m11), .inr ⟨hval', hd, rfl, rfl⟩⟩)
/-- Blocks. -/
theorem k34 (l : List Wd) {a : Option Addr} {ll c : Nat} {g : G} (h : SlE wordE g a ll c l) (fr lim : Int) : CallsP Try.prog 34 #[hpV a ll c fr lim] g fun u g' =>
    (¬ validP l fr lim ∧ u = .tuple ⟨[.slice none 0 0, .int .i64 1]⟩) ∨ (validP l fr lim ∧ ∃ L oa on oc, sts l = some L ∧ u = .tuple ⟨[.slice oa on oc, .int .i64 0]⟩ ∧ SlE intE g' oa on oc L ∧ on ≤ l.length) := by
  refine call34 a ll c fr lim g _ ?_
  unfold F34
  refine fun g1 m1 => (k60 k94 l (h.exm m1) fr lim).mono ?_
  rintro u g2 m2 (⟨hn, rfl⟩ | ⟨hv, L, oa, on, oc, hL, rfl, ho, hon⟩)
  · exact ⟨_, _, _, _, rfl, ifT (fun _ g3 _ => .inl ⟨hn, rfl⟩) (fun hh => by cases hh)⟩
  · exact ⟨_, _, _, _, rfl, ifT (fun hh => by cases hh) (fun _ g4 m4 => .inr ⟨hv, L, oa, on, oc, hL, rfl, ho.exm m4, hon⟩)⟩
/-- slices.Equal of numbers. -/
theorem k35 (xs ys : List Int) {a b : Option Addr} {n c m d : Nat} {g : G} (hx : SlE intE g a n c xs) (hy : SlE intE g b m d ys) : CallsP Try.prog 35 #[.slice a n c, .slice b m d] g fun v _ => v = .bool (tf (xs = ys)) := by
  refine call35 a n c b m d g _ ?_
  have hlx := hx.len
  have hly := hy.len
  have hcap := hx.cap
  have hle := hx.le
  unfold maxLen at hcap
  unfold F35
  refine ifNe (fun hne g1 m1 => vF ?_) (fun he => ?_)
  · rintro rfl; omega
  refine ⟨fun k i g' => ∃ j : Nat, i = j ∧ j + k = n ∧ xs.take j = ys.take j, ⟨n, 0, rfl, by omega, by simp⟩, ?_⟩
  rintro k i g2 le ⟨j, rfl, hjk, hj⟩
  refine ifLt (fun hlt g3 m3 => ⟨⟨by omega, by omega⟩, ?_⟩) (fun hge g7 m7 => vT ?_)
  · have gx := List.getElem?_eq_getElem (show j < xs.length by omega)
    have gy := List.getElem?_eq_getElem (show j < ys.length by omega)
    refine rdI ((hx.mono le).exm m3) j rfl gx fun ad hc => ⟨_, hc, ⟨by omega, by omega⟩, rdI ((hy.mono le).exm m3) j rfl gy fun ad2 hc2 => ⟨_, hc2, ?_⟩⟩
    refine ifNe (fun hne g4 m4 => vF ?_) (fun hk => ⟨i64 (by omega) (by omega), k - 1, by omega, j + 1, by omega, by omega, ?_⟩)
    · rintro rfl
      rw [gx] at gy
      exact hne (Option.some.inj gy)
    · rw [take_snoc gx, take_snoc gy, hj, hk]
  · have h1 : xs.take j = xs := List.take_of_length_le (by omega)
    have h2 : ys.take j = ys := List.take_of_length_le (by omega)
    rwa [h1, h2] at hj
theorem k16 {a : Option Addr} {ll c : Nat} (fr lim : Int) (g : G) : CallsP Try.prog 16 #[hpV a ll c fr lim] g fun v _ => v = .bool (tf (ll ≤ 600)) := by
  refine call16 a ll c fr lim g _ ?_
  unfold F16
  exact fun g1 _ => by rw [tf_le]; exact vP (by omega)
/-- none. -/
theorem k19 (l : List Wd) {a : Option Addr} {ll c : Nat} {g : G} (h : SlE wordE g a ll c l) (fr lim : Int) : CallsP Try.prog 19 #[hpV a ll c fr lim] g fun v _ => v = .bool (tf (l = [] ∧ fr = 0 ∧ lim = 0)) := by
  refine call19 a ll c fr lim g _ ?_
  unfold F19
  refine fun g1 m1 => (k20 l [] (h.exm m1) (SlE.zero g1) fr lim 0 0).mono ?_
  rintro v g2 m2 rfl
  exact ⟨_, rfl, fun g3 _ => rfl⟩
end Go.Proofs.Ytcpclpkcanikiaa
/- The heap: blocks are made, and read. -/
set_option linter.unusedVariables false
namespace Go.Proofs.Ytcpclpkcanikiaa
open Go Go.Vc Go.RowKit

/-- A variable that is laid for good. -/
theorem pub_var {gx gy gz : G} {t : TypeId} {u v : Value} (h : NewD gx gy t [u]) (k : StG true gy ⟨gx.w.heap.size, 0, none⟩ [v] gz) : Ex gx gz ∧ Live gz ⟨gx.w.heap.size, 0, none⟩ v := by
  obtain ⟨h1, h2⟩ := h.mut.pub1 k
  exact ⟨((h.ex.but _).trans h2).ex (fun b hb _ e => by omega), h1⟩
theorem pub_ok {g gx gy : G} {t : TypeId} {u : Value} (h : NewD gx gy t [u]) (hg : g.w.heap.size ≤ gx.w.heap.size) : stOk gy.w ⟨gx.w.heap.size, 0, none⟩ 1 ∧ ¬ gy.X (Addr.block ⟨gx.w.heap.size, 0, none⟩) ∧ mutAt gy ⟨gx.w.heap.size, 0, none⟩ 1 ∧ ((Addr.block ⟨gx.w.heap.size, 0, none⟩) < g.w.heap.size → nobody (Addr.block ⟨gx.w.heap.size, 0, none⟩)) :=
  ⟨h.mut.ok0 (by simp), h.mut.nx, h.mut.mut0 _, fun hh => absurd hh (by show ¬ gx.w.heap.size < g.w.heap.size; omega)⟩

theorem k77 (L : List Int) (hs : L.Pairwise (· < ·)) (w : Wd) {b : Nat} {oa : Option Addr} {on oc : Nat} {g : G} (hb : Live g ⟨b, 0, none⟩ (.slice oa on oc)) (ho : SlE intE g oa on oc L) (hon : on ≤ 1000000) :
    CallsP Try.prog 77 #[wdV w, .pointer (some ⟨b, 0, none⟩)] g fun u _ => u = .bool (tf (¬ wordP L w)) := by
  refine call77 w.1 w.2 (some ⟨b, 0, none⟩) g _ ?_
  unfold F77
  refine fun g1 m1 => ⟨oa, on, oc, (hb.ex m1).cell, (k78 L hs w (ho.exm m1) hon).mono ?_⟩
  rintro u g2 m2 rfl
  exact ⟨_, rfl, fun g3 _ => by rw [tf_not]⟩
theorem enters77 : Go.Vc.Enters Try.prog 77 := ⟨_, Try.func77, by kernel_rfl, by kernel_rfl⟩
/-- Alloc. -/
theorem k30 (l x : List Wd) {a xa : Option Addr} {ll c xl xc : Nat} {g : G} (h : SlE wordE g a ll c l) (hx : SlE wordE g xa xl xc x) (fr lim kind n : Int) (hxl : xl ≤ 1000000) : CallsP Try.prog 30 #[hpV a ll c fr lim, .int .i64 kind, .int .i64 n, .slice xa xl xc] g fun u g' =>
    ∃ r e, Out lim r e u g' ∧ ((¬ validP l fr lim ∧ r = none ∧ e = 1) ∨ (validP l fr lim ∧ ∃ L, sts l = some L ∧ (¬ (rightP kind n x ∧ ∀ w ∈ x, wordP L w) ∧ r = none ∧ e = 2 ∨ (rightP kind n x ∧ ∀ w ∈ x, wordP L w) ∧ r = addF lim l kind n x ∧ e = 25))) := by
  refine call30 a ll c fr lim kind n xa xl xc g _ ?_
  have hlen := h.len
  unfold F30
  refine fun g1 m1 => (k60 k94 l (h.exm m1) fr lim).mono ?_
  have key : ∀ (g2 : G) (x0a : Option Addr) (x0l x0c : Nat) (x1 : Bool), Ex g g2 → (x1 = false → ¬ validP l fr lim) → (x1 = true → validP l fr lim ∧ ∃ L, sts l = some L ∧ SlE intE g2 x0a x0l x0c L ∧ x0l ≤ l.length) → True := fun _ _ _ _ _ _ _ _ => trivial
  intro u g2 m2 hch
  have hcase : ∃ x0a x0l x0c x1, u = .tuple ⟨[.slice x0a x0l x0c, .bool x1]⟩ ∧ (x1 = false → ¬ validP l fr lim) ∧ (x1 = true → validP l fr lim ∧ ∃ L, sts l = some L ∧ SlE intE g2 x0a x0l x0c L ∧ x0l ≤ l.length) := by
    rcases hch with ⟨hn, rfl⟩ | ⟨hv, L, oa, on, oc, hL, rfl, ho, hon⟩
    · exact ⟨_, _, _, _, rfl, fun _ => hn, fun hh => (by cases hh)⟩
    · exact ⟨_, _, _, _, rfl, fun hh => (by cases hh), fun _ => ⟨hv, L, hL, ho, hon⟩⟩
  obtain ⟨x0a, x0l, x0c, x1, rfl, hf, ht⟩ := hcase
  have hg2 : g.w.heap.size ≤ g2.w.heap.size := (m1.trans m2).size
  refine ⟨_, _, _, _, rfl, fun g3 n3 => ?_⟩
  obtain ⟨s1, s2, s3, s4⟩ := pub_ok n3 hg2
  refine ⟨s1, s2, s3, s4, fun g4 k4 => ?_⟩
  obtain ⟨m4, hb4⟩ := pub_var n3 k4
  cases x1 with
  | false => exact ifT (fun _ g5 _ => ⟨none, 1, rfl, .inl ⟨hf rfl, rfl, rfl⟩⟩) (fun hh => by cases hh)
  | true =>
  obtain ⟨hv, L, hL, ho, hon⟩ := ht rfl
  have hval := hv
  obtain ⟨v1, v2, v3, v4, _⟩ := hv
  have hasc := sts_asc hL
  refine ifT (fun hh => by cases hh) (fun _ => ?_)
  intro J hJ
  have bad : ¬ (rightP kind n x ∧ ∀ w ∈ x, wordP L w) → ∀ g', ∃ r e, Out lim r e (errV 2) g' ∧ ((¬ validP l fr lim ∧ r = none ∧ e = 1) ∨ (validP l fr lim ∧ ∃ L, sts l = some L ∧ (¬ (rightP kind n x ∧ ∀ w ∈ x, wordP L w) ∧ r = none ∧ e = 2 ∨ (rightP kind n x ∧ ∀ w ∈ x, wordP L w) ∧ r = addF lim l kind n x ∧ e = 25))) :=
    fun hb g' => ⟨none, 2, rfl, .inr ⟨hval, L, hL, .inl ⟨hb, rfl, rfl⟩⟩⟩
  have m04 := (m1.trans m2).trans m4
  refine (k75 kind n x (hx.exm m04)).mono ?_
  rintro u g12 m12 rfl
  refine ⟨_, rfl, ifPn (fun hr g13 _ => bad (fun hh => hr hh.1) g13) (fun hr => ?_)⟩
  have hcl : ∀ g', Le g12 g' → ∀ w ∈ x, CallsP Try.prog 77 (#[wdV w] ++ ⟨[.pointer (some ⟨g2.w.heap.size, 0, none⟩)]⟩) g' fun v _ => v = .bool (tf (¬ wordP L w)) := by
    intro g' le w _
    exact k77 L hasc w ((hb4.ex m12).mono le) (((ho.exm m4).exm m12).mono le) (by omega)
  refine (k76 77 ⟨[.pointer (some ⟨g2.w.heap.size, 0, none⟩)]⟩ (fun w => ¬ wordP L w) x ((hx.exm m04).exm m12) enters77 hcl).mono ?_
  rintro u g14 m14 rfl
  refine ⟨_, rfl, ifP (fun hw g15 _ => bad ?_ g15) (fun hw => ?_)⟩
  · rintro ⟨_, hh⟩
    obtain ⟨w, hw1, hw2⟩ := hw
    exact hw2 (hh w hw1)
  have hgood : rightP kind n x ∧ ∀ w ∈ x, wordP L w := ⟨hr, fun w hw1 => Classical.byContradiction fun hn => hw ⟨w, hw1, hn⟩⟩
  have m014 := (m04.trans m12).trans m14
  refine hJ _ _ _ _ _ _ _ g14 ((k64 l x (h.exm m014) (hx.exm m014) fr lim kind n ⟨by omega, v4, v2⟩ (by omega) hxl).mono ?_)
  intro u g7 m7 ha
  obtain ⟨x0, x1, x2, x3, x4, x5, x6, x7, rfl, q1, q2, q3⟩ := (ha.put v3).out
  refine ⟨_, _, _, _, _, _, _, _, rfl, ?_⟩
  cases x7 with
  | false => exact ifT (fun _ g8 m8 g9 m9 => ⟨_, 25, q1 rfl g9, .inr ⟨hval, L, hL, .inr ⟨hgood, rfl, rfl⟩⟩⟩) (fun hh => by cases hh)
  | true => exact ifT (fun hh => by cases hh) (fun _ g10 m10 g11 m11 => ⟨_, 25, q3 rfl g11 (m10.trans m11), .inr ⟨hval, L, hL, .inr ⟨hgood, rfl, rfl⟩⟩⟩)
/-- Alloc of the reference, of a valid heap. -/
theorem k31 (l x : List Wd) {L : List Int} (hL : sts l = some L) {a xa : Option Addr} {ll c xl xc : Nat} {g : G} (h : SlE wordE g a ll c l) (hx : SlE wordE g xa xl xc x) (fr lim kind n : Int) (hf : 0 ≤ fr ∧ fr ≤ lim ∧ lim ≤ 65536) (hl : fr = ((ll : Nat) : Int)) (hxl : xl ≤ 1000000) :
    CallsP Try.prog 31 #[hpV a ll c fr lim, .int .i64 kind, .int .i64 n, .slice xa xl xc] g fun u g' =>
    ∃ r e, Out lim r e u g' ∧ (¬ (rightP kind n x ∧ ∀ w ∈ x, wordP L w) ∧ r = none ∧ e = 2 ∨ (rightP kind n x ∧ ∀ w ∈ x, wordP L w) ∧ r = addF lim l kind n x ∧ e = 25) := by
  refine call31 a ll c fr lim kind n xa xl xc g _ ?_
  have hlen := h.len
  have hxlen := hx.len
  have hasc := sts_asc hL
  unfold F31
  have bad : ¬ (rightP kind n x ∧ ∀ w ∈ x, wordP L w) → ∀ g', ∃ r e, Out lim r e (errV 2) g' ∧ (¬ (rightP kind n x ∧ ∀ w ∈ x, wordP L w) ∧ r = none ∧ e = 2 ∨ (rightP kind n x ∧ ∀ w ∈ x, wordP L w) ∧ r = addF lim l kind n x ∧ e = 25) := fun hb g' => ⟨none, 2, rfl, .inl ⟨hb, rfl, rfl⟩⟩
  refine fun g1 m1 => (k79 kind n x (hx.exm m1)).mono ?_
  rintro u g2 m2 rfl
  refine ⟨_, rfl, ifPn (fun hr g3 _ => bad (fun hh => hr hh.1) g3) (fun hr => (k36 l hL (h.exm (m1.trans m2)) (by omega) fr lim).mono ?_)⟩
  rintro u g4 m4 ⟨oa, on, oc, rfl, ho, hon⟩
  have m04 := (m1.trans m2).trans m4
  refine ⟨_, _, _, rfl, fun m i _ _ _ _ _ _ _ g' => ∃ j : Nat, i = j ∧ j + m = xl ∧ ∀ w ∈ x.take j, wordP L w, ⟨xl, 0, rfl, by omega, by simp⟩, ?_⟩
  rintro m i _ _ _ _ _ _ _ g5 le ⟨j, rfl, hjm, hj⟩
  refine ifLt (fun hlt => ⟨⟨by omega, by omega⟩, ?_⟩) (fun hge => ?_)
  · have gj := List.getElem?_eq_getElem (show j < x.length by omega)
    refine ((hx.exm m04).mono le).rd (i := j) gj ?_
    rintro r ad rfl hr2
    rw [Int.toNat_natCast]
    refine ⟨x[j].1, x[j].2, ?_, (hr2 1 _ rfl).1, (k63 L hasc x[j] (ho.mono le) (by omega)).mono ?_⟩
    · have := (hr2 0 _ rfl).1
      rwa [Addr.add_zero'] at this
    rintro u g6 m6 rfl
    refine ⟨_, rfl, ifPn (fun hw g7 _ => bad (fun hh => hw (hh.2 _ (List.mem_of_getElem? gj))) g7) (fun hw => ⟨i64 (by omega) (by omega), m - 1, by omega, j + 1, by omega, by omega, ?_⟩)⟩
    intro w hm
    rw [take_snoc gj] at hm
    rcases List.mem_append.1 hm with hm | hm
    · exact hj w hm
    · cases List.mem_singleton.1 hm; exact hw
  · have ht : x.take j = x := List.take_of_length_le (by omega)
    rw [ht] at hj
    refine (k70 l x ((h.exm m04).mono le) ((hx.exm m04).mono le) fr lim kind n hf hl hxl).mono ?_
    intro u g8 m8 ha
    obtain ⟨x0, x1, x2, x3, x4, x5, x6, x7, rfl, q1, q2, q3⟩ := (ha.put (by omega)).out
    refine ⟨_, _, _, _, _, _, _, _, rfl, ?_⟩
    cases x7 with
    | false => exact ifT (fun _ g9 m9 g10 m10 => ⟨_, 25, q2 rfl g10, .inr ⟨⟨hr, hj⟩, rfl, rfl⟩⟩) (fun hh => by cases hh)
    | true => exact ifT (fun hh => by cases hh) (fun _ g11 m11 g12 m12 => ⟨_, 25, q3 rfl g12 (m11.trans m12), .inr ⟨⟨hr, hj⟩, rfl, rfl⟩⟩)

def nilV : Value := .slice none 0 0
/-- What Block returns. -/
def BlkSay (l : List Wd) (fr lim : Int) (w : Wd) (u : Value) (g : G) : Prop :=
  (¬ validP l fr lim ∧ u = .tuple ⟨[.int .i64 0, .int .i64 0, nilV, .int .i64 1]⟩) ∨ (validP l fr lim ∧ ∃ L, sts l = some L ∧ ((¬ (w.1 = true ∧ w.2 ∈ L) ∧ u = .tuple ⟨[.int .i64 0, .int .i64 0, nilV, .int .i64 2]⟩) ∨
    ∃ q : Nat, w = (true, ((q : Nat) : Int)) ∧ ((q : Nat) : Int) ∈ L ∧ hdrP l q ∧ ∃ xa xc, u = .tuple ⟨[.int .i64 (l.getD q zW).2, .int .i64 (l.getD (q + 1) zW).2, .slice xa (l.getD (q + 2) zW).2.toNat xc, .int .i64 0]⟩ ∧ SlE wordE g xa (l.getD (q + 2) zW).2.toNat xc (contW l q)))
theorem k32 (l : List Wd) (w : Wd) {a : Option Addr} {ll c : Nat} {g : G} (h : SlE wordE g a ll c l) (fr lim : Int) : CallsP Try.prog 32 #[hpV a ll c fr lim, wdV w] g fun u g' => BlkSay l fr lim w u g' := by
  refine call32 a ll c fr lim w.1 w.2 g _ ?_
  have hlen := h.len
  unfold F32
  refine fun g1 m1 => (k60 k94 l (h.exm m1) fr lim).mono ?_
  rintro u g2 m2 (⟨hn, rfl⟩ | ⟨hv, L, oa, on, oc, hL, rfl, ho, hon⟩)
  · exact ⟨_, _, _, _, rfl, ifT (fun _ g3 _ => .inl ⟨hn, rfl⟩) (fun hh => by cases hh)⟩
  have hasc := sts_asc hL
  have hval := hv
  obtain ⟨v1, v2, v3, v4, _⟩ := hv
  refine ⟨_, _, _, _, rfl, ifT (fun hh => by cases hh) (fun _ => ?_)⟩
  intro J hJ
  have no : ¬ (w.1 = true ∧ w.2 ∈ L) → ∀ g', BlkSay l fr lim w (.tuple ⟨[.int .i64 0, .int .i64 0, nilV, .int .i64 2]⟩) g' := fun hn g' => .inr ⟨hval, L, hL, .inl ⟨hn, rfl⟩⟩
  refine ifT (fun hw g9 _ => no (fun hh => by rw [hh.1] at hw; cases hw) g9) (fun hw => (k78 L hasc w ho (by omega)).mono ?_)
  have hw1 : w.1 = true := by cases hh : w.1 <;> simp_all
  rintro u g10 m10 rfl
  refine ⟨_, rfl, ifPn (fun hp g11 _ => no (fun hh => hp ?_) g11) (fun hp => ?_)⟩
  · unfold wordP; rw [if_pos hh.1]; exact hh.2
  unfold wordP at hp
  rw [if_pos hw1] at hp
  obtain ⟨q, hq, hql, hhd⟩ := sts_hdr hL hp
  have hh1 := hhd.1
  have hh5 := hhd.2.2.2.2.1
  have hh6 := hhd.2.2.2.2.2.1
  refine hJ g10 (fun g5 m5 => ?_)
  have h5 := h.exm (((m1.trans m2).trans m10).trans m5)
  rw [hq]
  refine ⟨⟨by omega, by omega⟩, rd1 h5 q rfl (by omega) fun ad had => ⟨_, had, i64 (by omega) (by omega), ⟨by omega, by omega⟩, rd1 h5 (i := ((q : Nat) : Int) + 1) (q + 1) (by omega) (by omega) fun ad2 had2 => ⟨_, had2, (k80 l h5 (by omega) fr lim q hhd).mono ?_⟩⟩⟩
  rintro u g6 m6 ⟨xa, xc, rfl, hx⟩
  refine ⟨_, _, _, rfl, (k68 _ hx (by omega)).mono ?_⟩
  rintro u g7 m7 ⟨ya, yc, rfl, hy⟩
  refine ⟨_, _, _, rfl, fun g8 m8 => .inr ⟨hval, L, hL, .inr ⟨q, ?_, by rw [← hq]; exact hp, hhd, ya, yc, rfl, hy.sl.exm m8⟩⟩⟩
  obtain ⟨w1, w2⟩ := w
  simp only at hw1 hq
  rw [hw1, hq]
/-- Block of the reference. -/
theorem k38 (l : List Wd) (q : Nat) (hhd : hdrP l q) {a : Option Addr} {ll c : Nat} {g : G} (h : SlE wordE g a ll c l) (hll : ll ≤ 1000000) (fr lim : Int) : CallsP Try.prog 38 #[hpV a ll c fr lim, .int .i64 ((q : Nat) : Int)] g fun u g' =>
    ∃ xa xc, u = .tuple ⟨[.int .i64 (l.getD q zW).2, .int .i64 (l.getD (q + 1) zW).2, .slice xa (l.getD (q + 2) zW).2.toNat xc]⟩ ∧ SlE wordE g' xa (l.getD (q + 2) zW).2.toNat xc (contW l q) := by
  refine call38 a ll c fr lim _ g _ ?_
  have hlen := h.len
  have hle := h.le
  have hh1 := hhd.1
  have hh5 := hhd.2.2.2.2.1
  have hh6 := hhd.2.2.2.2.2.1
  unfold F38 contW
  obtain ⟨n, hnn⟩ : ∃ n : Nat, (l.getD (q + 2) zW).2 = n := ⟨(l.getD (q + 2) zW).2.toNat, by omega⟩
  rw [hnn] at hh5 hh6 ⊢
  rw [Int.toNat_natCast] at hh6 ⊢
  refine ⟨i64 (by omega) (by omega), ⟨by omega, by omega⟩, ?_⟩
  have hsl := h.ex
  obtain ⟨R, hR, hrw⟩ := hsl
  obtain ⟨ad0, rfl, _⟩ := hR.addr (by omega)
  refine fun g1 m1 => ?_
  have key : ∀ (gx : G) (p : Nat) (i : Int), Ex g gx → i = (p : Int) → p < ll → gx.w.cell? (Addr.add (Addr.add ad0 (Int.toNat i * 2)) 1) = some (.int .i64 (l.getD p zW).2) := by
    rintro gx p i mx rfl hp
    have hr := (rd1 (h.exm mx) p rfl hp (K := fun ad => ad = ad0 → gx.w.cell? (Addr.add (Addr.add ad (Int.toNat ((p : Nat) : Int) * 2)) 1) = some (.int .i64 (l.getD p zW).2)) (fun ad hc _ => hc))
    exact hr rfl
  refine ⟨n, by rw [key g1 (q + 2) _ m1 (by omega) (by omega), hnn], fun g2 m2 => ⟨nobody, fun b hb => hb.elim, ⟨by omega, by omega⟩, fun h => h, _, key g2 q _ (m1.trans m2) rfl (by omega), i64 (by omega) (by omega), ⟨by omega, by omega⟩, fun h => h, _, key g2 (q + 1) _ (m1.trans m2) (by omega) (by omega), i64 (by omega) (by omega), i64 (by omega) (by omega), i64 (by omega) (by omega), ⟨by omega, by omega⟩, ⟨by omega, by omega⟩, fun g3 n3 => ?_⟩⟩
  have e3 : Int.toNat (((q : Nat) : Int) + 3) = q + 3 := by omega
  have e4 : Int.toNat (((q : Nat) : Int) + 3 + (n : Nat)) = q + 3 + n := by omega
  have en : (q + 3 + n) - (q + 3) = n := by omega
  rw [e3, e4, en]
  have m03 := (m1.trans m2).trans n3.ex
  have hsub := (h.exm m03).sub (lo := q + 3) (hi := q + 3 + n) (by omega) (by omega)
  rw [en] at hsub
  have o : OwnE wordE g3 g2.w.heap.size 41 (some ⟨g2.w.heap.size, 0, none⟩) 0 0 [] := OwnE.lit (xs := []) n3 Rws.nil (Nat.le_refl _) (by unfold maxLen; simp)
  obtain ⟨a', c', w', hr, g4, hw, hs, ho, hst, _⟩ := OwnE.app E22 22 (B := g2.w.heap.size) n3.ex.size o hsub (by omega) (by unfold maxLen; omega)
  rw [Nat.zero_add] at hr ho
  have hg2 := (m1.trans m2).size
  refine ⟨a', _, c', w', hr, g4, hw, hs.mono hg2 (fun _ _ h => h.elim), ?_, fun g5 m5 => ⟨a', c', rfl, ?_⟩⟩
  · exact fun b hb hx _ => (hs.same b hb (fun h => h)).trans (n3.ex.same b hb hx)
  · have := ho.sl.exm m5
    simpa using this
end Go.Proofs.Ytcpclpkcanikiaa
/- The heap: texts; small values; the example of the chapter. -/
set_option linter.unusedVariables false
namespace Go.Proofs.Ytcpclpkcanikiaa
open Go Go.Vc Go.RowKit

/-- What String returns. -/
def StrSay (l : List Wd) (fr lim : Int) (w : Wd) (u : Value) : Prop :=
  (¬ validP l fr lim ∧ u = .tuple ⟨[.string (bs []), .int .i64 1]⟩) ∨ (validP l fr lim ∧ ∃ L, sts l = some L ∧ ((¬ (w.1 = true ∧ w.2 ∈ L) ∧ u = .tuple ⟨[.string (bs []), .int .i64 2]⟩) ∨
    ∃ q : Nat, w = (true, ((q : Nat) : Int)) ∧ ((q : Nat) : Int) ∈ L ∧ hdrP l q ∧ ((l.getD q zW).2 ≠ 4 ∧ u = .tuple ⟨[.string (bs []), .int .i64 12]⟩ ∨ (l.getD q zW).2 = 4 ∧ u = .tuple ⟨[.string ⟨(textW (contW l q)).toArray⟩, .int .i64 0]⟩)))
theorem k33 (l : List Wd) (w : Wd) {a : Option Addr} {ll c : Nat} {g : G} (h : SlE wordE g a ll c l) (fr lim : Int) : CallsP Try.prog 33 #[hpV a ll c fr lim, wdV w] g fun u _ => StrSay l fr lim w u := by
  refine call33 a ll c fr lim w.1 w.2 g _ ?_
  have hlen := h.len
  unfold F33
  refine fun g1 m1 => (k32 l w (h.exm m1) fr lim).mono ?_
  rintro u g2 m2 (⟨hn, rfl⟩ | ⟨hv, L, hL, ⟨hn, rfl⟩ | ⟨q, hq, hqL, hhd, xa, xc, rfl, hx⟩⟩)
  · exact ⟨_, _, _, _, _, _, rfl, ifNe (fun _ g3 _ => .inl ⟨hn, rfl⟩) (fun hh => absurd hh (by decide))⟩
  · exact ⟨_, _, _, _, _, _, rfl, ifNe (fun _ g3 _ => .inr ⟨hv, L, hL, .inl ⟨hn, rfl⟩⟩) (fun hh => absurd hh (by decide))⟩
  refine ⟨_, _, _, _, _, _, rfl, ifNe (fun hh => absurd rfl hh) (fun _ => ifNe (fun hk g4 _ => .inr ⟨hv, L, hL, .inr ⟨q, hq, hqL, hhd, .inl ⟨hk, rfl⟩⟩⟩) (fun hk => ?_))⟩
  obtain ⟨v1, v2, v3, v4, _⟩ := hv
  have hh5 := hhd.2.2.2.2.1
  have hh6 := hhd.2.2.2.2.2.1
  generalize hcw : contW l q = x at hx
  have hxl := hx.len
  generalize hll : (l.getD (q + 2) zW).2.toNat = xl at hx hh6 hxl ⊢
  refine ⟨fun m oa on oc i g5 => ∃ j : Nat, i = j ∧ j + m = xl ∧ on = j ∧ OwnB g5 g.size 5 oa on oc (textW (x.take j)) ∧ g.size ≤ g5.w.heap.size, ⟨xl, 0, rfl, by omega, rfl, OwnG.nil _ _ _ _, (m1.trans m2).size⟩, ?_⟩
  rintro m oa on oc i g5 le ⟨j, rfl, hjm, rfl, ho, hsz⟩
  refine ifLt (fun hlt => ⟨⟨by omega, by omega⟩, ?_⟩) (fun hge => ?_)
  · have gj := List.getElem?_eq_getElem (show on < x.length by omega)
    refine (hx.mono le).rd (i := on) gj ?_
    rintro r ad rfl hr
    rw [Int.toNat_natCast]
    refine ⟨x[on].1, x[on].2, ?_, (hr 1 _ rfl).1, fun g6 m6 g7 n7 => ?_⟩
    · have := (hr 0 _ rfl).1
      rwa [Addr.add_zero'] at this
    rw [byteX_wrap] at n7
    have hs : SlB g7 (some ⟨g6.w.heap.size, 0, none⟩) 1 1 [byteX x[on].2] := n7.sl (m := 1) (n := 1) rfl (by unfold maxLen; omega)
    obtain ⟨a', c', w', hrun, g8, hw, hs8, ho8, _, _⟩ := OwnB.app E66 66 (B := g.size) (Nat.le_trans hsz (m6.trans n7.ex).size) (ho.ex (m6.trans n7.ex)) hs (by omega) (by unfold maxLen; omega)
    refine ⟨a', _, c', w', hrun, g8, hw, hs8, i64 (by omega) (by omega), m - 1, by omega, on + 1, by omega, by omega, rfl, ?_, Nat.le_trans hsz (Nat.le_trans (m6.trans n7.ex).size hs8.le.size)⟩
    have e : textW (x.take (on + 1)) = textW (x.take on) ++ [byteX x[on].2] := by unfold textW; rw [take_snoc gj, List.map_append]; rfl
    rw [e]
    exact ho8
  · have e : x.take on = x := List.take_of_length_le (by omega)
    rw [e] at ho
    refine ⟨_, _, SlB.str ho.sl Try.underlying66 Try.underlying5 Try.underlying9, g5, rfl, Stp.refl _ _ _, fun g10 _ => .inr ⟨⟨v1, v2, v3, v4, ‹_›⟩, L, hL, .inr ⟨q, hq, hqL, hhd, .inr ⟨hk, ?_⟩⟩⟩⟩
    rw [hcw]

/-- nodes. -/
theorem nodes_step (d : Nat) (ih : ∀ d' (v : Val) {na : Option Addr} {nn nc : Nat} {la : Option Addr} {ln lc : Nat} {g : G} (most depth : Nat), d = d' + 1 → VRep g d' v na nn nc la ln lc → 1 ≤ most → most ≤ 1000000 → depth ≤ 1000 → CallsP Try.prog 50 #[.agg ⟨valC v na nn nc la ln lc⟩, .int .i64 ((most : Nat) : Int), .int .i64 ((depth : Nat) : Int)] g fun u _ => ∃ r : Nat, u = .int .i64 ((r : Nat) : Int) ∧ 1 ≤ r ∧ r ≤ most ∧ (r < most → szV v = r ∧ depth + dpV v ≤ 251))
    (v : Val) {na : Option Addr} {nn nc : Nat} {la : Option Addr} {ln lc : Nat} {g : G} (most depth : Nat) (h : VRep g d v na nn nc la ln lc) (h1 : 1 ≤ most) (h2 : most ≤ 1000000) (h3 : depth ≤ 1000) :
    CallsP Try.prog 50 #[.agg ⟨valC v na nn nc la ln lc⟩, .int .i64 ((most : Nat) : Int), .int .i64 ((depth : Nat) : Int)] g fun u _ => ∃ r : Nat, u = .int .i64 ((r : Nat) : Int) ∧ 1 ≤ r ∧ r ≤ most ∧ (r < most → szV v = r ∧ depth + dpV v ≤ 251) := by
  refine call50 v.op v.n ⟨v.s.toArray⟩ na nn nc la ln lc _ _ g _ ?_
  have hl := h.l.len
  have hcap := h.l.cap
  have hle := h.l.le
  unfold maxLen at hcap
  have hs := szV_eq v
  have hd := dpV_eq v
  unfold F50
  intro J hJ
  have yes : ∀ g1, J true g1 := fun g1 => hJ _ g1 (ifT (fun _ g2 _ => ⟨most, rfl, h1, Nat.le_refl _, fun hh => by omega⟩) (fun hh => by cases hh))
  have main : depth ≤ 250 → ∀ b g1, Ex g g1 → J b g1 := by
    intro hdep b g1 m1
    cases b with
    | true => exact yes g1
    | false =>
    refine hJ _ g1 (ifT (fun hh => by cases hh) (fun _ => ?_))
    refine ⟨fun m n i g' => ∃ j n' : Nat, i = j ∧ j + m = ln ∧ n = ((n' : Nat) : Int) ∧ 1 ≤ n' ∧ n' ≤ most ∧ (n' < most → n' = 1 + szL (v.l.take j) ∧ depth + 1 + dpL (v.l.take j) ≤ 251), ⟨ln, 0, 1, rfl, by omega, rfl, by omega, by omega, fun _ => ⟨by simp [szL], by simp [dpL]; omega⟩⟩, ?_⟩
    rintro m n i g3 le ⟨j, n', rfl, hjm, rfl, hn1, hn2, hn⟩
    refine ifLt (fun hlt => ?_) (fun hge g7 _ => ?_)
    · have gj := List.getElem?_eq_getElem (show j < v.l.length by omega)
      refine ⟨⟨by omega, by omega⟩, rdV ((h.ex m1).l.mono le) j rfl gj ?_⟩
      rintro ad d' na' nn' nc' la' ln' lc' hdd hv _ c0 c1 c2 c3 c4
      refine ⟨_, _, _, _, _, _, _, _, _, c0, c1, c2, c3, c4, ifLe (fun hh g4 _ => ⟨most, rfl, h1, Nat.le_refl _, fun hh => by omega⟩) (fun hh => ⟨i64 (by omega) (by omega), i64 (by omega) (by omega), fun g5 m5 => ?_⟩)⟩
      have el : ((most : Nat) : Int) - ((n' : Nat) : Int) = ((most - n' : Nat) : Int) := by omega
      have ed : ((depth : Nat) : Int) + 1 = ((depth + 1 : Nat) : Int) := by omega
      rw [el, ed]
      refine (ih d' v.l[j] (most - n') (depth + 1) hdd (hv.ex m5) (by omega) (by omega) (by omega)).mono ?_
      rintro u g6 m6 ⟨r, rfl, hr1, hr2, hr⟩
      refine ⟨_, rfl, i64 (by omega) (by omega), i64 (by omega) (by omega), m - 1, by omega, j + 1, n' + r, by omega, by omega, by omega, by omega, by omega, fun hlt2 => ?_⟩
      obtain ⟨q1, q2⟩ := hn (by omega)
      obtain ⟨q3, q4⟩ := hr (by omega)
      rw [take_snoc gj, szL_append, dpL_append]
      simp only [szL, dpL, Nat.add_zero]
      omega
    · have ht : v.l.take j = v.l := List.take_of_length_le (by omega)
      rw [ht] at hn
      refine ⟨n', ?_, hn1, hn2, fun hlt => ?_⟩
      · unfold minI; rw [if_neg (by omega)]
      · obtain ⟨q1, q2⟩ := hn hlt
        omega
  refine ifLt (fun hh g8 _ => yes g8) (fun hh => ifLt (fun h2' g9 _ => yes g9) (fun h2' => ifLt (fun h3' => ifLe (fun h4 g10 _ => yes g10) (fun h4 g11 m => main (by omega) _ g11 m)) (fun h3' g12 m => main (by omega) _ g12 m)))
theorem k50 : ∀ (d : Nat) (v : Val) {na : Option Addr} {nn nc : Nat} {la : Option Addr} {ln lc : Nat} {g : G} (most depth : Nat), VRep g d v na nn nc la ln lc → 1 ≤ most → most ≤ 1000000 → depth ≤ 1000 → CallsP Try.prog 50 #[.agg ⟨valC v na nn nc la ln lc⟩, .int .i64 ((most : Nat) : Int), .int .i64 ((depth : Nat) : Int)] g fun u _ => ∃ r : Nat, u = .int .i64 ((r : Nat) : Int) ∧ 1 ≤ r ∧ r ≤ most ∧ (r < most → szV v = r ∧ depth + dpV v ≤ 251) := by
  intro d
  induction d with
  | zero => exact fun v na nn nc la ln lc g most depth h => nodes_step 0 (fun d' v na nn nc la ln lc g l d hd => by cases hd) v most depth h
  | succ d ih =>
    refine fun v na nn nc la ln lc g most depth h => nodes_step (d + 1) (fun d' v na nn nc la ln lc g l dd hd hv => ?_) v most depth h
    cases hd
    exact ih v l dd hv
theorem k24 {d : Nat} (v : Val) {na : Option Addr} {nn nc : Nat} {la : Option Addr} {ln lc : Nat} {g : G} (h : VRep g d v na nn nc la ln lc) : CallsP Try.prog 24 #[.agg ⟨valC v na nn nc la ln lc⟩] g fun u _ => ∃ b : Bool, u = .bool b ∧ (b = true → szV v < 200 ∧ dpV v ≤ 250) := by
  refine call24 v.op v.n ⟨v.s.toArray⟩ na nn nc la ln lc g _ ?_
  unfold F24
  refine fun g1 m1 => (k50 d v 4400 1 (h.ex m1) (by omega) (by omega) (by omega)).mono ?_
  rintro u g2 m2 ⟨r, rfl, hr1, hr2, hr⟩
  refine ⟨_, rfl, ifLt (fun hh g3 _ => ⟨true, rfl, fun _ => ?_⟩) (fun hh => ifLt (fun h2 g4 _ => by omega) (fun h2 g5 _ => ⟨false, rfl, fun hh => (by cases hh)⟩))⟩
  obtain ⟨q1, q2⟩ := hr (by omega)
  omega

/-- A heap and a word, or an error, written out. -/
theorem Out.vals {lim : Int} {r : Option (List Wd × Wd)} {e : Int} {u : Value} {g : G} (h : Out lim r e u g) : ∃ a n c fr lm, ∃ w : Wd, ∃ er l', u = .tuple ⟨[hpV a n c fr lm, wdV w, .int .i64 er]⟩ ∧ SlE wordE g a n c l' ∧
    (r = none ∧ l' = [] ∧ fr = 0 ∧ lm = 0 ∧ w = (false, 0) ∧ er = e ∨ r = some (l', w) ∧ er = 0 ∧ fr = ((l'.length : Nat) : Int) ∧ lm = lim ∧ ((l'.length : Nat) : Int) ≤ lim) := by
  cases r with
  | none =>
    cases h
    exact ⟨none, 0, 0, 0, 0, (false, 0), e, [], rfl, SlE.zero _, .inl ⟨rfl, rfl, rfl, rfl, rfl, rfl⟩⟩
  | some p =>
    obtain ⟨l', w⟩ := p
    obtain ⟨a, c, rfl, h2, h3⟩ := h
    exact ⟨a, _, c, _, _, w, 0, l', rfl, h2, .inr ⟨rfl, rfl, rfl, rfl, h3⟩⟩

/-! ### The example -/
def exV : Val := .mk 4 1 [] [] [.mk 3 0 [] [] []]
def exW : List Wd := [(false, 1), (false, 0), (false, 0), (false, 2), (false, 1), (false, 1), (true, 0)]
theorem ex_put : putV 7 [] exV = some (exW, (true, 3)) := by
  simp [exV, exW, putV, putL, addF, blkW]
theorem ex_h0 : hdrP exW 0 := ⟨by decide, rfl, rfl, rfl, by decide, by decide, .inl ⟨rfl, rfl, by decide⟩⟩
theorem ex_h3 : hdrP exW 3 := ⟨by decide, rfl, rfl, rfl, by decide, by decide, .inr (.inl ⟨rfl, by decide, by decide, rfl⟩)⟩
theorem ex_sts : sts exW = some [0, 3] := by
  unfold sts
  rw [show exW.length = 7 from rfl, stsF_yes (by decide) ex_h0, show stepN exW 0 = 3 from rfl, stsF_yes (by decide) ex_h3, show stepN exW 3 = 7 from rfl, stsF_end (by decide)]
  rfl
theorem ex_valid : validP exW 7 7 := by
  refine ⟨by decide, by decide, rfl, by decide, [0, 3], ex_sts, ?_⟩
  intro x hx
  simp only [List.mem_cons, List.not_mem_nil, or_false] at hx
  rcases hx with rfl | rfl
  · intro k hk
    exact absurd hk (by show ¬ k < 0; omega)
  · intro k hk
    have : k < 1 := hk
    have : k = 0 := by omega
    subst this
    show wordP [0, 3] (true, 0)
    unfold wordP
    simp
theorem valid0 (lim : Int) (h : 0 ≤ lim ∧ lim ≤ 65536) : validP [] 0 lim := ⟨h.1, h.2, rfl, h.1, [], rfl, by simp⟩
theorem ex_data : dataV exV := by
  simp [exV, dataV, dataL]
theorem k15 (g : G) : CallsP Try.prog 15 #[] g fun u _ => u = .bool true := by
  refine call15 g _ ?_
  unfold F15
  refine (k18 1 2 g).mono ?_
  rintro u g1 m1 (⟨_, rfl⟩ | ⟨hn, _⟩)
  rotate_left
  · exact absurd (show lenP 1 2 by unfold lenP; omega) hn
  refine ⟨_, _, rfl, (k17 7 g1).mono ?_⟩
  rintro u g2 m2 (⟨_, _, rfl⟩ | ⟨hn, _⟩)
  rotate_left
  · exact absurd (by omega) hn
  refine ⟨_, _, _, _, _, _, rfl, fun g3 m3 g4 n4 => ?_⟩
  have hv0 : (valE 1).rep g3 [.int .i64 3, .int .i64 0, .string (bs []), .slice none 0 0, .slice none 0 0] (.mk 3 0 [] [] []) := ⟨none, 0, 0, none, 0, 0, rfl, SlE.zero _, SlE.zero _⟩
  have hV : VRep g4 1 exV none 0 0 (some ⟨g3.w.heap.size, 0, none⟩) 1 1 := ⟨SlE.zero _, n4.sle (xs := [Val.mk 3 0 [] [] []]) (Rws.single hv0) (by unfold maxLen; simp)⟩
  refine (k26 exV [] (SlE.zero g4) hV 0 7 (by simp [exV, szV, szL])).mono ?_
  rintro u g5 m5 ⟨r, e, ho, ⟨hn, _⟩ | ⟨_, _, rfl, rfl⟩⟩
  · exact absurd ⟨valid0 7 (by omega), by simp [exV, szV, szL], by simp [exV, dpV, dpL], ex_data⟩ hn
  rw [ex_put] at ho
  obtain ⟨a, n, c, fr, lm, w, er, l', rfl, hs, ⟨hh, _⟩ | ⟨hh, rfl, rfl, rfl, _⟩⟩ := ho.vals
  · cases hh
  cases hh
  refine ⟨_, _, _, _, _, _, _, _, rfl, fun g6 m6 => (k34 exW (hs.exm m6) 7 7).mono ?_⟩
  rintro u g7 m7 (⟨hn, _⟩ | ⟨_, L, oa, on, oc, hL, rfl, ho2, _⟩)
  · exact absurd ex_valid hn
  rw [ex_sts] at hL
  cases hL
  refine ⟨_, _, _, _, rfl, ifEq (fun _ => ifEq (fun _ => ifEq (fun _ => ifEq (fun _ => ?_) (fun hh => absurd rfl hh)) (fun hh => absurd rfl hh)) (fun hh => absurd rfl hh)) (fun hh => absurd rfl hh)⟩
  rw [eqW]
  refine ifP (fun _ g8 n8 => ?_) (fun hh => absurd rfl hh)
  have hrow : SlE intE g8 (some ⟨g7.w.heap.size, 0, none⟩) 2 2 [0, 3] := n8.sle (xs := [0, 3]) ((Rws.single (E := intE) (g := g7) (x := 0) rfl).append (Rws.single (E := intE) (g := g7) (x := 3) rfl)) (by unfold maxLen; simp)
  refine (k35 [0, 3] [0, 3] (ho2.exm n8.ex) hrow).mono ?_
  rintro u g9 m9 rfl
  exact ⟨_, rfl, ifP (fun _ g10 _ => congrArg Value.bool (eqI_true.mpr rfl)) (fun hh => absurd rfl hh)⟩
end Go.Proofs.Ytcpclpkcanikiaa
