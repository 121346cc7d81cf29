/- The store: Get, Entries, Compact, and what the reference says of them, but for the keys. -/
import Derived.Test.YtlofbfbcnlgmaaaC53m
set_option linter.unusedVariables false
namespace Go.Proofs.Ytlofbfbcnlgmaaa
open Go Go.Vc Go.RowKit

/-- A string. -/
def strE : El (List UInt8) where
  m := 1
  rep g r x := r = [.string (bstr x)]
  len := by rintro g r x rfl; rfl
  mono := by rintro g g' r x k rfl; rfl
  one := by
    rintro g r x rfl u hu
    simp only [List.mem_cons, List.not_mem_nil, or_false] at hu
    subst hu
    rfl

/-- bytes.Clone. -/
theorem k49 (x : List UInt8) {a : Option Addr} {l c : Nat} {g : G} (hx : SlB g a l c x) (hl : l ≤ 70368744177664) :
    CallsP Try.prog 49 #[.slice a l c] g fun v g' => ∃ a' c', v = .slice a' l c' ∧ OwnB g' g.size 5 a' l c' x := by
  refine call49 a l c g _ ?_
  unfold F49
  refine ifT (fun hn g1 m1 => ?_) (fun hn g2 n2 => ?_)
  · have ha : a = none := by cases a <;> first | rfl | cases hn
    have hc := hx.nil ha
    have hle := hx.le
    have h0 : l = 0 := by omega
    subst h0
    have : x = [] := List.eq_nil_of_length_eq_zero (SlB.length hx)
    subst this
    exact ⟨none, 0, rfl, OwnG.nil _ _ _ _⟩
  · have o := OwnG.lit (B := g.size) (m := 1) n2 (n := 0) (Nat.le_refl _) rfl (by unfold maxLen; omega)
    obtain ⟨a', c', w', hr, g3, hw, hs, ho, _, _⟩ := OwnB.app (s := []) E22 22 (B := g.size) n2.ex.size o (hx.ex n2.ex) (by omega) (by unfold maxLen; omega)
    rw [Nat.zero_add] at hr ho
    exact ⟨a', l, c', w', hr, g3, hw, hs, fun g4 m4 => ⟨a', c', rfl, ho.ex m4⟩⟩

/-- SameEntries. -/
theorem k28 (xs ys : List Ent) {a b : Option Addr} {n c m d : Nat} {g : G} (hx : SlE entE g a n c xs) (hy : SlE entE g b m d ys) :
    CallsP Try.prog 28 #[.slice a n c, .slice b m d] g fun v _ => v = .bool (tf (xs = ys)) := by
  refine call28 a n c b m d g _ ?_
  have hlx := hx.len
  have hly := hy.len
  have hcap := hx.cap
  have hle := hx.le
  unfold maxLen at hcap
  unfold F28
  refine ifNe (fun hne g1 m1 => vF ?_) (fun he => ?_)
  · rintro rfl; omega
  refine ⟨fun k i g' => ∃ j : Nat, i = j ∧ j + k = n ∧ xs.take j = ys.take j, ⟨n, 0, rfl, by omega, by simp⟩, ?_⟩
  rintro k i g2 le ⟨j, rfl, hjk, hj⟩
  refine ifLt (fun hlt g3 m3 => ⟨⟨by omega, by omega⟩, ?_⟩) (fun hge g7 m7 => vT ?_)
  · have hjx : j < xs.length := by omega
    have hjy : j < ys.length := by omega
    have gx := List.getElem?_eq_getElem hjx
    have gy := List.getElem?_eq_getElem hjy
    have hx3 := (hx.mono le).exm m3
    have hy3 := (hy.mono le).exm m3
    refine hx3.rd (i := j) gx ?_
    rintro r ad ⟨ea, en, ec, rfl, hd1⟩ hr
    refine ⟨bstr xs[j].1, ?_, ⟨by omega, by omega⟩, ?_⟩
    · rw [Int.toNat_natCast]
      have := (hr 0 _ rfl).1
      rwa [Addr.add_zero'] at this
    refine hy3.rd (i := j) gy ?_
    rintro r2 ad2 ⟨fa, fn, fc, rfl, hd2⟩ hr2
    refine ⟨bstr ys[j].1, ?_, ifSn (fun hne g4 m4 => vF ?_) (fun hk => ⟨⟨by omega, by omega⟩, ?_⟩)⟩
    · rw [Int.toNat_natCast]
      have := (hr2 0 _ rfl).1
      rwa [Addr.add_zero'] at this
    · rintro rfl; exact hne rfl
    have hk' : xs[j].1 = ys[j].1 := bstr_inj.1 hk
    refine hx3.rd (i := j) gx ?_
    rintro r3 ad3 ⟨ga, gn, gc, rfl, hd3⟩ hr3
    refine ⟨ga, gn, gc, ?_, ⟨by omega, by omega⟩, ?_⟩
    · rw [Int.toNat_natCast]
      exact (hr3 1 _ rfl).1
    refine hy3.rd (i := j) gy ?_
    rintro r4 ad4 ⟨ia, in_, ic, rfl, hd4⟩ hr4
    refine ⟨ia, in_, ic, ?_, (k38 _ _ hd3 hd4).mono ?_⟩
    · rw [Int.toNat_natCast]
      exact (hr4 1 _ rfl).1
    rintro v g5 m5 rfl
    refine ⟨_, rfl, ifPn (fun hne g6 m6 => vF ?_) (fun hdd => ⟨i64 (by omega) (by omega), k - 1, by omega, j + 1, by omega, by omega, ?_⟩)⟩
    · rintro rfl; exact hne rfl
    · rw [List.take_add_one, List.take_add_one, gx, gy, hj]
      have : xs[j] = ys[j] := Prod.ext hk' hdd
      rw [this]
  · have h1 : xs.take j = xs := List.take_of_length_le (by omega)
    have h2 : ys.take j = ys := List.take_of_length_le (by omega)
    rwa [h1, h2] at hj

/-- A result that is a slice and a code. -/
def rsV (a : Option Addr) (n c : Nat) (e : Int) : Value := .tuple ⟨[.slice a n c, .int .i64 e]⟩
def IsE {α : Type} (E : El α) (v : Value) (g : G) (xs : List α) (e : Int) : Prop := ∃ a n c, v = rsV a n c e ∧ SlE E g a n c xs
theorem IsE.zero {α : Type} (E : El α) (g : G) (e : Int) : IsE E (rsV none 0 0 e) g [] e := ⟨none, 0, 0, rfl, SlE.zero _⟩

/-- Compact, of the reference. -/
theorem k37 (b : List UInt8) {a : Option Addr} {n c : Nat} {g : G} (h : SlB g a n c b) (d af : Int) (hn : n ≤ 1048576) :
    CallsP Try.prog 37 #[stV a n c d af] g fun v g' => ∃ a' c', v = stV a' (cost (enL (recsL b))) c' (cost (enL (recsL b)) : Nat) af ∧ SlB g' a' (cost (enL (recsL b))) c' (compB (enL (recsL b))) := by
  refine call37 a n c d af g _ ?_
  have hlb := SlB.length h
  have hce := cost_end b
  have hel := endR_le b
  have hok := (enL_ok _ (recs_ok b)).1
  unfold F37
  refine fun g1 m1 => (k21 b (h.ex m1) d af hn).mono ?_
  rintro v g2 m2 ⟨oa, on, oc, rfl, ho, hon⟩
  have hsl := ho.sl
  have hlen := hsl.len
  generalize hes : enL (recsL b) = es at *
  refine ⟨_, _, _, rfl, fun m i xa xl xc o1 o2 g4 => ∃ j : Nat, i = j ∧ j + m = on ∧ o2 = af ∧ xl = cost (es.take j) ∧ OwnB g4 g.size 5 xa xl xc (compB (es.take j)) ∧ g.size ≤ g4.w.heap.size,
    fun g3 m3 => ⟨on, 0, rfl, by omega, rfl, by simp [cost], OwnG.nil _ _ _ _, ((m1.trans m2).trans m3).size⟩, ?_⟩
  rintro m i xa xl xc o1 o2 g4 le4 ⟨j, rfl, hjm, rfl, rfl, hx, hsz⟩
  refine ifLt (fun hlt g5 m5 => ⟨⟨by omega, by omega⟩, ?_⟩) (fun hge g9 m9 => ?_)
  · have hj : j < es.length := by omega
    have gj := List.getElem?_eq_getElem hj
    have hmem := List.mem_of_getElem? gj
    have hc1 := cost_mem hmem
    have hkey := hok.key _ hmem
    have hs5 := (hsl.mono le4).exm m5
    refine hs5.rd (i := j) gj ?_
    rintro r ad ⟨ea, en, ec, rfl, hd1⟩ hr
    refine ⟨bstr es[j].1, ?_, ⟨by omega, by omega⟩, ?_⟩
    · rw [Int.toNat_natCast]
      have := (hr 0 _ rfl).1
      rwa [Addr.add_zero'] at this
    refine hs5.rd (i := j) gj ?_
    rintro r2 ad2 ⟨fa, fn, fc, rfl, hd2⟩ hr2
    have hfn := SlB.length hd2
    refine ⟨fa, fn, fc, ?_, (k18 1 (by omega) es[j].1 es[j].2 hd2 hkey.2 (by omega)).mono ?_⟩
    · rw [Int.toNat_natCast]
      exact (hr2 1 _ rfl).1
    rintro v g6 m6 ⟨ra, rc, rfl, hrr⟩
    have hct := cost_take es (j + 1)
    have hcs : cost (es.take (j + 1)) = cost (es.take j) + (11 + es[j].1.length + fn) := by
      rw [← compB_len, compB_take es j gj, List.length_append, compB_len, recB_len, hfn]
    obtain ⟨ya, yc, w1, hrun, g7, hw, hst, hy, _, _⟩ := OwnB.app E22 22 (B := g.size) (Nat.le_trans hsz (m5.trans m6).size) (hx.ex (m5.trans m6)) hrr.sl (by omega) (by unfold maxLen; omega)
    rw [← hcs] at hrun hy
    refine ⟨_, _, _, rfl, ya, _, yc, w1, hrun, g7, hw, hst, i64 (by omega) (by omega), fun g8 m8 => ⟨m - 1, by omega, j + 1, by omega, by omega, rfl, rfl, ?_, ?_⟩⟩
    · rw [compB_take es j gj]
      exact hy.ex m8
    · exact Nat.le_trans hsz (Nat.le_trans (m5.trans m6).size (Nat.le_trans hst.le.size m8.size))
  · have htk : es.take j = es := List.take_of_length_le (by omega)
    rw [htk] at hx ⊢
    exact ⟨xa, xc, rfl, (hx.ex m9).sl⟩

noncomputable def compR (b : List UInt8) (d a : Int) : SR :=
  if tf (okS b.length d a) = false then ⟨[], 0, 0, 1⟩ else ⟨compB (enL (recsL b)), (cost (enL (recsL b)) : Nat), a, 0⟩

/-- What Keys returns. -/
def KeysSay (b : List UInt8) (d af : Int) (v : Value) (g : G) : Prop :=
  (¬ okS b.length d af ∧ v = rsV none 0 0 1) ∨ (okS b.length d af ∧ IsE strE v g ((enL (recsL b)).map Prod.fst) 0)
/-- What Entries returns. -/
def EntsSay (b : List UInt8) (d af : Int) (v : Value) (g : G) : Prop :=
  (¬ okS b.length d af ∧ v = rsV none 0 0 1) ∨ (okS b.length d af ∧ IsE entE v g (enL (recsL b)) 0)
/-- What Get returns. -/
def GetSay (b k : List UInt8) (d af : Int) (v : Value) (g : G) : Prop :=
  (¬ okS b.length d af ∧ v = rsV none 0 0 1) ∨ (okS b.length d af ∧ ¬ okK k.length ∧ v = rsV none 0 0 2) ∨ (okS b.length d af ∧ okK k.length ∧ mpF (recsL b) k = none ∧ v = rsV none 0 0 8) ∨
  (okS b.length d af ∧ okK k.length ∧ ∃ x a n c, mpF (recsL b) k = some x ∧ v = rsV a n c 0 ∧ SlB g a n c x)

/-- Get. -/
theorem k35 (b k : List UInt8) {a : Option Addr} {n c : Nat} {g : G} (h : SlB g a n c b) (d af : Int) :
    CallsP Try.prog 35 #[stV a n c d af, .string (bstr k)] g fun v g' => GetSay b k d af v g' := by
  refine call35 a n c d af (bstr k) g _ ?_
  have hlb := SlB.length h
  unfold F35 GetSay
  rw [hlb]
  refine fun g1 m1 => (k24 a n c d af g1).mono ?_
  rintro v g2 m2 rfl
  refine ⟨_, rfl, ifPn (fun hs g3 m3 => .inl ⟨hs, rfl⟩) (fun hs => (k43 (bstr k) g2).mono ?_)⟩
  rintro v g4 m4 rfl
  rw [bstr_size]
  refine ⟨_, rfl, ifPn (fun hk g5 m5 => .inr (.inl ⟨hs, hk, rfl⟩)) (fun hk => ?_)⟩
  have hs' := hs
  have hk' := hk
  unfold okS at hs'
  unfold okK at hk'
  refine (k44 b (h.ex ((m1.trans m2).trans m4)) d af (by omega)).mono ?_
  rintro v g6 m6 ⟨mb, mk, rfl, fv, hm, hfv⟩
  have hlk := hm.lookOk Try.underlying9 Try.underlying79 (zero22 g6.w) k (by unfold maxLen; omega)
  cases hF : mpF (recsL b) k with
  | none =>
    rw [(hfv k).1 hF] at hlk
    refine ⟨_, _, rfl, none, 0, 0, false, _, hlk, g6, rfl, Stp.refl _ _ _, ifT (fun _ g8 m8 => .inr (.inr (.inl ⟨hs, hk, rfl, rfl⟩))) (fun hh => by cases hh)⟩
  | some x =>
    obtain ⟨xa, xn, xc, hfk, hx⟩ := (hfv k).2 x hF
    rw [hfk] at hlk
    have hxl := SlB.length hx
    have hxn : xn ≤ 1048576 := by
      have h1 := cost_mem ((en_mp (recsL b) k x).2 hF)
      have h2 := cost_end b
      have h3 := endR_le b
      simp only at h1
      omega
    refine ⟨_, _, rfl, xa, xn, xc, true, _, hlk, g6, rfl, Stp.refl _ _ _, ifT (fun hh => by cases hh) (fun _ => (k49 x hx (by omega)).mono ?_)⟩
    rintro v g9 m9 ⟨ya, yc, rfl, hy⟩
    exact ⟨_, _, _, rfl, fun g10 m10 => .inr (.inr (.inr ⟨hs, hk, x, ya, xn, yc, rfl, rfl, (hy.ex m10).sl⟩))⟩
end Go.Proofs.Ytlofbfbcnlgmaaa
