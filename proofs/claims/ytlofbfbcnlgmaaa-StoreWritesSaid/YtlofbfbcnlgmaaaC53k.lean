/- The store: what the law on writing says. -/
import Derived.Test.YtlofbfbcnlgmaaaC53j
set_option linter.unusedVariables false
namespace Go.Proofs.Ytlofbfbcnlgmaaa
open Go Go.Vc Go.RowKit

/-- A new variable is laid for good. -/
theorem layV {g0 g1 : G} (m : Ex g0 g1) {x : Nat} (hx : g0.w.heap.size ≤ x) {t : TypeId} {L N : List Value} (h : MutB g1 x t L) (hl : N.length = L.length) (B : Nat) (hB : B ≤ g0.w.heap.size) (Q : G → Prop)
    (hQ : ∀ g', Ex g0 g' → Ex g1 g' ∨ True → (∀ {m a n c L}, Sl g1 m a n c L → Sl g' m a n c L) → (∀ i v, N[i]? = some v → Live g' (Addr.add ⟨x, 0, none⟩ i) v) → Q g') :
    stOk g1.w ⟨x, 0, none⟩ N.length ∧ ¬ g1.X (Addr.block ⟨x, 0, none⟩) ∧ mutAt g1 ⟨x, 0, none⟩ N.length ∧ ((Addr.block ⟨x, 0, none⟩) < B → nobody (Addr.block ⟨x, 0, none⟩)) ∧ ∀ g' : G, StG true g1 ⟨x, 0, none⟩ N g' → SameB g0 g' ∧ Q g' := by
  refine ⟨h.ok0 (by omega), h.nx, h.mut0 _, fun hh => absurd hh (by show ¬ x < B; omega), fun g' k => ?_⟩
  obtain ⟨hl', hb⟩ := h.pub k hl
  have he : Ex g0 g' := ((m.but _).trans hb).ex (fun b hb _ e => by omega)
  exact ⟨fun b hb hx => he.same b hb hx, hQ g' he (.inr trivial) (fun hs => hs.mono (hb.le (fun b e i => e ▸ h.d i))) hl'⟩

theorem headW (b : List UInt8) (kind : Nat) (hk : kind < 256) (K : Int) (hK : K = ((kind : Nat) : Int)) (key data : List UInt8) {a da : Option Addr} {n c dl dc : Nat} {B : Nat} {g48 : G} (hB : B ≤ g48.w.heap.size) (h : SlB g48 a n c b) (hd : SlB g48 da dl dc data) (d af : Int)
    (h1 : key.length ≤ 100) (h2 : dl ≤ 1048676) (hs : okS n d af) (J_1 : Option Addr → Int → G → Prop)
    (hJ : ∀ p xa xl xc g', Ex g48 g' → Live g' ⟨p, 0, none⟩ (.slice xa xl xc) → Live g' (Addr.add ⟨p, 0, none⟩ 1) (.int .i64 (writeR b (endR b) d af (recB kind key data)).d) → Live g' (Addr.add ⟨p, 0, none⟩ 2) (.int .i64 (writeR b (endR b) d af (recB kind key data)).a) →
      SlB g' xa xl xc (writeR b (endR b) d af (recB kind key data)).b → J_1 (some ⟨p, 0, none⟩) (writeR b (endR b) d af (recB kind key data)).e g') :
  ((CallsP Try.prog 18 #[(.int .i64 K), (.string (bstr key)), (.slice da dl dc)] g48 fun v g49 =>
  ∃ xa_3 : Option Addr, ∃ xl_3 : Nat, ∃ xc_3 : Nat, v = (.slice xa_3 xl_3 xc_3) ∧ ((CallsP Try.prog 17 #[(.agg ⟨[(.slice a n c), (.int .i64 d), (.int .i64 af)]⟩), (.slice xa_3 xl_3 xc_3)] g49 fun v g50 =>
  ∃ x00a_5 : Option Addr, ∃ x00l_5 : Nat, ∃ x00c_5 : Nat, ∃ x01_5 : Int, ∃ x02_5 : Int, ∃ x1_5 : Int, v = (.tuple ⟨[(.agg ⟨[(.slice x00a_5 x00l_5 x00c_5), (.int .i64 x01_5), (.int .i64 x02_5)]⟩), (.int .i64 x1_5)]⟩) ∧ ∀ g51 : G, NewD g50 g51 24 [(.slice none 0 0), (.int .i64 (0 : Int)), (.int .i64 (0 : Int))] →
  stOk g51.w ⟨g50.w.heap.size, 0, none⟩ 3 ∧ ¬ g51.X (Addr.block ⟨g50.w.heap.size, 0, none⟩) ∧ mutAt g51 ⟨g50.w.heap.size, 0, none⟩ 3 ∧ ((Addr.block ⟨g50.w.heap.size, 0, none⟩) < B → nobody (Addr.block ⟨g50.w.heap.size, 0, none⟩)) ∧ ∀ g52 : G, StG true g51 ⟨g50.w.heap.size, 0, none⟩ [(.slice x00a_5 x00l_5 x00c_5), (.int .i64 x01_5), (.int .i64 x02_5)] g52 →
  SameB g48 g52 ∧ J_1 (some ⟨g50.w.heap.size, 0, none⟩) x1_5 g52)) ∧ (∀ g53 : G, NewD g49 g53 24 [(.slice none 0 0), (.int .i64 (0 : Int)), (.int .i64 (0 : Int))] →
  (CallsP Try.prog 17 #[(.agg ⟨[(.slice a n c), (.int .i64 d), (.int .i64 af)]⟩), (.slice xa_3 xl_3 xc_3)] g53 fun v g54 =>
  ∃ x00a_6 : Option Addr, ∃ x00l_6 : Nat, ∃ x00c_6 : Nat, ∃ x01_6 : Int, ∃ x02_6 : Int, ∃ x1_6 : Int, v = (.tuple ⟨[(.agg ⟨[(.slice x00a_6 x00l_6 x00c_6), (.int .i64 x01_6), (.int .i64 x02_6)]⟩), (.int .i64 x1_6)]⟩) ∧ stOk g54.w ⟨g49.w.heap.size, 0, none⟩ 3 ∧ ¬ g54.X (Addr.block ⟨g49.w.heap.size, 0, none⟩) ∧ mutAt g54 ⟨g49.w.heap.size, 0, none⟩ 3 ∧ ((Addr.block ⟨g49.w.heap.size, 0, none⟩) < B → nobody (Addr.block ⟨g49.w.heap.size, 0, none⟩)) ∧ ∀ g55 : G, StG true g54 ⟨g49.w.heap.size, 0, none⟩ [(.slice x00a_6 x00l_6 x00c_6), (.int .i64 x01_6), (.int .i64 x02_6)] g55 →
  SameB g48 g55 ∧ J_1 (some ⟨g49.w.heap.size, 0, none⟩) x1_6 g55)))) ∧ (∀ g56 : G, NewD g48 g56 24 [(.slice none 0 0), (.int .i64 (0 : Int)), (.int .i64 (0 : Int))] →
  (CallsP Try.prog 18 #[(.int .i64 K), (.string (bstr key)), (.slice da dl dc)] g56 fun v g57 =>
  ∃ xa_4 : Option Addr, ∃ xl_4 : Nat, ∃ xc_4 : Nat, v = (.slice xa_4 xl_4 xc_4) ∧ (CallsP Try.prog 17 #[(.agg ⟨[(.slice a n c), (.int .i64 d), (.int .i64 af)]⟩), (.slice xa_4 xl_4 xc_4)] g57 fun v g58 =>
  ∃ x00a_7 : Option Addr, ∃ x00l_7 : Nat, ∃ x00c_7 : Nat, ∃ x01_7 : Int, ∃ x02_7 : Int, ∃ x1_7 : Int, v = (.tuple ⟨[(.agg ⟨[(.slice x00a_7 x00l_7 x00c_7), (.int .i64 x01_7), (.int .i64 x02_7)]⟩), (.int .i64 x1_7)]⟩) ∧ stOk g58.w ⟨g48.w.heap.size, 0, none⟩ 3 ∧ ¬ g58.X (Addr.block ⟨g48.w.heap.size, 0, none⟩) ∧ mutAt g58 ⟨g48.w.heap.size, 0, none⟩ 3 ∧ ((Addr.block ⟨g48.w.heap.size, 0, none⟩) < B → nobody (Addr.block ⟨g48.w.heap.size, 0, none⟩)) ∧ ∀ g59 : G, StG true g58 ⟨g48.w.heap.size, 0, none⟩ [(.slice x00a_7 x00l_7 x00c_7), (.int .i64 x01_7), (.int .i64 x02_7)] g59 →
  SameB g48 g59 ∧ J_1 (some ⟨g48.w.heap.size, 0, none⟩) x1_7 g59))) := by
  subst hK
  have hld := SlB.length hd
  unfold okS at hs
  have rec1 : ∀ g1, Ex g48 g1 → CallsP Try.prog 18 #[(.int .i64 ((kind : Nat) : Int)), (.string (bstr key)), (.slice da dl dc)] g1 fun v g' => ∃ a' c', v = .slice a' (11 + key.length + dl) c' ∧ SlB g' a' (11 + key.length + dl) c' (recB kind key data) := fun g1 m1 =>
    (k18 kind hk key data (hd.ex m1) h1 (by omega)).mono fun v g' _ ⟨a', c', e, ho⟩ => ⟨a', c', e, ho.sl⟩
  have wr1 : ∀ g1 xa xc, Ex g48 g1 → SlB g1 xa (11 + key.length + dl) xc (recB kind key data) → CallsP Try.prog 17 #[(.agg ⟨[(.slice a n c), (.int .i64 d), (.int .i64 af)]⟩), (.slice xa (11 + key.length + dl) xc)] g1 fun v g' => IsSR v g' (writeR b (endR b) d af (recB kind key data)) := fun g1 xa xc m1 hr =>
    k17 b _ (h.ex m1) hr d af (by omega) (by omega) (by omega) (by omega)
  have fin : ∀ (g1 : G) (x : Nat) (ya : Option Addr) (yl yc : Nat), Ex g48 g1 → g48.w.heap.size ≤ x → MutB g1 x 24 [(.slice none 0 0), (.int .i64 (0 : Int)), (.int .i64 (0 : Int))] → SlB g1 ya yl yc (writeR b (endR b) d af (recB kind key data)).b →
      stOk g1.w ⟨x, 0, none⟩ 3 ∧ ¬ g1.X (Addr.block ⟨x, 0, none⟩) ∧ mutAt g1 ⟨x, 0, none⟩ 3 ∧ ((Addr.block ⟨x, 0, none⟩) < B → nobody (Addr.block ⟨x, 0, none⟩)) ∧ ∀ g' : G, StG true g1 ⟨x, 0, none⟩ [(.slice ya yl yc), (.int .i64 (writeR b (endR b) d af (recB kind key data)).d), (.int .i64 (writeR b (endR b) d af (recB kind key data)).a)] g' →
        SameB g48 g' ∧ J_1 (some ⟨x, 0, none⟩) (writeR b (endR b) d af (recB kind key data)).e g' := by
    intro g1 x ya yl yc m1 hx hm hy
    refine layV m1 hx hm (N := [(.slice ya yl yc), (.int .i64 (writeR b (endR b) d af (recB kind key data)).d), (.int .i64 (writeR b (endR b) d af (recB kind key data)).a)]) rfl B hB (fun g' => J_1 (some ⟨x, 0, none⟩) (writeR b (endR b) d af (recB kind key data)).e g') (fun g' me _ hsl hlv => ?_)
    have l0 := hlv 0 _ rfl
    rw [add_zero_row] at l0
    exact hJ x ya yl yc g' me l0 (hlv 1 _ rfl) (hlv 2 _ rfl) (hsl hy)
  refine ⟨(rec1 g48 (Ex.refl _)).mono ?_, ?_⟩
  · rintro v g49 m49 ⟨ra, rc, rfl, hr⟩
    refine ⟨_, _, _, rfl, (wr1 g49 ra rc m49 hr).mono ?_, fun g53 n53 => (wr1 g53 ra rc (m49.trans n53.ex) (hr.ex n53.ex)).mono ?_⟩
    · rintro v g50 m50 ⟨ya, yl, yc, rfl, hy⟩
      refine ⟨_, _, _, _, _, _, rfl, fun g51 n51 => ?_⟩
      exact fin g51 _ ya yl yc ((m49.trans m50).trans n51.ex) (m49.trans m50).size n51.mut (hy.ex n51.ex)
    · rintro v g54 m54 ⟨ya, yl, yc, rfl, hy⟩
      refine ⟨_, _, _, _, _, _, rfl, ?_⟩
      exact fin g54 _ ya yl yc ((m49.trans n53.ex).trans m54) m49.size (n53.mut.ex m54) hy
  · intro g56 n56
    refine (rec1 g56 n56.ex).mono ?_
    rintro v g57 m57 ⟨ra, rc, rfl, hr⟩
    refine ⟨_, _, _, rfl, (wr1 g57 ra rc (n56.ex.trans m57) hr).mono ?_⟩
    rintro v g58 m58 ⟨ya, yl, yc, rfl, hy⟩
    refine ⟨_, _, _, _, _, _, rfl, ?_⟩
    exact fin g58 _ ya yl yc ((n56.ex.trans m57).trans m58) (Nat.le_refl _) ((n56.mut.ex m57).ex m58) hy

theorem put_ok {b k data : List UInt8} {d af : Int} (h1 : okS b.length d af) (h2 : okK k.length) : putR b d af k data = writeR b (endR b) d af (recB 1 k data) := by
  unfold putR
  rw [if_neg (by rw [tf_of h1]; simp), if_neg (by rw [tf_of h2]; simp)]
  split
  · unfold writeR
    rw [recB_len, if_pos (by omega)]
  · rfl
theorem del_ok {b k : List UInt8} {d af : Int} (h1 : okS b.length d af) (h2 : okK k.length) : delR b d af k = if mpF (recsL b) k = none then ⟨[], 0, 0, 8⟩ else writeR b (endR b) d af (recB 2 k []) := by
  unfold delR
  rw [if_neg (by rw [tf_of h1]; simp), if_neg (by rw [tf_of h2]; simp)]

theorem k3 (b k data : List UInt8) {a da : Option Addr} {n c dl dc : Nat} {g : G} (h : SlB g a n c b) (hd : SlB g da dl dc data) (d af : Int) :
    CallsP Try.prog 3 #[stV a n c d af, .string (bstr k), .slice da dl dc] g fun v _ => v = .bool true := by
  refine call3 a n c d af (bstr k) da dl dc g _ ?_
  have hlb := SlB.length h
  have hld := SlB.length hd
  unfold F3
  intro J hJ
  have gate : ∀ g1, J true g1 := fun g1 => hJ true g1 ((k10 g1).mono (by rintro v g2 m2 rfl; exact ⟨_, rfl, fun g3 m3 => rfl⟩))
  suffices main : ∀ g1, Ex g g1 → dl ≤ 1048676 → J false g1 by
    refine fun g60 m60 => (k10 g60).mono ?_
    rintro v g61 m61 rfl
    refine ⟨_, rfl, (k11 a n c d af g61).mono ?_⟩
    rintro v g62 m62 rfl
    have m := (m60.trans m61).trans m62
    refine ⟨_, rfl, ifPn (fun _ => gate _) (fun _ => ifLt (fun _ => gate _) (fun _ => ?_))⟩
    have fin : (dl : Int) ≤ 1048576 ∨ True → J (ltI (1048676 : Int) ((dl : Nat) : Int)) g62 := by
      intro _
      by_cases hc : (1048676 : Int) < (dl : Nat)
      · rw [ltI_true.mpr hc]; exact gate _
      · rw [ltI_false.mpr (by omega)]; exact main g62 m (by omega)
    exact ifLt (fun _ => ifLe (fun _ => gate _) (fun _ => fin (.inr trivial))) (fun _ => fin (.inr trivial))
  intro g1 m1 hdl
  refine hJ false g1 ?_
  refine (k12 b k data (h.ex m1) (hd.ex m1) d af).mono ?_
  rintro v g4 m4 ⟨xa, xl, xc, rfl, hx⟩
  refine ⟨_, _, _, _, _, _, rfl, fun g5 m5 => (k13 b k (h.ex ((m1.trans m4).trans m5)) d af).mono ?_⟩
  rintro v g6 m6 ⟨ya, yl, yc, rfl, hy⟩
  refine ⟨_, _, _, _, _, _, rfl, fun g7 m7 => (k14 a n c d af g7).mono ?_⟩
  rintro v g8 m8 rfl
  have h8 := h.ex (((((m1.trans m4).trans m5).trans m6).trans m7).trans m8)
  have hd8 := hd.ex (((((m1.trans m4).trans m5).trans m6).trans m7).trans m8)
  have hx8 := hx.ex (((m5.trans m6).trans m7).trans m8)
  have hy8 := hy.ex (m7.trans m8)
  have hB8 : g.w.heap.size ≤ g8.w.heap.size := (((((m1.trans m4).trans m5).trans m6).trans m7).trans m8).size
  refine ⟨_, rfl, ifPn (fun hs => ?_) (fun hs => ?_)⟩
  · have ep : putR b d af k data = ⟨[], 0, 0, 1⟩ := by unfold putR; rw [hlb, if_pos (tf_no hs)]
    have ed : delR b d af k = ⟨[], 0, 0, 1⟩ := by unfold delR; rw [hlb, if_pos (tf_no hs)]
    rw [ep] at hx8 ⊢
    rw [ed] at hy8 ⊢
    refine (k15 _ hx8 _ _).mono ?_
    rintro v g9 m9 rfl
    refine ⟨_, rfl, ifP (fun _ => ifEq (fun _ => (k15 _ (hy8.ex m9) _ _).mono ?_) (fun hh => absurd rfl hh)) (fun hh => absurd ⟨rfl, rfl, rfl⟩ hh)⟩
    rintro v g10 m10 rfl
    exact ⟨_, rfl, ifP (fun _ g11 m11 => congrArg Value.bool (eqI_true.mpr rfl)) (fun hh => absurd ⟨rfl, rfl, rfl⟩ hh)⟩
  refine (k16 (bstr k) g8).mono ?_
  rintro v g15 m15 rfl
  have hks : (bstr k).size = k.length := by simp [bstr, ByteArray.size]
  rw [hks]
  have h15 := h8.ex m15
  have hx15 := hx8.ex m15
  have hy15 := hy8.ex m15
  have hd15 := hd8.ex m15
  refine ⟨_, rfl, ifPn (fun hk => ?_) (fun hk => ?_)⟩
  · have ep : putR b d af k data = ⟨[], 0, 0, 2⟩ := by unfold putR; rw [hlb, if_neg (by rw [tf_of hs]; simp), if_pos (tf_no hk)]
    have ed : delR b d af k = ⟨[], 0, 0, 2⟩ := by unfold delR; rw [hlb, if_neg (by rw [tf_of hs]; simp), if_pos (tf_no hk)]
    rw [ep] at hx15 ⊢
    rw [ed] at hy15 ⊢
    refine (k15 _ hx15 _ _).mono ?_
    rintro v g9 m9 rfl
    refine ⟨_, rfl, ifP (fun _ => ifEq (fun _ => (k15 _ (hy15.ex m9) _ _).mono ?_) (fun hh => absurd rfl hh)) (fun hh => absurd ⟨rfl, rfl, rfl⟩ hh)⟩
    rintro v g10 m10 rfl
    exact ⟨_, rfl, ifP (fun _ g11 m11 => congrArg Value.bool (eqI_true.mpr rfl)) (fun hh => absurd ⟨rfl, rfl, rfl⟩ hh)⟩
  have ep := put_ok (data := data) (by rw [hlb]; exact hs) hk
  have ed := del_ok (by rw [hlb]; exact hs) hk
  intro J1 hJ1 g48 m48
  have hs' := hs
  unfold okS at hs'
  unfold okK at hk
  refine headW b 1 (by omega) 1 rfl k data (Nat.le_trans hB8 (m15.trans m48).size) (h15.ex m48) (hd15.ex m48) d af (by omega) hdl hs J1 ?_
  intro p qa ql qc g22 m22 l0 l1 l2 hq
  refine hJ1 _ _ _ ?_
  intro J2 hJ2
  have m22' := m48.trans m22
  refine ⟨qa, ql, qc, _, _, l0.cell, l1.cell, l2.cell, (k19 _ _ (hx15.ex m22') hq _ _ _ _).mono ?_⟩
  rintro v g45 m45 rfl
  rw [ep]
  refine ⟨_, rfl, ifPn (fun hh => absurd ⟨rfl, rfl, rfl⟩ hh) (fun _ => ifNe (fun hh => absurd rfl hh) (fun _ => hJ2 _ ?_))⟩
  have mm := m22'.trans m45
  refine (k21 b (h15.ex mm) d af (by omega)).mono ?_
  rintro v g24 m24 ⟨oa, on, oc, rfl, ho, hon⟩
  refine ⟨_, _, _, rfl, (k20 k _ ho.sl).mono ?_⟩
  rintro v g25 m25 ⟨i, rfl, hi⟩
  have m3 := (mm.trans m24).trans m25
  have hy25 := hy15.ex m3
  refine ⟨_, rfl, ifLt (fun hlt => ?_) (fun hge => ?_)⟩
  · have hno : mpF (recsL b) k = none := by
      rcases hi with ⟨_, hi⟩ | ⟨j, e, rfl, _⟩
      · cases hm : mpF (recsL b) k with
        | none => rfl
        | some dd => exact absurd rfl (hi _ ((en_mp (recsL b) k dd).2 hm))
      · omega
    rw [ed, if_pos hno] at hy25 ⊢
    refine (k15 _ hy25 _ _).mono ?_
    rintro v g26 m26 rfl
    exact ⟨_, rfl, ifP (fun _ g11 m11 => congrArg Value.bool (eqI_true.mpr rfl)) (fun hh => absurd ⟨rfl, rfl, rfl⟩ hh)⟩
  · have hyes : mpF (recsL b) k ≠ none := by
      rcases hi with ⟨rfl, _⟩ | ⟨j, e, rfl, he, hek⟩
      · omega
      · have hmem := List.mem_of_getElem? he
        have : (k, e.2) ∈ enL (recsL b) := by rw [← hek]; exact hmem
        rw [(en_mp (recsL b) k e.2).1 this]
        simp
    rw [ed, if_neg hyes] at hy25 ⊢
    intro J3 hJ3 g33 m33
    refine headW b 2 (by omega) 2 rfl k [] (Nat.le_trans hB8 ((m15.trans m3).trans m33).size) ((h15.ex m3).ex m33) (Sl.zero _ _) d af (by omega) (by omega) hs J3 ?_
    intro p qa ql qc g29 m29 l0 l1 l2 hq
    refine hJ3 _ _ _ ?_
    refine ⟨qa, ql, qc, _, _, l0.cell, l1.cell, l2.cell, (k19 _ _ (hy25.ex (m33.trans m29)) hq _ _ _ _).mono ?_⟩
    rintro v g30 m30 rfl
    exact ⟨_, rfl, ifP (fun _ g11 m11 => congrArg Value.bool (eqI_true.mpr rfl)) (fun hh => absurd ⟨rfl, rfl, rfl⟩ hh)⟩
end Go.Proofs.Ytlofbfbcnlgmaaa
