/- Syntax trees: what is well-formed. -/
import Derived.Test.YtmakoecgogjemaaDoorC03f
set_option linter.unusedVariables false
namespace Go.Proofs.YtmakoecgogjemaaDoor
open Go Go.Vc Go.RowKit Go.Syn

theorem mut_le {g g' : G} {b : Nat} {e : TypeId} {L : List Value} (h : MutB g b e L) (k : But (fun x => x = b) g g') : Le g g' := k.le (fun x e i => e ▸ h.d i)
theorem set1 (u v : Value) : setsAt [u] 0 [v] = [v] := rfl
/-- A row of five cells. -/
theorem node_cells {g g' : G} {t : Sy} {na : Option Addr} {nn nc : Nat} {a : Option Addr} {n c : Nat} (h : NewL g g' 25 [.int .i64 t.dat.op, .int .i64 t.dat.n, .string (bstr t.dat.s), .slice na nn nc, .slice a n c]) {g2 : G} (m : Le g' g2) :
    g2.w.cell? ⟨g.w.heap.size, 0, none⟩ = some (.int .i64 t.dat.op) ∧ g2.w.cell? (Addr.add ⟨g.w.heap.size, 0, none⟩ 1) = some (.int .i64 t.dat.n) ∧ g2.w.cell? (Addr.add ⟨g.w.heap.size, 0, none⟩ 2) = some (.string (bstr t.dat.s)) ∧
      g2.w.cell? (Addr.add ⟨g.w.heap.size, 0, none⟩ 3) = some (.slice na nn nc) ∧ g2.w.cell? (Addr.add ⟨g.w.heap.size, 0, none⟩ 4) = some (.slice a n c) :=
  ⟨((h.at0 rfl).mono m).1, ((h.at_ (i := 1) rfl).mono m).1, ((h.at_ (i := 2) rfl).mono m).1, ((h.at_ (i := 3) rfl).mono m).1, ((h.at_ (i := 4) rfl).mono m).1⟩
/-- What walk does, for trees below a size. -/
def W49 (N : Nat) : Prop := ∀ (t : Sy), size t ≤ N → okT t → ∀ (dep : Nat) (w : Bool) (m : Nat) {cb wb : Nat} {na : Option Addr} {nn nc : Nat} {a : Option Addr} {n c : Nat} {g : G}, TabG g → SynI g t na nn nc a n c → dep ≤ 401 → m + size t ≤ 20000 →
  MutB g cb 3 [.int .i64 ((m : Nat) : Int)] → Live g ⟨wb, 0, none⟩ (.func (.func 49) #[] ⟨[.pointer (some ⟨cb, 0, none⟩), .pointer (some ⟨wb, 0, none⟩)]⟩) →
  CallsG Tryd.prog 49 #[synV t na nn nc a n c, .int .i64 ((dep : Nat) : Int), .bool w, .pointer (some ⟨cb, 0, none⟩), .pointer (some ⟨wb, 0, none⟩)] g (fun b => b = cb) fun v g' =>
    ∃ m' : Nat, v = .bool (tf (walkP t w dep)) ∧ MutB g' cb 3 [.int .i64 ((m' : Nat) : Int)] ∧ m' ≤ m + size t ∧ (walkP t w dep → m' = m + size t)
theorem k52 {N : Nat} (H : W49 N) (x : Sy) (hN : size x ≤ N) (hx : okT x) (dep : Nat) (op : Int) (m : Nat) {cb wb db tb : Nat} {na : Option Addr} {nn nc : Nat} {a : Option Addr} {n c : Nat} {g : G} (ht : TabG g) (h : SynI g x na nn nc a n c) (hd : dep ≤ 400) (hm : m + size x ≤ 20000)
    (hc : MutB g cb 3 [.int .i64 ((m : Nat) : Int)]) (hw : Live g ⟨wb, 0, none⟩ (.func (.func 49) #[] ⟨[.pointer (some ⟨cb, 0, none⟩), .pointer (some ⟨wb, 0, none⟩)]⟩)) (hdp : Live g ⟨db, 0, none⟩ (.int .i64 ((dep : Nat) : Int))) (hop : Live g ⟨tb, 0, none⟩ (.int .i64 op)) :
    CallsG Tryd.prog 52 #[synV x na nn nc a n c, .pointer (some ⟨wb, 0, none⟩), .pointer (some ⟨db, 0, none⟩), .pointer (some ⟨tb, 0, none⟩)] g (fun b => b = cb) fun v g' =>
      ∃ m' : Nat, v = .bool (tf (¬ walkP x (decide (op = 74)) (dep + 1))) ∧ MutB g' cb 3 [.int .i64 ((m' : Nat) : Int)] ∧ m' ≤ m + size x ∧ (walkP x (decide (op = 74)) (dep + 1) → m' = m + size x) := by
  refine call52 _ _ _ _ _ _ _ _ _ _ _ _ g _ _ ?_
  unfold F52
  intro g1 m1
  have e : eqI op 74 = decide (op = 74) := by
    by_cases h : op = 74
    · rw [eqI_true.mpr h]; simp [h]
    · rw [eqI_false.mpr h]; simp [h]
  refine ⟨_, _, (hw.mono m1.le).1, _, (hdp.mono m1.le).1, i64 (by omega) (by omega), _, (hop.mono m1.le).1, ⟨_, Tryd.func49, by kernel_rfl, by kernel_rfl⟩, (fun b => b = cb), fun _ _ h => h, ?_⟩
  rw [e]
  have hcall := H x hN hx (dep + 1) (decide (op = 74)) m (ht.exm m1) (h.exm m1) (by omega) hm (hc.ex m1) (hw.mono m1.le)
  rw [show (((dep + 1 : Nat) : Int)) = ((dep : Nat) : Int) + 1 by omega] at hcall
  refine CallsG.mono hcall ?_
  rintro v g2 s2 ⟨m', rfl, hm', h1, h2⟩
  exact ⟨_, rfl, fun g3 m3 => ⟨m', by rw [tf_not], hm'.ex m3, h1, h2⟩⟩
theorem w49 : ∀ N, W49 N := by
  intro N
  induction N with
  | zero => intro t hN; have := size_pos t; omega
  | succ N ih =>
    intro t hN hok dep w m cb wb na nn nc a n c g ht h hd hm hc hw
    have hsz := size_eq t
    obtain ⟨hokD, hokL⟩ := okT_iff.1 hok
    refine call49 _ _ _ _ _ _ _ _ _ _ w _ _ g _ _ ?_
    have hl := h.kids.len
    unfold F49
    intro g1 n1 g2 n2
    have hc2 := (hc.ex n1.ex).ex n2.ex
    refine ⟨_, hc2.rd0 rfl, i64 (by omega) (by omega), hc2.ok0 (Nat.le_refl _), hc2.nx, hc2.mut0 _, fun _ => rfl, fun g3 k3 => ?_⟩
    obtain ⟨hc3, but3⟩ := hc2.st0 k3
    rw [set1] at hc3
    have le23 := mut_le hc2 but3
    have le13 : Le g1 g3 := n2.ex.le.trans le23
    have le03 : Le g g3 := n1.ex.le.trans le13
    have hsz3 : g.w.heap.size ≤ g3.w.heap.size := le03.size
    have hdep3 : Live g3 ⟨g1.w.heap.size, 0, none⟩ (.int .i64 ((dep : Nat) : Int)) := (n2.at0 rfl).mono le23
    have fin : ∀ {g' : G} {m' : Nat}, ¬ walkP t w dep → MutB g' cb 3 [.int .i64 ((m' : Nat) : Int)] → m' ≤ m + size t → ∃ m' : Nat, Value.bool false = .bool (tf (walkP t w dep)) ∧ MutB g' cb 3 [.int .i64 ((m' : Nat) : Int)] ∧ m' ≤ m + size t ∧ (walkP t w dep → m' = m + size t) :=
      fun hn hmb hle => ⟨_, vF hn, hmb, hle, fun hh => absurd hh hn⟩
    have e3 : ((m : Nat) : Int) + 1 = ((m + 1 : Nat) : Int) := by omega
    rw [e3] at hc3
    intro J hJ
    refine ⟨_, hc3.rd0 rfl, ifLt (fun q => by omega) (fun _ => ⟨_, hdep3.1, ifLt (fun q g8 m8 => fin (fun hh => by have := (walk_iff.1 hh).1; omega) (hc3.ex m8) (by omega)) (fun q => ?_)⟩)⟩
    obtain ⟨c0, c1, c2, c3, c4⟩ := node_cells n1 le13
    refine ⟨_, _, _, _, _, _, _, _, _, c0, c1, c2, c3, c4, (k50 t w (ht.mono le03) (h.mono le03) hokD.1 hokD.2).mono ?_⟩
    rintro v g9 m9 rfl
    have hc9 := hc3.ex m9
    refine ⟨_, rfl, ifPn (fun q1 g10 m10 => fin (fun hh => q1 (walk_iff.1 hh).2.1) (hc9.ex m10) (by omega)) (fun q1 => ?_)⟩
    obtain ⟨c0, c1, c2, c3, c4⟩ := node_cells n1 (le13.trans m9.le)
    have le09 := le03.trans m9.le
    refine ⟨_, _, _, _, _, _, _, _, _, c0, c1, c2, c3, c4, (k51 t (h.mono le09)).mono ?_⟩
    rintro v g11 m11 rfl
    have hc11 := hc9.ex m11
    refine ⟨_, rfl, ifPn (fun q2 g12 m12 => fin (fun hh => q2 (walk_iff.1 hh).2.2.1) (hc11.ex m12) (by omega)) (fun q2 => hJ g11 ?_)⟩
    have le011 := le09.trans m11.le
    have le111 := (le13.trans m9.le).trans m11.le
    obtain ⟨c0, c1, c2, c3, c4⟩ := node_cells n1 le111
    have hsz11 : g.w.heap.size ≤ g11.w.heap.size := le011.size
    have hdep11 := (hdep3.mono m9.le).mono m11.le
    have hop11 : Live g11 ⟨g.w.heap.size, 0, none⟩ (.int .i64 t.dat.op) := (n1.at0 rfl).mono le111
    refine ⟨_, _, _, c4, (fun b => b = cb), fun _ _ h => h, ?_⟩
    refine (k37 52 ⟨[.pointer (some ⟨wb, 0, none⟩), .pointer (some ⟨g1.w.heap.size, 0, none⟩), .pointer (some ⟨g.w.heap.size, 0, none⟩)]⟩ (fun b => b = cb)
      (fun j g' => ∃ m' : Nat, MutB g' cb 3 [.int .i64 ((m' : Nat) : Int)] ∧ m' = m + 1 + sizeL (t.kids.take j) ∧ ∀ x ∈ t.kids.take j, walkP x (decide (t.dat.op = 74)) (dep + 1))
      (fun g' => ∃ m' : Nat, MutB g' cb 3 [.int .i64 ((m' : Nat) : Int)] ∧ m' ≤ m + size t ∧ ∃ x ∈ t.kids, ¬ walkP x (decide (t.dat.op = 74)) (dep + 1))
      t.kids (h.kids.mono le011) ⟨_, Tryd.func52, by kernel_rfl, by kernel_rfl⟩ ?_ ?_ ?_ ?_).mono ?_
    · rintro j ga gb mab ⟨m', p1, p2, p3⟩
      exact ⟨m', p1.ex mab, p2, p3⟩
    · rintro ga gb mab ⟨m', p1, p2, p3⟩
      exact ⟨m', p1.ex mab, p2, p3⟩
    · exact ⟨m + 1, hc11, by simp [sizeL], by simp⟩
    · rintro ga j x lea hsa gj ⟨m', p1, p2, p3⟩ na' nn' nc' ka kn kc hx
      have hin := List.mem_of_getElem? gj
      have hsx := size_mem hin
      have htk := sizeL_take gj
      have hle := sizeL_le t.kids (j + 1)
      refine ⟨fun b => b = cb, fun _ _ h => h, ?_⟩
      refine CallsG.mono (k52 ih x (by omega) (hokL x hin) dep t.dat.op m' ((ht.mono le011).mono lea) hx (by omega) (by omega) p1 ((hw.mono le011).mono lea) (hdep11.mono lea) (hop11.mono lea)) ?_
      rintro v g2' s2 ⟨m2, rfl, r1, r2, r3⟩
      refine ⟨_, rfl, fun hb => ?_, fun hb => ?_⟩
      · exact ⟨m2, r1, by omega, x, hin, tf_true.mp hb⟩
      · have hwx := Classical.not_not.1 (tf_false.mp hb)
        exact ⟨m2, r1, by have := r3 hwx; omega, (all_take gj _).2 ⟨p3, hwx⟩⟩
    · rintro v g5 s5 ⟨b, rfl, hb1, hb2⟩
      refine ⟨_, rfl, fun g6 m6 => ?_⟩
      cases b with
      | true =>
        obtain ⟨m', p1, p2, x, hin, hnx⟩ := hb1 rfl
        exact fin (fun hh => hnx ((walk_iff.1 hh).2.2.2 x hin)) (p1.ex m6) p2
      | false =>
        obtain ⟨m', p1, p2, p3⟩ := hb2 rfl
        rw [take_all (Nat.le_refl _)] at p2 p3
        exact ⟨m', vT (walk_iff.2 ⟨by omega, q1, q2, p3⟩), p1.ex m6, by omega, fun _ => by omega⟩
/-- formed. -/
theorem k32 (t : Sy) (hok : okT t) (hs : size t ≤ 20000) {na : Option Addr} {nn nc : Nat} {a : Option Addr} {n c : Nat} {g : G} (ht : TabG g) (h : SynI g t na nn nc a n c) :
    CallsP Tryd.prog 32 #[synV t na nn nc a n c] g fun v _ => v = .bool (tf (formedP t)) := by
  refine call32 _ _ _ _ _ _ _ _ _ g _ ?_
  unfold F32
  intro g1 m1 g2 n2
  have hsz1 : g.w.heap.size ≤ g1.w.heap.size := m1.size
  have hc2 := n2.mut
  refine ⟨hc2.ok0 (Nat.le_refl _), hc2.nx, hc2.mut0 _, fun hh => absurd hh (by show ¬ g1.w.heap.size < g.w.heap.size; omega), fun g3 k3 => ?_⟩
  obtain ⟨hc3, but3⟩ := hc2.st0 k3
  rw [set1] at hc3
  have le13 : Le g1 g3 := n2.ex.le.trans (mut_le hc2 but3)
  intro g4 n4
  have hsz3 : g1.w.heap.size ≤ g3.w.heap.size := le13.size
  have hw4 := n4.mut
  refine ⟨hw4.ok0 (Nat.le_refl _), hw4.nx, hw4.mut0 _, fun hh => absurd hh (by show ¬ g3.w.heap.size < g.w.heap.size; omega), fun g5 k5 => ?_⟩
  obtain ⟨hlv, but5⟩ := hw4.pub1 k5
  have le5 : Le g g5 := (m1.le.trans le13).trans (n4.ex.le.trans (mut_le hw4 but5))
  have hne : ¬ g1.w.heap.size = g3.w.heap.size := by have := hc3.lt; omega
  have hc5 := (hc3.ex n4.ex).but but5 hne
  refine ⟨_, _, hlv.1, ⟨_, Tryd.func49, by kernel_rfl, by kernel_rfl⟩, (fun b => b = g1.w.heap.size), fun b hb e => by omega, ?_⟩
  refine CallsG.mono (w49 (size t) t (Nat.le_refl _) hok 1 false 0 (ht.mono le5) (h.mono le5) (by omega) (by omega) hc5 hlv) ?_
  rintro v g6 s6 ⟨m', rfl, _, _, _⟩
  exact ⟨_, rfl, fun g7 _ => rfl⟩
/-- Valid, known. -/
theorem k11 (cat : Int) (t : Sy) (hok : okT t) (hs : size t ≤ 20000) {na : Option Addr} {nn nc : Nat} {a : Option Addr} {n c : Nat} {g : G} (ht : TabG g) (h : SynI g t na nn nc a n c) :
    CallsP Tryd.prog 11 #[.int .i64 cat, synV t na nn nc a n c] g fun v _ => v = .bool (tf (validP cat t)) := by
  refine call11 cat _ _ _ _ _ _ _ _ _ g _ ?_
  unfold F11 validP
  refine fun g0 m0 => (k31 cat t na nn nc a n c g0).mono ?_
  rintro v g1 m01 rfl
  have m1 := m0.trans m01
  refine ⟨_, rfl, ifP (fun q => (k32 t hok hs (ht.exm m1) (h.exm m1)).mono ?_) (fun q g4 _ => vF (fun hh => q hh.1))⟩
  rintro v g2 _ rfl
  exact ⟨_, rfl, fun g3 _ => vP ⟨fun hh => ⟨q, hh⟩, fun hh => hh.2⟩⟩
theorem k39 (t : Sy) (hok : okT t) (hs : size t ≤ 20000) {na : Option Addr} {nn nc : Nat} {a : Option Addr} {n c : Nat} {g : G} (ht : TabG g) (h : SynI g t na nn nc a n c) :
    CallsP Tryd.prog 39 #[synV t na nn nc a n c] g fun v _ => v = .bool (tf (catN t.dat.op ≠ 0 ∧ formedP t)) := by
  refine call39 _ _ _ _ _ _ _ _ _ g _ ?_
  unfold F39
  refine fun g0 m0 => (k13 t.dat.op g0).mono ?_
  rintro v g1 m01 rfl
  have m1 := m0.trans m01
  refine ⟨_, rfl, ifNe (fun q => (k32 t hok hs (ht.exm m1) (h.exm m1)).mono ?_) (fun q g4 _ => vF (fun hh => hh.1 q))⟩
  rintro v g2 _ rfl
  exact ⟨_, rfl, fun g3 _ => vP ⟨fun hh => ⟨q, hh⟩, fun hh => hh.2⟩⟩
end Go.Proofs.YtmakoecgogjemaaDoor
