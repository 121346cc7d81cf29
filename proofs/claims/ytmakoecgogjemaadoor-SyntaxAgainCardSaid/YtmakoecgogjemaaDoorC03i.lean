/- Syntax trees: that a tree is small. -/
import Derived.Test.YtmakoecgogjemaaDoorC03h
set_option linter.unusedVariables false
namespace Go.Proofs.YtmakoecgogjemaaDoor
open Go Go.Vc Go.RowKit Go.Syn

theorem k36 (s : List UInt8) (g : G) : CallsP Tryd.prog 36 #[.string (bstr s)] g fun v _ => v = .bool (tf (60 < s.length)) := by
  refine call36 _ g _ ?_
  unfold F36
  intro g1 _
  rw [size_i, tf_lt]
  exact vP ⟨fun h => by omega, fun h => by omega⟩
/-- What few does. -/
def W15 (t : Sy) : Prop := ∀ (dep m : Nat) {lb : Nat} {na : Option Addr} {nn nc : Nat} {a : Option Addr} {n c : Nat} {g : G}, SynI g t na nn nc a n c → dep ≤ 501 → m ≤ 1048576 → MutB g lb 3 [.int .i64 ((m : Nat) : Int)] →
  CallsG Tryd.prog 15 #[synV t na nn nc a n c, .pointer (some ⟨lb, 0, none⟩), .int .i64 ((dep : Nat) : Int)] g (fun b => b = lb) fun v g' =>
    ∃ (b : Bool) (k : Int), v = .bool b ∧ MutB g' lb 3 [.int .i64 k] ∧ (b = true → k = ((m : Nat) : Int) - ((size t : Nat) : Int) ∧ 0 ≤ k ∧ okT t)
theorem k38 (x : Sy) (H : W15 x) (dep m : Nat) {lb vb db : Nat} {na : Option Addr} {nn nc : Nat} {a : Option Addr} {n c : Nat} {g : G} (h : SynI g x na nn nc a n c) (hd : dep ≤ 500) (hm : m ≤ 1048576) (hc : MutB g lb 3 [.int .i64 ((m : Nat) : Int)])
    (hv : Live g ⟨vb, 0, none⟩ (.pointer (some ⟨lb, 0, none⟩))) (hdp : Live g ⟨db, 0, none⟩ (.int .i64 ((dep : Nat) : Int))) :
    CallsG Tryd.prog 38 #[synV x na nn nc a n c, .pointer (some ⟨vb, 0, none⟩), .pointer (some ⟨db, 0, none⟩)] g (fun b => b = lb) fun v g' =>
      ∃ (b : Bool) (k : Int), v = .bool (!b) ∧ MutB g' lb 3 [.int .i64 k] ∧ (b = true → k = ((m : Nat) : Int) - ((size x : Nat) : Int) ∧ 0 ≤ k ∧ okT x) := by
  refine call38 _ _ _ _ _ _ _ _ _ _ _ g _ _ ?_
  unfold F38
  intro g1 m1
  refine ⟨_, (hv.mono m1.le).1, _, (hdp.mono m1.le).1, i64 (by omega) (by omega), (fun b => b = lb), fun _ _ h => h, ?_⟩
  have hcall := H (dep + 1) m (h.exm m1) (by omega) hm (hc.ex m1)
  rw [show (((dep + 1 : Nat) : Int)) = ((dep : Nat) : Int) + 1 by omega] at hcall
  refine CallsG.mono hcall ?_
  rintro v g2 s2 ⟨b, k, rfl, hk, hb⟩
  exact ⟨_, rfl, fun g3 m3 => ⟨b, k, rfl, hk.ex m3, hb⟩⟩
theorem k15 (t : Sy) : W15 t := by
  induction t using Tr.ind with
  | h d l ih =>
    intro dep m lb na nn nc a n c g h hd hm hc
    refine call15 _ _ _ _ _ _ _ _ _ _ _ g _ _ ?_
    have hN : SlE strE g na nn nc d.names := h.names
    have hK : SlE synE g a n c l := h.kids
    have hnl := hN.len
    have hse : size (.mk d l) = sizeL l + 1 := rfl
    unfold F15
    rw [show (bstr (Tr.mk d l).dat.s).size = d.s.length from bstr_size _]
    intro g1 m1 g2 n2 g3 n3
    have le13 : Le g1 g3 := n2.ex.le.trans n3.ex.le
    have hv3 : Live g3 ⟨g1.w.heap.size, 0, none⟩ (.pointer (some ⟨lb, 0, none⟩)) := (n2.at0 rfl).ex n3.ex
    have hd3 : Live g3 ⟨g2.w.heap.size, 0, none⟩ (.int .i64 ((dep : Nat) : Int)) := n3.at0 rfl
    have hc3 := ((hc.ex m1).ex n2.ex).ex n3.ex
    refine ⟨_, hv3.1, _, hc3.rd0 rfl, i64 (by omega) (by omega), hc3.ok0 (Nat.le_refl _), hc3.nx, hc3.mut0 _, fun _ => rfl, fun g4 k4 => ?_⟩
    obtain ⟨hc4, but4⟩ := hc3.st0 k4
    rw [set1] at hc4
    have le34 := mut_le hc3 but4
    have le04 : Le g g4 := (m1.le.trans le13).trans le34
    have hv4 := hv3.mono le34
    have hd4 := hd3.mono le34
    have fin : ∀ {g' : G} {k : Int}, MutB g' lb 3 [.int .i64 k] → ∃ (b : Bool) (k : Int), Value.bool false = .bool b ∧ MutB g' lb 3 [.int .i64 k] ∧ (b = true → k = ((m : Nat) : Int) - ((size (.mk d l) : Nat) : Int) ∧ 0 ≤ k ∧ okT (.mk d l)) :=
      fun hk => ⟨false, _, rfl, hk, fun hh => by cases hh⟩
    intro J hJ
    refine ⟨_, hv4.1, _, hc4.rd0 rfl, ifLt (fun q g8 m8 => fin (hc4.ex m8)) (fun q1 => ⟨_, hd4.1, ifLt (fun q g9 m9 => fin (hc4.ex m9)) (fun q2 => ifLt (fun q g10 m10 => fin (hc4.ex m10)) (fun q3 => ?_))⟩)⟩
    -- what follows when the texts are short
    have main : d.s.length ≤ 1048576 → (CallsP Tryd.prog 35 #[.slice na nn nc, .func (.func 36) #[] #[]] g4 fun v g13 => ∃ x_3 : Bool, v = .bool x_3 ∧ ifB x_3 (∀ g14 : G, Ex g13 g14 → ∃ (b : Bool) (k : Int), Value.bool false = .bool b ∧ MutB g14 lb 3 [.int .i64 k] ∧ (b = true → k = ((m : Nat) : Int) - ((size (.mk d l) : Nat) : Int) ∧ 0 ≤ k ∧ okT (.mk d l))) (J g13)) := by
      intro hs
      refine (k35 36 #[] (fun s => 60 < s.length) d.names (hN.mono le04) (by omega) ⟨_, Tryd.func36, by kernel_rfl, by kernel_rfl⟩ (fun g' _ s _ => k36 s g')).mono ?_
      rintro v g13 m13 rfl
      refine ⟨_, rfl, ifP (fun q g14 m14 => fin ((hc4.ex m13).ex m14)) (fun q4 => hJ g13 ?_)⟩
      have hc13 := hc4.ex m13
      have le013 := le04.trans m13.le
      have e4 : ((m : Nat) : Int) - 1 = ((m - 1 : Nat) : Int) := by omega
      rw [e4] at hc13
      refine ⟨fun b => b = lb, fun _ _ h => h, (k37 38 ⟨[.pointer (some ⟨g1.w.heap.size, 0, none⟩), .pointer (some ⟨g2.w.heap.size, 0, none⟩)]⟩ (fun b => b = lb)
        (fun j g' => ∃ k : Nat, MutB g' lb 3 [.int .i64 ((k : Nat) : Int)] ∧ k + sizeL (l.take j) = m - 1 ∧ ∀ x ∈ l.take j, okT x)
        (fun g' => ∃ k : Int, MutB g' lb 3 [.int .i64 k]) l (hK.mono le013) ⟨_, Tryd.func38, by kernel_rfl, by kernel_rfl⟩ ?_ ?_ ?_ ?_).mono ?_⟩
      · rintro j ga gb mab ⟨k, p1, p2, p3⟩
        exact ⟨k, p1.ex mab, p2, p3⟩
      · rintro ga gb mab ⟨k, p1⟩
        exact ⟨k, p1.ex mab⟩
      · exact ⟨m - 1, hc13, by simp [sizeL], by simp⟩
      · rintro ga j x lea hsa gj ⟨k, p1, p2, p3⟩ na' nn' nc' ka kn kc hx
        have hin := List.mem_of_getElem? gj
        have htk := sizeL_take gj
        refine ⟨fun b => b = lb, fun _ _ h => h, ?_⟩
        refine CallsG.mono (k38 x (ih x hin) dep k hx (by omega) (by omega) p1 ((hv4.ex m13).mono lea) ((hd4.ex m13).mono lea)) ?_
        rintro v g2' s2 ⟨b, k', rfl, r1, r2⟩
        refine ⟨_, rfl, fun hb => ⟨k', r1⟩, fun hb => ?_⟩
        have hbt : b = true := by simpa using hb
        obtain ⟨r3, r4, r5⟩ := r2 hbt
        refine ⟨k - size x, ?_, by omega, (all_take gj _).2 ⟨p3, r5⟩⟩
        rwa [show ((k - size x : Nat) : Int) = k' by omega]
      · rintro v g6 s6 ⟨b, rfl, hb1, hb2⟩
        refine ⟨_, rfl, fun g7 m7 => ?_⟩
        cases b with
        | true =>
          obtain ⟨k, p1⟩ := hb1 rfl
          exact fin (p1.ex m7)
        | false =>
          obtain ⟨k, p1, p2, p3⟩ := hb2 rfl
          rw [take_all (Nat.le_refl _)] at p2 p3
          exact ⟨true, _, rfl, p1.ex m7, fun _ => ⟨by omega, by omega, okT_iff.2 ⟨⟨hs, by show d.names.length ≤ _; omega⟩, p3⟩⟩⟩
    refine ifLt (fun q4 => ifLe (fun q5 g11 m11 => fin (hc4.ex m11)) (fun q5 => ifLt (fun q6 g12 m12 => fin (hc4.ex m12)) (fun q6 => main (by omega)))) (fun q4 => ifLt (fun q6 g15 m15 => fin (hc4.ex m15)) (fun q6 => main (by omega)))
/-- fits. -/
theorem k10 (t : Sy) {na : Option Addr} {nn nc : Nat} {a : Option Addr} {n c : Nat} {g : G} (h : SynI g t na nn nc a n c) :
    CallsP Tryd.prog 10 #[synV t na nn nc a n c] g fun v _ => ∃ b, v = .bool b ∧ (b = true → size t ≤ 4500 ∧ okT t) := by
  refine call10 _ _ _ _ _ _ _ _ _ g _ ?_
  unfold F10
  intro g1 m1 g2 n2
  have hsz1 : g.w.heap.size ≤ g1.w.heap.size := m1.size
  have hc2 := n2.mut
  refine ⟨hc2.ok0 (Nat.le_refl _), hc2.nx, hc2.mut0 _, fun hh => absurd hh (by show ¬ g1.w.heap.size < g.w.heap.size; omega), fun g3 k3 => ?_⟩
  obtain ⟨hc3, but3⟩ := hc2.st0 k3
  rw [set1] at hc3
  have le3 : Le g g3 := m1.le.trans (n2.ex.le.trans (mut_le hc2 but3))
  refine ⟨(fun b => b = g1.w.heap.size), fun b hb e => by omega, CallsG.mono (k15 t 0 4500 (h.mono le3) (by omega) (by omega) hc3) ?_⟩
  rintro v g4 s4 ⟨b, k, rfl, hk, hb⟩
  exact ⟨b, rfl, fun g5 _ => ⟨b, rfl, fun hh => by
    obtain ⟨r1, r2, r3⟩ := hb hh
    exact ⟨by omega, r3⟩⟩⟩
end Go.Proofs.YtmakoecgogjemaaDoor
