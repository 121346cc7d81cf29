/- Joined texts. -/
import Derived.Test.YtkocjbgdmocmlaaGreatDoorC07J
import Derived.Test.YtkocjbgdmocmlaaGreatDoorSsort
import Derived.Test.YtkocjbgdmocmlaaGreatDoorVmb
import Derived.Test.YtkocjbgdmocmlaaGreatDoorSfree
/- Scope: that trees are small; labels. -/
set_option linter.unusedVariables false
namespace Go.Proofs.YtkocjbgdmocmlaaGreatDoor
open Go Go.Vc Go.RowKit Go.Syn

theorem k93 (s : List UInt8) (g : G) : CallsP Tryz.prog 93 #[.string (bstr s)] g fun v _ => v = .bool (tf (60 < s.length)) := by
  refine call93 _ g nobody _ ?_
  unfold F93
  intro g1 _
  rw [size_i, tf_lt]
  exact vP ⟨fun h => by omega, fun h => by omega⟩
/-- What few does. -/
def W57 (t : Sy) : Prop := ∀ (dep m : Nat) {lb : Nat} {na : Option Addr} {nn nc : Nat} {a : Option Addr} {n c : Nat} {g : G}, SynI g t na nn nc a n c → dep ≤ 501 → m ≤ 1048576 → MutB g lb 3 [.int .i64 ((m : Nat) : Int)] →
  CallsG Tryz.prog 57 #[synV t na nn nc a n c, .pointer (some ⟨lb, 0, none⟩), .int .i64 ((dep : Nat) : Int)] g (fun b => b = lb) fun v g' =>
    ∃ (b : Bool) (k : Int), v = .bool b ∧ MutB g' lb 3 [.int .i64 k] ∧ (b = true → k = ((m : Nat) : Int) - ((size t : Nat) : Int) ∧ 0 ≤ k ∧ okT t)
theorem k94 (x : Sy) (H : W57 x) (dep m : Nat) {lb vb db : Nat} {na : Option Addr} {nn nc : Nat} {a : Option Addr} {n c : Nat} {g : G} (h : SynI g x na nn nc a n c) (hd : dep ≤ 500) (hm : m ≤ 1048576) (hc : MutB g lb 3 [.int .i64 ((m : Nat) : Int)])
    (hv : Live g ⟨vb, 0, none⟩ (.pointer (some ⟨lb, 0, none⟩))) (hdp : Live g ⟨db, 0, none⟩ (.int .i64 ((dep : Nat) : Int))) :
    CallsG Tryz.prog 94 #[synV x na nn nc a n c, .pointer (some ⟨vb, 0, none⟩), .pointer (some ⟨db, 0, none⟩)] g (fun b => b = lb) fun v g' =>
      ∃ (b : Bool) (k : Int), v = .bool (!b) ∧ MutB g' lb 3 [.int .i64 k] ∧ (b = true → k = ((m : Nat) : Int) - ((size x : Nat) : Int) ∧ 0 ≤ k ∧ okT x) := by
  refine call94 _ _ _ _ _ _ _ _ _ _ _ g _ _ ?_
  unfold F94
  intro g1 m1
  refine ⟨_, (hv.mono m1.le).1, _, (hdp.mono m1.le).1, i64 (by omega) (by omega), (fun b => b = lb), fun _ _ h => h, ?_⟩
  have hcall := H (dep + 1) m (h.exm m1) (by omega) hm (hc.ex m1)
  rw [show (((dep + 1 : Nat) : Int)) = ((dep : Nat) : Int) + 1 by omega] at hcall
  refine CallsG.mono hcall ?_
  rintro v g2 s2 ⟨b, k, rfl, hk, hb⟩
  exact ⟨_, rfl, fun g3 m3 => ⟨b, k, rfl, hk.ex m3, hb⟩⟩
theorem k57 (t : Sy) : W57 t := by
  induction t using Tr.ind with
  | h d l ih =>
    intro dep m lb na nn nc a n c g h hd hm hc
    refine call57 _ _ _ _ _ _ _ _ _ _ _ g _ _ ?_
    have hN : SlE strE g na nn nc d.names := h.names
    have hK : SlE synE g a n c l := h.kids
    have hnl := hN.len
    have hse : size (.mk d l) = sizeL l + 1 := rfl
    unfold F57
    rw [show (bstr (Tr.mk d l).dat.s).size = d.s.length from bstr_size _]
    intro g1 m1 g2 n2 g3 n3
    have le13 : Le g1 g3 := n2.ex.le.trans n3.ex.le
    have hv3 : Live g3 ⟨g1.w.heap.size, 0, none⟩ (.pointer (some ⟨lb, 0, none⟩)) := (n2.at0 rfl).ex n3.ex
    have hd3 : Live g3 ⟨g2.w.heap.size, 0, none⟩ (.int .i64 ((dep : Nat) : Int)) := n3.at0 rfl
    have hc3 := ((hc.ex m1).ex n2.ex).ex n3.ex
    refine ⟨_, hv3.1, _, hc3.rd0 rfl, i64 (by omega) (by omega), hc3.ok0 (Nat.le_refl _), hc3.nx, hc3.mut0 _, fun _ => rfl, fun g4 k4 => ?_⟩
    obtain ⟨hc4, but4⟩ := hc3.st0 k4
    rw [set1] at hc4
    have le34 := mut_le hc3 but4
    have le04 : Le g g4 := (m1.le.trans le13).trans le34
    have hv4 := hv3.mono le34
    have hd4 := hd3.mono le34
    have fin : ∀ {g' : G} {k : Int}, MutB g' lb 3 [.int .i64 k] → ∃ (b : Bool) (k : Int), Value.bool false = .bool b ∧ MutB g' lb 3 [.int .i64 k] ∧ (b = true → k = ((m : Nat) : Int) - ((size (.mk d l) : Nat) : Int) ∧ 0 ≤ k ∧ okT (.mk d l)) :=
      fun hk => ⟨false, _, rfl, hk, fun hh => by cases hh⟩
    intro J hJ
    refine ⟨_, hv4.1, _, hc4.rd0 rfl, ifLt (fun q g8 m8 => fin (hc4.ex m8)) (fun q1 => ⟨_, hd4.1, ifLt (fun q g9 m9 => fin (hc4.ex m9)) (fun q2 => ifLt (fun q g10 m10 => fin (hc4.ex m10)) (fun q3 => ifLt (fun q g11 m11 => fin (hc4.ex m11)) (fun q5 => ?_)))⟩)⟩
    refine (kk33 93 #[] (fun s => 60 < s.length) d.names (hN.mono le04) (by omega) ⟨_, Tryz.func93, by kernel_rfl, by kernel_rfl⟩ (fun g' _ s _ => k93 s g')).mono ?_
    rintro v g13 m13 rfl
    refine ⟨_, rfl, ifP (fun q g14 m14 => fin ((hc4.ex m13).ex m14)) (fun q4 => hJ g13 ?_)⟩
    have hc13 := hc4.ex m13
    have le013 := le04.trans m13.le
    have e4 : ((m : Nat) : Int) - 1 = ((m - 1 : Nat) : Int) := by omega
    rw [e4] at hc13
    refine ⟨fun b => b = lb, fun _ _ h => h, (kk55 94 ⟨[.pointer (some ⟨g1.w.heap.size, 0, none⟩), .pointer (some ⟨g2.w.heap.size, 0, none⟩)]⟩ (fun b => b = lb)
      (fun j g' => ∃ k : Nat, MutB g' lb 3 [.int .i64 ((k : Nat) : Int)] ∧ k + sizeL (l.take j) = m - 1 ∧ ∀ x ∈ l.take j, okT x)
      (fun g' => ∃ k : Int, MutB g' lb 3 [.int .i64 k]) l (hK.mono le013) ⟨_, Tryz.func94, by kernel_rfl, by kernel_rfl⟩ ?_ ?_ ?_ ?_).mono ?_⟩
    · rintro j ga gb mab ⟨k, p1, p2, p3⟩
      exact ⟨k, p1.ex mab, p2, p3⟩
    · rintro ga gb mab ⟨k, p1⟩
      exact ⟨k, p1.ex mab⟩
    · exact ⟨m - 1, hc13, by simp [sizeL], by simp⟩
    · rintro ga j x lea hsa gj ⟨k, p1, p2, p3⟩ na' nn' nc' ka kn kc hx
      have hin := List.mem_of_getElem? gj
      have htk := sizeL_take gj
      refine ⟨fun b => b = lb, fun _ _ h => h, ?_⟩
      refine CallsG.mono (k94 x (ih x hin) dep k hx (by omega) (by omega) p1 ((hv4.ex m13).mono lea) ((hd4.ex m13).mono lea)) ?_
      rintro v g2' s2 ⟨b, k', rfl, r1, r2⟩
      refine ⟨_, rfl, fun hb => ⟨k', r1⟩, fun hb => ?_⟩
      have hbt : b = true := by simpa using hb
      obtain ⟨r3, r4, r5⟩ := r2 hbt
      refine ⟨k - size x, ?_, by omega, (all_take gj _).2 ⟨p3, r5⟩⟩
      rwa [show ((k - size x : Nat) : Int) = k' by omega]
    · rintro v g6 s6 ⟨b, rfl, hb1, hb2⟩
      refine ⟨_, rfl, fun g7 m7 => ?_⟩
      cases b with
      | true =>
        obtain ⟨k, p1⟩ := hb1 rfl
        exact fin (p1.ex m7)
      | false =>
        obtain ⟨k, p1, p2, p3⟩ := hb2 rfl
        rw [take_all (Nat.le_refl _)] at p2 p3
        exact ⟨true, _, rfl, p1.ex m7, fun _ => ⟨by omega, by omega, okT_iff.2 ⟨⟨by show d.s.length ≤ _; omega, by show d.names.length ≤ _; omega⟩, p3⟩⟩⟩
/-- fits, of trees in a slice. -/
theorem k12 (L : List Sy) {a : Option Addr} {n c : Nat} {g : G} (h : SlE synE g a n c L) :
    CallsP Tryz.prog 12 #[.slice a n c] g fun v _ => ∃ b, v = .bool b ∧ (b = true → sizeL L ≤ 600 ∧ ∀ t ∈ L, okT t) := by
  refine call12 a n c g _ ?_
  unfold F12
  intro g1 n1
  have hc1 := n1.mut
  refine ⟨hc1.ok0 (Nat.le_refl _), hc1.nx, hc1.mut0 _, fun hh => absurd hh (Nat.lt_irrefl _), fun g2 k2 => ?_⟩
  obtain ⟨hc2, but2⟩ := hc1.st0 k2
  rw [set1] at hc2
  have le2 : Le g g2 := n1.ex.le.trans (mut_le hc1 but2)
  refine ⟨fun b => b = g.w.heap.size, fun b hb e => by omega, (kk55 56 ⟨[.pointer (some ⟨g.w.heap.size, 0, none⟩)]⟩ (fun b => b = g.w.heap.size)
    (fun j g' => ∃ k : Nat, MutB g' g.w.heap.size 3 [.int .i64 ((k : Nat) : Int)] ∧ k + sizeL (L.take j) = 600 ∧ ∀ x ∈ L.take j, okT x) (fun g' => True) L (h.mono le2) ⟨_, Tryz.func56, by kernel_rfl, by kernel_rfl⟩ ?_ ?_ ?_ ?_).mono ?_⟩
  · rintro j ga gb mab ⟨k, p1, p2, p3⟩
    exact ⟨k, p1.ex mab, p2, p3⟩
  · exact fun _ _ _ h => h
  · exact ⟨600, hc2, by simp [sizeL], by simp⟩
  · rintro ga j x lea hsa gj ⟨k, p1, p2, p3⟩ na' nn' nc' ka kn kc hx
    have htk := sizeL_take gj
    refine ⟨fun b => b = g.w.heap.size, fun _ _ h => h, ?_⟩
    refine call56 _ _ _ _ _ _ _ _ _ _ ga _ _ ?_
    unfold F56
    refine fun gb mb => ⟨fun b => b = g.w.heap.size, fun _ _ h => h, CallsG.mono (k57 x 0 k (hx.exm mb) (by omega) (by omega) (p1.ex mb)) ?_⟩
    rintro v g2' s2 ⟨b, k', rfl, r1, r2⟩
    refine ⟨_, rfl, fun gc mc => ⟨_, rfl, fun hb => trivial, fun hb => ?_⟩⟩
    have hbt : b = true := by simpa using hb
    obtain ⟨r3, r4, r5⟩ := r2 hbt
    refine ⟨k - size x, ?_, by omega, (all_take gj _).2 ⟨p3, r5⟩⟩
    rw [show ((k - size x : Nat) : Int) = k' by omega]
    exact r1.ex mc
  · rintro v g6 s6 ⟨b, rfl, hb1, hb2⟩
    refine ⟨_, rfl, fun g7 m7 => ⟨_, rfl, fun hb => ?_⟩⟩
    have hbf : b = false := by simpa using hb
    obtain ⟨k, p1, p2, p3⟩ := hb2 hbf
    rw [take_all (Nat.le_refl _)] at p2 p3
    exact ⟨by omega, p3⟩
/-! ### Labels -/
def headK (k : Int) : Lab := if k = 1 then hVal else if k = 2 then hType else if k = 3 then hCon else if k = 4 then hMod else if k = 5 then hSig else []
theorem k139 (k : Int) (g : G) : CallsP Tryz.prog 139 #[.int .i64 k] g fun v _ => v = .string (bstr (headK k)) := by
  refine call139 k g _ ?_
  unfold F139 headK
  refine ifEq (fun q g1 _ => by rw [if_pos q]; rfl) (fun q => ?_)
  rw [if_neg q]
  refine ifEq (fun q g1 _ => by rw [if_pos q]; rfl) (fun q => ?_)
  rw [if_neg q]
  refine ifEq (fun q g1 _ => by rw [if_pos q]; rfl) (fun q => ?_)
  rw [if_neg q]
  refine ifEq (fun q g1 _ => by rw [if_pos q]; rfl) (fun q => ?_)
  rw [if_neg q]
  exact ifEq (fun q g1 _ => by rw [if_pos q]; rfl) (fun q g1 _ => by rw [if_neg q]; rfl)
def fitsK (k : Int) (s : Lab) : Prop := if k = 1 ∨ k = 2 then lowerP s else upperP s
theorem k140 (k : Int) (s : Lab) (g : G) (ht : TabG g) : CallsP Tryz.prog 140 #[.int .i64 k, .string (bstr s)] g fun v _ => v = .bool (tf (fitsK k s)) := by
  refine call140 k _ g _ ?_
  unfold F140 fitsK
  refine ifEq (fun q => (kk145 s g ht).mono ?_) (fun q => ifEq (fun q2 => (kk145 s g ht).mono ?_) (fun q2 => (kk111 s g).mono ?_))
  · rintro v g1 _ rfl
    exact ⟨_, rfl, fun g2 _ => by rw [if_pos (.inl q)]⟩
  · rintro v g1 _ rfl
    exact ⟨_, rfl, fun g2 _ => by rw [if_pos (.inr q2)]⟩
  · rintro v g1 _ rfl
    exact ⟨_, rfl, fun g2 _ => by rw [if_neg (fun hh => hh.elim q q2)]⟩
/-- label, of a name that fits. -/
theorem k88 (k : Int) (s : Lab) (hk : 1 ≤ k ∧ k ≤ 5) (hf : fitsK k s) (g : G) (ht : TabG g) : CallsP Tryz.prog 88 #[.int .i64 k, .string (bstr s)] g fun v _ => v = .string (bstr (headK k ++ s)) := by
  refine call88 k _ g _ ?_
  unfold F88
  have hlen : s.length ≤ 24 := by
    unfold fitsK at hf
    split at hf
    · exact hf.1.2.1
    · exact hf.1.2.1
  have hh : headK k ≠ [] ∧ (headK k).length ≤ 5 := by
    obtain rfl | rfl | rfl | rfl | rfl : k = 1 ∨ k = 2 ∨ k = 3 ∨ k = 4 ∨ k = 5 := by omega
    all_goals exact ⟨by decide, by decide⟩
  have main : CallsP Tryz.prog 121 #[.int .i64 k, .string (bstr s)] g fun v _ => v = .tuple ⟨[.string (bstr (headK k ++ s)), .int .i64 0]⟩ := by
    refine call121 k _ g _ ?_
    unfold F121
    refine (k139 k g).mono ?_
    rintro v g1 m1 rfl
    refine ⟨_, rfl, ?_⟩
    rw [show bs [] = bstr [] from rfl, strEq_bstr]
    refine ifP (fun e => absurd e hh.1) (fun _ => (k140 k s g1 (ht.exm m1)).mono ?_)
    rintro v g3 _ rfl
    rw [tf_of hf]
    refine ⟨_, rfl, ifF (fun hh => by cases hh) (fun _ => ⟨by rw [bstr_size, bstr_size]; omega, fun g5 _ => by rw [bstr_cat]⟩)⟩
  refine main.mono ?_
  rintro v g1 _ rfl
  exact ⟨_, _, rfl, fun g2 _ => rfl⟩
end Go.Proofs.YtkocjbgdmocmlaaGreatDoor
/- Scope: the label to which a path refers. -/
set_option linter.unusedVariables false
namespace Go.Proofs.YtkocjbgdmocmlaaGreatDoor
open Go Go.Vc Go.RowKit Go.Syn

theorem wfI {z : Int} (h1 : -9223372036854775808 ≤ z) (h2 : z ≤ 9223372036854775807) : (Lit.int .i64 z).wf = true := by
  simp only [Lit.wf, Bool.and_eq_true, IntKind.min, IntKind.max, IntKind.signed, IntKind.bits]
  simp
  omega
theorem zero3 (w : World) : (zeroValue 3).run Tryz.prog w = .ok (.int .i64 0) w := by kernel_rfl
def kindO (op : Int) : Option Int := if op = 23 then some 1 else if op ∈ [2, 66] then some 2 else if op ∈ [14, 24] then some 3 else if op ∈ [34, 48, 49, 82] then some 4 else if op ∈ [5, 72] then some 5 else none
theorem kind_head (op : Int) : headOf op = (kindO op).map headK := by
  unfold headOf kindO
  repeat' split
  all_goals rfl
/-- The names of a node that bears a path that is looked up. -/
def pathOK (d : SynD) : Prop := ∀ k, kindO d.op = some k → ∃ x r, d.names = x :: r ∧ (if r = [] then fitsK k x else upperP x)
theorem k128 (t : Sy) (hop : 1 ≤ t.dat.op ∧ t.dat.op ≤ 100) (hp : pathOK t.dat) {na : Option Addr} {nn nc : Nat} {a : Option Addr} {n c : Nat} {g : G} (ht : TabG g) (h : SynI g t na nn nc a n c) :
    CallsP Tryz.prog 128 #[synV t na nn nc a n c] g fun v _ => v = .tuple ⟨[.string (bstr ((refersO t.dat).getD [])), .bool (tf (refersO t.dat ≠ none))]⟩ := by
  refine call128 _ _ _ _ _ _ _ _ _ g _ ?_
  unfold F128
  intro g1 m1 g2 n2
  have hb := m1.size
  have q0 := MapI.new n2 Tryz.prog 3
  have le0 : Le g g2 := m1.le.trans n2.ex.le
  obtain ⟨w0, r0, h0, e0, s0, q1, b0⟩ := q0.put Tryz.underlying3 Tryz.underlying143 (by unfold maxLen; omega) 23 (by decide) (.int .i64 1) (B := g.w.heap.size) hb
  refine ⟨w0, r0, h0, e0, s0, ?_⟩
  have le1 := le0.trans s0.le
  obtain ⟨w1, r1, h1, e1, s1, q2, b1⟩ := q1.put Tryz.underlying3 Tryz.underlying143 (by unfold maxLen; omega) 2 (by decide) (.int .i64 2) (B := g.w.heap.size) hb
  refine ⟨w1, r1, h1, e1, s1, ?_⟩
  have le2 := le1.trans s1.le
  obtain ⟨w2, r2, h2, e2, s2, q3, b2⟩ := q2.put Tryz.underlying3 Tryz.underlying143 (by unfold maxLen; omega) 66 (by decide) (.int .i64 2) (B := g.w.heap.size) hb
  refine ⟨w2, r2, h2, e2, s2, ?_⟩
  have le3 := le2.trans s2.le
  obtain ⟨w3, r3, h3, e3, s3, q4, b3⟩ := q3.put Tryz.underlying3 Tryz.underlying143 (by unfold maxLen; omega) 14 (by decide) (.int .i64 3) (B := g.w.heap.size) hb
  refine ⟨w3, r3, h3, e3, s3, ?_⟩
  have le4 := le3.trans s3.le
  obtain ⟨w4, r4, h4, e4, s4, q5, b4⟩ := q4.put Tryz.underlying3 Tryz.underlying143 (by unfold maxLen; omega) 24 (by decide) (.int .i64 3) (B := g.w.heap.size) hb
  refine ⟨w4, r4, h4, e4, s4, ?_⟩
  have le5 := le4.trans s4.le
  obtain ⟨w5, r5, h5, e5, s5, q6, b5⟩ := q5.put Tryz.underlying3 Tryz.underlying143 (by unfold maxLen; omega) 34 (by decide) (.int .i64 4) (B := g.w.heap.size) hb
  refine ⟨w5, r5, h5, e5, s5, ?_⟩
  have le6 := le5.trans s5.le
  obtain ⟨w6, r6, h6, e6, s6, q7, b6⟩ := q6.put Tryz.underlying3 Tryz.underlying143 (by unfold maxLen; omega) 48 (by decide) (.int .i64 4) (B := g.w.heap.size) hb
  refine ⟨w6, r6, h6, e6, s6, ?_⟩
  have le7 := le6.trans s6.le
  obtain ⟨w7, r7, h7, e7, s7, q8, b7⟩ := q7.put Tryz.underlying3 Tryz.underlying143 (by unfold maxLen; omega) 49 (by decide) (.int .i64 4) (B := g.w.heap.size) hb
  refine ⟨w7, r7, h7, e7, s7, ?_⟩
  have le8 := le7.trans s7.le
  obtain ⟨w8, r8, h8, e8, s8, q9, b8⟩ := q8.put Tryz.underlying3 Tryz.underlying143 (by unfold maxLen; omega) 82 (by decide) (.int .i64 4) (B := g.w.heap.size) hb
  refine ⟨w8, r8, h8, e8, s8, ?_⟩
  have le9 := le8.trans s8.le
  obtain ⟨w9, r9, h9, e9, s9, q10, b9⟩ := q9.put Tryz.underlying3 Tryz.underlying143 (by unfold maxLen; omega) 5 (by decide) (.int .i64 5) (B := g.w.heap.size) hb
  refine ⟨w9, r9, h9, e9, s9, ?_⟩
  have le10 := le9.trans s9.le
  obtain ⟨w10, r10, h10, e10, s10, q11, b10⟩ := q10.put Tryz.underlying3 Tryz.underlying143 (by unfold maxLen; omega) 72 (by decide) (.int .i64 5) (B := g.w.heap.size) hb
  refine ⟨w10, r10, h10, e10, s10, ?_⟩
  have le11 := le10.trans s10.le
  have hlk := q11.lookOk Tryz.underlying3 Tryz.underlying143 (zero3 h10.w) t.dat.op (wfI (by omega) (by omega))
  have hf : (updI (updI (updI (updI (updI (updI (updI (updI (updI (updI (updI (fun _ => none) 23 (some (.int .i64 1))) 2 (some (.int .i64 2))) 66 (some (.int .i64 2))) 14 (some (.int .i64 3))) 24 (some (.int .i64 3))) 34 (some (.int .i64 4))) 48 (some (.int .i64 4))) 49 (some (.int .i64 4))) 82 (some (.int .i64 4))) 5 (some (.int .i64 5))) 72 (some (.int .i64 5))) t.dat.op = (kindO t.dat.op).map (Value.int .i64) := by
    unfold kindO
    simp only [updI, List.mem_cons, List.not_mem_nil, or_false]
    generalize t.dat.op = o
    by_cases c0 : o = 23
    · subst c0; simp
    by_cases c1 : o = 2
    · subst c1; simp
    by_cases c2 : o = 66
    · subst c2; simp
    by_cases c3 : o = 14
    · subst c3; simp
    by_cases c4 : o = 24
    · subst c4; simp
    by_cases c5 : o = 34
    · subst c5; simp
    by_cases c6 : o = 48
    · subst c6; simp
    by_cases c7 : o = 49
    · subst c7; simp
    by_cases c8 : o = 82
    · subst c8; simp
    by_cases c9 : o = 5
    · subst c9; simp
    by_cases c10 : o = 72
    · subst c10; simp
    simp [c0, c1, c2, c3, c4, c5, c6, c7, c8, c9, c10]
  rw [hf] at hlk
  have hst : Stp g.w.heap.size nobody h10 h10 := Stp.refl _ _ _
  have hN : ∀ g16, Le g g16 → SlE strE g16 na nn nc t.dat.names := fun g16 le => h.names.mono le
  have hnl := h.names.len
  unfold refersO
  rw [kind_head]
  cases hk : kindO t.dat.op with
  | none =>
    rw [hk] at hlk
    refine ⟨0, false, _, hlk, h10, rfl, hst, ifF (fun _ g15 _ => ?_) (fun hh => by cases hh)⟩
    show _ = Value.tuple ⟨[.string (bstr []), .bool (tf ((none : Option Lab) ≠ none))]⟩
    rw [tf_no (fun hh => hh rfl)]
    rfl
  | some k =>
    rw [hk] at hlk
    refine ⟨k, true, _, hlk, h10, rfl, hst, ifF (fun hh => by cases hh) (fun _ => ?_)⟩
    obtain ⟨x, r, hx, hfit⟩ := hp k hk
    have hk5 : 1 ≤ k ∧ k ≤ 5 := by
      unfold kindO at hk
      repeat' (split at hk)
      all_goals first | (cases hk; omega) | cases hk
    rw [hx] at hnl
    simp only [List.length_cons] at hnl
    have fin : ∀ (kd : Int) (g16 : G), Le g g16 → 1 ≤ kd ∧ kd ≤ 5 → fitsK kd x → headK kd ++ x = (if r = [] then headK k ++ x else hMod ++ x) →
        ((0 ≤ (0 : Int) ∧ (0 : Int) < ((nn : Nat) : Int)) ∧ derefP na fun ad => ∃ s : ByteArray, g16.w.cell? (Addr.add ad (Int.toNat (0 : Int) * 1)) = some (.string s) ∧ (CallsP Tryz.prog 88 #[(.int .i64 kd), (.string s)] g16 fun v g17 =>
          ∃ x_1 : ByteArray, v = (.string x_1) ∧ ∀ g18 : G, Ex g17 g18 → (fun (v : Value) (_ : G) => v = .tuple ⟨[.string (bstr ((some (if r = [] then headK k ++ x else hMod ++ x) : Option Lab).getD [])), .bool (tf ((some (if r = [] then headK k ++ x else hMod ++ x) : Option Lab) ≠ none))]⟩) (.tuple ⟨[(.string x_1), (.bool true)]⟩) g18)) := by
      intro kd g16 le hkd hfk he
      refine ⟨⟨by omega, by omega⟩, rdS (hN g16 le) 0 rfl (x := x) (by rw [hx]; rfl) ((k88 kd x hkd hfk g16 (ht.mono le)).mono ?_)⟩
      rintro v g17 _ rfl
      refine ⟨_, rfl, fun g18 _ => ?_⟩
      show _ = _
      rw [he, tf_of (fun hh => by cases hh)]
      rfl
    rw [hx]
    intro J hJ
    refine ifLt (fun q => hJ 4 h10 (fin 4 h10 le11 (by omega) ?_ ?_)) (fun q => hJ k h10 (fin k h10 le11 hk5 ?_ ?_))
    · have hr : r ≠ [] := fun e => by rw [e] at hnl; simp at hnl; omega
      rw [if_neg hr] at hfit
      unfold fitsK
      rw [if_neg (by omega)]
      exact hfit
    · have hr : r ≠ [] := fun e => by rw [e] at hnl; simp at hnl; omega
      rw [if_neg hr]
      rfl
    · have hr : r = [] := List.eq_nil_of_length_eq_zero (by omega)
      rw [if_pos hr] at hfit
      exact hfit
    · have hr : r = [] := List.eq_nil_of_length_eq_zero (by omega)
      rw [if_pos hr]
end Go.Proofs.YtkocjbgdmocmlaaGreatDoor
/- Scope: what a node binds. -/
set_option linter.unusedVariables false
namespace Go.Proofs.YtkocjbgdmocmlaaGreatDoor
open Go Go.Vc Go.RowKit Go.Syn

theorem E22 : Elem Tryz.prog 22 9 1 16 := ⟨Tryz.underlying22, by kernel_rfl⟩
theorem binds_mk (d : SynD) (l : List Sy) : bindsT (.mk d l) = if d.op ∈ [12, 41, 42, 61] then [hVal ++ d.s] else if d.op ∈ [43, 62] then [hType ++ d.s] else if d.op = 44 then (hType ++ d.s) :: l.map (fun x => hCon ++ x.dat.s) else
    if d.op ∈ [46, 50, 63] then [hMod ++ d.s] else if d.op ∈ [47, 64] then [hSig ++ d.s] else if d.op ∈ [14, 15] then bindsL l else [] := rfl
theorem bindsL_append (a b : List Sy) : bindsL (a ++ b) = bindsL a ++ bindsL b := by
  induction a with
  | nil => rfl
  | cons x r ih => simp [bindsL, ih]
theorem bindsL_take {l : List Sy} {j : Nat} {t : Sy} (h : l[j]? = some t) : bindsL (l.take (j + 1)) = bindsL (l.take j) ++ bindsT t := by
  rw [List.take_add_one, h, bindsL_append]
  simp [bindsL]
theorem len_sizeL (l : List Sy) : l.length ≤ sizeL l := by
  induction l with
  | nil => exact Nat.le_refl _
  | cons x r ihr =>
    have := size_pos x
    simp only [sizeL, List.length_cons]
    omega
theorem bindsL_le (l : List Sy) (h : ∀ x ∈ l, (bindsT x).length ≤ size x) : (bindsL l).length ≤ sizeL l := by
  induction l with
  | nil => exact Nat.le_refl _
  | cons x r ih =>
    have h1 := h x (by simp)
    have h2 := ih (fun y hy => h y (by simp [hy]))
    simp only [bindsL, sizeL, List.length_append]
    omega
theorem binds_le (t : Sy) : (bindsT t).length ≤ size t := by
  induction t using Tr.ind with
  | h d l ih =>
    have h1 := bindsL_le l ih
    have h2 := len_sizeL l
    have h3 : size (.mk d l) = sizeL l + 1 := rfl
    rw [binds_mk, h3]
    repeat' split
    all_goals (try simp only [List.length_cons, List.length_nil, List.length_map])
    all_goals omega
/-- The name of a node that binds one has the right form. -/
theorem own_fits {d : SynD} {w : Bool} (h : ownP d w) (hw : d.op = 43 → w = false) :
    (d.op ∈ [12, 41, 42, 61] → lowerP d.s) ∧ (d.op ∈ [43, 62] → lowerP d.s) ∧ (d.op = 44 → lowerP d.s) ∧ (d.op ∈ [45, 46, 50, 63] → upperP d.s) ∧ (d.op ∈ [47, 64] → upperP d.s) := by
  have hb := h.2
  unfold ownB at hb
  simp only [List.mem_cons, List.not_mem_nil, or_false] at hb ⊢
  refine ⟨fun q => ?_, fun q => ?_, fun q => ?_, fun q => ?_, fun q => ?_⟩
  · rcases q with q | q | q | q <;> simp [q] at hb
    · exact hb
    · exact hb
    · exact hb.1
    · exact hb
  · rcases q with q | q
    · have := hw q
      simp [q, this] at hb
      exact hb.1
    · simp [q] at hb
      exact hb.1
  · simp [q] at hb
    exact hb.1
  · rcases q with q | q | q | q <;> simp [q] at hb <;> exact hb
  · rcases q with q | q <;> simp [q] at hb <;> exact hb
theorem one_own {g g1 g2 : G} {B : Nat} {s : Lab} (hn : NewL g g1 9 [.string (bstr s)]) (hB : B ≤ g.w.heap.size) (m : Ex g1 g2) : OwnE strE g2 B 9 (some ⟨g.w.heap.size, 0, none⟩) 1 1 [s] :=
  (OwnE.lit (E := strE) (xs := [s]) hn (Rws.single rfl) hB (by unfold maxLen; simp)).exm m
/-- binds. -/
theorem k61 : ∀ (t : Sy), size t ≤ 1048576 → ∀ (w : Bool) (dep : Nat), walkP t w dep → (t.dat.op = 43 → w = false) → ∀ {na : Option Addr} {nn nc : Nat} {a : Option Addr} {n c : Nat} {g : G}, TabG g → SynI g t na nn nc a n c →
    CallsP Tryz.prog 61 #[synV t na nn nc a n c] g fun v g' => ∃ oa on oc, v = .slice oa on oc ∧ OwnE strE g' g.w.heap.size 9 oa on oc (bindsT t) := by
  intro t
  induction t using Tr.ind with
  | h d l ih =>
    intro hsz w dep hwk hw na nn nc a n c g ht h
    refine call61 _ _ _ _ _ _ _ _ _ g _ ?_
    obtain ⟨hw1, hw2, hw3, hw4⟩ := walk_iff.1 hwk
    obtain ⟨f1, f2, f3, f4, f5⟩ := own_fits hw2 hw
    have hK : SlE synE g a n c l := h.kids
    have hl := hK.len
    have hcp := hK.le
    have hmx := hK.cap
    unfold maxLen at hmx
    have hll := len_sizeL l
    have hse : size (.mk d l) = sizeL l + 1 := rfl
    have hbe := binds_mk d l
    have low : ∀ k, (k = 1 ∨ k = 2) → lowerP d.s → fitsK k d.s := fun k hk hp => by unfold fitsK; rw [if_pos hk]; exact hp
    have upp : ∀ (k : Int) (s : Lab), ¬ (k = 1 ∨ k = 2) → upperP s → fitsK k s := fun k s hk hp => by unfold fitsK; rw [if_neg hk]; exact hp
    -- a list of one label
    have one : ∀ (k : Int) (g1 : G), Ex g g1 → 1 ≤ k ∧ k ≤ 5 → fitsK k d.s → bindsT (.mk d l) = [headK k ++ d.s] → CallsP Tryz.prog 88 #[.int .i64 k, .string (bstr d.s)] g1 fun v g2 => ∃ x : ByteArray, v = (.string x) ∧ ∀ g3 : G, NewL g2 g3 9 [(.string x)] → ∀ g4 : G, Ex g3 g4 →
        (fun (v : Value) (g' : G) => ∃ oa on oc, v = .slice oa on oc ∧ OwnE strE g' g.w.heap.size 9 oa on oc (bindsT (.mk d l))) (.slice (some ⟨g2.w.heap.size, 0, none⟩) 1 1) g4 := by
      intro k g1 m1 hk hf he
      refine (k88 k d.s hk hf g1 (ht.exm m1)).mono ?_
      rintro v g2 m2 rfl
      refine ⟨_, rfl, fun g3 n3 g4 m4 => ⟨_, _, _, rfl, ?_⟩⟩
      rw [he]
      exact one_own n3 (m1.trans m2).size m4
    unfold F61
    intro J hJ
    refine oneOfX [12, 41, 42, 61] (by simp) (fun g1 m1 => hJ _ g1 ?_)
    have z1 := m1.size
    refine ifP (fun q => by rw [if_pos (show d.op ∈ [12, 41, 42, 61] from q)] at hbe; exact one 1 g1 m1 (by omega) (low 1 (.inl rfl) (f1 q)) hbe) (fun q => ?_)
    rw [if_neg (show ¬ d.op ∈ [12, 41, 42, 61] from q)] at hbe
    intro J1 hJ1
    refine oneOf [43, 62] (hJ1 _ g1 ?_)
    refine ifP (fun q => by rw [if_pos (show d.op ∈ [43, 62] from q)] at hbe; exact one 2 g1 m1 (by omega) (low 2 (.inr rfl) (f2 q)) hbe) (fun q => ?_)
    rw [if_neg (show ¬ d.op ∈ [43, 62] from q)] at hbe
    refine ifEq (fun q => ?_) (fun q => ?_)
    · have q' : d.op = 44 := q
      rw [if_pos q'] at hbe
      have hkids : ∀ x ∈ l, upperP x.dat.s := by
        intro x hx
        have hsh := hw3
        change shapeP d l at hsh
        unfold shapeP at hsh
        simp [q'] at hsh
        have h45 : x.dat.op = 45 := by simpa using hsh.2.1 x hx
        have hxw := hw4 x hx
        exact (own_fits (walk_iff.1 hxw).2.1 (fun e => by omega)).2.2.2.1 (by simp [h45])
      refine (k88 2 d.s (by omega) (low 2 (.inr rfl) (f3 q)) g1 (ht.exm m1)).mono ?_
      rintro v g9 m9 rfl
      refine ⟨_, rfl, fun g10 n10 => ?_⟩
      have m09 := m1.trans m9
      have z9 := m09.size
      refine ⟨fun m oa on oc v g' => ∃ j : Nat, v = ((j : Nat) : Int) ∧ j + m = n ∧ OwnE strE g' g.w.heap.size 9 oa on oc ((hType ++ d.s) :: (l.take j).map (fun x => hCon ++ x.dat.s)), ⟨n, 0, rfl, by omega, by simpa using (show OwnE strE g10 g.w.heap.size 9 (some ⟨g9.w.heap.size, 0, none⟩) 1 1 [hType ++ d.s] from one_own n10 z9 (Ex.refl _))⟩, ?_⟩
      rintro m oa on oc v g11 le ⟨j, rfl, hj, ho⟩
      have le11 := (m09.le.trans n10.ex.le).trans le
      have hol := ho.len
      simp only [List.length_cons, List.length_map, List.length_take] at hol
      refine ifLt (fun hlt => ⟨⟨by omega, by omega⟩, ?_⟩) (fun hge g16 m16 => ⟨_, _, _, rfl, ?_⟩)
      · have gj := List.getElem?_eq_getElem (show j < l.length by omega)
        generalize l[j] = y at gj
        refine rdT (hK.mono le11) j rfl gj (fun na' nn' nc' ka kn kc hy g12 m12 => (k88 3 y.dat.s (by omega) (upp 3 _ (by omega) (hkids y (List.mem_of_getElem? gj))) g12 ((ht.mono le11).exm m12)).mono ?_)
        rintro v g13 m13 rfl
        refine ⟨_, rfl, fun g14 n14 => ?_⟩
        have m1113 := m12.trans m13
        obtain ⟨a', c', w', hr, g15, hw', hs, ho15, _, _⟩ := (ho.exm m1113).app1 E22 22 (Nat.le_trans le11.size m1113.size) n14 (x := hCon ++ y.dat.s) rfl (by omega) (by unfold maxLen; omega)
        refine ⟨a', on + 1, c', w', hr, g15, hw', hs, i64 (by omega) (by omega), m - 1, by omega, j + 1, by omega, by omega, ?_⟩
        rw [List.take_add_one, gj]
        simpa using ho15
      · rw [take_all (by omega), ← hbe] at ho
        exact ho.exm m16
    rw [if_neg (show ¬ d.op = 44 from q)] at hbe
    intro J2 hJ2
    refine oneOf [46, 50, 63] (hJ2 _ g1 ?_)
    refine ifP (fun q => by rw [if_pos (show d.op ∈ [46, 50, 63] from q)] at hbe; exact one 4 g1 m1 (by omega) (upp 4 _ (by omega) (f4 (List.mem_cons_of_mem _ q))) hbe) (fun q => ?_)
    rw [if_neg (show ¬ d.op ∈ [46, 50, 63] from q)] at hbe
    intro J3 hJ3
    refine oneOf [47, 64] (hJ3 _ g1 ?_)
    refine ifP (fun q => by rw [if_pos (show d.op ∈ [47, 64] from q)] at hbe; exact one 5 g1 m1 (by omega) (upp 5 _ (by omega) (f5 q)) hbe) (fun q => ?_)
    rw [if_neg (show ¬ d.op ∈ [47, 64] from q)] at hbe
    intro J4 hJ4
    refine oneOf [14, 15] (hJ4 _ g1 ?_)
    refine ifP (fun q => ?_) (fun q g31 m31 => ⟨none, 0, 0, rfl, by rw [if_neg (show ¬ d.op ∈ [14, 15] from q)] at hbe; rw [hbe]; exact OwnE.nil _ _ _⟩)
    rw [if_pos (show d.op ∈ [14, 15] from q)] at hbe
    have hkids : ∀ x ∈ l, x.dat.op ≠ 43 := by
      intro x hx e
      have hsh := hw3
      change shapeP d l at hsh
      have hb2 : belP 2 x.dat.op := by
        unfold shapeP at hsh
        have q0 : d.op = 14 ∨ d.op = 15 := by
          have q1 : d.op ∈ [14, 15] := q
          simpa using q1
        rcases q0 with q0 | q0
        · simp [q0] at hsh
          exact hsh.2.2 x hx
        · simp [q0] at hsh
          exact hsh.2.2.2 x hx
      rw [e] at hb2
      revert hb2
      unfold belP
      decide
    refine ⟨fun m oa on oc v g' => ∃ j : Nat, v = ((j : Nat) : Int) ∧ j + m = n ∧ OwnE strE g' g.w.heap.size 9 oa on oc (bindsL (l.take j)), ⟨n, 0, rfl, by omega, by simpa [bindsL] using OwnE.nil _ _ _⟩, ?_⟩
    rintro m oa on oc v g26 le ⟨j, rfl, hj, ho⟩
    have le26 := m1.le.trans le
    have hol := ho.len
    have hbl := bindsL_le (l.take j) (fun x _ => binds_le x)
    have hsl := sizeL_le l j
    refine ifLt (fun hlt => ⟨⟨by omega, by omega⟩, ?_⟩) (fun hge g30 m30 => ⟨_, _, _, rfl, ?_⟩)
    · have gj := List.getElem?_eq_getElem (show j < l.length by omega)
      generalize l[j] = y at gj
      have hin := List.mem_of_getElem? gj
      have hsy := size_mem hin
      refine rdT (hK.mono le26) j rfl gj (fun na' nn' nc' ka kn kc hy g27 m27 => (ih y hin (by omega) _ _ (hw4 y hin) (fun e => absurd e (hkids y hin)) ((ht.mono le26).exm m27) (hy.exm m27)).mono ?_)
      rintro v g28 m28 ⟨xa, xl, xc, rfl, hx⟩
      have m2628 := m27.trans m28
      have hxl := hx.len
      have hbx := binds_le y
      obtain ⟨a', c', w', hr, g29, hw', hs, ho29, _, _⟩ := (ho.exm m2628).app E22 22 (Nat.le_trans le26.size m2628.size) hx.sl (by omega) (by unfold maxLen; omega)
      refine ⟨xa, xl, xc, rfl, a', on + xl, c', w', hr, g29, hw', hs, i64 (by omega) (by omega), m - 1, by omega, j + 1, by omega, by omega, ?_⟩
      rw [bindsL_take gj]
      exact ho29
    · rw [take_all (by omega), ← hbe] at ho
      exact ho.exm m30
end Go.Proofs.YtkocjbgdmocmlaaGreatDoor
/- Scope: the reference's ascending lists. -/
set_option linter.unusedVariables false
namespace Go.Proofs.YtkocjbgdmocmlaaGreatDoor
open Go Go.Vc Go.RowKit Go.Syn

theorem insS_len (s : Lab) (L : List Lab) : (insS s L).length ≤ L.length + 1 := by
  induction L with
  | nil => simp [insS]
  | cons x r ih =>
    unfold insS
    repeat' split
    all_goals simp only [List.length_cons]
    all_goals omega
end Go.Proofs.YtkocjbgdmocmlaaGreatDoor
/- Scope: the reference's refers. -/
set_option linter.unusedVariables false
namespace Go.Proofs.YtkocjbgdmocmlaaGreatDoor
open Go Go.Vc Go.RowKit Go.Syn

end Go.Proofs.YtkocjbgdmocmlaaGreatDoor
/- Scope: what a tree binds, by the reference. -/
set_option linter.unusedVariables false
namespace Go.Proofs.YtkocjbgdmocmlaaGreatDoor
open Go Go.Vc Go.RowKit Go.Syn

end Go.Proofs.YtkocjbgdmocmlaaGreatDoor
/- Scope: paths of well-formed nodes; how many labels are free; the reference's free. -/
set_option linter.unusedVariables false
namespace Go.Proofs.YtkocjbgdmocmlaaGreatDoor
open Go Go.Vc Go.RowKit Go.Syn

theorem own_path {d : SynD} {w : Bool} (h : ownP d w) : pathOK d := by
  intro k hk
  have hb := h.2
  unfold ownB at hb
  have main : ∀ (low : Bool), pathP d.names low → (low = true → k = 1 ∨ k = 2) → (low = false → ¬ (k = 1 ∨ k = 2)) → ∃ x r, d.names = x :: r ∧ (if r = [] then fitsK k x else upperP x) := by
    rintro low ⟨h1, h2, h3, h4⟩ hl1 hl2
    cases hn : d.names with
    | nil => rw [hn] at h1; simp at h1
    | cons x r =>
      refine ⟨x, r, rfl, ?_⟩
      rw [hn] at h3 h4
      split
      · rename_i e
        subst e
        unfold fitsK
        cases low
        · rw [if_neg (hl2 rfl)]; simpa using h4
        · rw [if_pos (hl1 rfl)]; simpa using h4
      · rename_i e
        refine h3 x ?_
        cases r with
        | nil => exact absurd rfl e
        | cons y r => simp
  unfold kindO at hk
  simp only [List.mem_cons, List.not_mem_nil, or_false] at hk hb
  by_cases c1 : d.op = 23
  · rw [if_pos c1] at hk
    cases hk
    simp [c1] at hb
    exact main true hb (fun _ => .inl rfl) (fun h => by cases h)
  rw [if_neg c1] at hk
  by_cases c2 : d.op = 2 ∨ d.op = 66
  · rw [if_pos c2] at hk
    cases hk
    rcases c2 with c | c <;> simp [c] at hb <;> exact main true hb (fun _ => .inr rfl) (fun h => by cases h)
  rw [if_neg c2] at hk
  by_cases c3 : d.op = 14 ∨ d.op = 24
  · rw [if_pos c3] at hk
    cases hk
    rcases c3 with c | c <;> simp [c] at hb <;> exact main false hb (fun h => by cases h) (fun _ => by omega)
  rw [if_neg c3] at hk
  by_cases c4 : d.op = 34 ∨ d.op = 48 ∨ d.op = 49 ∨ d.op = 82
  · rw [if_pos c4] at hk
    cases hk
    rcases c4 with c | c | c | c <;> simp [c] at hb <;> exact main false hb (fun h => by cases h) (fun _ => by omega)
  rw [if_neg c4] at hk
  by_cases c5 : d.op = 5 ∨ d.op = 72
  · rw [if_pos c5] at hk
    cases hk
    rcases c5 with c | c <;> simp [c] at hb <;> exact main false hb (fun h => by cases h) (fun _ => by omega)
  rw [if_neg c5] at hk
  cases hk
theorem sortS_len (L : List Lab) : (sortS L).length ≤ L.length := by
  induction L with
  | nil => exact Nat.le_refl _
  | cons x r ih =>
    have := insS_len x (sortS r)
    show (insS x (sortS r)).length ≤ _
    simp only [List.length_cons]
    omega
theorem own_len (d : SynD) (B : List Lab) : (ownRef d B).length ≤ 1 := by
  unfold ownRef
  repeat' split
  all_goals simp
theorem freeL_le {d : SynD} : ∀ (l : List Sy) (C : List Lab), (∀ x ∈ l, ∀ B, (freeT x B).length ≤ size x) → (freeL l d C).length ≤ sizeL l
  | [], _, _ => Nat.le_refl _
  | t :: r, C, h => by
    have h1 := h t (by simp) C
    have h2 := freeL_le (d := d) r (C ++ addOf d t) (fun x hx => h x (by simp [hx]))
    show (freeT t C ++ freeL r d (C ++ addOf d t)).length ≤ _
    simp only [List.length_append, sizeL]
    omega
theorem free_len (t : Sy) : ∀ B, (freeT t B).length ≤ size t := by
  induction t using Tr.ind with
  | h d l ih =>
    intro B
    have h1 := own_len d B
    have h2 := freeL_le (d := d) l (B ++ extra d) (fun x hx B => ih x hx B)
    show (ownRef d B ++ freeL l d (B ++ extra d)).length ≤ sizeL l + 1
    simp only [List.length_append]
    omega
theorem freeL_append {d : SynD} : ∀ (a b : List Sy) (C : List Lab), freeL (a ++ b) d C = freeL a d C ++ freeL b d (C ++ a.flatMap (addOf d))
  | [], b, C => by simp [freeL]
  | t :: r, b, C => by
    show freeT t C ++ freeL (r ++ b) d (C ++ addOf d t) = (freeT t C ++ freeL r d (C ++ addOf d t)) ++ _
    rw [freeL_append r b, List.append_assoc, List.flatMap_cons, List.append_assoc]
theorem freeL_take {d : SynD} {l : List Sy} {j : Nat} {t : Sy} (h : l[j]? = some t) (C : List Lab) : freeL (l.take (j + 1)) d C = freeL (l.take j) d C ++ freeT t (C ++ (l.take j).flatMap (addOf d)) := by
  rw [List.take_add_one, h, freeL_append]
  simp [freeL]
theorem add_take {d : SynD} {l : List Sy} {j : Nat} {t : Sy} (h : l[j]? = some t) : (l.take (j + 1)).flatMap (addOf d) = (l.take j).flatMap (addOf d) ++ addOf d t := by
  rw [List.take_add_one, h]
  simp
theorem add_le (d : SynD) (t : Sy) : (addOf d t).length ≤ size t := by
  have h1 := binds_le t
  have h2 := size_pos t
  unfold addOf
  repeat' split
  · exact h1
  · simpa using h2
  · simp
theorem adds_le (d : SynD) (l : List Sy) : (l.flatMap (addOf d)).length ≤ sizeL l := by
  induction l with
  | nil => exact Nat.le_refl _
  | cons x r ih =>
    have := add_le d x
    simp only [List.flatMap_cons, List.length_append, sizeL]
    omega
theorem names42 {d : SynD} {w : Bool} (h : ownP d w) (e : d.op = 42) : d.names.length ≤ 9 ∧ ∀ x ∈ d.names, lowerP x := by
  have hb := h.2
  unfold ownB at hb
  simp [e] at hb
  exact ⟨hb.2.2.1, hb.2.2.2⟩
theorem extra_le {d : SynD} {w : Bool} (h : ownP d w) : (extra d).length ≤ 10 := by
  unfold extra
  split
  · simp
  · split
    · rename_i e
      have := (names42 h e).1
      simp only [List.length_cons, List.length_map]
      omega
    · split <;> simp
end Go.Proofs.YtkocjbgdmocmlaaGreatDoor
