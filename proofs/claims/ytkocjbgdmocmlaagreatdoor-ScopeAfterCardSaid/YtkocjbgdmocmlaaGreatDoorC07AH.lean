/- Joined texts. -/
import Derived.Test.YtkocjbgdmocmlaaGreatDoorShelf07r
import Derived.Test.YtkocjbgdmocmlaaGreatDoorVmute
import Derived.Test.YtkocjbgdmocmlaaGreatDoorVrow
import Derived.Test.YtkocjbgdmocmlaaGreatDoorSord
import Derived.Test.YtkocjbgdmocmlaaGreatDoorFnL10
import Derived.Test.YtkocjbgdmocmlaaGreatDoorC07AD
import Derived.Lib.AppendZeros
import Derived.Test.YtkocjbgdmocmlaaGreatDoorC07af
/- Scope: slices.Reverse, of units. -/
set_option linter.unusedVariables false
namespace Go.Proofs.YtkocjbgdmocmlaaGreatDoor
open Go Go.Vc Go.RowKit Go.Syn Go.Sort

theorem all2_rev {α β : Type} {R : α → β → Prop} {l : List α} {m : List β} (h : All2 R l m) : All2 R l.reverse m.reverse := by
  induction h with
  | nil => exact .nil
  | cons h1 _ ih => rw [List.reverse_cons, List.reverse_cons]; exact ih.append (.cons h1 .nil)
/-- Three cells. -/
abbrev Tri := { r : List Value // r.length = 3 ∧ ∀ u ∈ r, u.oneCell' = true }
instance : Inhabited Tri := ⟨⟨[.bool false, .bool false, .bool false], rfl, fun u hu => by simp at hu; subst hu; rfl⟩⟩
theorem tris : ∀ (rs : List (List Value)), (∀ r ∈ rs, r.length = 3 ∧ ∀ u ∈ r, u.oneCell' = true) → ∃ ts : List Tri, ts.map Subtype.val = rs
  | [], _ => ⟨[], rfl⟩
  | r :: rs, h => by
    obtain ⟨ts, e⟩ := tris rs (fun x hx => h x (by simp [hx]))
    exact ⟨⟨r, h r (by simp)⟩ :: ts, by rw [List.map_cons, e]⟩
theorem flat_tris (ts : List Tri) : (flatK (Subtype.val (p := fun r : List Value => r.length = 3 ∧ ∀ u ∈ r, u.oneCell' = true)) 3 ts.toArray).toList = (ts.map Subtype.val).flatten := by
  have hl : ∀ r ∈ ts.map Subtype.val, r.length = 3 := fun r hr => by
    obtain ⟨t, _, rfl⟩ := List.mem_map.1 hr
    exact t.2.1
  have hfl := flat_len hl
  rw [List.length_map] at hfl
  apply List.ext_getElem?
  intro j
  rw [Array.getElem?_toList]
  by_cases hj : j < ts.length * 3
  · have hd : j / 3 < ts.length := by omega
    have hg := flat_get hl (i := j / 3) (j := j % 3) (r := (ts[j / 3]).val) (by rw [List.getElem?_map, List.getElem?_eq_getElem hd]; rfl) (by omega)
    rw [show j / 3 * 3 + j % 3 = j by omega] at hg
    rw [hg, Array.getElem?_eq_getElem (by simpa using hj)]
    have hq := get_flatK (Subtype.val (p := fun r : List Value => r.length = 3 ∧ ∀ u ∈ r, u.oneCell' = true)) 3 ts.toArray j (by simpa using hj)
    rw [getElem!_pos _ j (by simpa using hj)] at hq
    rw [hq, getElem!_pos ts.toArray (j / 3) (by simpa using hd), List.getElem_toArray]
    have h3 := (ts[j / 3]).2.1
    rw [getElem!_pos (ts[j / 3]).val (j % 3) (by omega), List.getElem?_eq_getElem (by omega)]
  · rw [Array.getElem?_eq_none (by simp; omega), List.getElem?_eq_none (by omega)]
/-- slices.Reverse. -/
theorem k43 {g : G} {b n c : Nat} {xs : List UnitD} (h : MutE unitE g b 46 n c xs) : CallsG Tryz.prog 43 #[.slice (some ⟨b, 0, none⟩) n c] g (fun x => x = b) fun v g' => v = .tuple #[] ∧ MutE unitE g' b 46 n c xs.reverse := by
  obtain ⟨cur, h1, h2, h3⟩ := h.ex
  obtain ⟨rs, e1, hh⟩ := h3.ex
  have h2 : cur.length = c * 3 := h2
  have e1 : cur.take (n * 3) = rs.flatten := e1
  have hl := Rws.lens hh
  have hone := h3.one
  rw [show cur.take (n * unitE.m) = rs.flatten from e1] at hone
  have hrn : rs.length = n := by rw [hh.length, h.len]
  have hle := h.le
  have hcap := h.cap
  obtain ⟨ts, et⟩ := tris rs (fun r hr => ⟨hl r hr, fun u hu => hone u (List.mem_flatten.2 ⟨r, hr, hu⟩)⟩)
  have htn : ts.length = n := by rw [← hrn, ← et, List.length_map]
  have hb : g.w.heap[b]? = some (.cells ⟨cur⟩ 46 (0, 0)) := h1.blk
  have hF : (flatK Subtype.val 3 ts.toArray).toList = rs.flatten := by rw [flat_tris, et]
  have hFl : rs.flatten.length = n * 3 := by rw [flat_len hl, hrn]; rfl
  have hH : HoldsK Subtype.val 3 g.w b 0 ts.toArray := by
    have := hold_of (enc := id) (ss := (flatK Subtype.val 3 ts.toArray).toList) hb (by rw [hF, hFl, e1, List.map_id])
    simpa [HoldsK] using this
  have hc := Go.Proofs.AnyQ.slices_Reverse Go.Proofs.Tryz.revU 3 Tryz.isAgg46 Tryz.sizeOf46 Subtype.val (fun x => x.2.1) (fun x v hv => x.2.2 v hv) b 0 c ts.toArray g.w hH (by simp [maxLen] at hcap ⊢; omega)
  have hc : Calls Tryz.prog 43 #[.slice (some ⟨b, 0, none⟩) ts.toArray.size c] g.w _ := hc
  rw [List.size_toArray, htn] at hc
  refine Calls.mono hc ?_
  rintro ex w' ⟨rfl, m, rfl⟩
  have hF' : (flatK Subtype.val 3 ts.toArray.reverse).toList = rs.reverse.flatten := by
    rw [List.reverse_toArray, flat_tris, List.map_reverse, et]
  obtain ⟨F, eF⟩ : ∃ F, F = flatK Subtype.val 3 ts.toArray.reverse := ⟨_, rfl⟩
  have hFl' : F.toList.length = n * 3 := by rw [eF, hF', flat_len (m := 3) (fun r hr => hl r (List.mem_reverse.1 hr)), List.length_reverse, hrn]
  rw [← eF] at hF'
  show ∃ v g', _
  have hsz : g.w.heap.size ≤ (putRow id (Sort.ahead g.w m) b 0 F).heap.size := by rw [size_putRow]; exact Nat.le_refl _
  have hother : ∀ x, x < g.w.heap.size → x ≠ b → (putRow id (Sort.ahead g.w m) b 0 F).heap[x]? = g.w.heap[x]? := by
    intro x hx hne
    show ((g.w.heap.modify b (onCells (putCells id 0 F))))[x]? = _
    rw [Array.getElem?_modify, if_neg (fun h => hne h.symm)]
  have hbb : (putRow id (Sort.ahead g.w m) b 0 F).heap[b]? = some (.cells ⟨(putCells id 0 F ⟨cur⟩).toList⟩ 46 (0, 0)) := by
    show ((g.w.heap.modify b (onCells (putCells id 0 F))))[b]? = _
    rw [Array.getElem?_modify, if_pos rfl, hb]
    rfl
  obtain ⟨g', hw, hs, hm⟩ := h1.turn hsz hother hbb rfl rfl rfl
  refine ⟨_, g', rfl, by rw [hw, eF]; rfl, hs, rfl, ⟨⟨_, hm, by rw [put_len]; exact h2, rs.reverse, ?_, (all2_rev hh).imp fun _ _ => unitE.mono hs.le⟩, by rw [List.length_reverse]; exact h.len, h.le, h.cap⟩⟩
  have hpt := put_take (enc := id) cur F.toList (by rw [hFl', h2]; exact Nat.mul_le_mul_right _ hle)
  rw [hFl', List.map_id, Array.toArray_toList] at hpt
  exact hpt.trans hF'
end Go.Proofs.YtkocjbgdmocmlaaGreatDoor
/- Scope: slices.Clone and slices.Concat, of units. -/
set_option linter.unusedVariables false
namespace Go.Proofs.YtkocjbgdmocmlaaGreatDoor
open Go Go.Vc Go.RowKit Go.Syn Go.Sort

theorem E43 : Elem Tryz.prog 43 46 3 64 := ⟨Tryz.underlying43, by kernel_rfl⟩
/-- A row of units that is new. -/
def NewU (g : G) (B : Nat) (a : Option Addr) (n c : Nat) (xs : List UnitD) : Prop := (n = 0 ∧ SlE unitE g a n c xs) ∨ ∃ b, B ≤ b ∧ a = some ⟨b, 0, none⟩ ∧ MutE unitE g b 46 n c xs
theorem new_of {g g1 : G} (hs : Stp g.size nobody g g1) {a : Option Addr} {n c : Nat} {L : List Value} {xs : List UnitD} (h : OwnG g1 g.w.heap.size 46 3 a n c L) (hr : Rws unitE g L xs) :
    ∃ g', g'.w = g1.w ∧ Stp g.size nobody g g' ∧ NewU g' g.w.heap.size a n c xs := by
  have hlen : xs.length = n := by
    have h1 := h.len
    have h2 : L.length = xs.length * 3 := hr.len
    omega
  rcases Nat.eq_zero_or_pos n with h0 | h0
  · exact ⟨g1, rfl, hs, .inl ⟨h0, ⟨L, h.sl, hr.mono hs.le⟩, hlen⟩⟩
  · obtain ⟨b, g', e, hb, hw, hs', hm⟩ := own_mutE (E := unitE) hs h hr (by show 0 < n * 3; omega)
    exact ⟨g', hw, hs', .inr ⟨b, hb, e, hm⟩⟩
theorem calls_new {k : FuncId} {args : Array Value} {g : G} {L : List Value} {xs : List UnitD} (hr : Rws unitE g L xs) {n : Nat} (h : CallsP Tryz.prog k args g fun v g' => ∃ a c, v = .slice a n c ∧ OwnG g' g.w.heap.size 46 3 a n c L) :
    CallsP Tryz.prog k args g fun v g' => ∃ a c, v = .slice a n c ∧ NewU g' g.w.heap.size a n c xs := by
  refine CallsP.ghost h ?_
  rintro v g1 hs ⟨a, c, rfl, ho⟩
  obtain ⟨g', hw, hs', hm⟩ := new_of hs ho hr
  exact ⟨g', hw, hs', a, c, rfl, hm⟩
/-- slices.Clone. -/
theorem k48 {g : G} {a : Option Addr} {n c : Nat} {xs : List UnitD} (h : SlE unitE g a n c xs) (hn : n ≤ 1048576) : CallsP Tryz.prog 48 #[.slice a n c] g fun v g' => ∃ a' c', v = .slice a' n c' ∧ NewU g' g.w.heap.size a' n c' xs := by
  obtain ⟨L, hS, hR⟩ := h.ex
  refine calls_new hR ?_
  refine PL10.call48 a n c g _ ?_
  unfold PL10.F48
  refine ifT (fun q g1 m1 => ?_) (fun q g2 n2 => ?_)
  · have ha : a = none := by cases a with | none => rfl | some _ => cases q
    have hc := h.nil ha
    have hle := h.le
    have hl := h.len
    have hn0 : n = 0 := by omega
    subst hn0
    have hL : L = [] := List.eq_nil_of_length_eq_zero (by have := hS.len; omega)
    subst hL
    exact ⟨none, 0, rfl, OwnG.nil _ _ _ _⟩
  · obtain ⟨a', c', w', hr, g3, hw, hs, ho, _, _⟩ := OwnG.app E43 43 n2.ex.size (OwnG.lit (m := 3) n2 (n := 0) (Nat.le_refl g.w.heap.size) rfl (by simp)) (hS.mono n2.ex.le) hR.one (by omega) (by simp [maxLen]; omega)
    rw [Nat.zero_add] at hr ho
    rw [List.nil_append] at ho
    exact ⟨a', _, c', w', hr, g3, hw, hs, fun g4 m4 => ⟨_, _, rfl, ho.ex m4⟩⟩
/-- slices.Grow of nil. -/
theorem k91 (n : Nat) (hn : n ≤ 1048576) (g : G) : CallsP Tryz.prog 91 #[(.slice none 0 0), (.int .i64 (n : Int))] g fun v g' => ∃ a c, v = .slice a 0 c ∧ OwnG g' g.w.heap.size 46 3 a 0 c [] := by
  refine PL10.call91 none 0 0 n g _ ?_
  unfold PL10.F91
  intro J hJ
  refine ifLt (fun h => by omega) (fun _ => hJ g ⟨i64 (by omega) (by omega), i64 (by omega) (by omega), ifLt (fun h => ?_) (fun h g4 m4 => ⟨none, 0, rfl, OwnG.nil _ _ _ _⟩)⟩)
  obtain ⟨i, z, hi, hz, hs, hby, hzs, hm0⟩ := E43.info
  have e2 : ((n : Int) - (((0 : Nat) : Int) - ((0 : Nat) : Int))) = (n : Int) := by omega
  have hr := Lib.run_append_nil_zeros (P := Tryz.prog) g.w 43 3 43 46 i z .i64 .i64 Tryz.underlying43 Tryz.underlying3 hi hz n (by omega) (by omega) (by omega) (by rw [hby]; omega)
  have e1 : slAddr none 0 0 3 = none := rfl
  have hge := grownCap_ge g.w n 0 46
  have hcm := grownCap_le_maxLen g.w n 0 46 (by unfold maxLen; omega)
  refine ⟨⟨by omega, by omega⟩, _, _, _, _, by rw [e1, e2]; exact hr, ?_⟩
  have hsz : g.w.heap.size < (g.w.drew.alloc (.cells (Builtin.zeroCells z.cells n ++ Builtin.zeroCells z.cells (grownCap g.w n 0 46 - n)) 46)).heap.size := by simp
  obtain ⟨s1, s2⟩ := row_stp (hs := hsz) (k := 0) (M := nobody) (B := g.w.heap.size) (Nat.le_refl _) ⟨rfl, rfl, rfl⟩ (fun b hb => Below.heap_alloc g.w.drew _ b hb)
  refine ⟨_, rfl, s1, ⟨by omega, by omega⟩, fun g3 m3 => ?_⟩
  refine ⟨_, _, rfl, OwnG.ex ⟨by simp, Or.inr ⟨_, Builtin.zeroCells z.cells n ++ Builtin.zeroCells z.cells (grownCap g.w n 0 46 - n), ?_, Nat.le_refl _, ?_, by omega, ?_, ?_, by simp, ?_, by omega, ?_⟩⟩ m3⟩
  · unfold slAddr
    split
    · rfl
    · simp [Addr.add_zero']
  · show (g.w.heap.push _)[g.w.heap.size]? = _
    simp
  · simpa using hcm
  · have : z.cells.size = 3 := hzs
    simp [Builtin.zeroCells, this]
    show n * 3 + (grownCap g.w n 0 46 - n) * 3 = grownCap g.w n 0 46 * 3
    omega
  · intro hx
    exact absurd (g.hX _ hx) (by simp)
  · intro j _ _
    exact Or.inr ⟨rfl, Nat.zero_le _⟩
/-- slices.Concat of two. -/
theorem k42 {xs ys : List UnitD} {a : Option Addr} {xa ya : Option Addr} {xl xc yl yc : Nat} {g : G} (h : Sl g 1 a 2 2 [.slice xa xl xc, .slice ya yl yc]) (hx : SlE unitE g xa xl xc xs) (hy : SlE unitE g ya yl yc ys)
    (hl : xl + yl ≤ 1048576) : CallsP Tryz.prog 42 #[.slice a 2 2] g fun v g' => ∃ a' c', v = .slice a' (xl + yl) c' ∧ NewU g' g.w.heap.size a' (xl + yl) c' (xs ++ ys) := by
  obtain ⟨X, hX, hrX⟩ := hx.ex
  obtain ⟨Y, hY, hrY⟩ := hy.ex
  refine calls_new (hrX.append hrY) ?_
  refine PL10.call42 a 2 2 g _ ?_
  unfold PL10.F42
  refine ⟨fun m s v g' => ∃ i : Nat, v = i ∧ i + m = 2 ∧ s = ((([xl, yl].take i).sum : Nat) : Int), ⟨2, 0, rfl, rfl, rfl⟩, ?_⟩
  rintro m s v g1 le ⟨i, rfl, him, rfl⟩
  have h1 := h.mono le
  have pick : ∀ {K : Option Addr → Nat → Nat → Prop} {g1 : G}, Sl g1 1 a 2 2 [.slice xa xl xc, .slice ya yl yc] → ∀ i : Nat, i < 2 → (i = 0 → K xa xl xc) → (i = 1 → K ya yl yc) →
      derefP a fun ad => ∃ sa : Option Addr, ∃ sl : Nat, ∃ sc : Nat, g1.w.cell? (Addr.add ad (Int.toNat (i : Int) * 1)) = some (.slice sa sl sc) ∧ K sa sl sc := by
    intro K g1 h i hi k0 k1
    rw [Int.toNat_natCast, Nat.mul_one]
    rcases (by omega : i = 0 ∨ i = 1) with rfl | rfl
    · exact h.rd (k := 0) rfl fun ad _ hc => ⟨_, _, _, hc.1, k0 rfl⟩
    · exact h.rd (k := 1) rfl fun ad _ hc => ⟨_, _, _, hc.1, k1 rfl⟩
  refine ifLt (fun hlt => ⟨⟨by omega, by omega⟩, pick h1 i (by omega) ?_ ?_⟩) (fun hge => ?_)
  · rintro rfl
    exact ⟨i64 (by simp) (by simp; omega), ifLt (fun h => by simp at h; omega) fun _ => ⟨i64 (by omega) (by omega), m - 1, by omega, 1, by omega, by omega, by simp⟩⟩
  · rintro rfl
    exact ⟨i64 (by simp; omega) (by simp; omega), ifLt (fun h => by simp at h; omega) fun _ => ⟨i64 (by omega) (by omega), m - 1, by omega, 2, by omega, by omega, by simp⟩⟩
  · have : i = 2 := by omega
    subst this
    rw [show (([xl, yl].take 2).sum : Nat) = xl + yl by simp]
    refine (k91 (xl + yl) hl g1).mono ?_
    rintro v g2 m2 ⟨na, nc, rfl, ho⟩
    have hgs := le.size
    refine ⟨_, _, _, rfl, fun m na l nc v g3 => ∃ i : Nat, v = i ∧ i + m = 2 ∧ l = ([xl, yl].take i).sum ∧ g.w.heap.size ≤ g3.w.heap.size ∧ OwnG g3 g.w.heap.size 46 3 na l nc (([X, Y].take i).flatten), ⟨2, 0, rfl, rfl, rfl, Nat.le_trans hgs m2.size, ho.base hgs⟩, ?_⟩
    rintro m na l nc v g3 le3 ⟨i, rfl, him, rfl, hsz, ho⟩
    have hm : Le g g3 := (le.trans m2.le).trans le3
    have h3 := h.mono hm
    refine ifLt (fun hlt => ⟨⟨by omega, by omega⟩, pick h3 i (by omega) ?_ ?_⟩) (fun hge g5 m5 => ?_)
    · rintro rfl
      obtain ⟨a', c', w', hr, g4, hw, hs, ho', _, _⟩ := OwnG.app E43 43 hsz ho (hX.mono hm) hrX.one (by simp; omega) (by simp; unfold maxLen; omega)
      exact ⟨a', _, c', w', hr, g4, hw, hs, i64 (by omega) (by omega), m - 1, by omega, 1, by omega, by omega, by simp, Nat.le_trans hsz hs.le.size, by simpa using ho'⟩
    · rintro rfl
      obtain ⟨a', c', w', hr, g4, hw, hs, ho', _, _⟩ := OwnG.app E43 43 hsz ho (hY.mono hm) hrY.one (by simp; omega) (by simp; unfold maxLen; omega)
      exact ⟨a', _, c', w', hr, g4, hw, hs, i64 (by omega) (by omega), m - 1, by omega, 2, by omega, by omega, by simp, Nat.le_trans hsz hs.le.size, by simpa using ho'⟩
    · have : i = 2 := by omega
      subst this
      refine ⟨na, nc, by simp, ?_⟩
      have := ho.ex m5
      simpa using this
/-- slices.Reverse, of a new row, that then stands as it is. -/
theorem k43n {g : G} {B : Nat} {a : Option Addr} {n c : Nat} {xs : List UnitD} (h : NewU g B a n c xs) : ∃ M : Nat → Prop, (∀ b, b < B → ¬ M b) ∧ CallsG Tryz.prog 43 #[.slice a n c] g M fun v g' => v = .tuple #[] ∧ SlE unitE g' a n c xs.reverse := by
  rcases h with ⟨rfl, h⟩ | ⟨b, hb, rfl, h⟩
  · refine ⟨nobody, fun _ _ hh => hh, ?_⟩
    have hx : xs = [] := List.eq_nil_of_length_eq_zero h.len
    subst hx
    refine Calls.mono (Go.Proofs.AnyQ.slices_Reverse_empty Go.Proofs.Tryz.revU a c g.w) ?_
    rintro ex w' ⟨rfl, rfl⟩
    exact ⟨_, g, rfl, rfl, Stp.refl _ _ _, rfl, h⟩
  · refine ⟨fun x => x = b, fun x hx e => by omega, ?_⟩
    refine CallsG.ghost (k43 h) ?_
    rintro v g1 hs ⟨rfl, hm⟩
    exact ⟨g1.froz b, rfl, hs.froz (.inr rfl), rfl, hm.sl⟩
end Go.Proofs.YtkocjbgdmocmlaaGreatDoor
/- Scope: slices.DeleteFunc, of units, with a test that looks at the row itself. -/
set_option linter.unusedVariables false
namespace Go.Proofs.YtkocjbgdmocmlaaGreatDoor
open Go Go.Vc Go.RowKit Go.Syn Go.Sort

theorem zero46 (w : World) : (zeroValue 46).run Tryz.prog w = .ok (.agg ⟨[.string ⟨#[]⟩, .slice none 0 0, .slice none 0 0]⟩) w := by kernel_rfl
theorem k52 {g : G} {v : UnitD} {ia : Option Addr} {im ic : Nat} {da : Option Addr} {dn dc : Nat} {sb : Nat} {s : Lab} (hs : Live g ⟨sb, 0, none⟩ (.string (bstr s))) :
    CallsP Tryz.prog 52 #[unitV v ia im ic da dn dc, .pointer (some ⟨sb, 0, none⟩)] g fun x _ => x = .bool (tf (v.name = s)) := by
  refine PL10.call52 _ _ _ _ _ _ _ _ g _ ?_
  unfold PL10.F52
  exact fun g1 m1 => ⟨_, (hs.ex m1).1, fun g2 _ => by rw [strEq_bstr]⟩
theorem k51 {g : G} {lb : Nat} {a : Option Addr} {n c : Nat} {CL : List UnitD} (hl : Live g ⟨lb, 0, none⟩ (.slice a n c)) (hL : SlE unitE g a n c CL) (hn : n ≤ 1048576) (s : Lab) :
    CallsP Tryz.prog 51 #[.string (bstr s), .pointer (some ⟨lb, 0, none⟩)] g fun x _ => x = .bool (tf (∃ v ∈ CL, v.name = s)) := by
  refine PL10.call51 _ _ g _ ?_
  unfold PL10.F51
  refine fun g1 n1 => ⟨_, _, _, (hl.ex n1.ex).1, (k25 52 #[.pointer (some ⟨g.w.heap.size, 0, none⟩)] (fun v => v.name = s) CL (hL.exm n1.ex) hn ⟨_, Tryz.func52, by kernel_rfl, by kernel_rfl⟩ (fun g' u le hu ia im ic da dn dc hI => (k52 ((n1.at0 rfl).mono le)).mono (by
    rintro v _ _ rfl
    exact ⟨_, rfl, by rw [tf_true]⟩))).mono ?_⟩
  rintro v g2 _ rfl
  exact ⟨_, rfl, fun g3 _ => rfl⟩
/-- None of what the unit imports is a unit of the list. -/
def free50 (CL : List UnitD) (u : UnitD) : Prop := ¬ ∃ s ∈ u.imps, ∃ v ∈ CL, v.name = s
theorem k50 {g : G} {lb : Nat} {a : Option Addr} {n c : Nat} {CL : List UnitD} (hl : Live g ⟨lb, 0, none⟩ (.slice a n c)) (hL : SlE unitE g a n c CL) (hn : n ≤ 1048576) {u : UnitD} (hu : unitOK u) {ia : Option Addr} {im ic : Nat} {da : Option Addr} {dn dc : Nat}
    (hI : UnI g u ia im ic da dn dc) : CallsP Tryz.prog 50 #[unitV u ia im ic da dn dc, .pointer (some ⟨lb, 0, none⟩)] g fun x _ => x = .bool (tf (free50 CL u)) := by
  refine PL10.call50 _ _ _ _ _ _ _ _ g _ ?_
  unfold PL10.F50
  have hil := hI.imps.len
  have hib := hu.2.2
  refine fun g1 m1 => (k33x 51 #[.pointer (some ⟨lb, 0, none⟩)] (fun s => ∃ v ∈ CL, v.name = s) u.imps (hI.exm m1).imps (by omega) ⟨_, Tryz.func51, by kernel_rfl, by kernel_rfl⟩ (fun g' m' s hs => k51 ((hl.ex m1).ex m') ((hL.exm m1).exm m') hn s)).mono ?_
  rintro v g2 _ rfl
  exact ⟨_, rfl, fun g3 _ => by rw [tf_not]; rfl⟩
/-- A list of units at block b, in the variable lb. -/
structure LeftV (g : G) (lb b n c : Nat) (CL : List UnitD) : Prop where
  v : MutB g lb 43 [.slice (some ⟨b, 0, none⟩) n c]
  row : MutE unitE g b 46 n c CL
theorem LeftV.ex {g g' : G} {lb b n c : Nat} {CL : List UnitD} (h : LeftV g lb b n c CL) (m : Ex g g') : LeftV g' lb b n c CL := ⟨h.v.ex m, h.row.exm m⟩
theorem LeftV.thaw {g : G} {lb b n c : Nat} {CL : List UnitD} (h : LeftV g lb b n c CL) {k : FuncId} {args : Array Value} {Q : Value → Prop} (hc : Live ((g.froz b).froz lb) ⟨lb, 0, none⟩ (.slice (some ⟨b, 0, none⟩) n c) →
    SlE unitE ((g.froz b).froz lb) (some ⟨b, 0, none⟩) n c CL → Le g ((g.froz b).froz lb) → CallsP Tryz.prog k args ((g.froz b).froz lb) fun v _ => Q v) : CallsP Tryz.prog k args g fun v _ => Q v := by
  refine CallsP.thaw h.row.lt (CallsP.thaw (b := lb) (g := g.froz b) h.v.lt (hc ⟨h.v.rd0 rfl, h.v.nx, fun k => k.2 rfl⟩ (h.row.sl.mono (froz_le _ _)) ((froz_le g b).trans (froz_le _ _))) (fun v _ _ hq _ _ => hq)) (fun v _ _ hq _ _ => hq)
theorem k50m {g : G} {lb b n c : Nat} {CL : List UnitD} (h : LeftV g lb b n c CL) (hn : n ≤ 1048576) {u : UnitD} (hu : unitOK u) {ia : Option Addr} {im ic : Nat} {da : Option Addr} {dn dc : Nat} (hI : UnI g u ia im ic da dn dc) :
    CallsP Tryz.prog 50 #[unitV u ia im ic da dn dc, .pointer (some ⟨lb, 0, none⟩)] g fun x _ => x = .bool (tf (free50 CL u)) :=
  h.thaw fun hl hL le => k50 hl hL hn hu (hI.mono le)
theorem sl3 (ad : Addr) (c : Nat) : slAddr (some ad) c 0 3 = some ad := by
  unfold slAddr
  split
  · rfl
  · show some (ad.add (0 * 3)) = _
    rw [Nat.zero_mul, Addr.add_zero']
/-- slices.DeleteFunc: what imports one of a set of which each one does stays. -/
theorem k49 (S : Lab → Prop) {g : G} {lb b n c : Nat} {L : List UnitD} (h : LeftV g lb b n c L) (hne : lb ≠ b) (hn : n ≤ 1048576) (hu : ∀ u ∈ L, unitOK u) (hS : ∀ u ∈ L, S u.name → ∃ s ∈ u.imps, ∃ v ∈ L, v.name = s ∧ S s) :
    CallsG Tryz.prog 49 #[.slice (some ⟨b, 0, none⟩) n c, .func (.func 50) #[] #[.pointer (some ⟨lb, 0, none⟩)]] g (fun x => x = b) fun v g' =>
      ∃ n' L', v = .slice (some ⟨b, 0, none⟩) n' c ∧ n' ≤ n ∧ MutE unitE g' b 46 n' c L' ∧ (∀ u ∈ L', u ∈ L) ∧ ∀ u ∈ L, S u.name → u ∈ L' := by
  refine PL10.call49 _ n c 50 _ g _ _ ?_
  unfold PL10.F49
  have hlen := h.row.len
  have hle := h.row.le
  have he : Go.Vc.Enters Tryz.prog 50 := ⟨_, Tryz.func50, by kernel_rfl, by kernel_rfl⟩
  have H70 : CallsP Tryz.prog 70 #[.slice (some ⟨b, 0, none⟩) n c, .func (.func 50) #[] #[.pointer (some ⟨lb, 0, none⟩)]] g fun v _ => ∃ i : Int, v = .int .i64 i ∧ ((i = -1 ∧ ∀ u ∈ L, ¬ free50 L u) ∨ ∃ (j : Nat) (u : UnitD), i = ((j : Nat) : Int) ∧ L[j]? = some u ∧ free50 L u ∧ ∀ v ∈ L.take j, ¬ free50 L v) :=
    h.thaw fun hl hL le => k70 50 #[.pointer (some ⟨lb, 0, none⟩)] (free50 L) L hL hn he (fun g' u le' hu' ia im ic da dn dc hI => (k50 (hl.mono le') (hL.mono le') hn (hu u hu') hI).mono (by
      rintro v _ _ rfl
      exact ⟨_, rfl, by rw [tf_true]⟩))
  have hkeep : ∀ CL : List UnitD, ∀ u ∈ L, S u.name → (∀ v ∈ L, S v.name → v ∈ CL) → ¬ free50 CL u := by
    intro CL u hu' hs hv hf
    obtain ⟨s, h1, v, h2, h3, h4⟩ := hS u hu' hs
    exact hf ⟨s, h1, v, hv v h2 (by rw [h3]; exact h4), h3⟩
  refine H70.mono ?_
  rintro v g1 m1 ⟨i, rfl, hi⟩
  refine ⟨_, rfl, ?_⟩
  rcases hi with ⟨rfl, hno⟩ | ⟨j0, u0, rfl, hj0, hp0, hmin⟩
  · exact ifEq (fun _ g2 m2 => ⟨n, L, rfl, Nat.le_refl _, (h.row.exm m1).exm m2, fun _ h => h, fun _ h _ => h⟩) (fun hh => absurd rfl hh)
  have hjl := (List.getElem?_eq_some_iff.1 hj0).1
  refine ifEq (fun hh => by omega) (fun _ => ⟨i64 (by omega) (by omega), ?_⟩)
  refine ⟨fun m i j g' => ∃ (pp q : Nat) (CL : List UnitD), i = ((pp : Nat) : Int) ∧ j = ((q : Nat) : Int) ∧ q + m = n ∧ pp ≤ q ∧ LeftV g' lb b n c CL ∧ (∀ x, q ≤ x → CL[x]? = L[x]?) ∧ (∀ u ∈ CL.take pp, u ∈ L) ∧ (∀ u ∈ L, S u.name → u ∈ CL.take pp ∨ u ∈ L.drop q),
    ⟨n - (j0 + 1), j0, j0 + 1, L, rfl, by omega, by omega, by omega, h.ex m1, fun _ _ => rfl, fun u hu' => List.mem_of_mem_take hu', ?_⟩, ?_⟩
  · intro u hu' hs
    obtain ⟨x, hx⟩ := List.getElem?_of_mem hu'
    have hxl := (List.getElem?_eq_some_iff.1 hx).1
    rcases Nat.lt_trichotomy x j0 with hlt | rfl | hgt
    · exact .inl (List.mem_of_getElem? (i := x) (by rw [List.getElem?_take_of_lt hlt]; exact hx))
    · rw [hj0] at hx
      cases hx
      exact absurd hp0 (hkeep L _ hu' hs (fun _ h _ => h))
    · exact .inr (List.mem_of_getElem? (i := x - (j0 + 1)) (by rw [List.getElem?_drop]; rw [show j0 + 1 + (x - (j0 + 1)) = x by omega]; exact hx))
  rintro m i j g3 le3 ⟨pp, q, CL, rfl, rfl, hq, hpq, hV, hrest, hsub, hvis⟩
  have hCl := hV.row.len
  refine ifLt (fun hlt => ⟨⟨by omega, by omega⟩, ?_⟩) (fun hge => ⟨⟨by omega, by omega⟩, ?_⟩)
  · have gL := List.getElem?_eq_getElem (show q < L.length by omega)
    generalize L[q] = u at gL
    have gC : CL[q]? = some u := by rw [hrest q (Nat.le_refl _)]; exact gL
    have huL := List.mem_of_getElem? gL
    obtain ⟨r, ⟨ia, im, ic, da, dn, dc, rfl, hI⟩, hcell⟩ := hV.row.rd gC
    have hqq : Int.toNat ((q : Nat) : Int) * 3 = q * unitE.m := by rw [Int.toNat_natCast]; rfl
    have hpp1 : Int.toNat ((pp : Nat) : Int) * 3 = pp * unitE.m := by rw [Int.toNat_natCast]; rfl
    have c0 := hcell 0 _ rfl
    rw [Addr.add_zero'] at c0
    refine ⟨bstr u.name, ia, im, ic, da, dn, dc, by rw [hqq]; exact c0, by rw [hqq]; exact hcell 1 _ rfl, by rw [hqq]; exact hcell 2 _ rfl, fun g4 m4 => ⟨he, (k50m (hV.ex m4) hn (hu u huL) (hI.exm m4)).mono ?_⟩⟩
    rintro v g5 m5 rfl
    have hV5 := (hV.ex m4).ex m5
    have hI5 := (hI.exm m4).exm m5
    have hdrop : L.drop q = u :: L.drop (q + 1) := by rw [List.drop_eq_getElem_cons (show q < L.length by omega)]; congr 1; exact (Option.some.inj ((List.getElem?_eq_getElem (show q < L.length by omega)).symm.trans gL))
    have hall : ∀ v ∈ L, S v.name → v ∈ CL := by
      intro v hv hs
      rcases hvis v hv hs with h1 | h1
      · exact List.mem_of_mem_take h1
      · obtain ⟨x, hx⟩ := List.getElem?_of_mem h1
        rw [List.getElem?_drop] at hx
        exact List.mem_of_getElem? (i := q + x) (by rw [hrest _ (by omega)]; exact hx)
    refine ⟨_, rfl, ifPn (fun hp => ⟨⟨by omega, by omega⟩, ?_⟩) (fun hp => ⟨i64 (by omega) (by omega), m - 1, by omega, pp, q + 1, CL, rfl, by omega, by omega, by omega, hV5, fun x hx => hrest x (by omega), hsub, ?_⟩)⟩
    · obtain ⟨k1, k2, k3⟩ := hV5.row.ok (i := pp) (by omega)
      show stOk g5.w (Addr.add ⟨b, 0, none⟩ (Int.toNat ((pp : Nat) : Int) * 3)) 3 ∧ _
      rw [hpp1]
      refine ⟨k1, k2, k3, fun _ => by rw [add_block], fun g6 k6 => ?_⟩
      obtain ⟨h6, bt6⟩ := hV5.row.st (x := u) ⟨ia, im, ic, da, dn, dc, rfl, hI5⟩ (by omega) k6
      have hppl : pp < CL.length := by omega
      have htk : (CL.set pp u).take (pp + 1) = CL.take pp ++ [u] := by
        rw [List.take_add_one, List.take_set_of_le (Nat.le_refl _), List.getElem?_set_self hppl]
        rfl
      refine ⟨i64 (by omega) (by omega), i64 (by omega) (by omega), m - 1, by omega, pp + 1, q + 1, CL.set pp u, by omega, by omega, by omega, by omega, ⟨hV5.v.but bt6 hne, h6⟩, fun x hx => ?_, ?_, ?_⟩
      · rw [List.getElem?_set_ne (by omega)]
        exact hrest x (by omega)
      · rw [htk]
        intro v hv
        rcases List.mem_append.1 hv with hv | hv
        · exact hsub v hv
        · rw [List.mem_singleton] at hv; rw [hv]; exact huL
      · rw [htk]
        intro v hv hs
        rcases hvis v hv hs with h1 | h1
        · exact .inl (List.mem_append_left _ h1)
        · rw [hdrop] at h1
          rcases List.mem_cons.1 h1 with e | h1
          · exact .inl (List.mem_append_right _ (by rw [e]; simp))
          · exact .inr h1
    · intro v hv hs
      rcases hvis v hv hs with h1 | h1
      · exact .inl h1
      · rw [hdrop] at h1
        rcases List.mem_cons.1 h1 with e | h1
        · rw [e] at hv hs
          exact absurd hp (hkeep CL u hv hs hall)
        · exact .inr h1
  · have hqn : q = n := by omega
    subst hqn
    have hppN : Int.toNat ((pp : Nat) : Int) = pp := by omega
    obtain ⟨cur, h1, h2, h3⟩ := hV.row.ex
    have h2 : cur.length = c * 3 := h2
    have hcap := hV.row.cap
    obtain ⟨wo, hr, g6, cur', hw, hs, bt, hm6, hcl6, htk6⟩ := clear_row (P := Tryz.prog) E43 0 zero46 rfl (fun u hu => by simp [Value.cells] at hu; rcases hu with rfl | rfl | rfl <;> rfl) h1 (pp * 3) (q - pp) (c - pp) (by omega) (slAddr (some ⟨b, 0, none⟩) c (Int.toNat ((pp : Nat) : Int)) 3) (fun hlt => by
      rw [hppN]
      unfold slAddr
      rw [if_neg (by omega)]
      rfl) (B := g.w.heap.size) (M := fun x => x = b) (fun _ => rfl)
    refine ⟨wo, by rw [hppN] at hr ⊢; exact hr, g6, hw, hs, ⟨by omega, by omega⟩, fun g7 m7 => ⟨pp, CL.take pp, ?_, by omega, ?_, hsub, ?_⟩⟩
    · rw [sl3, hppN]; simp
    · refine MutE.exm ⟨⟨cur', hm6, by rw [hcl6]; exact h2, ?_⟩, by rw [List.length_take]; omega, by omega, hcap⟩ m7
      have := (h3.take pp).mono hs.le
      rw [List.take_take, Nat.min_eq_left (Nat.mul_le_mul_right _ hpq)] at this
      rw [show cur'.take (pp * unitE.m) = cur.take (pp * unitE.m) from htk6]
      exact this
    · intro u hu' hs'
      rcases hvis u hu' hs' with h1 | h1
      · exact h1
      · rw [List.drop_eq_nil_of_le (by omega)] at h1
        cases h1
end Go.Proofs.YtkocjbgdmocmlaaGreatDoor
/- Scope: the law ScopeAfter: what it asks of an order that is given. -/
set_option linter.unusedVariables false
namespace Go.Proofs.YtkocjbgdmocmlaaGreatDoor
open Go Go.Vc Go.RowKit Go.Syn Go.Sort

/-- ContainsFunc of units, by a test of which one side is known. -/
theorem k25a (f : FuncId) (c0 : Array Value) (q : UnitD → Prop) (L : List UnitD) {a : Option Addr} {n c : Nat} {g : G} (h : SlE unitE g a n c L) (hn : n ≤ 1048576) (he : Go.Vc.Enters Tryz.prog f)
    (hf : ∀ g' u, Le g g' → u ∈ L → ∀ ia im ic da dn dc, UnI g' u ia im ic da dn dc → CallsP Tryz.prog f (#[unitV u ia im ic da dn dc] ++ c0) g' fun v _ => ∃ b, v = .bool b ∧ (b = false → q u)) :
    CallsP Tryz.prog 25 #[.slice a n c, .func (.func f) #[] c0] g fun v _ => ∃ b, v = .bool b ∧ (b = false → ∀ u ∈ L, q u) := by
  have hl := h.len
  have k : CallsP Tryz.prog 70 #[.slice a n c, .func (.func f) #[] c0] g fun v _ => ∃ i : Int, v = .int .i64 i ∧ (i < 0 → ∀ u ∈ L, q u) := by
    refine call70 a n c f c0 g _ ?_
    unfold F70
    refine ⟨fun m i g' => ∃ j : Nat, i = ((j : Nat) : Int) ∧ j + m = n ∧ ∀ x ∈ L.take j, q x, ⟨n, 0, rfl, by omega, by simp⟩, ?_⟩
    rintro m i g1 le ⟨j, rfl, hj, hall⟩
    refine ifLt (fun hlt => ⟨⟨by omega, by omega⟩, ?_⟩) (fun hge g4 _ => ⟨_, rfl, fun _ => by rwa [take_all (by omega)] at hall⟩)
    have gj := List.getElem?_eq_getElem (show j < L.length by omega)
    generalize L[j] = u at gj
    refine rdUA (h.mono le) j rfl gj (fun ad ia im ic da dn dc hI hc => ?_)
    obtain ⟨c0', c1, c2⟩ := hc g1 (Le.refl _)
    refine ⟨_, _, _, _, _, _, _, c0', c1, c2, he, (hf g1 u le (List.mem_of_getElem? gj) ia im ic da dn dc hI).mono ?_⟩
    rintro v g2 _ ⟨b, rfl, hb⟩
    exact ⟨_, rfl, ifT (fun e g3 _ => ⟨_, rfl, fun hh => by omega⟩) (fun e => ⟨i64 (by omega) (by omega), m - 1, by omega, j + 1, by omega, by omega, (all_take gj _).2 ⟨hall, hb e⟩⟩)⟩
  refine call25 a n c f c0 g _ ?_
  unfold F25
  refine k.mono ?_
  rintro v g1 _ ⟨i, rfl, hi⟩
  refine ⟨_, rfl, fun g2 _ => ⟨_, rfl, fun hb => hi ?_⟩⟩
  rw [leI_false] at hb
  exact hb
/-- The place of a name. -/
def idxP (o : List Lab) (s : Lab) (i : Int) : Prop := (i = -1 ∧ s ∉ o) ∨ ∃ p : Nat, i = ((p : Nat) : Int) ∧ o[p]? = some s ∧ ∀ x < p, o[x]? ≠ some s
theorem k45i (L : List Lab) (s : Lab) {a : Option Addr} {n c : Nat} {g : G} (h : SlE strE g a n c L) (hn : n ≤ 1048576) : CallsP Tryz.prog 45 #[.slice a n c, .string (bstr s)] g fun v _ => ∃ i : Int, v = .int .i64 i ∧ idxP L s i := by
  refine PL10.call45 a n c _ g _ ?_
  have hl := h.len
  unfold PL10.F45
  refine ⟨fun m i g' => ∃ j : Nat, i = ((j : Nat) : Int) ∧ j + m = n ∧ ∀ x < j, L[x]? ≠ some s, ⟨n, 0, rfl, by omega, fun x hx => by omega⟩, ?_⟩
  rintro m i g1 le ⟨j, rfl, hj, hall⟩
  refine ifLt (fun hlt => ⟨⟨by omega, by omega⟩, ?_⟩) (fun hge g3 _ => ⟨_, rfl, ?_⟩)
  · have gj := List.getElem?_eq_getElem (show j < L.length by omega)
    refine rdS (h.mono le) j rfl gj (ifS (fun e g2 _ => ⟨_, rfl, ?_⟩) (fun e => ⟨i64 (by omega) (by omega), m - 1, by omega, j + 1, by omega, by omega, fun x hx => ?_⟩))
    · have := bstr_inj.1 e
      exact .inr ⟨j, rfl, by rw [gj, this], hall⟩
    · rcases (by omega : x < j ∨ x = j) with hx | rfl
      · exact hall x hx
      · rw [gj]
        exact fun hh => e (by rw [Option.some.inj hh])
  · refine .inl ⟨rfl, fun hm => ?_⟩
    obtain ⟨x, hx⟩ := List.getElem?_of_mem hm
    have := (List.getElem?_eq_some_iff.1 hx).1
    exact hall x (by omega) hx
/-- The order, at ob; the function that finds a name in it, at fb. -/
structure FindV (g : G) (ob fb : Nat) (oa : Option Addr) (on oc : Nat) (o : List Lab) : Prop where
  v : Live g ⟨ob, 0, none⟩ (.slice oa on oc)
  row : SlE strE g oa on oc o
  fn : Live g ⟨fb, 0, none⟩ (.func (.func 44) #[] ⟨[.pointer (some ⟨ob, 0, none⟩)]⟩)
  sm : on ≤ 1048576
theorem FindV.mono {g g' : G} {ob fb : Nat} {oa : Option Addr} {on oc : Nat} {o : List Lab} (h : FindV g ob fb oa on oc o) (m : Le g g') : FindV g' ob fb oa on oc o := ⟨h.v.mono m, h.row.mono m, h.fn.mono m, h.sm⟩
theorem k44 {g : G} {ob fb : Nat} {oa : Option Addr} {on oc : Nat} {o : List Lab} (h : FindV g ob fb oa on oc o) (s : Lab) : CallsP Tryz.prog 44 #[.string (bstr s), .pointer (some ⟨ob, 0, none⟩)] g fun v _ => ∃ i : Int, v = .int .i64 i ∧ idxP o s i := by
  refine PL10.call44 _ _ g _ ?_
  unfold PL10.F44
  refine ⟨_, _, _, h.v.1, (k45i o s h.row h.sm).mono ?_⟩
  rintro v g1 _ ⟨i, rfl, hi⟩
  exact ⟨_, rfl, fun g2 _ => ⟨_, rfl, hi⟩⟩
theorem idx_take {o : List Lab} {s : Lab} {p : Nat} (h : s ∈ o.take p) {i : Int} (hi : idxP o s i) : 0 ≤ i ∧ i < p := by
  obtain ⟨y, hy⟩ := List.getElem?_of_mem h
  rw [List.getElem?_take] at hy
  split at hy
  · next hyp =>
    rcases hi with ⟨_, hno⟩ | ⟨x, rfl, hx, hf⟩
    · exact absurd (List.mem_of_getElem? hy) hno
    · have : ¬ y < x := fun hh => hf y hh hy
      omega
  · cases hy
theorem idx_at {o : List Lab} {s : Lab} {p : Nat} (h1 : o[p]? = some s) (h2 : ∀ x < p, o[x]? ≠ some s) {i : Int} (hi : idxP o s i) : i = p := by
  rcases hi with ⟨_, hno⟩ | ⟨x, rfl, hx, hf⟩
  · exact absurd (List.mem_of_getElem? h1) hno
  · rcases Nat.lt_trichotomy x p with hlt | rfl | hgt
    · exact absurd hx (h2 x hlt)
    · rfl
    · exact absurd h1 (hf p hgt)
theorem k47 {g : G} {ob fb ab : Nat} {oa : Option Addr} {on oc : Nat} {o : List Lab} (h : FindV g ob fb oa on oc o) {p : Nat} (ha : Live g ⟨ab, 0, none⟩ (.int .i64 (p : Int))) {s : Lab} (hs : s ∈ o.take p) :
    CallsP Tryz.prog 47 #[.string (bstr s), .pointer (some ⟨fb, 0, none⟩), .pointer (some ⟨ab, 0, none⟩)] g fun v _ => v = .bool (tf False) := by
  refine PL10.call47 _ _ _ g _ ?_
  unfold PL10.F47
  refine ⟨_, _, h.fn.1, ⟨_, Tryz.func44, by kernel_rfl, by kernel_rfl⟩, (k44 h s).mono ?_⟩
  rintro v g1 m1 ⟨i, rfl, hi⟩
  obtain ⟨h1, h2⟩ := idx_take hs hi
  refine ⟨_, rfl, ifLt (fun hh => by omega) (fun _ => ⟨_, (ha.ex m1).1, fun g3 _ => ?_⟩)⟩
  rw [tf_le]
  exact congrArg Value.bool (tf_iff ⟨fun hh => by omega, fun hh => hh.elim⟩)
theorem k46 {g : G} {ob fb : Nat} {oa : Option Addr} {on oc : Nat} {o : List Lab} (h : FindV g ob fb oa on oc o) {u : UnitD} (hu : unitOK u) {p : Nat} (hp : o[p]? = some u.name) (hf : ∀ x < p, o[x]? ≠ some u.name) (hi : ∀ s ∈ u.imps, s ∈ o.take p)
    {ia : Option Addr} {im ic : Nat} {da : Option Addr} {dn dc : Nat} (hI : UnI g u ia im ic da dn dc) : CallsP Tryz.prog 46 #[unitV u ia im ic da dn dc, .pointer (some ⟨fb, 0, none⟩)] g fun v _ => v = .bool (tf False) := by
  refine PL10.call46 _ _ _ _ _ _ _ _ g _ ?_
  unfold PL10.F46
  have hil := hI.imps.len
  have hib := hu.2.2
  refine fun g1 m1 => ⟨_, _, (h.fn.ex m1).1, ⟨_, Tryz.func44, by kernel_rfl, by kernel_rfl⟩, (k44 (h.mono m1.le) u.name).mono ?_⟩
  rintro v g2 m2 ⟨i, rfl, hix⟩
  obtain rfl := idx_at hp hf hix
  refine ⟨_, rfl, fun g3 n3 => ?_⟩
  have hm := n3.mut
  have hsz : g.w.heap.size ≤ g2.w.heap.size := Nat.le_trans m1.size m2.size
  refine ⟨hm.ok0 (Nat.le_refl _), hm.nx, hm.mut0 _, fun hh => by
    have : g2.w.heap.size < g.w.heap.size := hh
    omega, fun g4 k4 => ?_⟩
  obtain ⟨hl, bt⟩ := hm.pub k4 rfl
  have hat : Live g4 ⟨g2.w.heap.size, 0, none⟩ (.int .i64 (p : Int)) := by have := hl 0 _ rfl; rwa [Addr.add_zero'] at this
  have le34 : Le g3 g4 := mut_le hm bt
  have le04 : Le g g4 := ((m1.le.trans m2.le).trans n3.ex.le).trans le34
  refine ⟨_, hat.1, ifLt (fun hh => by omega) (fun _ => (k33x 47 #[.pointer (some ⟨fb, 0, none⟩), .pointer (some ⟨g2.w.heap.size, 0, none⟩)] (fun _ => False) u.imps (hI.imps.mono le04) (by omega) ⟨_, Tryz.func47, by kernel_rfl, by kernel_rfl⟩
    (fun g' m' s hs => k47 (h.mono (le04.trans m'.le)) (hat.ex m') (hi s hs))).mono ?_)⟩
  rintro v g6 _ rfl
  exact ⟨_, rfl, fun g7 _ => congrArg Value.bool (tf_iff ⟨fun ⟨_, _, hh⟩ => hh, fun hh => hh.elim⟩)⟩
theorem k41 {u : UnitD} {ia : Option Addr} {im ic : Nat} {da : Option Addr} {dn dc : Nat} {g : G} (h : UnI g u ia im ic da dn dc) : CallsP Tryz.prog 41 #[unitV u ia im ic da dn dc] g fun v _ => ∃ b, v = .bool b ∧ (b = false → unitOK u) := by
  refine PL10.call41 _ _ _ _ _ _ _ g _ ?_
  unfold PL10.F41
  refine fun g1 m1 => (k27 (h.exm m1)).mono ?_
  rintro v g2 _ ⟨b, rfl, hb⟩
  exact ⟨_, rfl, fun g3 _ => ⟨_, rfl, fun e => (hb (by simpa using e)).1⟩⟩
theorem u16_of_wf {n : Int} (h : (Lit.int .u16 n).wf = true) : 0 ≤ n ∧ n ≤ 65535 := by
  simp only [Lit.wf, Bool.and_eq_true, IntKind.min, IntKind.max, IntKind.signed, IntKind.bits] at h
  simp at h
  omega
theorem orderN_len (L : List UnitD) : (orderN L).1.length ≤ L.length := by
  rcases orderN_cases L with ⟨_, h⟩ | ⟨h, _⟩ | ⟨_, _, h⟩
  · rw [h.1]; exact Nat.le_refl _
  · rw [h]; simp
  · rw [h]; simp
/-- ScopeAfter. -/
theorem law10 (L : List UnitD) {a : Option Addr} {n c : Nat} (seed : Int) (hs0 : 0 ≤ seed) (hs1 : seed ≤ 65535) {g : G} (ht : TabG g) (h : SlE unitE g a n c L) : CallsP Tryz.prog 10 #[.slice a n c, .int .u16 seed] g fun v _ => v = .bool true := by
  refine PL10.call10 a n c seed g _ ?_
  unfold PL10.F10
  refine (k11 g ht).mono ?_
  rintro v g1 m1 rfl
  refine ⟨_, rfl, ifF (fun hh => by cases hh) (fun _ => ?_)⟩
  intro J hJ
  have hl := h.len
  have HJ : n ≤ 16 → ∀ g3, Ex g g3 → (∀ u ∈ L, unitOK u) → J g3 := by
    intro hn16 g3 m3 hL
    refine hJ g3 ((k28 hL (ht.exm m3) (h.exm m3)).mono ?_)
    rintro v g4 m4 ⟨pa, pn, pc, rfl, hp⟩
    refine ⟨_, _, _, _, rfl, fun g5 n5 => ?_⟩
    have hm5 := n5.mut
    have sz4 : g.w.heap.size ≤ g4.w.heap.size := Nat.le_trans m3.size m4.size
    refine ⟨hm5.ok0 (Nat.le_refl _), hm5.nx, hm5.mut0 _, fun hh => absurd hh (by show ¬ g4.w.heap.size < g.w.heap.size; omega), fun g6 k6 => ?_⟩
    obtain ⟨hl6, bt6⟩ := hm5.pub k6 rfl
    have ho6 : Live g6 ⟨g4.w.heap.size, 0, none⟩ (.slice pa pn pc) := by have := hl6 0 _ rfl; rwa [Addr.add_zero'] at this
    have e46 : Ex g4 g6 := ((n5.ex.but _).trans bt6).ex (fun b hb _ e => by omega)
    intro g7 m7
    have m07 : Ex g g7 := ((m3.trans m4).trans e46).trans m7
    have h7 := h.exm m07
    obtain ⟨k, hk, hkn⟩ : ∃ k : Nat, Int.tmod seed (((n : Nat) : Int) + (1 : Int)) = (k : Int) ∧ k ≤ n := by
      have q0 : 0 ≤ Int.tmod seed (((n : Nat) : Int) + 1) := Int.tmod_nonneg _ hs0
      have q1 : Int.tmod seed (((n : Nat) : Int) + 1) < ((n : Nat) : Int) + 1 := Int.tmod_lt_of_pos _ (by omega)
      exact ⟨(Int.tmod seed (((n : Nat) : Int) + 1)).toNat, by omega, by omega⟩
    rw [hk]
    have hle := h.le
    refine ⟨i64 (by omega) (by omega), i64 (by omega) (by omega), by omega, ⟨by omega, by omega⟩, i64 (by omega) (by omega), i64 (by omega) (by omega), by omega, ⟨by omega, by omega⟩, fun g8 n8 => ?_⟩
    rw [Int.toNat_natCast] at n8
    have h8 := h7.exm n8.ex
    refine (k42 (n8.sl (m := 1) (n := 2) rfl (by unfold maxLen; omega)) (h8.drop (lo := k) hkn) (h8.take (hi := k) hkn) (by omega)).mono ?_
    rintro v g9 m9 ⟨ta, tc, rfl, hT⟩
    have sz8 : g.w.heap.size ≤ g8.w.heap.size := Nat.le_trans m07.size n8.ex.size
    obtain ⟨M, hM, hc43⟩ := k43n hT
    refine ⟨_, _, _, rfl, M, fun b hb hh => hM b (Nat.lt_of_lt_of_le hb sz8) hh, hc43.mono ?_⟩
    rintro v g10 hs10 ⟨rfl, hR⟩
    have hP : L.Perm (L.drop k ++ L.take k).reverse := by
      refine List.Perm.trans ?_ (List.reverse_perm _).symm
      refine List.Perm.trans ?_ List.perm_append_comm
      rw [List.take_append_drop]
    have le10 : Le g6 g10 := ((m7.le.trans n8.ex.le).trans m9.le).trans hs10.le
    have le06 : Le g g6 := ((m3.trans m4).trans e46).le
    refine ⟨rfl, (k28 (L := (L.drop k ++ L.take k).reverse) (fun u hu => hL u (hP.mem_iff.2 hu)) (ht.mono (le06.trans le10)) hR).mono ?_⟩
    rintro v g11 m11 ⟨qa, qn, qc, e, hq⟩
    rw [← orderN_perm hP] at e hq
    subst e
    refine ⟨_, _, _, _, rfl, ?_⟩
    intro J1 hJ1
    have le611 : Le g6 g11 := le10.trans m11.le
    have le46 : Le g4 g6 := e46.le
    have HJ1 : ∀ g12, Ex g11 g12 → J1 g12 := by
      intro g12 m12
      have le612 : Le g6 g12 := le611.trans m12.le
      have sz12 : g.w.heap.size ≤ g12.w.heap.size := (le06.trans le612).size
      refine hJ1 g12 (fun g13 n13 => ?_)
      have hm13 := n13.mut
      refine ⟨hm13.ok0 (Nat.le_refl _), hm13.nx, hm13.mut0 _, fun hh => absurd hh (by show ¬ g12.w.heap.size < g.w.heap.size; omega), fun g14 k14 => ?_⟩
      obtain ⟨hl14, bt14⟩ := hm13.pub k14 rfl
      have hf14 : Live g14 ⟨g12.w.heap.size, 0, none⟩ (.func (.func 44) #[] ⟨[.pointer (some ⟨g4.w.heap.size, 0, none⟩)]⟩) := by have := hl14 0 _ rfl; rwa [Addr.add_zero'] at this
      have le1214 : Le g12 g14 := n13.ex.le.trans (mut_le hm13 bt14)
      have le614 : Le g6 g14 := le612.trans le1214
      have h14 : SlE unitE g14 a n c L := h.mono (le06.trans le614)
      have sz14 : g.w.heap.size ≤ g14.w.heap.size := (le06.trans le614).size
      have hpl := hp.len
      have hol := orderN_len L
      have hF : FindV g14 g4.w.heap.size g12.w.heap.size pa pn pc (orderN L).1 := ⟨ho6.mono le614, hp.mono (le46.trans le614), hf14, by omega⟩
      rcases orderN_cases L with ⟨e0, hg⟩ | ⟨e1, hst⟩ | ⟨e2, e3, e4⟩
      · refine ifEq (fun _ => ⟨_, _, _, hF.v.1, ifEq (fun _ => ?_) (fun hh => absurd (by have := hg.1; omega) hh)⟩) (fun hh => absurd e0 hh)
        refine (k25 46 #[.pointer (some ⟨g12.w.heap.size, 0, none⟩)] (fun _ => False) L h14 (by omega) ⟨_, Tryz.func46, by kernel_rfl, by kernel_rfl⟩ (fun g' u le hu ia im ic da dn dc hI => ?_)).mono ?_
        · obtain ⟨p, p1, p2, p3⟩ := hg.2 u hu
          refine (k46 (hF.mono le) (hL u hu) p1 p2 p3 hI).mono ?_
          rintro v _ _ rfl
          exact ⟨_, rfl, by rw [tf_true]⟩
        · rintro v g15 _ rfl
          refine ⟨_, rfl, fun g16 _ => ?_⟩
          rw [tf_no (fun ⟨_, _, hh⟩ => hh)]
          rfl
      · have e12 : (orderN L).2 = 21 := by rw [e1]
        have e10 : pn = 0 := by rw [← hpl, e1]; rfl
        obtain ⟨S, hex, hS⟩ := hst
        refine ifEq (fun hh => by rw [e12] at hh; omega) (fun _ => ifEq (fun _ => ?_) (fun hh => absurd e12 hh))
        refine (k48 h14 (by omega)).mono ?_
        rintro v g18 m18 ⟨xa, xc, rfl, hN⟩
        rcases hN with ⟨h0, _⟩ | ⟨b, hb, rfl, hM18⟩
        · obtain ⟨u, hu, _⟩ := hex
          have := List.length_pos_of_mem hu
          omega
        refine ⟨_, _, _, rfl, fun g19 n19 => ?_⟩
        have hm19 := n19.mut
        have sz18 : g.w.heap.size ≤ g18.w.heap.size := Nat.le_trans sz14 m18.size
        have hbl := hM18.lt
        have hne : g18.w.heap.size ≠ b := by omega
        refine ⟨hm19.ok0 (Nat.le_refl _), hm19.nx, hm19.mut0 _, fun hh => absurd hh (by show ¬ g18.w.heap.size < g.w.heap.size; omega), fun g20 k20 => ?_⟩
        obtain ⟨hv20, bt20⟩ := hm19.st0 k20
        rw [set1] at hv20
        have hM20 := (hM18.exm n19.ex).but bt20 (fun e => hne e.symm) (mut_le hm19 bt20)
        have le1420 : Le g14 g20 := (m18.le.trans n19.ex.le).trans (mut_le hm19 bt20)
        refine ⟨fun m g' => m ≤ n ∧ ∃ CL, LeftV g' g18.w.heap.size b m xc CL ∧ (∀ u ∈ CL, u ∈ L) ∧ ∀ u ∈ L, S u.name → u ∈ CL, ⟨n, Nat.le_refl _, L, ⟨hv20, hM20⟩, fun _ h => h, fun _ h _ => h⟩, ?_⟩
        rintro m g21 le21 ⟨hmn, CL, hV, hsub, hvis⟩
        refine ⟨_, _, _, hV.v.rd0 rfl, _, _, _, hV.v.rd0 rfl, fun x => x = b, fun x hx e => absurd hx (by omega), (k49 S hV hne (by omega) (fun u hu => hL u (hsub u hu)) (fun u hu hs => ?_)).mono ?_⟩
        · obtain ⟨s, h1, v, h2, h3, h4⟩ := hS u (hsub u hu) hs
          exact ⟨s, h1, v, hvis v h2 (by rw [h3]; exact h4), h3, h4⟩
        rintro v g22 hs22 ⟨n', L', rfl, hn', hM22, hsub', hvis'⟩
        have hv22 := hV.v.but (hs22.but (Nat.le_refl _)) hne
        refine ⟨_, _, _, rfl, hv22.ok0 (Nat.le_refl _), hv22.nx, hv22.mut0 _, fun hh => absurd hh (by show ¬ g18.w.heap.size < g.w.heap.size; omega), fun g23 k23 => ?_⟩
        obtain ⟨hv23, bt23⟩ := hv22.st0 k23
        rw [set1] at hv23
        have hM23 := hM22.but bt23 (fun e => hne e.symm) (mut_le hv22 bt23)
        have le1423 : Le g14 g23 := ((le1420.trans le21).trans hs22.le).trans (mut_le hv22 bt23)
        refine ⟨_, _, _, hv23.rd0 rfl, ifEq (fun e => ?_) (fun e => ⟨n', by omega, by omega, L', ⟨hv23, hM23⟩, fun u hu => hsub u (hsub' u hu), fun u hu hs => hvis' u (hvis u hu hs) hs⟩)⟩
        refine ifLt (fun _ => ⟨_, _, _, (hF.v.mono le1423).1, fun g24 _ => by rw [e10]; simp [eqI]⟩) (fun hh => ?_)
        obtain ⟨u, hu, hs⟩ := hex
        have h1 := List.length_pos_of_mem (hvis' u (hvis u hu hs) hs)
        have h2 := hM22.len
        omega
      · have e10 : pn = 0 := by rw [← hpl, e4]; rfl
        exact ifEq (fun hh => absurd hh e2) (fun _ => ifEq (fun hh => absurd hh e3) (fun _ => ⟨_, _, _, hF.v.1, fun g26 _ => by rw [e10]; simp [eqI]⟩))
    refine ifNe (fun hh => absurd rfl hh) (fun _ => ⟨_, _, _, (ho6.mono le611).1, (kk21 _ _ (hp.mono (le46.trans le611)) hq).mono ?_⟩)
    rintro v g28 m28 rfl
    exact ⟨_, rfl, ifPn (fun hh => absurd rfl hh) (fun _ => HJ1 g28 m28)⟩
  refine ifLt (fun _ g30 _ => rfl) (fun q => ?_)
  refine (k25a 41 #[] unitOK L (h.exm m1) (by omega) ⟨_, Tryz.func41, by kernel_rfl, by kernel_rfl⟩ (fun g' u le hu ia im ic da dn dc hI => k41 hI)).mono ?_
  rintro v g31 m31 ⟨b, rfl, hb⟩
  exact ⟨_, rfl, ifT (fun _ g32 _ => rfl) (fun e => HJ (by omega) g31 (m1.trans m31) (hb e))⟩
end Go.Proofs.YtkocjbgdmocmlaaGreatDoor
