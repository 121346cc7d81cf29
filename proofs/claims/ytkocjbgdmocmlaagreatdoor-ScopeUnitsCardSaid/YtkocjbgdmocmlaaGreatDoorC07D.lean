/- Scope: slices.DeleteFunc, of strings. -/
import Derived.Test.YtkocjbgdmocmlaaGreatDoorC07AD
import Derived.Test.YtkocjbgdmocmlaaGreatDoorVclear
import Derived.Test.YtkocjbgdmocmlaaGreatDoorFnD
set_option linter.unusedVariables false
namespace Go.Proofs.YtkocjbgdmocmlaaGreatDoor
open Go Go.Vc Go.RowKit Go.Syn

theorem zero9 (w : World) : (zeroValue 9).run Tryz.prog w = .ok (.string ⟨#[]⟩) w := by kernel_rfl
noncomputable def keepS (p : Lab → Prop) (l : List Lab) : List Lab := l.filter fun s => tf (¬ p s)
theorem keep_take {p : Lab → Prop} {zs : List Lab} {q : Nat} {s : Lab} (h : zs[q]? = some s) : keepS p (zs.take (q + 1)) = keepS p (zs.take q) ++ if tf (¬ p s) = true then [s] else [] := by
  unfold keepS
  rw [List.take_add_one, h]
  simp [List.filter_append, List.filter_cons]
theorem keep_all {p : Lab → Prop} {zs : List Lab} (h : ∀ s ∈ zs, ¬ p s) : keepS p zs = zs := List.filter_eq_self.2 fun s hs => tf_of (h s hs)
theorem mem_keep {p : Lab → Prop} {zs : List Lab} {s : Lab} : s ∈ keepS p zs ↔ s ∈ zs ∧ ¬ p s := by unfold keepS; rw [List.mem_filter, tf_true]
theorem sl0 (ad : Addr) (c : Nat) : slAddr (some ad) c 0 1 = some ad := by
  unfold slAddr
  split
  · rfl
  · show some (ad.add (0 * 1)) = _
    rw [Nat.zero_mul, Addr.add_zero']
theorem k16 (f : FuncId) (c0 : Array Value) (p : Lab → Prop) {g : G} {B : Nat} {a : Option Addr} {n c : Nat} {zs : List Lab} (h : MutR g B 9 1 a n c (zs.map encStr)) (hn : n ≤ 1048576) (he : Go.Vc.Enters Tryz.prog f)
    (hf : ∀ g', Le g g' → ∀ s ∈ zs, CallsP Tryz.prog f (#[.string (bstr s)] ++ c0) g' fun v _ => v = .bool (tf (p s))) :
    CallsG Tryz.prog 16 #[.slice a n c, .func (.func f) #[] c0] g (blkOf a) fun v g' => ∃ n', v = .slice a n' c ∧ n' ≤ n ∧ MutR g' B 9 1 a n' c ((keepS p zs).map encStr) := by
  have hlen : zs.length = n := by have := h.len; simpa using this
  refine P16.call16 a n c f c0 g _ _ ?_
  unfold P16.F16
  rcases h.row with ⟨rfl, rfl, rfl⟩ | ⟨b, cur0, rfl, r1, r2, r3, r4, r5, r6⟩
  · have hz : zs = [] := List.eq_nil_of_length_eq_zero hlen
    subst hz
    refine (k63 f c0 p [] (SlE.zero g) (by omega) he (fun g' m' s hs => by cases hs)).mono ?_
    rintro v g1 m1 ⟨i, rfl, ⟨rfl, _⟩ | ⟨j, s, _, hh, _⟩⟩
    · exact ⟨_, rfl, ifEq (fun _ g2 m2 => ⟨0, rfl, Nat.le_refl _, by simpa [keepS] using (h.ex m1).ex m2⟩) (fun hh => absurd rfl hh)⟩
    · simp at hh
  · have hfz : SlE strE (g.froz b) (some ⟨b, 0, none⟩) n c zs := strs_sle h.frozen hlen
    refine CallsP.thaw r2.lt (k63 f c0 p zs hfz hn he (fun g' m' s hs => hf g' ((froz_le g b).trans m'.le) s hs)) ?_
    rintro v gx g1 ⟨i, rfl, hi⟩ m1 _
    refine ⟨_, rfl, ?_⟩
    rcases hi with ⟨rfl, hno⟩ | ⟨j0, s0, rfl, hj0, hp0, hmin⟩
    · exact ifEq (fun _ g2 m2 => ⟨n, rfl, Nat.le_refl _, by rw [keep_all hno]; exact (h.ex m1).ex m2⟩) (fun hh => absurd rfl hh)
    have hjl := (List.getElem?_eq_some_iff.1 hj0).1
    refine ifEq (fun hh => by omega) (fun _ => ⟨i64 (by omega) (by omega), ?_⟩)
    have hk0 : keepS p (zs.take (j0 + 1)) = zs.take j0 := by
      rw [keep_take hj0, keep_all hmin, if_neg (by rw [tf_true]; exact fun hh => hh hp0), List.append_nil]
    refine ⟨fun m i j g' => ∃ (pp q : Nat) (cur : List Value), i = ((pp : Nat) : Int) ∧ j = ((q : Nat) : Int) ∧ q + m = n ∧ pp ≤ q ∧ pp = (keepS p (zs.take q)).length ∧ MutB g' b 9 cur ∧ cur.length = c ∧ cur.take pp = (keepS p (zs.take q)).map encStr ∧ (∀ x, q ≤ x → x < n → cur[x]? = (zs.map encStr)[x]?),
      ⟨n - (j0 + 1), j0, j0 + 1, cur0, rfl, by omega, by omega, by omega, by rw [hk0, List.length_take]; omega, r2.ex m1, by simpa using r5, ?_, ?_⟩, ?_⟩
    · rw [hk0, List.map_take, ← r6, List.take_take, Nat.min_eq_left (by omega)]
    · intro x _ hx
      have := congrArg (fun l : List Value => l[x]?) r6
      simp only [Nat.mul_one] at this
      rw [List.getElem?_take_of_lt hx] at this
      exact this
    rintro m i j g3 le3 ⟨pp, q, cur, rfl, rfl, hq, hpq, hpp, hm, hcl, htk, hrest⟩
    have le03 : Le g g3 := m1.le.trans le3
    refine ifLt (fun hlt => ⟨⟨by omega, by omega⟩, ?_⟩) (fun hge => ⟨⟨by omega, by omega⟩, ?_⟩)
    · have gq := List.getElem?_eq_getElem (show q < zs.length by omega)
      generalize zs[q] = s at gq
      have hcq : cur[q]? = some (.string (bstr s)) := by rw [hrest q (Nat.le_refl _) (by omega), List.getElem?_map, gq]; rfl
      have hqq : Int.toNat ((q : Nat) : Int) * 1 = q := by omega
      have hpp1 : Int.toNat ((pp : Nat) : Int) * 1 = pp := by omega
      refine ⟨bstr s, by rw [hqq]; exact hm.rd hcq, he, (hf g3 le03 s (List.mem_of_getElem? gq)).mono ?_⟩
      rintro v g4 m4 rfl
      have hm4 := hm.ex m4
      refine ⟨_, rfl, ifPn (fun hp => ⟨⟨by omega, by omega⟩, ?_⟩) (fun hp => ⟨i64 (by omega) (by omega), m - 1, by omega, pp, q + 1, cur, rfl, by omega, by omega, by omega, ?_, hm4, hcl, ?_, fun x hx hxn => hrest x (by omega) hxn⟩)⟩
      · show stOk g4.w (Addr.add ⟨b, 0, none⟩ (Int.toNat ((pp : Nat) : Int) * 1)) 1 ∧ _
        rw [hpp1]
        refine ⟨hm4.ok (by omega), hm4.nxA _, hm4.mutA _ _, fun _ => ⟨_, rfl, (add_block _ _).symm⟩, fun g5 k5 => ?_⟩
        obtain ⟨hm5, bt5⟩ := hm4.st k5
        rw [setsAt_one] at hm5
        have hkt := keep_take (p := p) gq
        rw [if_pos (tf_of hp)] at hkt
        refine ⟨i64 (by omega) (by omega), i64 (by omega) (by omega), m - 1, by omega, pp + 1, q + 1, cur.set pp (.string (bstr s)), by omega, by omega, by omega, by omega, ?_, hm5, by rw [List.length_set]; exact hcl, ?_, fun x hx hxn => ?_⟩
        · rw [hkt, List.length_append, ← hpp]; rfl
        · rw [List.take_add_one, List.take_set_of_le (Nat.le_refl _), htk, List.getElem?_set_self (by omega), hkt, List.map_append]
          rfl
        · rw [List.getElem?_set_ne (by omega)]
          exact hrest x (by omega) hxn
      · rw [keep_take gq, if_neg (by rw [tf_true]; exact fun hh => hh hp), List.append_nil]
        exact hpp
      · rw [keep_take gq, if_neg (by rw [tf_true]; exact fun hh => hh hp), List.append_nil]
        exact htk
    · have hqn : zs.take q = zs := take_all (by omega)
      rw [hqn] at hpp htk
      have hppN : Int.toNat ((pp : Nat) : Int) = pp := by omega
      obtain ⟨wo, hr, g6, cur', hw, hs, _, hm6, hcl6, htk6⟩ := clear_row (P := Tryz.prog) E22 0 zero9 rfl (fun u hu => by simp [Value.cells] at hu; subst hu; rfl) hm pp (n - pp) (c - pp) (by omega) (slAddr (some ⟨b, 0, none⟩) c (Int.toNat ((pp : Nat) : Int)) 1) (fun hlt => by
        rw [hppN]
        unfold slAddr
        rw [if_neg (by omega)]
        show some (Addr.add _ (pp * 1)) = _
        rw [Nat.mul_one]) (B := g.w.heap.size) (M := blkOf (some ⟨b, 0, none⟩)) (fun _ => ⟨_, rfl, rfl⟩)
      refine ⟨wo, by rw [hppN] at hr ⊢; exact hr, g6, hw, hs, ⟨by omega, by omega⟩, fun g7 m7 => ⟨pp, ?_, by omega, ?_⟩⟩
      · rw [sl0, hppN]; simp
      · refine MutR.ex ⟨by rw [List.length_map, ← hpp]; omega, .inr ⟨b, cur', rfl, r1, hm6, by omega, r4, by omega, ?_⟩⟩ m7
        rw [Nat.mul_one, htk6, htk]
end Go.Proofs.YtkocjbgdmocmlaaGreatDoor
