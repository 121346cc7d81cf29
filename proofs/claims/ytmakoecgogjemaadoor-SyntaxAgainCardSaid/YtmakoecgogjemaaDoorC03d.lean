/- Syntax trees: lists of parts. -/
import Derived.Test.YtmakoecgogjemaaDoorC03c
set_option linter.unusedVariables false
namespace Go.Proofs.YtmakoecgogjemaaDoor
open Go Go.Vc Go.RowKit Go.Syn

/-- What a function that is handed to ContainsFunc does at the place j. -/
def Stage (f : FuncId) (c0 : Array Value) (g : G) (M : Nat → Prop) (L : List Sy) (I : Nat → G → Prop) (Q : G → Prop) : Prop :=
  ∀ g' j t, Le g g' → g.w.heap.size ≤ g'.w.heap.size → L[j]? = some t → I j g' → ∀ na nn nc ka kn kc, SynI g' t na nn nc ka kn kc →
    ∃ M1 : Nat → Prop, (∀ b, b < g.w.heap.size → M1 b → M b) ∧ CallsG Tryd.prog f (#[synV t na nn nc ka kn kc] ++ c0) g' M1 fun v g2 => ∃ b, v = .bool b ∧ (b = true → Q g2) ∧ (b = false → I (j + 1) g2)
theorem k55 (f : FuncId) (c0 : Array Value) (M : Nat → Prop) (I : Nat → G → Prop) (Q : G → Prop) (L : List Sy) {a : Option Addr} {n c : Nat} {g : G} (h : SlE synE g a n c L) (he : Go.Vc.Enters Tryd.prog f)
    (hI : ∀ j g1 g2, Ex g1 g2 → I j g1 → I j g2) (hQ : ∀ g1 g2, Ex g1 g2 → Q g1 → Q g2) (h0 : I 0 g) (hf : Stage f c0 g M L I Q) :
    CallsG Tryd.prog 55 #[.slice a n c, .func (.func f) #[] c0] g M fun v g' => ∃ i : Int, v = .int .i64 i ∧ ((0 ≤ i ∧ Q g') ∨ (i < 0 ∧ I L.length g')) := by
  refine call55 a n c f c0 g M _ ?_
  have hl := h.len
  have hc := h.le
  have hm := h.cap
  unfold maxLen at hm
  unfold F55
  refine ⟨fun m i g' => ∃ j : Nat, i = ((j : Nat) : Int) ∧ j + m = n ∧ I j g' ∧ g.w.heap.size ≤ g'.w.heap.size, ⟨n, 0, rfl, by omega, h0, Nat.le_refl _⟩, ?_⟩
  rintro m i g1 le ⟨j, rfl, hj, hIj, hsz⟩
  refine ifLt (fun hlt => ⟨⟨by omega, by omega⟩, ?_⟩) (fun hge g4 m4 => ⟨_, rfl, .inr ⟨by omega, ?_⟩⟩)
  · have gj := List.getElem?_eq_getElem (show j < L.length by omega)
    refine rdT (h.mono le) j rfl gj (fun na nn nc ka kn kc hs => ⟨he, ?_⟩)
    obtain ⟨M1, hM, hcall⟩ := hf g1 j _ le hsz gj hIj na nn nc ka kn kc hs
    refine ⟨M1, hM, hcall.mono ?_⟩
    rintro v g2 s2 ⟨b, rfl, hb1, hb2⟩
    refine ⟨_, rfl, ?_⟩
    cases b with
    | true => exact ifT (fun _ g3 m3 => ⟨_, rfl, .inl ⟨by omega, hQ _ _ m3 (hb1 rfl)⟩⟩) (fun hh => by cases hh)
    | false => exact ifT (fun hh => by cases hh) (fun _ => ⟨i64 (by omega) (by omega), m - 1, by omega, j + 1, by omega, by omega, hb2 rfl, Nat.le_trans hsz s2.le.size⟩)
  · have : j = L.length := by omega
    subst this
    exact hI _ _ _ m4 hIj
theorem k37 (f : FuncId) (c0 : Array Value) (M : Nat → Prop) (I : Nat → G → Prop) (Q : G → Prop) (L : List Sy) {a : Option Addr} {n c : Nat} {g : G} (h : SlE synE g a n c L) (he : Go.Vc.Enters Tryd.prog f)
    (hI : ∀ j g1 g2, Ex g1 g2 → I j g1 → I j g2) (hQ : ∀ g1 g2, Ex g1 g2 → Q g1 → Q g2) (h0 : I 0 g) (hf : Stage f c0 g M L I Q) :
    CallsG Tryd.prog 37 #[.slice a n c, .func (.func f) #[] c0] g M fun v g' => ∃ b, v = .bool b ∧ (b = true → Q g') ∧ (b = false → I L.length g') := by
  refine call37 a n c f c0 g M _ ?_
  unfold F37
  refine ⟨M, fun _ _ h => h, (k55 f c0 M I Q L h he hI hQ h0 hf).mono ?_⟩
  rintro v g1 _ ⟨i, rfl, hi⟩
  refine ⟨_, rfl, fun g2 m2 => ⟨_, rfl, fun hb => ?_, fun hb => ?_⟩⟩
  · rw [leI_true] at hb
    rcases hi with ⟨_, hq⟩ | ⟨hn, _⟩
    · exact hQ _ _ m2 hq
    · omega
  · rw [leI_false] at hb
    rcases hi with ⟨hn, _⟩ | ⟨_, hq⟩
    · omega
    · exact hI _ _ _ m2 hq
/-- .. of a function that turns nothing. -/
theorem k37p (f : FuncId) (c0 : Array Value) (p : Sy → Prop) (L : List Sy) {a : Option Addr} {n c : Nat} {g : G} (h : SlE synE g a n c L) (he : Go.Vc.Enters Tryd.prog f)
    (hf : ∀ g' t, Le g g' → t ∈ L → ∀ na nn nc ka kn kc, SynI g' t na nn nc ka kn kc → CallsP Tryd.prog f (#[synV t na nn nc ka kn kc] ++ c0) g' fun v _ => v = .bool (tf (p t))) :
    CallsP Tryd.prog 37 #[.slice a n c, .func (.func f) #[] c0] g fun v _ => v = .bool (tf (∃ t ∈ L, p t)) := by
  refine (k37 f c0 nobody (fun j _ => ∀ x ∈ L.take j, ¬ p x) (fun _ => ∃ t ∈ L, p t) L h he (fun _ _ _ _ h => h) (fun _ _ _ h => h) (by simp) ?_).mono ?_
  · intro g' j t le _ gj hall na nn nc ka kn kc hs
    refine ⟨nobody, fun _ _ h => h, (hf g' t le (List.mem_of_getElem? gj) na nn nc ka kn kc hs).mono ?_⟩
    rintro v g2 _ rfl
    refine ⟨_, rfl, fun hb => ⟨t, List.mem_of_getElem? gj, tf_true.mp hb⟩, fun hb => (all_take gj _).2 ⟨hall, tf_false.mp hb⟩⟩
  · rintro v g2 _ ⟨b, rfl, h1, h2⟩
    cases b with
    | true => exact vT (h1 rfl)
    | false =>
      have := h2 rfl
      rw [take_all (Nat.le_refl _)] at this
      exact vF (fun ⟨t, ht, hp⟩ => this t ht hp)
theorem live0 {g g' : G} {e : TypeId} {v : Value} (h : NewL g g' e [v]) : Live g' ⟨g.w.heap.size, 0, none⟩ v := h.at0 rfl
theorem k73 (cat : Int) (t : Sy) (na : Option Addr) (nn nc : Nat) (a : Option Addr) (n c : Nat) {g : G} {ad : Addr} (h : Live g ad (.int .i64 cat)) : CallsP Tryd.prog 73 #[synV t na nn nc a n c, .pointer (some ad)] g fun v _ => v = .bool (tf (¬ belP cat t.dat.op)) := by
  refine call73 _ _ _ _ _ _ _ _ _ _ g _ ?_
  unfold F73
  intro g1 m1
  refine ⟨_, (h.mono m1.le).1, (k31 cat t na nn nc a n c g1).mono ?_⟩
  rintro v g2 _ rfl
  exact ⟨_, rfl, fun g3 _ => by rw [tf_not]⟩
theorem k74 (ops : List Int) (t : Sy) (na : Option Addr) (nn nc : Nat) (a : Option Addr) (n c : Nat) {g : G} {ad : Addr} {oa : Option Addr} {on oc : Nat} (h : Live g ad (.slice oa on oc)) (ho : SlE intE' g oa on oc ops) (hon : on ≤ 1048576) : CallsP Tryd.prog 74 #[synV t na nn nc a n c, .pointer (some ad)] g fun v _ => v = .bool (tf (¬ t.dat.op ∈ ops)) := by
  refine call74 _ _ _ _ _ _ _ _ _ _ g _ ?_
  unfold F74
  intro g1 m1
  refine ⟨_, _, _, (h.mono m1.le).1, (k75 ops t.dat.op (ho.exm m1) hon).mono ?_⟩
  rintro v g2 _ rfl
  exact ⟨_, rfl, fun g3 _ => by rw [tf_not]⟩
theorem k76 (s : List UInt8) (t : Sy) (na : Option Addr) (nn nc : Nat) (a : Option Addr) (n c : Nat) {g : G} {ad : Addr} (h : Live g (Addr.add ad 2) (.string (bstr s))) : CallsP Tryd.prog 76 #[synV t na nn nc a n c, .pointer (some ad)] g fun v _ => v = .bool (tf (s = t.dat.s)) := by
  refine call76 _ _ _ _ _ _ _ _ _ _ g _ ?_
  unfold F76
  intro g1 m1
  refine ⟨_, (h.mono m1.le).1, fun g2 _ => by rw [strEq_bstr]⟩
/-- many. -/
theorem k63 (L : List Sy) (cat lo hi : Int) {a : Option Addr} {n c : Nat} {g : G} (h : SlE synE g a n c L) : CallsP Tryd.prog 63 #[.slice a n c, .int .i64 cat, .int .i64 lo, .int .i64 hi] g fun v _ => v = .bool (tf (manyP L cat lo hi)) := by
  refine call63 a n c cat lo hi g _ ?_
  have hl := h.len
  unfold F63 manyP
  rw [hl]
  refine fun g1 n1 => ifLe (fun h1 => ifLe (fun h2 => ⟨nobody, fun _ _ h => h, ?_⟩) (fun h2 g4 _ => vF (by omega))) (fun h1 g5 _ => vF (by omega))
  refine (k37p 73 ⟨[.pointer (some ⟨g.w.heap.size, 0, none⟩)]⟩ (fun t => ¬ belP cat t.dat.op) L (h.exm n1.ex) ⟨_, Tryd.func73, by kernel_rfl, by kernel_rfl⟩ (fun g' t le _ na nn nc ka kn kc _ => k73 cat t na nn nc ka kn kc ((live0 n1).mono le))).mono ?_
  rintro v g2 _ rfl
  refine ⟨_, rfl, fun g3 _ => ?_⟩
  rw [tf_not]
  exact vP ⟨fun hh => ⟨h1, h2, fun t ht => Classical.byContradiction fun hn => hh ⟨t, ht, hn⟩⟩, fun hh ⟨t, ht, hn⟩ => hn (hh.2.2 t ht)⟩
/-- only. -/
theorem k65 (L : List Sy) (ops : List Int) {a : Option Addr} {n c : Nat} {g : G} (h : SlE synE g a n c L) {oa : Option Addr} {on oc : Nat} (ho : SlE intE' g oa on oc ops) (hon : on ≤ 1048576) : CallsP Tryd.prog 65 #[.slice a n c, .slice oa on oc] g fun v _ => v = .bool (tf (onlyP L ops)) := by
  refine call65 a n c oa on oc g _ ?_
  unfold F65 onlyP
  refine fun g1 n1 => ⟨nobody, fun _ _ h => h, ?_⟩
  refine (k37p 74 ⟨[.pointer (some ⟨g.w.heap.size, 0, none⟩)]⟩ (fun t => ¬ t.dat.op ∈ ops) L (h.exm n1.ex) ⟨_, Tryd.func74, by kernel_rfl, by kernel_rfl⟩ (fun g' t le _ na nn nc ka kn kc _ => k74 ops t na nn nc ka kn kc ((live0 n1).mono le) ((ho.exm n1.ex).mono le) hon)).mono ?_
  rintro v g2 _ rfl
  refine ⟨_, rfl, fun g3 _ => ?_⟩
  rw [tf_not]
  exact vP ⟨fun hh t ht => Classical.byContradiction fun hn => hh ⟨t, ht, hn⟩, fun hh ⟨t, ht, hn⟩ => hn (hh t ht)⟩
/-- parts. -/
theorem k64 (t : Sy) (cats : List Int) {na : Option Addr} {nn nc : Nat} {a : Option Addr} {n c : Nat} {g : G} (h : SynI g t na nn nc a n c) {oa : Option Addr} {on oc : Nat} (ho : SlE intE' g oa on oc cats) (hon : on ≤ 1048576) : CallsP Tryd.prog 64 #[synV t na nn nc a n c, .slice oa on oc] g fun v _ => v = .bool (tf (partsP t.kids cats)) := by
  refine call64 _ _ _ _ _ _ _ _ _ oa on oc g _ ?_
  have hl := h.kids.len
  have hol := ho.len
  unfold F64 partsP
  refine ifNe (fun hne g1 _ => vF (by omega)) (fun heq => ?_)
  refine ⟨fun m i g' => ∃ j : Nat, i = ((j : Nat) : Int) ∧ j + m = on ∧ ∀ p ∈ (t.kids.zip cats).take j, belP p.2 p.1.dat.op, fun g2 m2 => ⟨on, 0, rfl, by omega, by simp⟩, ?_⟩
  rintro m i g3 le ⟨j, rfl, hj, hall⟩
  have hzl : (t.kids.zip cats).length = on := by rw [List.length_zip]; omega
  refine ifLt (fun hlt => ⟨⟨by omega, by omega⟩, ?_⟩) (fun hge g6 _ => vT ⟨by omega, ?_⟩)
  · have gj := List.getElem?_eq_getElem (show j < cats.length by omega)
    have gk := List.getElem?_eq_getElem (show j < t.kids.length by omega)
    have gz : (t.kids.zip cats)[j]? = some (t.kids[j], cats[j]) := by rw [List.getElem?_zip_eq_some]; exact ⟨gk, gj⟩
    generalize cats[j] = cat at gj gz
    generalize t.kids[j] = x at gk gz
    refine rdN (ho.mono le) j rfl gj ⟨⟨by omega, by omega⟩, rdT (h.kids.mono le) j rfl gk (fun na' nn' nc' ka kn kc _ => (k31 cat x na' nn' nc' ka kn kc g3).mono ?_)⟩
    rintro v g4 _ rfl
    refine ⟨_, rfl, ifPn (fun hn g5 _ => vF (fun hh => hn (hh.2 _ (List.mem_of_getElem? gz)))) (fun hp => ⟨i64 (by omega) (by omega), m - 1, by omega, j + 1, by omega, by omega, (all_take gz _).2 ⟨hall, hp⟩⟩)⟩
  · rw [take_all (by omega)] at hall
    exact hall
theorem pair_take {L : List Sy} {j : Nat} {x : Sy} (h : L[j]? = some x) : differP (L.take (j + 1)) ↔ differP (L.take j) ∧ ∀ y ∈ L.take j, y.dat.s ≠ x.dat.s := by
  unfold differP
  rw [List.take_add_one, h]
  simp only [Option.toList_some, List.pairwise_append, List.pairwise_cons, List.mem_singleton, forall_eq]
  constructor
  · rintro ⟨h1, _, h3⟩; exact ⟨h1, h3⟩
  · rintro ⟨h1, h3⟩; exact ⟨h1, ⟨by simp, .nil⟩, h3⟩
/-- differ. -/
theorem k66 (L : List Sy) {a : Option Addr} {n c : Nat} {g : G} (h : SlE synE g a n c L) : CallsP Tryd.prog 66 #[.slice a n c] g fun v _ => v = .bool (tf (differP L)) := by
  refine call66 a n c g _ ?_
  have hl := h.len
  have hc := h.le
  have hm := h.cap
  unfold maxLen at hm
  unfold F66
  refine ⟨fun m i g' => ∃ j : Nat, i = ((j : Nat) : Int) ∧ j + m = n ∧ differP (L.take j) ∧ g.w.heap.size ≤ g'.w.heap.size, ⟨n, 0, rfl, by omega, by simp [differP], Nat.le_refl _⟩, ?_⟩
  rintro m i g1 le ⟨j, rfl, hj, hall, hsz⟩
  refine ifLt (fun hlt => ⟨⟨by omega, by omega⟩, ?_⟩) (fun hge g6 _ => vT ?_)
  · have gj := List.getElem?_eq_getElem (show j < L.length by omega)
    generalize L[j] = x at gj
    refine rdT (h.mono le) j rfl gj (fun na nn nc ka kn kc hx => ?_)
    intro g2 n2
    have hmut := n2.mut
    refine ⟨hmut.ok0 (Nat.le_refl _), hmut.nx, hmut.mut0 _, fun hh => absurd hh (by show ¬ g1.w.heap.size < g.w.heap.size; omega), fun g3 k3 => ?_⟩
    obtain ⟨hlv, hbut⟩ := hmut.pub k3 rfl
    have e13 : Ex g1 g3 := ((n2.ex.but _).trans hbut).ex (fun b hb _ e => by omega)
    refine ⟨⟨by omega, by omega⟩, nobody, fun _ _ h => h, ?_⟩
    rw [Int.toNat_natCast]
    refine (k37p 76 ⟨[.pointer (some ⟨g1.w.heap.size, 0, none⟩)]⟩ (fun t => x.dat.s = t.dat.s) (L.take j) (((h.mono le).exm e13).take (by omega)) ⟨_, Tryd.func76, by kernel_rfl, by kernel_rfl⟩ (fun g' t le' _ na nn nc ka kn kc _ => k76 x.dat.s t na nn nc ka kn kc ((hlv 2 _ rfl).mono le'))).mono ?_
    rintro v g4 m4 rfl
    refine ⟨_, rfl, ifP (fun hb g5 _ => vF (fun hh => ?_)) (fun hb => ⟨i64 (by omega) (by omega), m - 1, by omega, j + 1, by omega, by omega, (pair_take gj).2 ⟨hall, fun y hy e => hb ⟨y, hy, e.symm⟩⟩, Nat.le_trans hsz (e13.trans m4).size⟩)⟩
    obtain ⟨y, hy, e⟩ := hb
    have h1 : differP (L.take (j + 1)) := List.Pairwise.sublist (List.take_sublist _ _) hh
    exact ((pair_take gj).1 h1).2 y hy e.symm
  · rwa [take_all (by omega)] at hall
end Go.Proofs.YtmakoecgogjemaaDoor
