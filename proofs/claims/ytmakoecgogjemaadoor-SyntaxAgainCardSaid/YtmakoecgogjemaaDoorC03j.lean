/- Syntax trees: the reference's tests of fields and lists. -/
import Derived.Test.YtmakoecgogjemaaDoorC03i
set_option linter.unusedVariables false
namespace Go.Proofs.YtmakoecgogjemaaDoor
open Go Go.Vc Go.RowKit Go.Syn

/-- A read of the kind of a part. -/
theorem rdO {L : List Sy} {a : Option Addr} {n c : Nat} {g : G} (h : SlE synE g a n c L) {i : Int} (p : Nat) (hi : i = (p : Int)) {t : Sy} (ht : L[p]? = some t) {K : Int → Prop} (hk : K t.dat.op) :
    derefP a fun ad => ∃ x : Int, g.w.cell? (Addr.add ad (Int.toNat i * 5)) = some (.int .i64 x) ∧ K x :=
  rdA h p hi ht fun ad na nn nc ka kn kc _ hcell => ⟨_, (hcell g (Le.refl g)).1, hk⟩
theorem tf_andT {p q : Prop} (h : p) : tf (p ∧ q) = tf q := tf_iff ⟨fun hh => hh.2, fun hh => ⟨h, hh⟩⟩
theorem vFl {p q : Prop} (h : ¬ p) : Value.bool false = .bool (tf (p ∧ q)) := vF (fun hh => h hh.1)
/-- A test in a chain of 'and'. -/
theorem andC {k : FuncId} {args : Array Value} {g : G} {p q : Prop} (h : CallsP Tryd.prog k args g fun v _ => v = .bool (tf p)) {K : G → Prop} (hK : p → ∀ g', Ex g g' → K g') :
    CallsP Tryd.prog k args g fun v g' => ∃ x : Bool, v = .bool x ∧ ifB x (K g') (∀ g2, Ex g' g2 → Value.bool false = .bool (tf (p ∧ q))) := by
  refine h.mono ?_
  rintro v g' m rfl
  exact ⟨_, rfl, ifP (fun hp => hK hp g' m) (fun hp g2 _ => vFl hp)⟩
/-- .. the other way about. -/
theorem andN {k : FuncId} {args : Array Value} {g : G} {p q : Prop} (h : CallsP Tryd.prog k args g fun v _ => v = .bool (tf p)) {K : G → Prop} (hK : p → ∀ g', Ex g g' → K g') :
    CallsP Tryd.prog k args g fun v g' => ∃ x : Bool, v = .bool x ∧ ifB (!x) (∀ g2, Ex g' g2 → Value.bool false = .bool (tf (p ∧ q))) (K g') := by
  refine h.mono ?_
  rintro v g' m rfl
  exact ⟨_, rfl, ifPn (fun hp g2 _ => vFl hp) (fun hp => hK hp g' m)⟩
/-- The last test. -/
theorem endC {k : FuncId} {args : Array Value} {g : G} {p : Prop} (h : CallsP Tryd.prog k args g fun v _ => v = .bool (tf p)) :
    CallsP Tryd.prog k args g fun v g' => ∃ x : Bool, v = .bool x ∧ ∀ g2, Ex g' g2 → Value.bool x = .bool (tf p) := by
  refine h.mono ?_
  rintro v g' m rfl
  exact ⟨_, rfl, fun _ _ => rfl⟩
def bare3 (d : SynD) (n s l : Bool) : Prop := (n = true ∨ d.n = 0) ∧ (s = true ∨ d.s = []) ∧ (l = true ∨ d.names = [])
theorem k88 (t : Sy) (bn bs' bl : Bool) {na : Option Addr} {nn nc : Nat} {a : Option Addr} {n c : Nat} {g : G} (h : SynI g t na nn nc a n c) :
    CallsP Tryd.prog 88 #[synV t na nn nc a n c, .bool bn, .bool bs', .bool bl] g fun v _ => v = .bool (tf (bare3 t.dat bn bs' bl)) := by
  refine call88 _ _ _ _ _ _ _ _ _ bn bs' bl g _ ?_
  have hl := h.names.len
  have h0 : ((nn : Nat) : Int) = 0 ↔ t.dat.names = [] := by
    rw [← hl]
    cases t.dat.names with
    | nil => simp
    | cons x r => simp; omega
  unfold F88 bare3
  rw [show bs [] = bstr [] from rfl, strEq_bstr]
  have last : (bn = true ∨ t.dat.n = 0) → (bs' = true ∨ t.dat.s = []) → ifB bl (∀ g1, Ex g g1 → Value.bool true = .bool (tf ((bn = true ∨ t.dat.n = 0) ∧ (bs' = true ∨ t.dat.s = []) ∧ (bl = true ∨ t.dat.names = [])))) (∀ g2, Ex g g2 → Value.bool (eqI ((nn : Nat) : Int) 0) = .bool (tf ((bn = true ∨ t.dat.n = 0) ∧ (bs' = true ∨ t.dat.s = []) ∧ (bl = true ∨ t.dat.names = [])))) := by
    intro h1 h2
    refine ifT (fun q g1 _ => vT ⟨h1, h2, .inl q⟩) (fun q g1 _ => ?_)
    rw [tf_eq]
    exact vP ⟨fun hh => ⟨h1, h2, .inr (h0.1 hh)⟩, fun hh => h0.2 (hh.2.2.resolve_left (by rw [q]; decide))⟩
  have mid : (bn = true ∨ t.dat.n = 0) → ifB bs' (ifB bl (∀ g1, Ex g g1 → Value.bool true = .bool (tf ((bn = true ∨ t.dat.n = 0) ∧ (bs' = true ∨ t.dat.s = []) ∧ (bl = true ∨ t.dat.names = [])))) (∀ g2, Ex g g2 → Value.bool (eqI ((nn : Nat) : Int) 0) = .bool (tf ((bn = true ∨ t.dat.n = 0) ∧ (bs' = true ∨ t.dat.s = []) ∧ (bl = true ∨ t.dat.names = [])))))
      (ifB (tf (t.dat.s = [])) (ifB bl (∀ g1, Ex g g1 → Value.bool true = .bool (tf ((bn = true ∨ t.dat.n = 0) ∧ (bs' = true ∨ t.dat.s = []) ∧ (bl = true ∨ t.dat.names = [])))) (∀ g2, Ex g g2 → Value.bool (eqI ((nn : Nat) : Int) 0) = .bool (tf ((bn = true ∨ t.dat.n = 0) ∧ (bs' = true ∨ t.dat.s = []) ∧ (bl = true ∨ t.dat.names = []))))) (∀ g5, Ex g g5 → Value.bool false = .bool (tf ((bn = true ∨ t.dat.n = 0) ∧ (bs' = true ∨ t.dat.s = []) ∧ (bl = true ∨ t.dat.names = []))))) :=
    fun h1 => ifT (fun q => last h1 (.inl q)) (fun q => ifP (fun q2 => last h1 (.inr q2)) (fun q2 g5 _ => vF (fun hh => q2 (hh.2.1.resolve_left (by rw [q]; decide)))))
  exact ifT (fun q => mid (.inl q)) (fun q => ifEq (fun q2 => mid (.inr q2)) (fun q2 g5 _ => vF (fun hh => q2 (hh.1.resolve_left (by rw [q]; decide)))))
/-- path. -/
theorem k90 (L : List (List UInt8)) (low : Bool) {a : Option Addr} {n c : Nat} {g : G} (h : SlE strE g a n c L) : CallsP Tryd.prog 90 #[.slice a n c, .bool low] g fun v _ => v = .bool (tf (pathP L low)) := by
  refine call90 a n c low g _ ?_
  have hl := h.len
  unfold F90 pathP
  intro J hJ
  refine ifLt (fun h1 g8 _ => vF (by omega)) (fun h1 => ifLt (fun h2 g9 _ => vF (by omega)) (fun h2 => hJ g ?_))
  have e2 : L.length - 1 = n - 1 := by omega
  rw [e2]
  have gl : L[n - 1]? = some (L.getD (n - 1) []) := by rw [List.getD_eq_getElem?_getD, List.getElem?_eq_getElem (by omega)]; rfl
  refine ⟨fun m i g' => ∃ j : Nat, i = ((j : Nat) : Int) ∧ j + m = n ∧ (∀ x ∈ (L.take (n - 1)).take j, upperP x) ∧ (j = n → if low = true then lowerP (L.getD (n - 1) []) else upperP (L.getD (n - 1) [])), ⟨n, 0, rfl, by omega, by simp, fun hh => by omega⟩, ?_⟩
  rintro m i g2 le ⟨j, rfl, hj, hall, hlast⟩
  refine ifLt (fun hlt => ?_) (fun hge g8 _ => vT ⟨by omega, by omega, ?_, hlast (by omega)⟩)
  rotate_left
  · rwa [take_all (by rw [List.length_take]; omega)] at hall
  have gj := List.getElem?_eq_getElem (show j < L.length by omega)
  have last : j ≠ n - 1 → (L.take (n - 1))[j]? = some L[j] := fun hne => by rw [List.getElem?_take, if_pos (by omega)]; exact gj
  have lastE : j = n - 1 → L[j] = L.getD (n - 1) [] := fun e => by subst e; rw [gj] at gl; exact Option.some.inj gl
  generalize L[j] = x at gj last lastE
  intro J1 hJ1
  have key : J1 (tf (low = true ∧ j = n - 1)) g2 := by
    refine hJ1 _ g2 (ifP (fun q => ⟨⟨by omega, by omega⟩, rdS (h.mono (show Le g g2 from le)) j rfl gj ((k93 x g2).mono ?_)⟩) (fun q => ⟨⟨by omega, by omega⟩, rdS (h.mono (show Le g g2 from le)) j rfl gj ((k96 x g2).mono ?_)⟩))
    · rintro v g4 _ rfl
      refine ⟨_, rfl, ifPn (fun q2 g5 _ => vF (fun hh => ?_)) (fun q2 => ⟨i64 (by omega) (by omega), m - 1, by omega, j + 1, by omega, by omega, ?_, fun _ => ?_⟩)⟩
      · have := hh.2.2.2
        rw [if_pos q.1, ← lastE q.2] at this
        exact q2 this
      · rw [take_all (by rw [List.length_take]; omega)]
        rwa [take_all (by rw [List.length_take]; omega)] at hall
      · rw [if_pos q.1, ← lastE q.2]
        exact q2
    · rintro v g4 _ rfl
      by_cases hjl : j = n - 1
      · have hlow : ¬ low = true := fun hh => q ⟨hh, hjl⟩
        refine ⟨_, rfl, ifPn (fun q2 g5 _ => vF (fun hh => ?_)) (fun q2 => ⟨i64 (by omega) (by omega), m - 1, by omega, j + 1, by omega, by omega, ?_, fun _ => ?_⟩)⟩
        · have := hh.2.2.2
          rw [if_neg hlow, ← lastE hjl] at this
          exact q2 this
        · rw [take_all (by rw [List.length_take]; omega)]
          rwa [take_all (by rw [List.length_take]; omega)] at hall
        · rw [if_neg hlow, ← lastE hjl]
          exact q2
      · refine ⟨_, rfl, ifPn (fun q2 g5 _ => vF (fun hh => q2 (hh.2.2.1 x (List.mem_of_getElem? (last hjl))))) (fun q2 => ⟨i64 (by omega) (by omega), m - 1, by omega, j + 1, by omega, by omega, (all_take (last hjl) _).2 ⟨hall, q2⟩, fun hh => by omega⟩)⟩
  refine ifT (fun q => ⟨i64 (by omega) (by omega), ?_⟩) (fun q => ?_)
  · rw [tf_eq, tf_iff (q := low = true ∧ j = n - 1) ⟨fun hh => ⟨q, by omega⟩, fun hh => by omega⟩]
    exact key
  · rwa [tf_no (fun hh => by rw [q] at hh; exact absurd hh.1 (by decide))] at key
/-- all. -/
theorem k91 (t : Sy) (lo hi : Nat) (cat : Int) (hc : cat ≠ 0) {na : Option Addr} {nn nc : Nat} {a : Option Addr} {n c : Nat} {g : G} (h : SynI g t na nn nc a n c) (h1 : lo ≤ hi) (h2 : hi ≤ n) {x y : Int} (hx : x = ((lo : Nat) : Int)) (hy : y = ((hi : Nat) : Int)) :
    CallsP Tryd.prog 91 #[synV t na nn nc a n c, .int .i64 x, .int .i64 y, .int .i64 cat] g fun v _ => v = .bool (tf (∀ x ∈ (t.kids.drop lo).take (hi - lo), belP cat x.dat.op)) := by
  subst hx; subst hy
  refine call91 _ _ _ _ _ _ _ _ _ _ _ cat g _ ?_
  have hl := h.kids.len
  have hcp := h.kids.le
  have hm := h.kids.cap
  unfold maxLen at hm
  unfold F91
  refine ⟨fun m i g' => ∃ j : Nat, i = ((lo + j : Nat) : Int) ∧ lo + j + m = hi ∧ ∀ x ∈ (t.kids.drop lo).take j, belP cat x.dat.op, fun g1 _ => ⟨hi - lo, 0, by omega, by omega, by simp⟩, ?_⟩
  rintro m i g2 le ⟨j, rfl, hj, hall⟩
  refine ifLt (fun hlt => ⟨⟨by omega, by omega⟩, ?_⟩) (fun hge g5 _ => vT ?_)
  · have gj := List.getElem?_eq_getElem (show lo + j < t.kids.length by omega)
    have gd : (t.kids.drop lo)[j]? = some t.kids[lo + j] := by rw [List.getElem?_drop]; exact gj
    have gd2 : ((t.kids.drop lo).take (hi - lo))[j]? = some t.kids[lo + j] := by rw [List.getElem?_take, if_pos (by omega)]; exact gd
    generalize t.kids[lo + j] = y at gj gd gd2
    refine rdO (h.kids.mono le) (lo + j) rfl gj ((k33 y.dat.op cat hc g2).mono ?_)
    rintro v g3 _ rfl
    exact ⟨_, rfl, ifPn (fun q g4 _ => vF (fun hh => q (hh _ (List.mem_of_getElem? gd2)))) (fun q => ⟨i64 (by omega) (by omega), m - 1, by omega, j + 1, by omega, by omega, (all_take gd _).2 ⟨hall, q⟩⟩)⟩
  · rwa [show j = hi - lo by omega] at hall
/-- .. of all parts. -/
theorem k91a (t : Sy) (cat : Int) (hc : cat ≠ 0) {na : Option Addr} {nn nc : Nat} {a : Option Addr} {n c : Nat} {g : G} (h : SynI g t na nn nc a n c) :
    CallsP Tryd.prog 91 #[synV t na nn nc a n c, .int .i64 0, .int .i64 ((n : Nat) : Int), .int .i64 cat] g fun v _ => v = .bool (tf (∀ x ∈ t.kids, belP cat x.dat.op)) := by
  have hl := h.kids.len
  have := k91 t 0 n cat hc h (Nat.zero_le _) (Nat.le_refl _) (x := 0) rfl rfl
  rwa [List.drop_zero, take_all (by omega)] at this
def exactP (l : List Sy) (cats : List Int) : Prop := l.length = cats.length ∧ ∀ p ∈ l.zip cats, (p.2 = 0 ∧ p.1.dat.op = 72) ∨ (p.2 ≠ 0 ∧ belP p.2 p.1.dat.op)
/-- exact. -/
theorem k92 (t : Sy) (cats : List Int) {na : Option Addr} {nn nc : Nat} {a : Option Addr} {n c : Nat} {g : G} (h : SynI g t na nn nc a n c) {oa : Option Addr} {on oc : Nat} (ho : SlE intE' g oa on oc cats) (hon : on ≤ 1048576) :
    CallsP Tryd.prog 92 #[synV t na nn nc a n c, .slice oa on oc] g fun v _ => v = .bool (tf (exactP t.kids cats)) := by
  refine call92 _ _ _ _ _ _ _ _ _ oa on oc g _ ?_
  have hl := h.kids.len
  have hol := ho.len
  unfold F92 exactP
  refine ifNe (fun hne g1 _ => vF (by omega)) (fun heq => ?_)
  have hzl : (t.kids.zip cats).length = on := by rw [List.length_zip]; omega
  refine ⟨fun m i g' => ∃ j : Nat, i = ((j : Nat) : Int) ∧ j + m = on ∧ ∀ p ∈ (t.kids.zip cats).take j, (p.2 = 0 ∧ p.1.dat.op = 72) ∨ (p.2 ≠ 0 ∧ belP p.2 p.1.dat.op), fun g2 m2 => ⟨on, 0, rfl, by omega, by simp⟩, ?_⟩
  rintro m i g3 le ⟨j, rfl, hj, hall⟩
  refine ifLt (fun hlt => ?_) (fun hge g6 _ => vT ⟨by omega, by rwa [take_all (by omega)] at hall⟩)
  have gj := List.getElem?_eq_getElem (show j < cats.length by omega)
  have gk := List.getElem?_eq_getElem (show j < t.kids.length by omega)
  have gz : (t.kids.zip cats)[j]? = some (t.kids[j], cats[j]) := by rw [List.getElem?_zip_eq_some]; exact ⟨gk, gj⟩
  generalize cats[j] = cat at gj gz
  generalize t.kids[j] = x at gk gz
  have hin := List.mem_of_getElem? gz
  intro J hJ g5 m5
  have fin : ∀ g', ((cat = 0 ∧ x.dat.op = 72) ∨ (cat ≠ 0 ∧ belP cat x.dat.op)) → J g' := fun g' hh => hJ g' ⟨i64 (by omega) (by omega), m - 1, by omega, j + 1, by omega, by omega, (all_take gz _).2 ⟨hall, hh⟩⟩
  have rn : ∀ {K : Int → Prop}, K cat → derefP oa fun ad => ∃ s : Int, g5.w.cell? (Addr.add ad (Int.toNat ((j : Nat) : Int) * 1)) = some (.int .i64 s) ∧ K s := fun hK => rdN ((ho.mono le).exm m5) j rfl gj hK
  have ro : ∀ {K : Int → Prop}, K x.dat.op → derefP a fun ad => ∃ s : Int, g5.w.cell? (Addr.add ad (Int.toNat ((j : Nat) : Int) * 5)) = some (.int .i64 s) ∧ K s := fun hK => rdO ((h.kids.mono le).exm m5) j rfl gk hK
  have bel : cat ≠ 0 → CallsP Tryd.prog 33 #[.int .i64 x.dat.op, .int .i64 cat] g5 fun v g7 => ∃ y : Bool, v = .bool y ∧ ifB (!y) (∀ g8, Ex g7 g8 → Value.bool false = .bool (tf (t.kids.length = cats.length ∧ ∀ p ∈ t.kids.zip cats, (p.2 = 0 ∧ p.1.dat.op = 72) ∨ (p.2 ≠ 0 ∧ belP p.2 p.1.dat.op)))) (J g7) := by
    intro hc
    refine (k33 x.dat.op cat hc g5).mono ?_
    rintro v g7 _ rfl
    exact ⟨_, rfl, ifPn (fun q g8 _ => vF (fun hh => by
      rcases hh.2 _ hin with ⟨e, _⟩ | ⟨_, e⟩
      · exact hc e
      · exact q e)) (fun q => fin g7 (.inr ⟨hc, q⟩))⟩
  refine ⟨⟨by omega, by omega⟩, rn (ifEq (fun q => ⟨⟨by omega, by omega⟩, ro (ifNe (fun q2 g6 _ => vF (fun hh => ?_)) (fun q2 => ⟨⟨by omega, by omega⟩, rn (ifNe (fun q3 => absurd q q3) (fun _ => fin g5 (.inl ⟨q, q2⟩)))⟩))⟩) (fun q => ⟨⟨by omega, by omega⟩, rn (ifNe (fun _ => ⟨⟨by omega, by omega⟩, ro ⟨⟨by omega, by omega⟩, rn (bel q)⟩⟩) (fun q3 => absurd q3 q))⟩))⟩
  rcases hh.2 _ hin with ⟨_, e⟩ | ⟨e, _⟩
  · exact q2 e
  · exact e q
theorem k92l (t : Sy) (cats : List Int) {na : Option Addr} {nn nc : Nat} {a : Option Addr} {n c : Nat} {g g1 : G} (h : SynI g t na nn nc a n c) (hn : NewL g g1 3 (cats.map (Value.int .i64))) (hc : cats.length ≤ 1000) :
    CallsP Tryd.prog 92 #[synV t na nn nc a n c, .slice (some ⟨g.w.heap.size, 0, none⟩) cats.length cats.length] g1 fun v _ => v = .bool (tf (exactP t.kids cats)) :=
  k92 t cats (h.exm hn.ex) (hn.sle (ints_rws g cats) (by unfold maxLen; omega)) (by omega)
theorem exact_parts {l : List Sy} {cats : List Int} (h : (0 : Int) ∉ cats) : exactP l cats ↔ partsP l cats := by
  unfold exactP partsP
  refine and_congr_right fun _ => ⟨fun hh p hp => ?_, fun hh p hp => .inr ⟨fun e => h (e ▸ (List.of_mem_zip hp).2), hh p hp⟩⟩
  rcases hh p hp with ⟨e, _⟩ | ⟨_, e⟩
  · exact absurd (e ▸ (List.of_mem_zip hp).2) h
  · exact e
/-- text. -/
theorem k94 (s : List UInt8) (g : G) (hs : s.length ≤ 1048576) : CallsP Tryd.prog 94 #[.string (bstr s)] g fun v _ => v = .bool (tf (plainP s)) := by
  refine call94 _ g _ ?_
  unfold F94 plainP
  refine ⟨fun m i g' => ∃ j : Nat, i = ((j : Nat) : Int) ∧ j + m = s.length ∧ ∀ c ∈ s.take j, c.toNat = 10 ∨ (32 ≤ c.toNat ∧ c.toNat ≤ 126), ⟨s.length, 0, rfl, by omega, by simp⟩, ?_⟩
  rintro m i g1 le ⟨j, rfl, hj, hall⟩
  rw [size_i]
  refine ifLt (fun hlt => ?_) (fun hge g4 _ => ?_)
  · have hat := bstr_at (s := s) (i := j) (by omega)
    have gj := getD0 (s := s) (i := j) (by omega)
    generalize s.getD j 0 = b at hat gj
    have hin := List.mem_of_getElem? gj
    refine ⟨b, ⟨by omega, hat⟩, ifNe (fun h1 => ⟨b, ⟨by omega, hat⟩, ifLt (fun h2 g2 _ => vF (fun hh => by have := hh.1 b hin; omega)) (fun h2 => ⟨b, ⟨by omega, hat⟩, ifLt (fun h3 g3 _ => vF (fun hh => by have := hh.1 b hin; omega)) (fun h3 => ?_)⟩)⟩) (fun h1 => ?_)⟩
    · exact ⟨i64 (by omega) (by omega), m - 1, by omega, j + 1, by omega, by omega, (all_take gj _).2 ⟨hall, by omega⟩⟩
    · exact ⟨i64 (by omega) (by omega), m - 1, by omega, j + 1, by omega, by omega, (all_take gj _).2 ⟨hall, by omega⟩⟩
  · rw [take_all (by omega)] at hall
    rw [tf_le]
    exact vP ⟨fun hh => ⟨hall, by omega⟩, fun hh => by omega⟩
/-- params. -/
theorem k95 (L : List (List UInt8)) {a : Option Addr} {n c : Nat} {g : G} (h : SlE strE g a n c L) : CallsP Tryd.prog 95 #[.slice a n c] g fun v _ => v = .bool (tf (paramsP L)) := by
  refine call95 a n c g _ ?_
  have hl := h.len
  have hcp := h.le
  have hmx := h.cap
  unfold maxLen at hmx
  unfold F95 paramsP
  refine ⟨fun m i g' => ∃ j : Nat, i = ((j : Nat) : Int) ∧ j + m = n ∧ (∀ x ∈ L.take j, tvarP x) ∧ (L.take j).Nodup, ⟨n, 0, rfl, by omega, by simp, by simp⟩, ?_⟩
  rintro m i g1 le ⟨j, rfl, hj, hall, hnd⟩
  refine ifLt (fun hlt => ⟨⟨by omega, by omega⟩, ?_⟩) (fun hge g7 _ => ?_)
  · have gj := List.getElem?_eq_getElem (show j < L.length by omega)
    have hin := List.mem_of_getElem? gj
    generalize L[j] = x at gj hin
    refine rdS (h.mono le) j rfl gj ((k89 x g1).mono ?_)
    rintro v g2 m2 rfl
    refine ⟨_, rfl, ifPn (fun hv g3 _ => vF (fun hh => hv (hh.1 _ hin))) (fun hv => ?_)⟩
    refine ⟨fun m' i' g' => ∃ k : Nat, i' = ((k : Nat) : Int) ∧ k + m' = j ∧ ∀ y ∈ L.take k, x ≠ y, ⟨j, 0, rfl, by omega, by simp⟩, ?_⟩
    rintro m' i' g4 le4 ⟨k, rfl, hk, hne⟩
    refine ifLt (fun hlt2 g5 m5 => ⟨⟨by omega, by omega⟩, ?_⟩) (fun hge2 => ⟨i64 (by omega) (by omega), m - 1, by omega, j + 1, by omega, by omega, (all_take gj _).2 ⟨hall, hv⟩, (nodup_take gj).2 ⟨hnd, fun hx => ?_⟩⟩)
    · have h5 := (((h.mono le).exm m2).mono le4).exm m5
      have gk := List.getElem?_eq_getElem (show k < L.length by omega)
      generalize L[k] = y at gk
      refine rdS h5 j rfl gj ⟨⟨by omega, by omega⟩, rdS h5 k rfl gk ?_⟩
      rw [strEq_bstr]
      refine ifP (fun q g6 _ => vF (fun hh => ?_)) (fun q => ⟨i64 (by omega) (by omega), m' - 1, by omega, k + 1, by omega, by omega, (all_take gk _).2 ⟨hne, q⟩⟩)
      have hsub : (L.take (j + 1)).Nodup := hh.2.1.sublist (List.take_sublist _ _)
      refine ((nodup_take gj).1 hsub).2 ?_
      rw [q]
      refine List.mem_of_getElem? (i := k) ?_
      rw [List.getElem?_take, if_pos (by omega)]
      exact gk
    · rw [show k = j by omega] at hne
      exact hne x hx rfl
  · rw [take_all (by omega)] at hall hnd
    rw [tf_le]
    exact vP ⟨fun hh => ⟨hall, hnd, by omega⟩, fun hh => by omega⟩
end Go.Proofs.YtmakoecgogjemaaDoor
