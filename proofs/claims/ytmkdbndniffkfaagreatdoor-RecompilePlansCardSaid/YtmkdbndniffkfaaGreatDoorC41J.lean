/- Joined texts. -/
import Derived.Test.YtmkdbndniffkfaaGreatDoorC41E
/- Syntax trees: the reference's tests of fields and lists. -/
set_option linter.unusedVariables false
namespace Go.Proofs.YtmkdbndniffkfaaGreatDoor
open Go Go.Vc Go.RowKit Go.Syn

/-- A read of the kind of a part. -/
theorem rdO {L : List Sy} {a : Option Addr} {n c : Nat} {g : G} (h : SlE synE g a n c L) {i : Int} (p : Nat) (hi : i = (p : Int)) {t : Sy} (ht : L[p]? = some t) {K : Int → Prop} (hk : K t.dat.op) :
    derefP a fun ad => ∃ x : Int, g.w.cell? (Addr.add ad (Int.toNat i * 5)) = some (.int .i64 x) ∧ K x :=
  rdA h p hi ht fun ad na nn nc ka kn kc _ hcell => ⟨_, (hcell g (Le.refl g)).1, hk⟩
theorem tf_andT {p q : Prop} (h : p) : tf (p ∧ q) = tf q := tf_iff ⟨fun hh => hh.2, fun hh => ⟨h, hh⟩⟩
theorem vFl {p q : Prop} (h : ¬ p) : Value.bool false = .bool (tf (p ∧ q)) := vF (fun hh => h hh.1)
/-- A test in a chain of 'and'. -/
theorem andC {k : FuncId} {args : Array Value} {g : G} {p q : Prop} (h : CallsP Tryz.prog k args g fun v _ => v = .bool (tf p)) {K : G → Prop} (hK : p → ∀ g', Ex g g' → K g') :
    CallsP Tryz.prog k args g fun v g' => ∃ x : Bool, v = .bool x ∧ ifB x (K g') (∀ g2, Ex g' g2 → Value.bool false = .bool (tf (p ∧ q))) := by
  refine h.mono ?_
  rintro v g' m rfl
  exact ⟨_, rfl, ifP (fun hp => hK hp g' m) (fun hp g2 _ => vFl hp)⟩
/-- .. the other way about. -/
theorem andN {k : FuncId} {args : Array Value} {g : G} {p q : Prop} (h : CallsP Tryz.prog k args g fun v _ => v = .bool (tf p)) {K : G → Prop} (hK : p → ∀ g', Ex g g' → K g') :
    CallsP Tryz.prog k args g fun v g' => ∃ x : Bool, v = .bool x ∧ ifB (!x) (∀ g2, Ex g' g2 → Value.bool false = .bool (tf (p ∧ q))) (K g') := by
  refine h.mono ?_
  rintro v g' m rfl
  exact ⟨_, rfl, ifPn (fun hp g2 _ => vFl hp) (fun hp => hK hp g' m)⟩
/-- The last test. -/
theorem endC {k : FuncId} {args : Array Value} {g : G} {p : Prop} (h : CallsP Tryz.prog k args g fun v _ => v = .bool (tf p)) :
    CallsP Tryz.prog k args g fun v g' => ∃ x : Bool, v = .bool x ∧ ∀ g2, Ex g' g2 → Value.bool x = .bool (tf p) := by
  refine h.mono ?_
  rintro v g' m rfl
  exact ⟨_, rfl, fun _ _ => rfl⟩
def bare3 (d : SynD) (n s l : Bool) : Prop := (n = true ∨ d.n = 0) ∧ (s = true ∨ d.s = []) ∧ (l = true ∨ d.names = [])
theorem kk170 (t : Sy) (bn bs' bl : Bool) {na : Option Addr} {nn nc : Nat} {a : Option Addr} {n c : Nat} {g : G} (h : SynI g t na nn nc a n c) :
    CallsP Tryz.prog 172 #[synV t na nn nc a n c, .bool bn, .bool bs', .bool bl] g fun v _ => v = .bool (tf (bare3 t.dat bn bs' bl)) := by
  refine call172 _ _ _ _ _ _ _ _ _ bn bs' bl g _ ?_
  have hl := h.names.len
  have h0 : ((nn : Nat) : Int) = 0 ↔ t.dat.names = [] := by
    rw [← hl]
    cases t.dat.names with
    | nil => simp
    | cons x r => simp; omega
  unfold F172 bare3
  rw [show bs [] = bstr [] from rfl, strEq_bstr]
  have last : (bn = true ∨ t.dat.n = 0) → (bs' = true ∨ t.dat.s = []) → ifB bl (∀ g1, Ex g g1 → Value.bool true = .bool (tf ((bn = true ∨ t.dat.n = 0) ∧ (bs' = true ∨ t.dat.s = []) ∧ (bl = true ∨ t.dat.names = [])))) (∀ g2, Ex g g2 → Value.bool (eqI ((nn : Nat) : Int) 0) = .bool (tf ((bn = true ∨ t.dat.n = 0) ∧ (bs' = true ∨ t.dat.s = []) ∧ (bl = true ∨ t.dat.names = [])))) := by
    intro h1 h2
    refine ifT (fun q g1 _ => vT ⟨h1, h2, .inl q⟩) (fun q g1 _ => ?_)
    rw [tf_eq]
    exact vP ⟨fun hh => ⟨h1, h2, .inr (h0.1 hh)⟩, fun hh => h0.2 (hh.2.2.resolve_left (by rw [q]; decide))⟩
  have mid : (bn = true ∨ t.dat.n = 0) → ifB bs' (ifB bl (∀ g1, Ex g g1 → Value.bool true = .bool (tf ((bn = true ∨ t.dat.n = 0) ∧ (bs' = true ∨ t.dat.s = []) ∧ (bl = true ∨ t.dat.names = [])))) (∀ g2, Ex g g2 → Value.bool (eqI ((nn : Nat) : Int) 0) = .bool (tf ((bn = true ∨ t.dat.n = 0) ∧ (bs' = true ∨ t.dat.s = []) ∧ (bl = true ∨ t.dat.names = [])))))
      (ifB (tf (t.dat.s = [])) (ifB bl (∀ g1, Ex g g1 → Value.bool true = .bool (tf ((bn = true ∨ t.dat.n = 0) ∧ (bs' = true ∨ t.dat.s = []) ∧ (bl = true ∨ t.dat.names = [])))) (∀ g2, Ex g g2 → Value.bool (eqI ((nn : Nat) : Int) 0) = .bool (tf ((bn = true ∨ t.dat.n = 0) ∧ (bs' = true ∨ t.dat.s = []) ∧ (bl = true ∨ t.dat.names = []))))) (∀ g5, Ex g g5 → Value.bool false = .bool (tf ((bn = true ∨ t.dat.n = 0) ∧ (bs' = true ∨ t.dat.s = []) ∧ (bl = true ∨ t.dat.names = []))))) :=
    fun h1 => ifT (fun q => last h1 (.inl q)) (fun q => ifP (fun q2 => last h1 (.inr q2)) (fun q2 g5 _ => vF (fun hh => q2 (hh.2.1.resolve_left (by rw [q]; decide)))))
  exact ifT (fun q => mid (.inl q)) (fun q => ifEq (fun q2 => mid (.inr q2)) (fun q2 g5 _ => vF (fun hh => q2 (hh.1.resolve_left (by rw [q]; decide)))))
/-- path. -/
theorem kk172 (L : List (List UInt8)) (low : Bool) {a : Option Addr} {n c : Nat} {g : G} (h : SlE strE g a n c L) : CallsP Tryz.prog 174 #[.slice a n c, .bool low] g fun v _ => v = .bool (tf (pathP L low)) := by
  refine call174 a n c low g _ ?_
  have hl := h.len
  unfold F174 pathP
  intro J hJ
  refine ifLt (fun h1 g8 _ => vF (by omega)) (fun h1 => ifLt (fun h2 g9 _ => vF (by omega)) (fun h2 => hJ g ?_))
  have e2 : L.length - 1 = n - 1 := by omega
  rw [e2]
  have gl : L[n - 1]? = some (L.getD (n - 1) []) := by rw [List.getD_eq_getElem?_getD, List.getElem?_eq_getElem (by omega)]; rfl
  refine ⟨fun m i g' => ∃ j : Nat, i = ((j : Nat) : Int) ∧ j + m = n ∧ (∀ x ∈ (L.take (n - 1)).take j, upperP x) ∧ (j = n → if low = true then lowerP (L.getD (n - 1) []) else upperP (L.getD (n - 1) [])), ⟨n, 0, rfl, by omega, by simp, fun hh => by omega⟩, ?_⟩
  rintro m i g2 le ⟨j, rfl, hj, hall, hlast⟩
  refine ifLt (fun hlt => ?_) (fun hge g8 _ => vT ⟨by omega, by omega, ?_, hlast (by omega)⟩)
  rotate_left
  · rwa [take_all (by rw [List.length_take]; omega)] at hall
  have gj := List.getElem?_eq_getElem (show j < L.length by omega)
  have last : j ≠ n - 1 → (L.take (n - 1))[j]? = some L[j] := fun hne => by rw [List.getElem?_take, if_pos (by omega)]; exact gj
  have lastE : j = n - 1 → L[j] = L.getD (n - 1) [] := fun e => by subst e; rw [gj] at gl; exact Option.some.inj gl
  generalize L[j] = x at gj last lastE
  intro J1 hJ1
  have key : J1 (tf (low = true ∧ j = n - 1)) g2 := by
    refine hJ1 _ g2 (ifP (fun q => ⟨⟨by omega, by omega⟩, rdS (h.mono (show Le g g2 from le)) j rfl gj ((kk175 x g2).mono ?_)⟩) (fun q => ⟨⟨by omega, by omega⟩, rdS (h.mono (show Le g g2 from le)) j rfl gj ((kk178 x g2).mono ?_)⟩))
    · rintro v g4 _ rfl
      refine ⟨_, rfl, ifPn (fun q2 g5 _ => vF (fun hh => ?_)) (fun q2 => ⟨i64 (by omega) (by omega), m - 1, by omega, j + 1, by omega, by omega, ?_, fun _ => ?_⟩)⟩
      · have := hh.2.2.2
        rw [if_pos q.1, ← lastE q.2] at this
        exact q2 this
      · rw [take_all (by rw [List.length_take]; omega)]
        rwa [take_all (by rw [List.length_take]; omega)] at hall
      · rw [if_pos q.1, ← lastE q.2]
        exact q2
    · rintro v g4 _ rfl
      by_cases hjl : j = n - 1
      · have hlow : ¬ low = true := fun hh => q ⟨hh, hjl⟩
        refine ⟨_, rfl, ifPn (fun q2 g5 _ => vF (fun hh => ?_)) (fun q2 => ⟨i64 (by omega) (by omega), m - 1, by omega, j + 1, by omega, by omega, ?_, fun _ => ?_⟩)⟩
        · have := hh.2.2.2
          rw [if_neg hlow, ← lastE hjl] at this
          exact q2 this
        · rw [take_all (by rw [List.length_take]; omega)]
          rwa [take_all (by rw [List.length_take]; omega)] at hall
        · rw [if_neg hlow, ← lastE hjl]
          exact q2
      · refine ⟨_, rfl, ifPn (fun q2 g5 _ => vF (fun hh => q2 (hh.2.2.1 x (List.mem_of_getElem? (last hjl))))) (fun q2 => ⟨i64 (by omega) (by omega), m - 1, by omega, j + 1, by omega, by omega, (all_take (last hjl) _).2 ⟨hall, q2⟩, fun hh => by omega⟩)⟩
  refine ifT (fun q => ⟨i64 (by omega) (by omega), ?_⟩) (fun q => ?_)
  · rw [tf_eq, tf_iff (q := low = true ∧ j = n - 1) ⟨fun hh => ⟨q, by omega⟩, fun hh => by omega⟩]
    exact key
  · rwa [tf_no (fun hh => by rw [q] at hh; exact absurd hh.1 (by decide))] at key
/-- all. -/
theorem kk173 (t : Sy) (lo hi : Nat) (cat : Int) (hc : cat ≠ 0) {na : Option Addr} {nn nc : Nat} {a : Option Addr} {n c : Nat} {g : G} (h : SynI g t na nn nc a n c) (h1 : lo ≤ hi) (h2 : hi ≤ n) {x y : Int} (hx : x = ((lo : Nat) : Int)) (hy : y = ((hi : Nat) : Int)) :
    CallsP Tryz.prog 175 #[synV t na nn nc a n c, .int .i64 x, .int .i64 y, .int .i64 cat] g fun v _ => v = .bool (tf (∀ x ∈ (t.kids.drop lo).take (hi - lo), belP cat x.dat.op)) := by
  subst hx; subst hy
  refine call175 _ _ _ _ _ _ _ _ _ _ _ cat g _ ?_
  have hl := h.kids.len
  have hcp := h.kids.le
  have hm := h.kids.cap
  unfold maxLen at hm
  unfold F175
  refine ⟨fun m i g' => ∃ j : Nat, i = ((lo + j : Nat) : Int) ∧ lo + j + m = hi ∧ ∀ x ∈ (t.kids.drop lo).take j, belP cat x.dat.op, fun g1 _ => ⟨hi - lo, 0, by omega, by omega, by simp⟩, ?_⟩
  rintro m i g2 le ⟨j, rfl, hj, hall⟩
  refine ifLt (fun hlt => ⟨⟨by omega, by omega⟩, ?_⟩) (fun hge g5 _ => vT ?_)
  · have gj := List.getElem?_eq_getElem (show lo + j < t.kids.length by omega)
    have gd : (t.kids.drop lo)[j]? = some t.kids[lo + j] := by rw [List.getElem?_drop]; exact gj
    have gd2 : ((t.kids.drop lo).take (hi - lo))[j]? = some t.kids[lo + j] := by rw [List.getElem?_take, if_pos (by omega)]; exact gd
    generalize t.kids[lo + j] = y at gj gd gd2
    refine rdO (h.kids.mono le) (lo + j) rfl gj ((kk81 y.dat.op cat hc g2).mono ?_)
    rintro v g3 _ rfl
    exact ⟨_, rfl, ifPn (fun q g4 _ => vF (fun hh => q (hh _ (List.mem_of_getElem? gd2)))) (fun q => ⟨i64 (by omega) (by omega), m - 1, by omega, j + 1, by omega, by omega, (all_take gd _).2 ⟨hall, q⟩⟩)⟩
  · rwa [show j = hi - lo by omega] at hall
/-- .. of all parts. -/
theorem kk173a (t : Sy) (cat : Int) (hc : cat ≠ 0) {na : Option Addr} {nn nc : Nat} {a : Option Addr} {n c : Nat} {g : G} (h : SynI g t na nn nc a n c) :
    CallsP Tryz.prog 175 #[synV t na nn nc a n c, .int .i64 0, .int .i64 ((n : Nat) : Int), .int .i64 cat] g fun v _ => v = .bool (tf (∀ x ∈ t.kids, belP cat x.dat.op)) := by
  have hl := h.kids.len
  have := kk173 t 0 n cat hc h (Nat.zero_le _) (Nat.le_refl _) (x := 0) rfl rfl
  rwa [List.drop_zero, take_all (by omega)] at this
def exactP (l : List Sy) (cats : List Int) : Prop := l.length = cats.length ∧ ∀ p ∈ l.zip cats, (p.2 = 0 ∧ p.1.dat.op = 72) ∨ (p.2 ≠ 0 ∧ belP p.2 p.1.dat.op)
/-- exact. -/
theorem kk174 (t : Sy) (cats : List Int) {na : Option Addr} {nn nc : Nat} {a : Option Addr} {n c : Nat} {g : G} (h : SynI g t na nn nc a n c) {oa : Option Addr} {on oc : Nat} (ho : SlE intE' g oa on oc cats) (hon : on ≤ 1048576) :
    CallsP Tryz.prog 176 #[synV t na nn nc a n c, .slice oa on oc] g fun v _ => v = .bool (tf (exactP t.kids cats)) := by
  refine call176 _ _ _ _ _ _ _ _ _ oa on oc g _ ?_
  have hl := h.kids.len
  have hol := ho.len
  unfold F176 exactP
  refine ifNe (fun hne g1 _ => vF (by omega)) (fun heq => ?_)
  have hzl : (t.kids.zip cats).length = on := by rw [List.length_zip]; omega
  refine ⟨fun m i g' => ∃ j : Nat, i = ((j : Nat) : Int) ∧ j + m = on ∧ ∀ p ∈ (t.kids.zip cats).take j, (p.2 = 0 ∧ p.1.dat.op = 72) ∨ (p.2 ≠ 0 ∧ belP p.2 p.1.dat.op), fun g2 m2 => ⟨on, 0, rfl, by omega, by simp⟩, ?_⟩
  rintro m i g3 le ⟨j, rfl, hj, hall⟩
  refine ifLt (fun hlt => ?_) (fun hge g6 _ => vT ⟨by omega, by rwa [take_all (by omega)] at hall⟩)
  have gj := List.getElem?_eq_getElem (show j < cats.length by omega)
  have gk := List.getElem?_eq_getElem (show j < t.kids.length by omega)
  have gz : (t.kids.zip cats)[j]? = some (t.kids[j], cats[j]) := by rw [List.getElem?_zip_eq_some]; exact ⟨gk, gj⟩
  generalize cats[j] = cat at gj gz
  generalize t.kids[j] = x at gk gz
  have hin := List.mem_of_getElem? gz
  intro J hJ g5 m5
  have fin : ∀ g', ((cat = 0 ∧ x.dat.op = 72) ∨ (cat ≠ 0 ∧ belP cat x.dat.op)) → J g' := fun g' hh => hJ g' ⟨i64 (by omega) (by omega), m - 1, by omega, j + 1, by omega, by omega, (all_take gz _).2 ⟨hall, hh⟩⟩
  have rn : ∀ {K : Int → Prop}, K cat → derefP oa fun ad => ∃ s : Int, g5.w.cell? (Addr.add ad (Int.toNat ((j : Nat) : Int) * 1)) = some (.int .i64 s) ∧ K s := fun hK => rdN ((ho.mono le).exm m5) j rfl gj hK
  have ro : ∀ {K : Int → Prop}, K x.dat.op → derefP a fun ad => ∃ s : Int, g5.w.cell? (Addr.add ad (Int.toNat ((j : Nat) : Int) * 5)) = some (.int .i64 s) ∧ K s := fun hK => rdO ((h.kids.mono le).exm m5) j rfl gk hK
  have bel : cat ≠ 0 → CallsP Tryz.prog 129 #[.int .i64 x.dat.op, .int .i64 cat] g5 fun v g7 => ∃ y : Bool, v = .bool y ∧ ifB (!y) (∀ g8, Ex g7 g8 → Value.bool false = .bool (tf (t.kids.length = cats.length ∧ ∀ p ∈ t.kids.zip cats, (p.2 = 0 ∧ p.1.dat.op = 72) ∨ (p.2 ≠ 0 ∧ belP p.2 p.1.dat.op)))) (J g7) := by
    intro hc
    refine (kk81 x.dat.op cat hc g5).mono ?_
    rintro v g7 _ rfl
    exact ⟨_, rfl, ifPn (fun q g8 _ => vF (fun hh => by
      rcases hh.2 _ hin with ⟨e, _⟩ | ⟨_, e⟩
      · exact hc e
      · exact q e)) (fun q => fin g7 (.inr ⟨hc, q⟩))⟩
  refine ⟨⟨by omega, by omega⟩, rn (ifEq (fun q => ⟨⟨by omega, by omega⟩, ro (ifNe (fun q2 g6 _ => vF (fun hh => ?_)) (fun q2 => ⟨⟨by omega, by omega⟩, rn (ifNe (fun q3 => absurd q q3) (fun _ => fin g5 (.inl ⟨q, q2⟩)))⟩))⟩) (fun q => ⟨⟨by omega, by omega⟩, rn (ifNe (fun _ => ⟨⟨by omega, by omega⟩, ro ⟨⟨by omega, by omega⟩, rn (bel q)⟩⟩) (fun q3 => absurd q3 q))⟩))⟩
  rcases hh.2 _ hin with ⟨_, e⟩ | ⟨e, _⟩
  · exact q2 e
  · exact e q
theorem kk174l (t : Sy) (cats : List Int) {na : Option Addr} {nn nc : Nat} {a : Option Addr} {n c : Nat} {g g1 : G} (h : SynI g t na nn nc a n c) (hn : NewL g g1 3 (cats.map (Value.int .i64))) (hc : cats.length ≤ 1000) :
    CallsP Tryz.prog 176 #[synV t na nn nc a n c, .slice (some ⟨g.w.heap.size, 0, none⟩) cats.length cats.length] g1 fun v _ => v = .bool (tf (exactP t.kids cats)) :=
  kk174 t cats (h.exm hn.ex) (hn.sle (ints_rws g cats) (by unfold maxLen; omega)) (by omega)
theorem exact_parts {l : List Sy} {cats : List Int} (h : (0 : Int) ∉ cats) : exactP l cats ↔ partsP l cats := by
  unfold exactP partsP
  refine and_congr_right fun _ => ⟨fun hh p hp => ?_, fun hh p hp => .inr ⟨fun e => h (e ▸ (List.of_mem_zip hp).2), hh p hp⟩⟩
  rcases hh p hp with ⟨e, _⟩ | ⟨_, e⟩
  · exact absurd (e ▸ (List.of_mem_zip hp).2) h
  · exact e
/-- text. -/
theorem kk176 (s : List UInt8) (g : G) (hs : s.length ≤ 1048576) : CallsP Tryz.prog 178 #[.string (bstr s)] g fun v _ => v = .bool (tf (plainP s)) := by
  refine call178 _ g _ ?_
  unfold F178 plainP
  refine ⟨fun m i g' => ∃ j : Nat, i = ((j : Nat) : Int) ∧ j + m = s.length ∧ ∀ c ∈ s.take j, c.toNat = 10 ∨ (32 ≤ c.toNat ∧ c.toNat ≤ 126), ⟨s.length, 0, rfl, by omega, by simp⟩, ?_⟩
  rintro m i g1 le ⟨j, rfl, hj, hall⟩
  rw [size_i]
  refine ifLt (fun hlt => ?_) (fun hge g4 _ => ?_)
  · have hat := bstr_at (s := s) (i := j) (by omega)
    have gj := getD0 (s := s) (i := j) (by omega)
    generalize s.getD j 0 = b at hat gj
    have hin := List.mem_of_getElem? gj
    refine ⟨b, ⟨by omega, hat⟩, ifNe (fun h1 => ⟨b, ⟨by omega, hat⟩, ifLt (fun h2 g2 _ => vF (fun hh => by have := hh.1 b hin; omega)) (fun h2 => ⟨b, ⟨by omega, hat⟩, ifLt (fun h3 g3 _ => vF (fun hh => by have := hh.1 b hin; omega)) (fun h3 => ?_)⟩)⟩) (fun h1 => ?_)⟩
    · exact ⟨i64 (by omega) (by omega), m - 1, by omega, j + 1, by omega, by omega, (all_take gj _).2 ⟨hall, by omega⟩⟩
    · exact ⟨i64 (by omega) (by omega), m - 1, by omega, j + 1, by omega, by omega, (all_take gj _).2 ⟨hall, by omega⟩⟩
  · rw [take_all (by omega)] at hall
    rw [tf_le]
    exact vP ⟨fun hh => ⟨hall, by omega⟩, fun hh => by omega⟩
/-- params. -/
theorem kk177 (L : List (List UInt8)) {a : Option Addr} {n c : Nat} {g : G} (h : SlE strE g a n c L) : CallsP Tryz.prog 179 #[.slice a n c] g fun v _ => v = .bool (tf (paramsP L)) := by
  refine call179 a n c g _ ?_
  have hl := h.len
  have hcp := h.le
  have hmx := h.cap
  unfold maxLen at hmx
  unfold F179 paramsP
  refine ⟨fun m i g' => ∃ j : Nat, i = ((j : Nat) : Int) ∧ j + m = n ∧ (∀ x ∈ L.take j, tvarP x) ∧ (L.take j).Nodup, ⟨n, 0, rfl, by omega, by simp, by simp⟩, ?_⟩
  rintro m i g1 le ⟨j, rfl, hj, hall, hnd⟩
  refine ifLt (fun hlt => ⟨⟨by omega, by omega⟩, ?_⟩) (fun hge g7 _ => ?_)
  · have gj := List.getElem?_eq_getElem (show j < L.length by omega)
    have hin := List.mem_of_getElem? gj
    generalize L[j] = x at gj hin
    refine rdS (h.mono le) j rfl gj ((kk171 x g1).mono ?_)
    rintro v g2 m2 rfl
    refine ⟨_, rfl, ifPn (fun hv g3 _ => vF (fun hh => hv (hh.1 _ hin))) (fun hv => ?_)⟩
    refine ⟨fun m' i' g' => ∃ k : Nat, i' = ((k : Nat) : Int) ∧ k + m' = j ∧ ∀ y ∈ L.take k, x ≠ y, ⟨j, 0, rfl, by omega, by simp⟩, ?_⟩
    rintro m' i' g4 le4 ⟨k, rfl, hk, hne⟩
    refine ifLt (fun hlt2 g5 m5 => ⟨⟨by omega, by omega⟩, ?_⟩) (fun hge2 => ⟨i64 (by omega) (by omega), m - 1, by omega, j + 1, by omega, by omega, (all_take gj _).2 ⟨hall, hv⟩, (nodup_take gj).2 ⟨hnd, fun hx => ?_⟩⟩)
    · have h5 := (((h.mono le).exm m2).mono le4).exm m5
      have gk := List.getElem?_eq_getElem (show k < L.length by omega)
      generalize L[k] = y at gk
      refine rdS h5 j rfl gj ⟨⟨by omega, by omega⟩, rdS h5 k rfl gk ?_⟩
      rw [strEq_bstr]
      refine ifP (fun q g6 _ => vF (fun hh => ?_)) (fun q => ⟨i64 (by omega) (by omega), m' - 1, by omega, k + 1, by omega, by omega, (all_take gk _).2 ⟨hne, q⟩⟩)
      have hsub : (L.take (j + 1)).Nodup := hh.2.1.sublist (List.take_sublist _ _)
      refine ((nodup_take gj).1 hsub).2 ?_
      rw [q]
      refine List.mem_of_getElem? (i := k) ?_
      rw [List.getElem?_take, if_pos (by omega)]
      exact gk
    · rw [show k = j by omega] at hne
      exact hne x hx rfl
  · rw [take_all (by omega)] at hall hnd
    rw [tf_le]
    exact vP ⟨fun hh => ⟨hall, hnd, by omega⟩, fun hh => by omega⟩
end Go.Proofs.YtmkdbndniffkfaaGreatDoor
/- Syntax trees: for each kind, that a node is right, in the order of the reference's tests. Printed by a program (wip/tools/genforms.py). -/
set_option linter.unusedVariables false
namespace Go.Proofs.YtmkdbndniffkfaaGreatDoor
open Go Go.Vc Go.RowKit Go.Syn

/-- A node is right: its fields, its parts, and that a type behind 'with' has no name. -/
def nodeP (d : SynD) (l : List Sy) (w : Bool) : Prop := ownP d w ∧ shapeP d l ∧ (d.op = 74 → (l.getD 1 noSy).dat.s = [])
theorem exact_0 (l : List Sy) : exactP l [0] ↔ l.length = 1 ∧ onlyP l [72] := by
  unfold exactP onlyP
  match l with
  | [] => simp
  | [a] => simp [belP]
  | a :: b :: r => simp
theorem exact_30 (l : List Sy) : exactP l [3, 0] ↔ l.length = 2 ∧ belP 3 (l.getD 0 noSy).dat.op ∧ onlyP (l.drop 1) [72] := by
  unfold exactP onlyP
  match l with
  | [] => simp
  | [a] => simp
  | [a, b] => simp
  | a :: b :: c :: r => simp
theorem node_1 {d : SynD} {l : List Sy} {w : Bool} (h : d.op = 1) : nodeP d l w ↔ (bare3 d false true false) ∧ (tvarP d.s) ∧ (l = []) := by
  unfold nodeP ownP bareP bare3 ownB shapeP usesN usesS usesL manyP
  first | (simp [h]; done) | (simp [h, and_assoc]; done)
theorem node_2 {d : SynD} {l : List Sy} {w : Bool} (h : d.op = 2) : nodeP d l w ↔ (bare3 d false false true) ∧ (pathP d.names true) ∧ (((l.length : Nat) : Int) ≤ 4) ∧ (∀ x ∈ l, belP 1 x.dat.op) := by
  unfold nodeP ownP bareP bare3 ownB shapeP usesN usesS usesL manyP
  first | (simp [h]; done) | (simp [h, and_assoc]; done)
theorem node_3 {d : SynD} {l : List Sy} {w : Bool} (h : d.op = 3) : nodeP d l w ↔ (bare3 d false false false) ∧ (exactP l [1, 1]) := by
  rw [exact_parts (l := l) (show (0 : Int) ∉ [1, 1] by decide)]
  unfold nodeP ownP bareP bare3 ownB shapeP usesN usesS usesL manyP
  first | (simp [h]; done) | (simp [h, and_assoc]; done)
theorem node_4 {d : SynD} {l : List Sy} {w : Bool} (h : d.op = 4) : nodeP d l w ↔ (bare3 d false false false) ∧ (2 ≤ ((l.length : Nat) : Int)) ∧ (((l.length : Nat) : Int) ≤ 9) ∧ (∀ x ∈ l, belP 1 x.dat.op) := by
  unfold nodeP ownP bareP bare3 ownB shapeP usesN usesS usesL manyP
  first | (simp [h]; done) | (simp [h, and_assoc]; done)
theorem node_5 {d : SynD} {l : List Sy} {w : Bool} (h : d.op = 5) : nodeP d l w ↔ (bare3 d false false true) ∧ (pathP d.names false) ∧ (l = []) := by
  unfold nodeP ownP bareP bare3 ownB shapeP usesN usesS usesL manyP
  first | (simp [h]; done) | (simp [h, and_assoc]; done)
theorem node_11 {d : SynD} {l : List Sy} {w : Bool} (h : d.op = 11) : nodeP d l w ↔ (bare3 d false false false) ∧ (l = []) := by
  unfold nodeP ownP bareP bare3 ownB shapeP usesN usesS usesL manyP
  first | (simp [h]; done) | (simp [h, and_assoc]; done)
theorem node_12 {d : SynD} {l : List Sy} {w : Bool} (h : d.op = 12) : nodeP d l w ↔ (bare3 d false true false) ∧ (lowerP d.s) ∧ (l = []) := by
  unfold nodeP ownP bareP bare3 ownB shapeP usesN usesS usesL manyP
  first | (simp [h]; done) | (simp [h, and_assoc]; done)
theorem node_13 {d : SynD} {l : List Sy} {w : Bool} (h : d.op = 13) : nodeP d l w ↔ (bare3 d true false false) ∧ ((-4503599627370496 ≤ d.n ∧ d.n ≤ 4503599627370496)) ∧ (l = []) := by
  unfold nodeP ownP bareP bare3 ownB shapeP usesN usesS usesL manyP
  first | (simp [h]; done) | (simp [h, and_assoc]; done)
theorem node_14 {d : SynD} {l : List Sy} {w : Bool} (h : d.op = 14) : nodeP d l w ↔ (bare3 d false false true) ∧ (pathP d.names false) ∧ (((l.length : Nat) : Int) ≤ 1) ∧ (∀ x ∈ l, belP 2 x.dat.op) := by
  unfold nodeP ownP bareP bare3 ownB shapeP usesN usesS usesL manyP
  first | (simp [h]; done) | (simp [h, and_assoc]; done)
theorem node_15 {d : SynD} {l : List Sy} {w : Bool} (h : d.op = 15) : nodeP d l w ↔ (bare3 d false false false) ∧ (l.length ≠ 1) ∧ (((l.length : Nat) : Int) ≤ 9) ∧ (∀ x ∈ l, belP 2 x.dat.op) := by
  unfold nodeP ownP bareP bare3 ownB shapeP usesN usesS usesL manyP
  first | (simp [h]; done) | (simp [h, and_assoc]; done)
theorem node_21 {d : SynD} {l : List Sy} {w : Bool} (h : d.op = 21) : nodeP d l w ↔ (bare3 d true false false) ∧ ((0 ≤ d.n ∧ d.n ≤ 4503599627370496)) ∧ (l = []) := by
  unfold nodeP ownP bareP bare3 ownB shapeP usesN usesS usesL manyP
  first | (simp [h]; done) | (simp [h, and_assoc]; done)
theorem node_22 {d : SynD} {l : List Sy} {w : Bool} (h : d.op = 22) : nodeP d l w ↔ (bare3 d false true false) ∧ (plainP d.s) ∧ (l = []) := by
  unfold nodeP ownP bareP bare3 ownB shapeP usesN usesS usesL manyP
  first | (simp [h]; done) | (simp [h, and_assoc]; done)
theorem node_23 {d : SynD} {l : List Sy} {w : Bool} (h : d.op = 23) : nodeP d l w ↔ (bare3 d false false true) ∧ (pathP d.names true) ∧ (l = []) := by
  unfold nodeP ownP bareP bare3 ownB shapeP usesN usesS usesL manyP
  first | (simp [h]; done) | (simp [h, and_assoc]; done)
theorem node_24 {d : SynD} {l : List Sy} {w : Bool} (h : d.op = 24) : nodeP d l w ↔ (bare3 d false false true) ∧ (pathP d.names false) ∧ (l = []) := by
  unfold nodeP ownP bareP bare3 ownB shapeP usesN usesS usesL manyP
  first | (simp [h]; done) | (simp [h, and_assoc]; done)
theorem node_25 {d : SynD} {l : List Sy} {w : Bool} (h : d.op = 25) : nodeP d l w ↔ (bare3 d false true false) ∧ (d.s = [] ∨ lowerP d.s) ∧ (exactP l [3]) := by
  rw [exact_parts (l := l) (show (0 : Int) ∉ [3] by decide)]
  unfold nodeP ownP bareP bare3 ownB shapeP usesN usesS usesL manyP
  first | (simp [h]; done) | (simp [h, and_assoc]; done)
theorem node_26 {d : SynD} {l : List Sy} {w : Bool} (h : d.op = 26) : nodeP d l w ↔ (bare3 d false false false) ∧ (exactP l [3, 3]) := by
  rw [exact_parts (l := l) (show (0 : Int) ∉ [3, 3] by decide)]
  unfold nodeP ownP bareP bare3 ownB shapeP usesN usesS usesL manyP
  first | (simp [h]; done) | (simp [h, and_assoc]; done)
theorem node_27 {d : SynD} {l : List Sy} {w : Bool} (h : d.op = 27) : nodeP d l w ↔ (bare3 d false false false) ∧ (l.length ≠ 1) ∧ (((l.length : Nat) : Int) ≤ 9) ∧ (∀ x ∈ l, belP 3 x.dat.op) := by
  unfold nodeP ownP bareP bare3 ownB shapeP usesN usesS usesL manyP
  first | (simp [h]; done) | (simp [h, and_assoc]; done)
theorem node_28 {d : SynD} {l : List Sy} {w : Bool} (h : d.op = 28) : nodeP d l w ↔ (bare3 d false false false) ∧ (exactP l [3, 3, 3]) := by
  rw [exact_parts (l := l) (show (0 : Int) ∉ [3, 3, 3] by decide)]
  unfold nodeP ownP bareP bare3 ownB shapeP usesN usesS usesL manyP
  first | (simp [h]; done) | (simp [h, and_assoc]; done)
theorem node_29 {d : SynD} {l : List Sy} {w : Bool} (h : d.op = 29) : nodeP d l w ↔ (bare3 d false false false) ∧ (2 ≤ l.length) ∧ (belP 3 (l.getD 0 noSy).dat.op) ∧ (onlyP (l.drop 1) [30]) := by
  unfold nodeP ownP bareP bare3 ownB shapeP usesN usesS usesL manyP
  first | (simp [h]; done) | (simp [h, and_assoc]; done)
theorem node_30 {d : SynD} {l : List Sy} {w : Bool} (h : d.op = 30) : nodeP d l w ↔ (bare3 d false false false) ∧ (exactP l [2, 3]) := by
  rw [exact_parts (l := l) (show (0 : Int) ∉ [2, 3] by decide)]
  unfold nodeP ownP bareP bare3 ownB shapeP usesN usesS usesL manyP
  first | (simp [h]; done) | (simp [h, and_assoc]; done)
theorem node_31 {d : SynD} {l : List Sy} {w : Bool} (h : d.op = 31) : nodeP d l w ↔ (bare3 d false false false) ∧ (1 ≤ l.length) ∧ (belP 3 (l.getD (l.length - 1) noSy).dat.op) ∧ (onlyP (l.take (l.length - 1)) [41, 42, 50]) := by
  unfold nodeP ownP bareP bare3 ownB shapeP usesN usesS usesL manyP
  first | (simp [h]; done) | (simp [h, and_assoc]; done)
theorem node_33 {d : SynD} {l : List Sy} {w : Bool} (h : d.op = 33) : nodeP d l w ↔ (bare3 d false false false) ∧ (exactP l [3, 1]) := by
  rw [exact_parts (l := l) (show (0 : Int) ∉ [3, 1] by decide)]
  unfold nodeP ownP bareP bare3 ownB shapeP usesN usesS usesL manyP
  first | (simp [h]; done) | (simp [h, and_assoc]; done)
theorem node_34 {d : SynD} {l : List Sy} {w : Bool} (h : d.op = 34) : nodeP d l w ↔ (bare3 d false false true) ∧ (pathP d.names false) ∧ (exactP l [0]) := by
  rw [exact_0]
  unfold nodeP ownP bareP bare3 ownB shapeP usesN usesS usesL manyP
  first | (simp [h]; done) | (simp [h, and_assoc]; done)
theorem node_41 {d : SynD} {l : List Sy} {w : Bool} (h : d.op = 41) : nodeP d l w ↔ (bare3 d false true false) ∧ (lowerP d.s) ∧ (exactP l [3]) := by
  rw [exact_parts (l := l) (show (0 : Int) ∉ [3] by decide)]
  unfold nodeP ownP bareP bare3 ownB shapeP usesN usesS usesL manyP
  first | (simp [h]; done) | (simp [h, and_assoc]; done)
theorem node_42 {d : SynD} {l : List Sy} {w : Bool} (h : d.op = 42) : nodeP d l w ↔ (bare3 d false true true) ∧ (lowerP d.s) ∧ (1 ≤ d.names.length) ∧ (d.names.length ≤ 9) ∧ (∀ x ∈ d.names, lowerP x) ∧ (exactP l [3]) := by
  rw [exact_parts (l := l) (show (0 : Int) ∉ [3] by decide)]
  unfold nodeP ownP bareP bare3 ownB shapeP usesN usesS usesL manyP
  first | (simp [h]; done) | (simp [h, and_assoc]; done)
theorem node_43 {d : SynD} {l : List Sy} {w : Bool} (h : d.op = 43) : nodeP d l w ↔ (bare3 d false true true) ∧ ((w = true ∧ d.s = []) ∨ (w = false ∧ lowerP d.s)) ∧ (paramsP d.names) ∧ (exactP l [1]) := by
  rw [exact_parts (l := l) (show (0 : Int) ∉ [1] by decide)]
  unfold nodeP ownP bareP bare3 ownB shapeP usesN usesS usesL manyP
  first | (simp [h]; done) | (simp [h, and_assoc]; done)
theorem node_44 {d : SynD} {l : List Sy} {w : Bool} (h : d.op = 44) : nodeP d l w ↔ (bare3 d false true true) ∧ (lowerP d.s) ∧ (paramsP d.names) ∧ (1 ≤ l.length) ∧ (onlyP l [45]) ∧ (differP l) := by
  unfold nodeP ownP bareP bare3 ownB shapeP usesN usesS usesL manyP
  first | (simp [h]; done) | (simp [h, and_assoc]; done)
theorem node_45 {d : SynD} {l : List Sy} {w : Bool} (h : d.op = 45) : nodeP d l w ↔ (bare3 d false true false) ∧ (upperP d.s) ∧ (((l.length : Nat) : Int) ≤ 1) ∧ (∀ x ∈ l, belP 1 x.dat.op) := by
  unfold nodeP ownP bareP bare3 ownB shapeP usesN usesS usesL manyP
  first | (simp [h]; done) | (simp [h, and_assoc]; done)
theorem node_46 {d : SynD} {l : List Sy} {w : Bool} (h : d.op = 46) : nodeP d l w ↔ (bare3 d false true false) ∧ (upperP d.s) ∧ (exactP l [7]) := by
  rw [exact_parts (l := l) (show (0 : Int) ∉ [7] by decide)]
  unfold nodeP ownP bareP bare3 ownB shapeP usesN usesS usesL manyP
  first | (simp [h]; done) | (simp [h, and_assoc]; done)
theorem node_47 {d : SynD} {l : List Sy} {w : Bool} (h : d.op = 47) : nodeP d l w ↔ (bare3 d false true false) ∧ (upperP d.s) ∧ (exactP l [6]) := by
  rw [exact_parts (l := l) (show (0 : Int) ∉ [6] by decide)]
  unfold nodeP ownP bareP bare3 ownB shapeP usesN usesS usesL manyP
  first | (simp [h]; done) | (simp [h, and_assoc]; done)
theorem node_48 {d : SynD} {l : List Sy} {w : Bool} (h : d.op = 48) : nodeP d l w ↔ (bare3 d false false true) ∧ (pathP d.names false) ∧ (l = []) := by
  unfold nodeP ownP bareP bare3 ownB shapeP usesN usesS usesL manyP
  first | (simp [h]; done) | (simp [h, and_assoc]; done)
theorem node_49 {d : SynD} {l : List Sy} {w : Bool} (h : d.op = 49) : nodeP d l w ↔ (bare3 d false false true) ∧ (pathP d.names false) ∧ (l = []) := by
  unfold nodeP ownP bareP bare3 ownB shapeP usesN usesS usesL manyP
  first | (simp [h]; done) | (simp [h, and_assoc]; done)
theorem node_50 {d : SynD} {l : List Sy} {w : Bool} (h : d.op = 50) : nodeP d l w ↔ (bare3 d false true false) ∧ (upperP d.s) ∧ (exactP l [3, 0]) := by
  rw [exact_30]
  unfold nodeP ownP bareP bare3 ownB shapeP usesN usesS usesL manyP
  first | (simp [h]; done) | (simp [h, and_assoc]; done)
theorem node_61 {d : SynD} {l : List Sy} {w : Bool} (h : d.op = 61) : nodeP d l w ↔ (bare3 d false true false) ∧ (lowerP d.s) ∧ (exactP l [1]) := by
  rw [exact_parts (l := l) (show (0 : Int) ∉ [1] by decide)]
  unfold nodeP ownP bareP bare3 ownB shapeP usesN usesS usesL manyP
  first | (simp [h]; done) | (simp [h, and_assoc]; done)
theorem node_62 {d : SynD} {l : List Sy} {w : Bool} (h : d.op = 62) : nodeP d l w ↔ (bare3 d false true true) ∧ (lowerP d.s) ∧ (paramsP d.names) ∧ (l = []) := by
  unfold nodeP ownP bareP bare3 ownB shapeP usesN usesS usesL manyP
  first | (simp [h]; done) | (simp [h, and_assoc]; done)
theorem node_63 {d : SynD} {l : List Sy} {w : Bool} (h : d.op = 63) : nodeP d l w ↔ (bare3 d false true false) ∧ (upperP d.s) ∧ (exactP l [6]) := by
  rw [exact_parts (l := l) (show (0 : Int) ∉ [6] by decide)]
  unfold nodeP ownP bareP bare3 ownB shapeP usesN usesS usesL manyP
  first | (simp [h]; done) | (simp [h, and_assoc]; done)
theorem node_64 {d : SynD} {l : List Sy} {w : Bool} (h : d.op = 64) : nodeP d l w ↔ (bare3 d false true false) ∧ (upperP d.s) ∧ (exactP l [6]) := by
  rw [exact_parts (l := l) (show (0 : Int) ∉ [6] by decide)]
  unfold nodeP ownP bareP bare3 ownB shapeP usesN usesS usesL manyP
  first | (simp [h]; done) | (simp [h, and_assoc]; done)
theorem node_65 {d : SynD} {l : List Sy} {w : Bool} (h : d.op = 65) : nodeP d l w ↔ (bare3 d false false false) ∧ (exactP l [6]) := by
  rw [exact_parts (l := l) (show (0 : Int) ∉ [6] by decide)]
  unfold nodeP ownP bareP bare3 ownB shapeP usesN usesS usesL manyP
  first | (simp [h]; done) | (simp [h, and_assoc]; done)
theorem node_66 {d : SynD} {l : List Sy} {w : Bool} (h : d.op = 66) : nodeP d l w ↔ (bare3 d false false true) ∧ (pathP d.names true) ∧ (l.length = 1) ∧ (onlyP l [2]) ∧ ((l.getD 0 noSy).kids = []) := by
  unfold nodeP ownP bareP bare3 ownB shapeP usesN usesS usesL manyP
  first | (simp [h]; done) | (simp [h, and_assoc]; done)
theorem node_71 {d : SynD} {l : List Sy} {w : Bool} (h : d.op = 71) : nodeP d l w ↔ (bare3 d false false false) ∧ (∀ x ∈ l, belP 5 x.dat.op) := by
  unfold nodeP ownP bareP bare3 ownB shapeP usesN usesS usesL manyP
  first | (simp [h]; done) | (simp [h, and_assoc]; done)
theorem node_72 {d : SynD} {l : List Sy} {w : Bool} (h : d.op = 72) : nodeP d l w ↔ (bare3 d false false true) ∧ (pathP d.names false) ∧ (l = []) := by
  unfold nodeP ownP bareP bare3 ownB shapeP usesN usesS usesL manyP
  first | (simp [h]; done) | (simp [h, and_assoc]; done)
theorem node_73 {d : SynD} {l : List Sy} {w : Bool} (h : d.op = 73) : nodeP d l w ↔ (bare3 d true true false) ∧ ((d.n = 0 ∨ d.n = 1)) ∧ (upperP d.s) ∧ (exactP l [6, 6]) := by
  rw [exact_parts (l := l) (show (0 : Int) ∉ [6, 6] by decide)]
  unfold nodeP ownP bareP bare3 ownB shapeP usesN usesS usesL manyP
  simp [h, and_assoc]
  exact fun _ => and_left_comm
theorem node_74 {d : SynD} {l : List Sy} {w : Bool} (h : d.op = 74) : nodeP d l w ↔ (bare3 d false false true) ∧ (pathP d.names true) ∧ (l.length = 2) ∧ (belP 6 (l.getD 0 noSy).dat.op) ∧ (onlyP (l.drop 1) [43]) ∧ ((l.getD 1 noSy).dat.s = []) := by
  unfold nodeP ownP bareP bare3 ownB shapeP usesN usesS usesL manyP
  first | (simp [h]; done) | (simp [h, and_assoc]; done)
theorem node_81 {d : SynD} {l : List Sy} {w : Bool} (h : d.op = 81) : nodeP d l w ↔ (bare3 d false false false) ∧ (∀ x ∈ l, belP 4 x.dat.op) := by
  unfold nodeP ownP bareP bare3 ownB shapeP usesN usesS usesL manyP
  first | (simp [h]; done) | (simp [h, and_assoc]; done)
theorem node_82 {d : SynD} {l : List Sy} {w : Bool} (h : d.op = 82) : nodeP d l w ↔ (bare3 d false false true) ∧ (pathP d.names false) ∧ (l = []) := by
  unfold nodeP ownP bareP bare3 ownB shapeP usesN usesS usesL manyP
  first | (simp [h]; done) | (simp [h, and_assoc]; done)
theorem node_83 {d : SynD} {l : List Sy} {w : Bool} (h : d.op = 83) : nodeP d l w ↔ (bare3 d true true false) ∧ ((d.n = 0 ∨ d.n = 1)) ∧ (upperP d.s) ∧ (exactP l [6, 7]) := by
  rw [exact_parts (l := l) (show (0 : Int) ∉ [6, 7] by decide)]
  unfold nodeP ownP bareP bare3 ownB shapeP usesN usesS usesL manyP
  simp [h, and_assoc]
  exact fun _ => and_left_comm
theorem node_84 {d : SynD} {l : List Sy} {w : Bool} (h : d.op = 84) : nodeP d l w ↔ (bare3 d false false false) ∧ (exactP l [7, 7]) := by
  rw [exact_parts (l := l) (show (0 : Int) ∉ [7, 7] by decide)]
  unfold nodeP ownP bareP bare3 ownB shapeP usesN usesS usesL manyP
  first | (simp [h]; done) | (simp [h, and_assoc]; done)
theorem node_85 {d : SynD} {l : List Sy} {w : Bool} (h : d.op = 85) : nodeP d l w ↔ (bare3 d false false false) ∧ (exactP l [7, 6]) := by
  rw [exact_parts (l := l) (show (0 : Int) ∉ [7, 6] by decide)]
  unfold nodeP ownP bareP bare3 ownB shapeP usesN usesS usesL manyP
  first | (simp [h]; done) | (simp [h, and_assoc]; done)
theorem node_86 {d : SynD} {l : List Sy} {w : Bool} (h : d.op = 86) : nodeP d l w ↔ (bare3 d false false false) ∧ (exactP l [7, 6]) := by
  rw [exact_parts (l := l) (show (0 : Int) ∉ [7, 6] by decide)]
  unfold nodeP ownP bareP bare3 ownB shapeP usesN usesS usesL manyP
  first | (simp [h]; done) | (simp [h, and_assoc]; done)
theorem node_87 {d : SynD} {l : List Sy} {w : Bool} (h : d.op = 87) : nodeP d l w ↔ (bare3 d false false false) ∧ (1 ≤ ((l.length : Nat) : Int)) ∧ (∀ x ∈ l.take (l.length - 1), belP 4 x.dat.op) ∧ (belP 7 (l.getD (l.length - 1) noSy).dat.op) := by
  unfold nodeP ownP bareP bare3 ownB shapeP usesN usesS usesL manyP
  simp [h, and_assoc]
  exact fun _ _ _ => ⟨fun ⟨a, b, c⟩ => ⟨by omega, c, b⟩, fun ⟨a, b, c⟩ => ⟨by omega, c, b⟩⟩
theorem node_88 {d : SynD} {l : List Sy} {w : Bool} (h : d.op = 88) : nodeP d l w ↔ (bare3 d false false false) ∧ (exactP l [3, 0]) := by
  rw [exact_30]
  unfold nodeP ownP bareP bare3 ownB shapeP usesN usesS usesL manyP
  first | (simp [h]; done) | (simp [h, and_assoc]; done)
theorem node_32a {d : SynD} {l : List Sy} {w : Bool} (h : d.op = 32) (hn : d.n = 12) : nodeP d l w ↔ (bare3 d true false false) ∧ (exactP l [3]) := by
  rw [exact_parts (l := l) (show (0 : Int) ∉ [3] by decide)]
  unfold nodeP ownP bareP bare3 ownB shapeP usesN usesS usesL manyP
  simp [h, hn]
theorem node_32b {d : SynD} {l : List Sy} {w : Bool} (h : d.op = 32) (hn : d.n ≠ 12) : nodeP d l w ↔ (bare3 d true false false) ∧ (1 ≤ d.n) ∧ (d.n ≤ 11) ∧ (exactP l [3, 3]) := by
  rw [exact_parts (l := l) (show (0 : Int) ∉ [3, 3] by decide)]
  unfold nodeP ownP bareP bare3 ownB shapeP usesN usesS usesL manyP
  have e : d.n ≤ 12 ↔ d.n ≤ 11 := by omega
  simp [h, hn, and_assoc, e]
end Go.Proofs.YtmkdbndniffkfaaGreatDoor
/- Syntax trees: helpers for the forms of the reference. -/
set_option linter.unusedVariables false
namespace Go.Proofs.YtmkdbndniffkfaaGreatDoor
open Go Go.Vc Go.RowKit Go.Syn

theorem and_l {a b c : Prop} (h : a ↔ b) : a ∧ c ↔ b ∧ c := ⟨fun x => ⟨h.1 x.1, x.2⟩, fun x => ⟨h.2 x.1, x.2⟩⟩
/-- all, of the first part, of the last one, of all but the last one. -/
theorem kk173f (t : Sy) (cat : Int) (hc : cat ≠ 0) {na : Option Addr} {nn nc : Nat} {a : Option Addr} {n c : Nat} {g : G} (h : SynI g t na nn nc a n c) (hn : 1 ≤ n) :
    CallsP Tryz.prog 175 #[synV t na nn nc a n c, .int .i64 0, .int .i64 1, .int .i64 cat] g fun v _ => v = .bool (tf (belP cat (t.kids.getD 0 noSy).dat.op)) := by
  have hl := h.kids.len
  have := kk173 t 0 1 cat hc h (by omega) (by omega) (x := 0) (y := 1) rfl rfl
  refine this.mono ?_
  rintro v g' _ rfl
  refine vP ?_
  rw [List.drop_zero]
  generalize t.kids = l at hl ⊢
  match l, hl with
  | [], hl => exact absurd hl (by simp; omega)
  | x :: r, hl => simp
theorem kk173z (t : Sy) (cat : Int) (hc : cat ≠ 0) {na : Option Addr} {nn nc : Nat} {a : Option Addr} {n c : Nat} {g : G} (h : SynI g t na nn nc a n c) (hn : 1 ≤ n) :
    CallsP Tryz.prog 175 #[synV t na nn nc a n c, .int .i64 (((n : Nat) : Int) - 1), .int .i64 ((n : Nat) : Int), .int .i64 cat] g fun v _ => v = .bool (tf (belP cat (t.kids.getD (t.kids.length - 1) noSy).dat.op)) := by
  have hl := h.kids.len
  have := kk173 t (n - 1) n cat hc h (by omega) (by omega) (x := ((n : Nat) : Int) - 1) (y := ((n : Nat) : Int)) (by omega) rfl
  refine this.mono ?_
  rintro v g' _ rfl
  refine vP ?_
  have gl : t.kids[n - 1]? = some (t.kids.getD (n - 1) noSy) := getD_some (by omega)
  have e : (t.kids.drop (n - 1)).take (n - (n - 1)) = [t.kids.getD (n - 1) noSy] := by
    rw [show n - (n - 1) = 1 by omega]
    apply List.ext_getElem?
    intro i
    cases i with
    | zero => rw [List.getElem?_take, if_pos (by omega), List.getElem?_drop]; simpa using gl
    | succ i => rw [List.getElem?_take, if_neg (by omega)]; simp
  rw [e, hl]
  simp
theorem kk173i (t : Sy) (cat : Int) (hc : cat ≠ 0) {na : Option Addr} {nn nc : Nat} {a : Option Addr} {n c : Nat} {g : G} (h : SynI g t na nn nc a n c) (hn : 1 ≤ n) :
    CallsP Tryz.prog 175 #[synV t na nn nc a n c, .int .i64 0, .int .i64 (((n : Nat) : Int) - 1), .int .i64 cat] g fun v _ => v = .bool (tf (∀ x ∈ t.kids.take (t.kids.length - 1), belP cat x.dat.op)) := by
  have hl := h.kids.len
  have := kk173 t 0 (n - 1) cat hc h (by omega) (by omega) (x := 0) (y := ((n : Nat) : Int) - 1) rfl (by omega)
  rwa [List.drop_zero, show n - 1 - 0 = t.kids.length - 1 by omega] at this
/-- A read of the string of a part. -/
theorem rdStr {L : List Sy} {a : Option Addr} {n c : Nat} {g : G} (h : SlE synE g a n c L) {i : Int} (p : Nat) (hi : i = (p : Int)) {t : Sy} (ht : L[p]? = some t) {K : ByteArray → Prop} (hk : K (bstr t.dat.s)) :
    derefP a fun ad => ∃ x : ByteArray, g.w.cell? (Addr.add (Addr.add ad (Int.toNat i * 5)) 2) = some (.string x) ∧ K x :=
  rdA h p hi ht fun ad na nn nc ka kn kc _ hcell => ⟨_, (hcell g (Le.refl g)).2.2.1, hk⟩
theorem only1 {l : List Sy} (h : l.length = 1) (k : Int) : onlyP l [k] ↔ (l.getD 0 noSy).dat.op = k := by
  match l, h with
  | [x], _ => simp [onlyP]
theorem only2 {l : List Sy} (h : l.length = 2) (k : Int) : onlyP (l.drop 1) [k] ↔ (l.getD 1 noSy).dat.op = k := by
  match l, h with
  | [x, y], _ => simp [onlyP]
end Go.Proofs.YtmkdbndniffkfaaGreatDoor
/- Syntax trees: the forms of the reference. Printed by a program (wip/tools/genwalk.py). -/
set_option linter.unusedVariables false
namespace Go.Proofs.YtmkdbndniffkfaaGreatDoor
open Go Go.Vc Go.RowKit Go.Syn

theorem kk156 (t : Sy) (w : Bool) {na : Option Addr} {nn nc : Nat} {a : Option Addr} {n c : Nat} {g : G} (h : SynI g t na nn nc a n c) (hs : t.dat.s.length ≤ 1048576) (hR : 1 ≤ t.dat.op ∧ t.dat.op ≤ 5) :
    CallsP Tryz.prog 159 #[synV t na nn nc a n c] g fun v _ => v = .bool (tf (nodeP t.dat t.kids w)) := by
  refine call159 _ _ _ _ _ _ _ _ _ g _ ?_
  have hl := h.kids.len
  have hnl := h.names.len
  have hcp := h.kids.le
  have hmx := h.kids.cap
  unfold maxLen at hmx
  have h0 : ((n : Nat) : Int) = 0 ↔ t.kids = [] := by
    rw [← hl]
    cases t.kids with
    | nil => simp
    | cons x r => simp; omega
  unfold F159
  refine ifEq (fun q => ?_) (fun z1 => ?_)
  · rw [tf_iff (node_1 q)]
    intro a2 w2
    refine andC (kk170 t false true false (h.exm ((Ex.refl g).trans w2))) (fun p3 x3 e3 => ?_)
    rw [tf_andT p3]
    refine andC (kk171 t.dat.s _) (fun p4 x4 e4 => ?_)
    rw [tf_andT p4]
    exact fun _ _ => by rw [tf_eq]; exact vP h0
  refine ifEq (fun q => ?_) (fun z5 => ?_)
  · rw [tf_iff (node_2 q)]
    intro a6 w6
    refine andC (kk170 t false false true (h.exm ((Ex.refl g).trans w6))) (fun p7 x7 e7 => ?_)
    rw [tf_andT p7]
    refine andC (kk172 t.dat.names true (h.names.exm (((Ex.refl g).trans w6).trans e7))) (fun p8 x8 e8 => ?_)
    rw [tf_andT p8]
    refine ifLe (fun p9 => ?_) (fun p9 _ _ => vFl (by omega))
    rw [tf_andT (show ((t.kids.length : Nat) : Int) ≤ 4 by omega)]
    exact endC (kk173a t 1 (by decide) (h.exm ((((Ex.refl g).trans w6).trans e7).trans e8)))
  refine ifEq (fun q => ?_) (fun z10 => ?_)
  · rw [tf_iff (node_3 q)]
    intro a11 w11
    refine andC (kk170 t false false false (h.exm ((Ex.refl g).trans w11))) (fun p12 x12 e12 => ?_)
    rw [tf_andT p12]
    intro y13 n13
    exact endC (kk174l t [1, 1] (h.exm (((Ex.refl g).trans w11).trans e12)) n13 (by decide))
  refine ifEq (fun q => ?_) (fun z14 => ?_)
  · rw [tf_iff (node_4 q)]
    intro a15 w15
    refine andC (kk170 t false false false (h.exm ((Ex.refl g).trans w15))) (fun p16 x16 e16 => ?_)
    rw [tf_andT p16]
    refine ifLe (fun p17 => ?_) (fun p17 _ _ => vFl (by omega))
    rw [tf_andT (show 2 ≤ ((t.kids.length : Nat) : Int) by omega)]
    refine ifLe (fun p18 => ?_) (fun p18 _ _ => vFl (by omega))
    rw [tf_andT (show ((t.kids.length : Nat) : Int) ≤ 9 by omega)]
    exact endC (kk173a t 1 (by decide) (h.exm (((Ex.refl g).trans w15).trans e16)))
  have q : t.dat.op = 5 := by omega
  rw [tf_iff (node_5 q)]
  intro a19 w19
  refine andC (kk170 t false false true (h.exm ((Ex.refl g).trans w19))) (fun p20 x20 e20 => ?_)
  rw [tf_andT p20]
  refine andC (kk172 t.dat.names false (h.names.exm (((Ex.refl g).trans w19).trans e20))) (fun p21 x21 e21 => ?_)
  rw [tf_andT p21]
  exact fun _ _ => by rw [tf_eq]; exact vP h0
theorem kk157 (t : Sy) (w : Bool) {na : Option Addr} {nn nc : Nat} {a : Option Addr} {n c : Nat} {g : G} (h : SynI g t na nn nc a n c) (hs : t.dat.s.length ≤ 1048576) (hR : 11 ≤ t.dat.op ∧ t.dat.op ≤ 15) :
    CallsP Tryz.prog 160 #[synV t na nn nc a n c] g fun v _ => v = .bool (tf (nodeP t.dat t.kids w)) := by
  refine call160 _ _ _ _ _ _ _ _ _ g _ ?_
  have hl := h.kids.len
  have hnl := h.names.len
  have hcp := h.kids.le
  have hmx := h.kids.cap
  unfold maxLen at hmx
  have h0 : ((n : Nat) : Int) = 0 ↔ t.kids = [] := by
    rw [← hl]
    cases t.kids with
    | nil => simp
    | cons x r => simp; omega
  unfold F160
  refine ifEq (fun q => ?_) (fun z22 => ?_)
  · rw [tf_iff (node_11 q)]
    intro a23 w23
    refine andC (kk170 t false false false (h.exm ((Ex.refl g).trans w23))) (fun p24 x24 e24 => ?_)
    rw [tf_andT p24]
    exact fun _ _ => by rw [tf_eq]; exact vP h0
  refine ifEq (fun q => ?_) (fun z25 => ?_)
  · rw [tf_iff (node_12 q)]
    intro a26 w26
    refine andC (kk170 t false true false (h.exm ((Ex.refl g).trans w26))) (fun p27 x27 e27 => ?_)
    rw [tf_andT p27]
    refine andC (kk175 t.dat.s _) (fun p28 x28 e28 => ?_)
    rw [tf_andT p28]
    exact fun _ _ => by rw [tf_eq]; exact vP h0
  refine ifEq (fun q => ?_) (fun z29 => ?_)
  · rw [tf_iff (node_13 q)]
    intro a30 w30
    refine andC (kk170 t true false false (h.exm ((Ex.refl g).trans w30))) (fun p31 x31 e31 => ?_)
    rw [tf_andT p31]
    refine ifLe (fun p32 => ifLe (fun q32 => ?_) (fun q32 _ _ => vFl (by omega))) (fun p32 _ _ => vFl (by omega))
    rw [tf_andT (show -4503599627370496 ≤ t.dat.n ∧ t.dat.n ≤ 4503599627370496 from ⟨p32, q32⟩)]
    exact fun _ _ => by rw [tf_eq]; exact vP h0
  refine ifEq (fun q => ?_) (fun z33 => ?_)
  · rw [tf_iff (node_14 q)]
    intro a34 w34
    refine andC (kk170 t false false true (h.exm ((Ex.refl g).trans w34))) (fun p35 x35 e35 => ?_)
    rw [tf_andT p35]
    refine andC (kk172 t.dat.names false (h.names.exm (((Ex.refl g).trans w34).trans e35))) (fun p36 x36 e36 => ?_)
    rw [tf_andT p36]
    refine ifLe (fun p37 => ?_) (fun p37 _ _ => vFl (by omega))
    rw [tf_andT (show ((t.kids.length : Nat) : Int) ≤ 1 by omega)]
    exact endC (kk173a t 2 (by decide) (h.exm ((((Ex.refl g).trans w34).trans e35).trans e36)))
  have q : t.dat.op = 15 := by omega
  rw [tf_iff (node_15 q)]
  intro a38 w38
  refine andC (kk170 t false false false (h.exm ((Ex.refl g).trans w38))) (fun p39 x39 e39 => ?_)
  rw [tf_andT p39]
  refine ifNe (fun p40 => ?_) (fun p40 _ _ => vFl (by omega))
  rw [tf_andT (show t.kids.length ≠ 1 by omega)]
  refine ifLe (fun p41 => ?_) (fun p41 _ _ => vFl (by omega))
  rw [tf_andT (show ((t.kids.length : Nat) : Int) ≤ 9 by omega)]
  exact endC (kk173a t 2 (by decide) (h.exm (((Ex.refl g).trans w38).trans e39)))
theorem kk158 (t : Sy) (w : Bool) {na : Option Addr} {nn nc : Nat} {a : Option Addr} {n c : Nat} {g : G} (h : SynI g t na nn nc a n c) (hs : t.dat.s.length ≤ 1048576) (hR : 21 ≤ t.dat.op ∧ t.dat.op ≤ 34) :
    CallsP Tryz.prog 161 #[synV t na nn nc a n c] g fun v _ => v = .bool (tf (nodeP t.dat t.kids w)) := by
  refine call161 _ _ _ _ _ _ _ _ _ g _ ?_
  have hl := h.kids.len
  have hnl := h.names.len
  have hcp := h.kids.le
  have hmx := h.kids.cap
  unfold maxLen at hmx
  have h0 : ((n : Nat) : Int) = 0 ↔ t.kids = [] := by
    rw [← hl]
    cases t.kids with
    | nil => simp
    | cons x r => simp; omega
  unfold F161
  refine ifEq (fun q => ?_) (fun z42 => ?_)
  · rw [tf_iff (node_21 q)]
    intro a43 w43
    refine andC (kk170 t true false false (h.exm ((Ex.refl g).trans w43))) (fun p44 x44 e44 => ?_)
    rw [tf_andT p44]
    refine ifLe (fun p45 => ifLe (fun q45 => ?_) (fun q45 _ _ => vFl (by omega))) (fun p45 _ _ => vFl (by omega))
    rw [tf_andT (show 0 ≤ t.dat.n ∧ t.dat.n ≤ 4503599627370496 from ⟨p45, q45⟩)]
    exact fun _ _ => by rw [tf_eq]; exact vP h0
  refine ifEq (fun q => ?_) (fun z46 => ?_)
  · rw [tf_iff (node_22 q)]
    intro a47 w47
    refine andC (kk170 t false true false (h.exm ((Ex.refl g).trans w47))) (fun p48 x48 e48 => ?_)
    rw [tf_andT p48]
    refine andC (kk176 t.dat.s _ hs) (fun p49 x49 e49 => ?_)
    rw [tf_andT p49]
    exact fun _ _ => by rw [tf_eq]; exact vP h0
  refine ifEq (fun q => ?_) (fun z50 => ?_)
  · rw [tf_iff (node_23 q)]
    intro a51 w51
    refine andC (kk170 t false false true (h.exm ((Ex.refl g).trans w51))) (fun p52 x52 e52 => ?_)
    rw [tf_andT p52]
    refine andC (kk172 t.dat.names true (h.names.exm (((Ex.refl g).trans w51).trans e52))) (fun p53 x53 e53 => ?_)
    rw [tf_andT p53]
    exact fun _ _ => by rw [tf_eq]; exact vP h0
  refine ifEq (fun q => ?_) (fun z54 => ?_)
  · rw [tf_iff (node_24 q)]
    intro a55 w55
    refine andC (kk170 t false false true (h.exm ((Ex.refl g).trans w55))) (fun p56 x56 e56 => ?_)
    rw [tf_andT p56]
    refine andC (kk172 t.dat.names false (h.names.exm (((Ex.refl g).trans w55).trans e56))) (fun p57 x57 e57 => ?_)
    rw [tf_andT p57]
    exact fun _ _ => by rw [tf_eq]; exact vP h0
  refine ifEq (fun q => ?_) (fun z58 => ?_)
  · rw [tf_iff (node_25 q)]
    intro g1 w1
    refine andC (kk170 t false true false (h.exm w1)) (fun p1 g2 w2 => ?_)
    rw [tf_andT p1, show bs [] = bstr [] from rfl, strEq_bstr]
    refine ifP (fun q1 => ?_) (fun q1 => ?_)
    · rw [tf_andT (show t.dat.s = [] ∨ lowerP t.dat.s from .inl q1)]
      intro y n2
      exact endC (kk174l t [3] (h.exm (w1.trans w2)) n2 (by decide))
    · rw [tf_iff (and_l (show (t.dat.s = [] ∨ lowerP t.dat.s) ↔ lowerP t.dat.s from ⟨fun hh => hh.resolve_left q1, .inr⟩))]
      refine andC (kk175 t.dat.s _) (fun p2 g3 w3 => ?_)
      rw [tf_andT p2]
      intro y n2
      exact endC (kk174l t [3] (h.exm ((w1.trans w2).trans w3)) n2 (by decide))
  refine ifEq (fun q => ?_) (fun z59 => ?_)
  · rw [tf_iff (node_26 q)]
    intro a60 w60
    refine andC (kk170 t false false false (h.exm ((Ex.refl g).trans w60))) (fun p61 x61 e61 => ?_)
    rw [tf_andT p61]
    intro y62 n62
    exact endC (kk174l t [3, 3] (h.exm (((Ex.refl g).trans w60).trans e61)) n62 (by decide))
  refine ifEq (fun q => ?_) (fun z63 => ?_)
  · rw [tf_iff (node_27 q)]
    intro a64 w64
    refine andC (kk170 t false false false (h.exm ((Ex.refl g).trans w64))) (fun p65 x65 e65 => ?_)
    rw [tf_andT p65]
    refine ifNe (fun p66 => ?_) (fun p66 _ _ => vFl (by omega))
    rw [tf_andT (show t.kids.length ≠ 1 by omega)]
    refine ifLe (fun p67 => ?_) (fun p67 _ _ => vFl (by omega))
    rw [tf_andT (show ((t.kids.length : Nat) : Int) ≤ 9 by omega)]
    exact endC (kk173a t 3 (by decide) (h.exm (((Ex.refl g).trans w64).trans e65)))
  refine ifEq (fun q => ?_) (fun z68 => ?_)
  · rw [tf_iff (node_28 q)]
    intro a69 w69
    refine andC (kk170 t false false false (h.exm ((Ex.refl g).trans w69))) (fun p70 x70 e70 => ?_)
    rw [tf_andT p70]
    intro y71 n71
    exact endC (kk174l t [3, 3, 3] (h.exm (((Ex.refl g).trans w69).trans e70)) n71 (by decide))
  refine ifEq (fun q => ?_) (fun z72 => ?_)
  · rw [tf_iff (node_29 q)]
    intro J hJ g1 w1
    refine andN (kk170 t false false false (h.exm w1)) (fun p1 g2 w2 => ?_)
    rw [tf_andT p1] at hJ ⊢
    refine ifLt (fun p2 _ _ => vFl (by omega)) (fun p2 => ?_)
    rw [tf_andT (show 2 ≤ t.kids.length by omega)] at hJ ⊢
    refine andN (kk173f t 3 (by decide) (h.exm (w1.trans w2)) (by omega)) (fun p3 g3 w3 => ?_)
    rw [tf_andT p3] at hJ
    refine hJ g3 ⟨fun m i g' => ∃ j : Nat, i = ((1 + j : Nat) : Int) ∧ 1 + j + m = n ∧ ∀ x ∈ (t.kids.drop 1).take j, x.dat.op ∈ [(30 : Int)], ⟨n - 1, 0, rfl, by omega, by simp⟩, ?_⟩
    rintro m i g4 le ⟨j, rfl, hj, hall⟩
    refine ifLt (fun hlt => ⟨⟨by omega, by omega⟩, ?_⟩) (fun hge _ _ => vT ?_)
    · have gj := List.getElem?_eq_getElem (show 1 + j < t.kids.length by omega)
      have gd : (t.kids.drop 1)[j]? = some t.kids[1 + j] := by rw [List.getElem?_drop]; exact gj
      generalize t.kids[1 + j] = y at gj gd
      exact rdO ((h.kids.exm ((w1.trans w2).trans w3)).mono le) (1 + j) rfl gj (ifNe (fun q2 _ _ => vF (fun hh => q2 (by simpa using hh _ (List.mem_of_getElem? gd)))) (fun q2 => ⟨i64 (by omega) (by omega), m - 1, by omega, j + 1, by omega, by omega, (all_take gd _).2 ⟨hall, by simp [q2]⟩⟩))
    · rwa [take_all (by rw [List.length_drop]; omega)] at hall
  refine ifEq (fun q => ?_) (fun z73 => ?_)
  · rw [tf_iff (node_30 q)]
    intro a74 w74
    refine andC (kk170 t false false false (h.exm ((Ex.refl g).trans w74))) (fun p75 x75 e75 => ?_)
    rw [tf_andT p75]
    intro y76 n76
    exact endC (kk174l t [2, 3] (h.exm (((Ex.refl g).trans w74).trans e75)) n76 (by decide))
  refine ifEq (fun q => ?_) (fun z77 => ?_)
  · rw [tf_iff (node_31 q)]
    intro J hJ g1 w1
    refine andN (kk170 t false false false (h.exm w1)) (fun p1 g2 w2 => ?_)
    rw [tf_andT p1] at hJ ⊢
    refine ifLt (fun p2 _ _ => vFl (by omega)) (fun p2 => ⟨i64 (by omega) (by omega), ?_⟩)
    rw [tf_andT (show 1 ≤ t.kids.length by omega)] at hJ ⊢
    refine andN (kk173z t 3 (by decide) (h.exm (w1.trans w2)) (by omega)) (fun p3 g3 w3 => ?_)
    rw [tf_andT p3] at hJ
    refine hJ g3 ⟨fun m i g' => ∃ j : Nat, i = ((j : Nat) : Int) ∧ j + m = n - 1 ∧ ∀ x ∈ (t.kids.take (t.kids.length - 1)).take j, x.dat.op ∈ [(41 : Int), 42, 50], ⟨n - 1, 0, rfl, by omega, by simp⟩, ?_⟩
    rintro m i g4 le ⟨j, rfl, hj, hall⟩
    refine ⟨i64 (by omega) (by omega), ifLt (fun hlt => ⟨⟨by omega, by omega⟩, ?_⟩) (fun hge _ _ => vT ?_)⟩
    · have gj := List.getElem?_eq_getElem (show j < t.kids.length by omega)
      have gd : (t.kids.take (t.kids.length - 1))[j]? = some t.kids[j] := by rw [List.getElem?_take, if_pos (by omega)]; exact gj
      generalize t.kids[j] = y at gj gd
      have hk := (h.kids.exm ((w1.trans w2).trans w3)).mono le
      have go : y.dat.op ∈ [(41 : Int), 42, 50] → InI64 (((j : Nat) : Int) + 1) ∧ ∃ m1 : Nat, m1 < m ∧ ∃ j2 : Nat, ((j : Nat) : Int) + 1 = ((j2 : Nat) : Int) ∧ j2 + m1 = n - 1 ∧ ∀ x ∈ (t.kids.take (t.kids.length - 1)).take j2, x.dat.op ∈ [(41 : Int), 42, 50] :=
        fun hm => ⟨i64 (by omega) (by omega), m - 1, by omega, j + 1, by omega, by omega, (all_take gd _).2 ⟨hall, hm⟩⟩
      refine rdO hk j rfl gj (ifNe (fun q2 => ⟨⟨by omega, by omega⟩, rdO hk j rfl gj (ifNe (fun q3 => ⟨⟨by omega, by omega⟩, rdO hk j rfl gj (ifNe (fun q4 _ _ => vF (fun hh => ?_)) (fun q4 => go (by simp [q4])))⟩) (fun q3 => go (by simp [q3])))⟩) (fun q2 => go (by simp [q2])))
      have := hh _ (List.mem_of_getElem? gd)
      simp only [List.mem_cons, List.not_mem_nil, or_false] at this
      omega
    · rwa [take_all (by rw [List.length_take]; omega)] at hall
  refine ifEq (fun q => ?_) (fun z78 => ?_)
  · refine ifEq (fun q2 => ?_) (fun q2 => ?_)
    · rw [tf_iff (node_32a q q2)]
      intro g1 w1
      refine andC (kk170 t true false false (h.exm w1)) (fun p1 g2 w2 => ?_)
      rw [tf_andT p1]
      intro y n2
      exact endC (kk174l t [3] (h.exm (w1.trans w2)) n2 (by decide))
    · rw [tf_iff (node_32b q q2)]
      intro g1 w1
      refine andC (kk170 t true false false (h.exm w1)) (fun p1 g2 w2 => ?_)
      rw [tf_andT p1]
      refine ifLe (fun p2 => ?_) (fun p2 _ _ => vFl (by omega))
      rw [tf_andT p2]
      refine ifLe (fun p3 => ?_) (fun p3 _ _ => vFl (by omega))
      rw [tf_andT p3]
      intro y n2
      exact endC (kk174l t [3, 3] (h.exm (w1.trans w2)) n2 (by decide))
  refine ifEq (fun q => ?_) (fun z79 => ?_)
  · rw [tf_iff (node_33 q)]
    intro a80 w80
    refine andC (kk170 t false false false (h.exm ((Ex.refl g).trans w80))) (fun p81 x81 e81 => ?_)
    rw [tf_andT p81]
    intro y82 n82
    exact endC (kk174l t [3, 1] (h.exm (((Ex.refl g).trans w80).trans e81)) n82 (by decide))
  have q : t.dat.op = 34 := by omega
  rw [tf_iff (node_34 q)]
  intro a83 w83
  refine andC (kk170 t false false true (h.exm ((Ex.refl g).trans w83))) (fun p84 x84 e84 => ?_)
  rw [tf_andT p84]
  refine andC (kk172 t.dat.names false (h.names.exm (((Ex.refl g).trans w83).trans e84))) (fun p85 x85 e85 => ?_)
  rw [tf_andT p85]
  intro y86 n86
  exact endC (kk174l t [0] (h.exm ((((Ex.refl g).trans w83).trans e84).trans e85)) n86 (by decide))
theorem kk159 (t : Sy) (w : Bool) {na : Option Addr} {nn nc : Nat} {a : Option Addr} {n c : Nat} {g : G} (h : SynI g t na nn nc a n c) (hs : t.dat.s.length ≤ 1048576) (hR : 41 ≤ t.dat.op ∧ t.dat.op ≤ 50) (hw : t.dat.op = 43 → (w = true ↔ t.dat.s = [])) :
    CallsP Tryz.prog 162 #[synV t na nn nc a n c] g fun v _ => v = .bool (tf (nodeP t.dat t.kids w)) := by
  refine call162 _ _ _ _ _ _ _ _ _ g _ ?_
  have hl := h.kids.len
  have hnl := h.names.len
  have hcp := h.kids.le
  have hmx := h.kids.cap
  unfold maxLen at hmx
  have h0 : ((n : Nat) : Int) = 0 ↔ t.kids = [] := by
    rw [← hl]
    cases t.kids with
    | nil => simp
    | cons x r => simp; omega
  unfold F162
  refine ifEq (fun q => ?_) (fun z87 => ?_)
  · rw [tf_iff (node_41 q)]
    intro a88 w88
    refine andC (kk170 t false true false (h.exm ((Ex.refl g).trans w88))) (fun p89 x89 e89 => ?_)
    rw [tf_andT p89]
    refine andC (kk175 t.dat.s _) (fun p90 x90 e90 => ?_)
    rw [tf_andT p90]
    intro y91 n91
    exact endC (kk174l t [3] (h.exm ((((Ex.refl g).trans w88).trans e89).trans e90)) n91 (by decide))
  refine ifEq (fun q => ?_) (fun z92 => ?_)
  · rw [tf_iff (node_42 q)]
    intro J hJ g1 w1
    refine andN (kk170 t false true true (h.exm w1)) (fun p1 g2 w2 => ?_)
    rw [tf_andT p1] at hJ ⊢
    refine andN (kk175 t.dat.s _) (fun p2 g3 w3 => ?_)
    rw [tf_andT p2] at hJ ⊢
    refine ifLt (fun p3 _ _ => vFl (by omega)) (fun p3 => ?_)
    rw [tf_andT (show 1 ≤ t.dat.names.length by omega)] at hJ ⊢
    refine ifLt (fun p4 _ _ => vFl (by omega)) (fun p4 => ?_)
    rw [tf_andT (show t.dat.names.length ≤ 9 by omega)] at hJ
    have m3 := (w1.trans w2).trans w3
    refine hJ g3 ⟨fun m i g' => ∃ j : Nat, i = ((j : Nat) : Int) ∧ j + m = nn ∧ ∀ x ∈ t.dat.names.take j, lowerP x, ⟨nn, 0, rfl, by omega, by simp⟩, ?_⟩
    rintro m i g4 le ⟨j, rfl, hj, hall⟩
    refine ifLt (fun hlt => ⟨⟨by omega, by omega⟩, ?_⟩) (fun hge => ?_)
    · have gj := List.getElem?_eq_getElem (show j < t.dat.names.length by omega)
      have hin := List.mem_of_getElem? gj
      generalize t.dat.names[j] = y at gj hin
      refine rdS ((h.names.exm m3).mono le) j rfl gj ((kk175 y g4).mono ?_)
      rintro v g5 _ rfl
      exact ⟨_, rfl, ifPn (fun q2 _ _ => vF (fun hh => q2 (hh.1 _ hin))) (fun q2 => ⟨i64 (by omega) (by omega), m - 1, by omega, j + 1, by omega, by omega, (all_take gj _).2 ⟨hall, q2⟩⟩)⟩
    · rw [take_all (by omega)] at hall
      rw [tf_andT hall]
      intro y n2
      exact endC (kk174l t [3] ((h.exm m3).mono le) n2 (by decide))
  refine ifEq (fun q => ?_) (fun z93 => ?_)
  · rw [tf_iff (node_43 q)]
    intro g1 w1
    refine andC (kk170 t false true true (h.exm w1)) (fun p1 g2 w2 => ?_)
    rw [tf_andT p1, show bs [] = bstr [] from rfl, strEq_bstr]
    refine ifP (fun q1 => ?_) (fun q1 => ?_)
    · rw [tf_andT (show (w = true ∧ t.dat.s = []) ∨ (w = false ∧ lowerP t.dat.s) from .inl ⟨(hw q).2 q1, q1⟩)]
      refine andC (kk177 t.dat.names (h.names.exm (w1.trans w2))) (fun p2 g3 w3 => ?_)
      rw [tf_andT p2]
      intro y n2
      exact endC (kk174l t [1] (h.exm ((w1.trans w2).trans w3)) n2 (by decide))
    · have hwf : w = false := by
        cases w with
        | false => rfl
        | true => exact absurd ((hw q).1 rfl) q1
      rw [tf_iff (and_l (show ((w = true ∧ t.dat.s = []) ∨ (w = false ∧ lowerP t.dat.s)) ↔ lowerP t.dat.s from ⟨fun hh => hh.elim (fun hh => absurd hh.2 q1) (fun hh => hh.2), fun hh => .inr ⟨hwf, hh⟩⟩))]
      refine andC (kk175 t.dat.s _) (fun p2 g3 w3 => ?_)
      rw [tf_andT p2]
      refine andC (kk177 t.dat.names (h.names.exm ((w1.trans w2).trans w3))) (fun p3 g4 w4 => ?_)
      rw [tf_andT p3]
      intro y n2
      exact endC (kk174l t [1] (h.exm (((w1.trans w2).trans w3).trans w4)) n2 (by decide))
  refine ifEq (fun q => ?_) (fun z94 => ?_)
  · rw [tf_iff (node_44 q)]
    intro J hJ g1 w1
    refine andN (kk170 t false true true (h.exm w1)) (fun p1 g2 w2 => ?_)
    rw [tf_andT p1] at hJ ⊢
    refine andN (kk175 t.dat.s _) (fun p2 g3 w3 => ?_)
    rw [tf_andT p2] at hJ ⊢
    refine andN (kk177 t.dat.names (h.names.exm ((w1.trans w2).trans w3))) (fun p3 g4 w4 => ?_)
    rw [tf_andT p3] at hJ ⊢
    refine ifLt (fun p4 _ _ => vFl (by omega)) (fun p4 => ?_)
    rw [tf_andT (show 1 ≤ t.kids.length by omega)] at hJ
    have m4 := ((w1.trans w2).trans w3).trans w4
    refine hJ g4 ⟨fun m i g' => ∃ j : Nat, i = ((j : Nat) : Int) ∧ j + m = n ∧ (∀ x ∈ t.kids.take j, x.dat.op ∈ [(45 : Int)]) ∧ differP (t.kids.take j), ⟨n, 0, rfl, by omega, by simp, by simp [differP]⟩, ?_⟩
    rintro m i g5 le ⟨j, rfl, hj, hall, hdf⟩
    refine ifLt (fun hlt => ⟨⟨by omega, by omega⟩, ?_⟩) (fun hge _ _ => vT ?_)
    · have gj := List.getElem?_eq_getElem (show j < t.kids.length by omega)
      have hin := List.mem_of_getElem? gj
      generalize t.kids[j] = y at gj hin
      have hk := (h.kids.exm m4).mono le
      refine rdO hk j rfl gj (ifNe (fun q2 _ _ => vF (fun hh => q2 (by simpa using hh.1 _ hin))) (fun q2 => ?_))
      refine ⟨fun m' i' g' => ∃ k : Nat, i' = ((k : Nat) : Int) ∧ k + m' = j ∧ ∀ z ∈ t.kids.take k, z.dat.s ≠ y.dat.s, ⟨j, 0, rfl, by omega, by simp⟩, ?_⟩
      rintro m' i' g6 le6 ⟨k, rfl, hk2, hne⟩
      refine ifLt (fun hlt2 g7 m7 => ⟨⟨by omega, by omega⟩, ?_⟩) (fun hge2 => ⟨i64 (by omega) (by omega), m - 1, by omega, j + 1, by omega, by omega, (all_take gj _).2 ⟨hall, by simp [q2]⟩, (pair_take gj).2 ⟨hdf, by rwa [show k = j by omega] at hne⟩⟩)
      have hk7 := (hk.mono le6).exm m7
      have gk := List.getElem?_eq_getElem (show k < t.kids.length by omega)
      generalize t.kids[k] = z at gk
      refine rdStr hk7 j rfl gj ⟨⟨by omega, by omega⟩, rdStr hk7 k rfl gk ?_⟩
      rw [strEq_bstr]
      refine ifP (fun q3 _ _ => vF (fun hh => ?_)) (fun q3 => ⟨i64 (by omega) (by omega), m' - 1, by omega, k + 1, by omega, by omega, (all_take gk _).2 ⟨hne, fun e => q3 e.symm⟩⟩)
      have h1 : differP (t.kids.take (j + 1)) := List.Pairwise.sublist (List.take_sublist _ _) hh.2
      refine ((pair_take gj).1 h1).2 z (List.mem_of_getElem? (i := k) ?_) q3.symm
      rw [List.getElem?_take, if_pos (by omega)]
      exact gk
    · rw [take_all (by omega)] at hall hdf
      exact ⟨hall, hdf⟩
  refine ifEq (fun q => ?_) (fun z95 => ?_)
  · rw [tf_iff (node_45 q)]
    intro a96 w96
    refine andC (kk170 t false true false (h.exm ((Ex.refl g).trans w96))) (fun p97 x97 e97 => ?_)
    rw [tf_andT p97]
    refine andC (kk178 t.dat.s _) (fun p98 x98 e98 => ?_)
    rw [tf_andT p98]
    refine ifLe (fun p99 => ?_) (fun p99 _ _ => vFl (by omega))
    rw [tf_andT (show ((t.kids.length : Nat) : Int) ≤ 1 by omega)]
    exact endC (kk173a t 1 (by decide) (h.exm ((((Ex.refl g).trans w96).trans e97).trans e98)))
  refine ifEq (fun q => ?_) (fun z100 => ?_)
  · rw [tf_iff (node_46 q)]
    intro a101 w101
    refine andC (kk170 t false true false (h.exm ((Ex.refl g).trans w101))) (fun p102 x102 e102 => ?_)
    rw [tf_andT p102]
    refine andC (kk178 t.dat.s _) (fun p103 x103 e103 => ?_)
    rw [tf_andT p103]
    intro y104 n104
    exact endC (kk174l t [7] (h.exm ((((Ex.refl g).trans w101).trans e102).trans e103)) n104 (by decide))
  refine ifEq (fun q => ?_) (fun z105 => ?_)
  · rw [tf_iff (node_47 q)]
    intro a106 w106
    refine andC (kk170 t false true false (h.exm ((Ex.refl g).trans w106))) (fun p107 x107 e107 => ?_)
    rw [tf_andT p107]
    refine andC (kk178 t.dat.s _) (fun p108 x108 e108 => ?_)
    rw [tf_andT p108]
    intro y109 n109
    exact endC (kk174l t [6] (h.exm ((((Ex.refl g).trans w106).trans e107).trans e108)) n109 (by decide))
  intro J110 hJ110
  refine oneOfX [48, 49] (by simp) (fun a110 w110 => hJ110 _ a110 ?_)
  refine ifP (fun z110 => ?_) (fun z110 => ?_)
  · have q110 : t.dat.op = 48 ∨ t.dat.op = 49 := by simpa using z110
    rcases q110 with q | q
    · rw [tf_iff (node_48 q)]
      refine andC (kk170 t false false true (h.exm w110)) (fun p111 x111 e111 => ?_)
      rw [tf_andT p111]
      refine andC (kk172 t.dat.names false (h.names.exm (w110.trans e111))) (fun p112 x112 e112 => ?_)
      rw [tf_andT p112]
      exact fun _ _ => by rw [tf_eq]; exact vP h0
    · rw [tf_iff (node_49 q)]
      refine andC (kk170 t false false true (h.exm w110)) (fun p113 x113 e113 => ?_)
      rw [tf_andT p113]
      refine andC (kk172 t.dat.names false (h.names.exm (w110.trans e113))) (fun p114 x114 e114 => ?_)
      rw [tf_andT p114]
      exact fun _ _ => by rw [tf_eq]; exact vP h0
  have z110 : ¬ t.dat.op = 48 ∧ ¬ t.dat.op = 49 := by simpa using z110
  have q : t.dat.op = 50 := by omega
  rw [tf_iff (node_50 q)]
  refine andC (kk170 t false true false (h.exm w110)) (fun p115 x115 e115 => ?_)
  rw [tf_andT p115]
  refine andC (kk178 t.dat.s _) (fun p116 x116 e116 => ?_)
  rw [tf_andT p116]
  intro y117 n117
  exact endC (kk174l t [3, 0] (h.exm ((w110.trans e115).trans e116)) n117 (by decide))
theorem kk160 (t : Sy) (w : Bool) {na : Option Addr} {nn nc : Nat} {a : Option Addr} {n c : Nat} {g : G} (h : SynI g t na nn nc a n c) (hs : t.dat.s.length ≤ 1048576) (hR : (61 ≤ t.dat.op ∧ t.dat.op ≤ 66) ∨ (71 ≤ t.dat.op ∧ t.dat.op ≤ 74)) :
    CallsP Tryz.prog 163 #[synV t na nn nc a n c] g fun v _ => v = .bool (tf (nodeP t.dat t.kids w)) := by
  refine call163 _ _ _ _ _ _ _ _ _ g _ ?_
  have hl := h.kids.len
  have hnl := h.names.len
  have hcp := h.kids.le
  have hmx := h.kids.cap
  unfold maxLen at hmx
  have h0 : ((n : Nat) : Int) = 0 ↔ t.kids = [] := by
    rw [← hl]
    cases t.kids with
    | nil => simp
    | cons x r => simp; omega
  unfold F163
  refine ifEq (fun q => ?_) (fun z118 => ?_)
  · rw [tf_iff (node_61 q)]
    intro a119 w119
    refine andC (kk170 t false true false (h.exm ((Ex.refl g).trans w119))) (fun p120 x120 e120 => ?_)
    rw [tf_andT p120]
    refine andC (kk175 t.dat.s _) (fun p121 x121 e121 => ?_)
    rw [tf_andT p121]
    intro y122 n122
    exact endC (kk174l t [1] (h.exm ((((Ex.refl g).trans w119).trans e120).trans e121)) n122 (by decide))
  refine ifEq (fun q => ?_) (fun z123 => ?_)
  · rw [tf_iff (node_62 q)]
    intro a124 w124
    refine andC (kk170 t false true true (h.exm ((Ex.refl g).trans w124))) (fun p125 x125 e125 => ?_)
    rw [tf_andT p125]
    refine andC (kk175 t.dat.s _) (fun p126 x126 e126 => ?_)
    rw [tf_andT p126]
    refine andC (kk177 t.dat.names (h.names.exm ((((Ex.refl g).trans w124).trans e125).trans e126))) (fun p127 x127 e127 => ?_)
    rw [tf_andT p127]
    exact fun _ _ => by rw [tf_eq]; exact vP h0
  intro J128 hJ128
  refine oneOfX [63, 64] (by simp) (fun a128 w128 => hJ128 _ a128 ?_)
  refine ifP (fun z128 => ?_) (fun z128 => ?_)
  · have q128 : t.dat.op = 63 ∨ t.dat.op = 64 := by simpa using z128
    rcases q128 with q | q
    · rw [tf_iff (node_63 q)]
      refine andC (kk170 t false true false (h.exm w128)) (fun p129 x129 e129 => ?_)
      rw [tf_andT p129]
      refine andC (kk178 t.dat.s _) (fun p130 x130 e130 => ?_)
      rw [tf_andT p130]
      intro y131 n131
      exact endC (kk174l t [6] (h.exm ((w128.trans e129).trans e130)) n131 (by decide))
    · rw [tf_iff (node_64 q)]
      refine andC (kk170 t false true false (h.exm w128)) (fun p132 x132 e132 => ?_)
      rw [tf_andT p132]
      refine andC (kk178 t.dat.s _) (fun p133 x133 e133 => ?_)
      rw [tf_andT p133]
      intro y134 n134
      exact endC (kk174l t [6] (h.exm ((w128.trans e132).trans e133)) n134 (by decide))
  have z128 : ¬ t.dat.op = 63 ∧ ¬ t.dat.op = 64 := by simpa using z128
  refine ifEq (fun q => ?_) (fun z135 => ?_)
  · rw [tf_iff (node_65 q)]
    refine andC (kk170 t false false false (h.exm w128)) (fun p136 x136 e136 => ?_)
    rw [tf_andT p136]
    intro y137 n137
    exact endC (kk174l t [6] (h.exm (w128.trans e136)) n137 (by decide))
  refine ifEq (fun q => ?_) (fun z138 => ?_)
  · rw [tf_iff (node_66 q)]
    refine andC (kk170 t false false true (h.exm w128)) (fun p1 g2 w2 => ?_)
    rw [tf_andT p1]
    refine andC (kk172 t.dat.names true (h.names.exm (w128.trans w2))) (fun p2 g3 w3 => ?_)
    rw [tf_andT p2]
    refine ifEq (fun p3 => ?_) (fun p3 _ _ => vFl (by omega))
    have hl1 : t.kids.length = 1 := by omega
    rw [tf_andT hl1, tf_iff (and_l (only1 hl1 2))]
    have hk := h.kids.exm ((w128.trans w2).trans w3)
    refine ⟨⟨by omega, by omega⟩, rdO hk 0 rfl (getD_some (by omega)) (ifEq (fun q2 => ⟨⟨by omega, by omega⟩, ?_⟩) (fun q2 _ _ => vFl q2))⟩
    rw [tf_andT q2]
    refine rdA hk 0 rfl (getD_some (by omega)) (fun ad na' nn' nc' ka kn kc hI hcell => ⟨ka, kn, kc, (hcell _ (Le.refl _)).2.2.2.2, fun _ _ => ?_⟩)
    rw [tf_eq]
    have hkl := hI.kids.len
    refine vP ?_
    rw [← hkl]
    cases (t.kids.getD 0 noSy).kids with
    | nil => simp
    | cons x r => simp; omega
  refine ifEq (fun q => ?_) (fun z139 => ?_)
  · rw [tf_iff (node_71 q)]
    refine andC (kk170 t false false false (h.exm w128)) (fun p140 x140 e140 => ?_)
    rw [tf_andT p140]
    exact endC (kk173a t 5 (by decide) (h.exm (w128.trans e140)))
  refine ifEq (fun q => ?_) (fun z141 => ?_)
  · rw [tf_iff (node_72 q)]
    refine andC (kk170 t false false true (h.exm w128)) (fun p142 x142 e142 => ?_)
    rw [tf_andT p142]
    refine andC (kk172 t.dat.names false (h.names.exm (w128.trans e142))) (fun p143 x143 e143 => ?_)
    rw [tf_andT p143]
    exact fun _ _ => by rw [tf_eq]; exact vP h0
  refine ifEq (fun q => ?_) (fun z144 => ?_)
  · rw [tf_iff (node_73 q)]
    refine andC (kk170 t true true false (h.exm w128)) (fun p145 x145 e145 => ?_)
    rw [tf_andT p145]
    refine ifEq (fun p146 => ?_) (fun p146 => ifEq (fun q146 => ?_) (fun q146 _ _ => vFl (by omega)))
    · rw [tf_andT (show t.dat.n = 0 ∨ t.dat.n = 1 by omega)]
      refine andC (kk178 t.dat.s _) (fun p147 x147 e147 => ?_)
      rw [tf_andT p147]
      intro y148 n148
      exact endC (kk174l t [6, 6] (h.exm ((w128.trans e145).trans e147)) n148 (by decide))
    · rw [tf_andT (show t.dat.n = 0 ∨ t.dat.n = 1 by omega)]
      refine andC (kk178 t.dat.s _) (fun p149 x149 e149 => ?_)
      rw [tf_andT p149]
      intro y150 n150
      exact endC (kk174l t [6, 6] (h.exm ((w128.trans e145).trans e149)) n150 (by decide))
  have q : t.dat.op = 74 := by omega
  rw [tf_iff (node_74 q)]
  refine andC (kk170 t false false true (h.exm w128)) (fun p1 g2 w2 => ?_)
  rw [tf_andT p1]
  refine andC (kk172 t.dat.names true (h.names.exm (w128.trans w2))) (fun p2 g3 w3 => ?_)
  rw [tf_andT p2]
  refine ifEq (fun p3 => ?_) (fun p3 _ _ => vFl (by omega))
  have hl1 : t.kids.length = 2 := by omega
  rw [tf_andT hl1]
  refine andC (kk173f t 6 (by decide) (h.exm ((w128.trans w2).trans w3)) (by omega)) (fun p4 g4 w4 => ?_)
  rw [tf_andT p4, tf_iff (and_l (only2 hl1 43))]
  have hk := h.kids.exm (((w128.trans w2).trans w3).trans w4)
  refine ⟨⟨by omega, by omega⟩, rdO hk 1 rfl (getD_some (by omega)) (ifEq (fun q2 => ⟨⟨by omega, by omega⟩, ?_⟩) (fun q2 _ _ => vFl q2))⟩
  rw [tf_andT q2]
  refine rdStr hk 1 rfl (getD_some (by omega)) (fun _ _ => ?_)
  rw [show bs [] = bstr [] from rfl, strEq_bstr]
theorem kk161 (t : Sy) (w : Bool) {na : Option Addr} {nn nc : Nat} {a : Option Addr} {n c : Nat} {g : G} (h : SynI g t na nn nc a n c) (hs : t.dat.s.length ≤ 1048576) (hR : 81 ≤ t.dat.op ∧ t.dat.op ≤ 88) :
    CallsP Tryz.prog 164 #[synV t na nn nc a n c] g fun v _ => v = .bool (tf (nodeP t.dat t.kids w)) := by
  refine call164 _ _ _ _ _ _ _ _ _ g _ ?_
  have hl := h.kids.len
  have hnl := h.names.len
  have hcp := h.kids.le
  have hmx := h.kids.cap
  unfold maxLen at hmx
  have h0 : ((n : Nat) : Int) = 0 ↔ t.kids = [] := by
    rw [← hl]
    cases t.kids with
    | nil => simp
    | cons x r => simp; omega
  unfold F164
  refine ifEq (fun q => ?_) (fun z151 => ?_)
  · rw [tf_iff (node_81 q)]
    intro a152 w152
    refine andC (kk170 t false false false (h.exm ((Ex.refl g).trans w152))) (fun p153 x153 e153 => ?_)
    rw [tf_andT p153]
    exact endC (kk173a t 4 (by decide) (h.exm (((Ex.refl g).trans w152).trans e153)))
  refine ifEq (fun q => ?_) (fun z154 => ?_)
  · rw [tf_iff (node_82 q)]
    intro a155 w155
    refine andC (kk170 t false false true (h.exm ((Ex.refl g).trans w155))) (fun p156 x156 e156 => ?_)
    rw [tf_andT p156]
    refine andC (kk172 t.dat.names false (h.names.exm (((Ex.refl g).trans w155).trans e156))) (fun p157 x157 e157 => ?_)
    rw [tf_andT p157]
    exact fun _ _ => by rw [tf_eq]; exact vP h0
  refine ifEq (fun q => ?_) (fun z158 => ?_)
  · rw [tf_iff (node_83 q)]
    intro a159 w159
    refine andC (kk170 t true true false (h.exm ((Ex.refl g).trans w159))) (fun p160 x160 e160 => ?_)
    rw [tf_andT p160]
    refine ifEq (fun p161 => ?_) (fun p161 => ifEq (fun q161 => ?_) (fun q161 _ _ => vFl (by omega)))
    · rw [tf_andT (show t.dat.n = 0 ∨ t.dat.n = 1 by omega)]
      refine andC (kk178 t.dat.s _) (fun p162 x162 e162 => ?_)
      rw [tf_andT p162]
      intro y163 n163
      exact endC (kk174l t [6, 7] (h.exm ((((Ex.refl g).trans w159).trans e160).trans e162)) n163 (by decide))
    · rw [tf_andT (show t.dat.n = 0 ∨ t.dat.n = 1 by omega)]
      refine andC (kk178 t.dat.s _) (fun p164 x164 e164 => ?_)
      rw [tf_andT p164]
      intro y165 n165
      exact endC (kk174l t [6, 7] (h.exm ((((Ex.refl g).trans w159).trans e160).trans e164)) n165 (by decide))
  refine ifEq (fun q => ?_) (fun z166 => ?_)
  · rw [tf_iff (node_84 q)]
    intro a167 w167
    refine andC (kk170 t false false false (h.exm ((Ex.refl g).trans w167))) (fun p168 x168 e168 => ?_)
    rw [tf_andT p168]
    intro y169 n169
    exact endC (kk174l t [7, 7] (h.exm (((Ex.refl g).trans w167).trans e168)) n169 (by decide))
  intro J170 hJ170
  refine oneOfX [85, 86] (by simp) (fun a170 w170 => hJ170 _ a170 ?_)
  refine ifP (fun z170 => ?_) (fun z170 => ?_)
  · have q170 : t.dat.op = 85 ∨ t.dat.op = 86 := by simpa using z170
    rcases q170 with q | q
    · rw [tf_iff (node_85 q)]
      refine andC (kk170 t false false false (h.exm w170)) (fun p171 x171 e171 => ?_)
      rw [tf_andT p171]
      intro y172 n172
      exact endC (kk174l t [7, 6] (h.exm (w170.trans e171)) n172 (by decide))
    · rw [tf_iff (node_86 q)]
      refine andC (kk170 t false false false (h.exm w170)) (fun p173 x173 e173 => ?_)
      rw [tf_andT p173]
      intro y174 n174
      exact endC (kk174l t [7, 6] (h.exm (w170.trans e173)) n174 (by decide))
  have z170 : ¬ t.dat.op = 85 ∧ ¬ t.dat.op = 86 := by simpa using z170
  refine ifEq (fun q => ?_) (fun z175 => ?_)
  · rw [tf_iff (node_87 q)]
    refine andC (kk170 t false false false (h.exm w170)) (fun p1 g2 w2 => ?_)
    rw [tf_andT p1]
    refine ifLe (fun p2 => ⟨i64 (by omega) (by omega), ?_⟩) (fun p2 _ _ => vFl (by omega))
    rw [tf_andT (show 1 ≤ ((t.kids.length : Nat) : Int) by omega)]
    refine andC (kk173i t 4 (by decide) (h.exm (w170.trans w2)) (by omega)) (fun p3 g3 w3 => ⟨i64 (by omega) (by omega), ?_⟩)
    rw [tf_andT p3]
    exact endC (kk173z t 7 (by decide) (h.exm ((w170.trans w2).trans w3)) (by omega))
  have q : t.dat.op = 88 := by omega
  rw [tf_iff (node_88 q)]
  refine andC (kk170 t false false false (h.exm w170)) (fun p176 x176 e176 => ?_)
  rw [tf_andT p176]
  intro y177 n177
  exact endC (kk174l t [3, 0] (h.exm (w170.trans e176)) n177 (by decide))
end Go.Proofs.YtmkdbndniffkfaaGreatDoor
/- Syntax trees: the reference's Formed, and that it says what the program's formed says. -/
set_option linter.unusedVariables false
namespace Go.Proofs.YtmkdbndniffkfaaGreatDoor
open Go Go.Vc Go.RowKit Go.Syn

theorem cat_rng {op k : Int} (h : catN op = k) : (k = 1 → 1 ≤ op ∧ op ≤ 5) ∧ (k = 2 → 11 ≤ op ∧ op ≤ 15) ∧ (k = 3 → 21 ≤ op ∧ op ≤ 34) ∧ (k = 4 → 41 ≤ op ∧ op ≤ 50) ∧ (k = 5 → 61 ≤ op ∧ op ≤ 66) ∧ (k = 6 → 71 ≤ op ∧ op ≤ 74) ∧ (k = 7 → 81 ≤ op ∧ op ≤ 88) := by
  rw [catR] at h
  repeat' (split at h)
  all_goals omega
theorem no_shape {d : SynD} {l : List Sy} (h : catN d.op = 0) (h1 : d.op ≠ 30) (h2 : d.op ≠ 45) : ¬ shapeP d l := by
  have hr : ¬ (1 ≤ d.op ∧ d.op ≤ 5) ∧ ¬ (11 ≤ d.op ∧ d.op ≤ 15) ∧ ¬ (21 ≤ d.op ∧ d.op ≤ 34) ∧ ¬ (41 ≤ d.op ∧ d.op ≤ 50) ∧ ¬ (61 ≤ d.op ∧ d.op ≤ 66) ∧ ¬ (71 ≤ d.op ∧ d.op ≤ 74) ∧ ¬ (81 ≤ d.op ∧ d.op ≤ 88) := by
    rw [catR] at h
    repeat' (split at h)
    all_goals omega
  intro hs
  unfold shapeP at hs
  generalize d.op = o at *
  simp only [List.mem_cons, List.not_mem_nil, or_false] at hs
  repeat (rw [if_neg] at hs; case hnc => omega)
  exact hs
theorem low_nil : ¬ lowerP [] := fun h => by have := h.1.1; simp at this
/-- A type's name, and what is expected of it. -/
theorem node_name {d : SynD} {l : List Sy} {w : Bool} (h : d.op = 43) (hn : nodeP d l w) : w = true ↔ d.s = [] := by
  rcases ((node_43 h).1 hn).2.1 with ⟨a, b⟩ | ⟨a, b⟩
  · exact ⟨fun _ => b, fun _ => a⟩
  · rw [a]
    exact ⟨fun hh => (by cases hh), fun hh => absurd (hh ▸ b) low_nil⟩
/-- form. -/
theorem kk138 (t : Sy) (w : Bool) {na : Option Addr} {nn nc : Nat} {a : Option Addr} {n c : Nat} {g : G} (h : SynI g t na nn nc a n c) (hs : t.dat.s.length ≤ 1048576) :
    CallsP Tryz.prog 147 #[synV t na nn nc a n c, .bool w] g fun v _ => v = .bool (tf (nodeP t.dat t.kids w)) := by
  refine call147 _ _ _ _ _ _ _ _ _ w g _ ?_
  unfold F147
  refine fun g1 m1 => (kk116 t.dat.op g1).mono ?_
  rintro v g2 m2 rfl
  have m02 := m1.trans m2
  refine ⟨_, rfl, ?_⟩
  have hc := cat_rng (op := t.dat.op) rfl
  intro J hJ
  have key : (t.dat.op = 43 → (w = true ↔ t.dat.s = [])) → J g2 := by
    intro hw
    have e : ∀ {k : FuncId} {g' : G}, CallsP Tryz.prog k #[synV t na nn nc a n c] g' (fun v _ => v = .bool (tf (nodeP t.dat t.kids w))) → CallsP Tryz.prog k #[synV t na nn nc a n c] g' fun v g4 => ∃ x : Bool, v = .bool x ∧ ∀ g5, Ex g4 g5 → Value.bool x = .bool (tf (nodeP t.dat t.kids w)) := fun hh => endC hh
    have hI := h.exm m02
    refine hJ g2 (ifEq (fun q => e (kk156 t w hI hs (hc.1 q))) (fun q1 => ifEq (fun q => e (kk157 t w hI hs (hc.2.1 q))) (fun q2 => ?_)))
    intro J1 hJ1
    refine ifEq (fun q => e (kk158 t w hI hs (hc.2.2.1 q))) (fun q3 => ifEq (fun q => e (kk158 t w hI hs (by omega))) (fun q4 => hJ1 g2 ?_))
    intro J2 hJ2
    refine ifEq (fun q => e (kk159 t w hI hs (hc.2.2.2.1 q) hw)) (fun q5 => ifEq (fun q => e (kk159 t w hI hs (by omega) hw)) (fun q6 => hJ2 g2 ?_))
    intro J3 hJ3
    refine ifEq (fun q => e (kk160 t w hI hs (.inl (hc.2.2.2.2.1 q)))) (fun q7 => ifEq (fun q => e (kk160 t w hI hs (.inr (hc.2.2.2.2.2.1 q)))) (fun q8 => hJ3 g2 ?_))
    refine ifEq (fun q => e (kk161 t w hI hs (hc.2.2.2.2.2.2 q))) (fun q9 g13 _ => vF (fun hh => ?_))
    have := catN_range t.dat.op
    exact no_shape (by omega) q4 q6 hh.2.1
  refine ifEq (fun q => ?_) (fun q => key (fun hh => absurd hh q))
  rw [show bs [] = bstr [] from rfl, strEq_bstr]
  refine ifF (fun hb => ?_) (fun hb => ?_)
  · refine fun g26 _ => vF (fun hh => ?_)
    have := node_name q hh
    have e2 : tf (t.dat.s = []) = w := by
      cases w with
      | true => exact tf_of (this.1 rfl)
      | false => exact tf_no (fun e => by have := this.2 e; cases this)
    rw [e2] at hb
    simp at hb
  · refine key (fun _ => ?_)
    have e2 : tf (t.dat.s = []) = w := by simpa using hb
    rw [← e2]
    exact tf_true ▸ Iff.rfl
mutual
def nodesR : Sy → Bool → Prop
  | .mk d l, w => nodeP d l w ∧ nodesL l (decide (d.op = 74)) 0
def nodesL : List Sy → Bool → Nat → Prop
  | [], _, _ => True
  | t :: r, b, i => nodesR t (b && decide (i = 1)) ∧ nodesL r b (i + 1)
end
theorem nodesL_iff {b : Bool} : ∀ {l : List Sy} {i : Nat}, nodesL l b i ↔ ∀ j x, l[j]? = some x → nodesR x (b && decide (i + j = 1))
  | [], i => by simp [nodesL]
  | t :: r, i => by
    show nodesR t _ ∧ nodesL r b (i + 1) ↔ _
    rw [nodesL_iff]
    constructor
    · rintro ⟨h1, h2⟩ j x hx
      cases j with
      | zero =>
        simp only [List.getElem?_cons_zero, Option.some.injEq] at hx
        subst hx
        exact h1
      | succ j =>
        have := h2 j x (by simpa using hx)
        rwa [show i + 1 + j = i + (j + 1) by omega] at this
    · intro hh
      refine ⟨hh 0 t rfl, fun j x hx => ?_⟩
      have := hh (j + 1) x (by simpa using hx)
      rwa [show i + (j + 1) = i + 1 + j by omega] at this
theorem nodes_iff {t : Sy} {w : Bool} : nodesR t w ↔ nodeP t.dat t.kids w ∧ ∀ j x, t.kids[j]? = some x → nodesR x (decide (t.dat.op = 74) && decide (j = 1)) := by
  obtain ⟨d, l⟩ := t
  show _ ∧ nodesL l _ 0 ↔ _
  rw [nodesL_iff]
  simp only [Nat.zero_add]
  exact Iff.rfl
/-- nodes. -/
theorem kk118 : ∀ (t : Sy) (w : Bool), okT t → ∀ {na : Option Addr} {nn nc : Nat} {a : Option Addr} {n c : Nat} {g : G}, SynI g t na nn nc a n c → CallsP Tryz.prog 139 #[synV t na nn nc a n c, .bool w] g fun v _ => v = .bool (tf (nodesR t w)) := by
  intro t
  induction t using Tr.ind with
  | h d l ih =>
    intro w hok na nn nc a n c g h
    refine call139 _ _ _ _ _ _ _ _ _ w g _ ?_
    obtain ⟨hokD, hokL⟩ := okT_iff.1 hok
    have hK : SlE synE g a n c l := h.kids
    have hl := hK.len
    have hcp := hK.le
    have hmx := hK.cap
    unfold maxLen at hmx
    unfold F139
    rw [tf_iff nodes_iff]
    refine fun g1 m1 => (kk138 (.mk d l) w (h.exm m1) hokD.1).mono ?_
    rintro v g2 m2 rfl
    have m02 := m1.trans m2
    refine ⟨_, rfl, ifPn (fun q g3 _ => vF (fun hh => q hh.1)) (fun q => ?_)⟩
    refine ⟨fun m i g' => ∃ j : Nat, i = ((j : Nat) : Int) ∧ j + m = n ∧ ∀ k x, k < j → l[k]? = some x → nodesR x (decide (d.op = 74) && decide (k = 1)), ⟨n, 0, rfl, by omega, fun k x hk => by omega⟩, ?_⟩
    rintro m i g4 le ⟨j, rfl, hj, hall⟩
    refine ifLt (fun hlt g5 m5 => ⟨⟨by omega, by omega⟩, ?_⟩) (fun hge g10 _ => vT ⟨q, fun k x hx => hall k x (by have : k < l.length := (List.getElem?_eq_some_iff.1 hx).1; omega) hx⟩)
    have gj := List.getElem?_eq_getElem (show j < l.length by omega)
    generalize l[j] = y at gj
    have hin := List.mem_of_getElem? gj
    have go : nodesR y (decide (d.op = 74) && decide (j = 1)) → InI64 (((j : Nat) : Int) + 1) ∧ ∃ m1 : Nat, m1 < m ∧ ∃ j2 : Nat, ((j : Nat) : Int) + 1 = ((j2 : Nat) : Int) ∧ j2 + m1 = n ∧ ∀ k x, k < j2 → l[k]? = some x → nodesR x (decide (d.op = 74) && decide (k = 1)) := by
      intro hy
      refine ⟨i64 (by omega) (by omega), m - 1, by omega, j + 1, by omega, by omega, fun k x hk hx => ?_⟩
      by_cases e : k = j
      · subst e
        rw [gj] at hx
        cases hx
        exact hy
      · exact hall k x (by omega) hx
    refine rdT (((hK.exm m02).mono le).exm m5) j rfl gj (fun na' nn' nc' ka kn kc hy => ?_)
    show ifB (eqI d.op 74) _ _
    refine ifEq (fun q1 => ?_) (fun q1 => ?_)
    · have e : eqI ((j : Nat) : Int) 1 = (decide (d.op = 74) && decide (j = 1)) := by
        by_cases hj1 : j = 1
        · rw [eqI_true.mpr (by omega)]; simp [q1, hj1]
        · rw [eqI_false.mpr (by omega)]; simp [hj1]
      rw [e]
      refine (ih y hin _ (hokL y hin) hy).mono ?_
      rintro v g6 _ rfl
      exact ⟨_, rfl, ifPn (fun q2 g7 _ => vF (fun hh => q2 (hh.2 j y gj))) go⟩
    · have e : false = (decide (d.op = 74) && decide (j = 1)) := by simp [q1]
      refine (ih y hin false (hokL y hin) hy).mono ?_
      rintro v g6 _ rfl
      refine ⟨_, rfl, ifPn (fun q2 g7 _ => vF (fun hh => q2 ?_)) (fun q2 => go ?_)⟩
      · rw [e]; exact hh.2 j y gj
      · rw [← e]; exact q2
theorem ite_iff' {c a b a' b' : Prop} [Decidable c] (h1 : c → (a ↔ a')) (h2 : ¬ c → (b ↔ b')) : (if c then a else b) ↔ (if c then a' else b') := by
  split
  · exact h1 (by assumption)
  · exact h2 (by assumption)
theorem own_same {d : SynD} {w w' : Bool} (h : d.op = 43 → w = w') : ownP d w ↔ ownP d w' := by
  unfold ownP
  refine and_congr_right fun _ => ?_
  by_cases q : d.op = 43
  · rw [h q]
  · unfold ownB
    repeat' (refine ite_iff' (fun _ => ?_) (fun _ => ?_))
    all_goals first | exact Iff.rfl | omega
theorem depthL_le {l : List Sy} {k : Nat} : depthL l ≤ k ↔ ∀ x ∈ l, depth x ≤ k := by
  induction l with
  | nil => simp [depthL]
  | cons x r ih =>
    show max (depth x) (depthL r) ≤ k ↔ _
    simp only [List.mem_cons, forall_eq_or_imp, ← ih]
    omega
/-- The two ways to say that all nodes are right. -/
theorem walk_nodes : ∀ (t : Sy) (w w' : Bool) (n : Nat), (t.dat.op = 43 → w = w') → 1 ≤ n → (walkP t w n ↔ nodesR t w' ∧ n - 1 + depth t ≤ 400) := by
  intro t
  induction t using Tr.ind with
  | h d l ih =>
    intro w w' n hw hn
    rw [walk_iff, nodes_iff, own_same hw]
    show n ≤ 400 ∧ ownP d w' ∧ shapeP d l ∧ (∀ x ∈ l, walkP x (decide (d.op = 74)) (n + 1)) ↔ (nodeP d l w' ∧ ∀ j x, l[j]? = some x → nodesR x (decide (d.op = 74) && decide (j = 1))) ∧ n - 1 + (depthL l + 1) ≤ 400
    have dep : (n ≤ 400 ∧ ∀ x ∈ l, n + depth x ≤ 400) ↔ n - 1 + (depthL l + 1) ≤ 400 := by
      have := depthL_le (l := l) (k := 400 - n)
      constructor
      · rintro ⟨h1, h2⟩
        have := this.2 (fun x hx => by have := h2 x hx; omega)
        omega
      · intro hh
        refine ⟨by omega, fun x hx => ?_⟩
        have := this.1 (by omega) x hx
        omega
    rw [← dep]
    by_cases q : d.op = 74
    · simp only [q, decide_true, Bool.true_and]
      -- the parts of a node 'with'
      have two : shapeP d l → ∃ x y, l = [x, y] ∧ x.dat.op ≠ 43 ∧ y.dat.op = 43 := by
        intro hs
        unfold shapeP at hs
        simp [q] at hs
        obtain ⟨h1, h2, h3⟩ := hs
        match l, h1 with
        | [x, y], _ =>
          refine ⟨x, y, rfl, fun e => ?_, ?_⟩
          · simp only [List.getElem?_cons_zero, Option.getD_some, e, belP] at h2
            revert h2
            decide
          · exact by simpa [onlyP] using h3
      constructor
      · rintro ⟨h1, h2, h3, h4⟩
        obtain ⟨x, y, rfl, hx, hy⟩ := two h3
        have wx := (ih x (by simp) true false (n + 1) (fun e => absurd e hx) (by omega)).1 (h4 x (by simp))
        have wy := (ih y (by simp) true true (n + 1) (fun _ => rfl) (by omega)).1 (h4 y (by simp))
        have hnm := (node_name hy (nodes_iff.1 wy.1).1).1 rfl
        refine ⟨⟨⟨h2, h3, fun _ => hnm⟩, fun j z hz => ?_⟩, h1, fun z hz => ?_⟩
        · match j, hz with
          | 0, hz => cases hz; exact wx.1
          | 1, hz => cases hz; exact wy.1
        · simp only [List.mem_cons, List.not_mem_nil, or_false] at hz
          rcases hz with rfl | rfl
          · have := wx.2; omega
          · have := wy.2; omega
      · rintro ⟨⟨⟨h2, h3, h5⟩, h4⟩, h1, h6⟩
        obtain ⟨x, y, rfl, hx, hy⟩ := two h3
        refine ⟨h1, h2, h3, fun z hz => ?_⟩
        simp only [List.mem_cons, List.not_mem_nil, or_false] at hz
        have d1 := h6 x (by simp)
        have d2 := h6 y (by simp)
        rcases hz with rfl | rfl
        · exact (ih z (by simp) true false (n + 1) (fun e => absurd e hx) (by omega)).2 ⟨h4 0 z rfl, by omega⟩
        · exact (ih z (by simp) true true (n + 1) (fun _ => rfl) (by omega)).2 ⟨h4 1 z rfl, by omega⟩
    · simp only [q, decide_false, Bool.false_and]
      have e : ∀ x ∈ l, (walkP x false (n + 1) ↔ nodesR x false ∧ n + depth x ≤ 400) := fun x hx => by
        have := ih x hx false false (n + 1) (fun _ => rfl) (by omega)
        rwa [show n + 1 - 1 = n by omega] at this
      constructor
      · rintro ⟨h1, h2, h3, h4⟩
        exact ⟨⟨⟨h2, h3, fun hh => absurd hh q⟩, fun j x hx => ((e x (List.mem_of_getElem? hx)).1 (h4 x (List.mem_of_getElem? hx))).1⟩, h1, fun x hx => ((e x hx).1 (h4 x hx)).2⟩
      · rintro ⟨⟨⟨h2, h3, _⟩, h4⟩, h1, h6⟩
        refine ⟨h1, h2, h3, fun x hx => (e x hx).2 ⟨?_, h6 x hx⟩⟩
        obtain ⟨j, hj⟩ := List.getElem?_of_mem hx
        exact h4 j x hj
theorem formed_iff (t : Sy) : formedP t ↔ depth t ≤ 400 ∧ nodesR t false := by
  unfold formedP
  rw [walk_nodes t false false 1 (fun _ => rfl) (Nat.le_refl _)]
  constructor
  · rintro ⟨h1, h2⟩; exact ⟨by omega, h1⟩
  · rintro ⟨h1, h2⟩; exact ⟨h2, by omega⟩
/-- Formed. -/
theorem kk82 (t : Sy) (hok : okT t) (hsz : size t ≤ 20000) {na : Option Addr} {nn nc : Nat} {a : Option Addr} {n c : Nat} {g : G} (h : SynI g t na nn nc a n c) :
    CallsP Tryz.prog 130 #[synV t na nn nc a n c] g fun v _ => v = .bool (tf (formedP t)) := by
  refine call130 _ _ _ _ _ _ _ _ _ g _ ?_
  unfold F130
  rw [tf_iff (formed_iff t)]
  refine fun g1 m1 => (kk117 t (by omega) (h.exm m1)).mono ?_
  rintro v g2 m2 rfl
  refine ⟨_, rfl, ifLe (fun _ => (kk30 t (by omega) (h.exm (m1.trans m2))).mono ?_) (fun q => by omega)⟩
  rintro v g3 m3 rfl
  refine ⟨_, rfl, ifLe (fun q => (kk118 t false hok (h.exm ((m1.trans m2).trans m3))).mono ?_) (fun q g6 _ => vFl (by omega))⟩
  rintro v g4 _ rfl
  exact ⟨_, rfl, fun g5 _ => by rw [tf_andT (show depth t ≤ 400 by omega)]⟩
/-- Valid, Any. -/
theorem kk35 (cat : Int) (t : Sy) (hok : okT t) (hsz : size t ≤ 20000) {na : Option Addr} {nn nc : Nat} {a : Option Addr} {n c : Nat} {g : G} (h : SynI g t na nn nc a n c) :
    CallsP Tryz.prog 117 #[.int .i64 cat, synV t na nn nc a n c] g fun v _ => v = .bool (tf (validP cat t)) := by
  refine call117 cat _ _ _ _ _ _ _ _ _ g _ ?_
  unfold F117 validP
  have hr := catN_range t.dat.op
  have no : ¬ (1 ≤ cat ∧ cat ≤ 7) → ¬ belP cat t.dat.op := by
    intro hn hb
    rcases hb with ⟨e, _⟩ | ⟨e, e2⟩
    · omega
    · omega
  refine ifLe (fun q1 => ifLe (fun q2 g1 m1 => (kk81 t.dat.op cat (by omega) g1).mono ?_) (fun q2 g6 _ => vFl (no (by omega)))) (fun q1 g7 _ => vFl (no (by omega)))
  rintro v g2 m2 rfl
  refine ⟨_, rfl, ifP (fun q => (kk82 t hok hsz (h.exm (m1.trans m2))).mono ?_) (fun q g5 _ => vFl q)⟩
  rintro v g3 _ rfl
  exact ⟨_, rfl, fun g4 _ => by rw [tf_andT q]⟩
end Go.Proofs.YtmkdbndniffkfaaGreatDoor
