/- Syntax trees: Replace, and its law. -/
import Derived.Test.YtmakoecgogjemaaDoorC03s
set_option linter.unusedVariables false
namespace Go.Proofs.YtmakoecgogjemaaDoor
open Go Go.Vc Go.RowKit Go.Syn

def knownP (t : Sy) : Prop := catN t.dat.op ≠ 0 ∧ formedP t
def catOK (t u : Sy) : Prop := belP (catN t.dat.op) u.dat.op ∨ (belP 5 t.dat.op ∧ belP 5 u.dat.op)
theorem catOK_iff {t u : Sy} (h : catN t.dat.op ≠ 0) : catOK t u ↔ (catN u.dat.op = catN t.dat.op ∨ (belP 5 t.dat.op ∧ belP 5 u.dat.op)) := by
  unfold catOK
  constructor
  · rintro (h1 | h1)
    · rcases h1 with ⟨e, q⟩ | ⟨_, q⟩
      · exact .inr ⟨.inr ⟨by omega, e⟩, .inl ⟨rfl, q⟩⟩
      · exact .inl q
    · exact .inr h1
  · rintro (h1 | h1)
    · exact .inl (.inr ⟨h, h1⟩)
    · exact .inr h1
/-- What Replace answers. -/
def RepR (t : Sy) (at_ : List Int) (b u : Sy) (c : Int) : Prop :=
  (¬ knownP t ∧ c = 1 ∧ u = noSy) ∨ (knownP t ∧ putT b at_ t = none ∧ c = 2 ∧ u = noSy) ∨ (∃ z, knownP t ∧ putT b at_ t = some z ∧ ¬ (catOK t z ∧ formedP z) ∧ c = 3 ∧ u = noSy) ∨ (knownP t ∧ putT b at_ t = some u ∧ catOK t u ∧ formedP u ∧ c = 0)
theorem RepR.one {t b u u' : Sy} {at_ : List Int} {c c' : Int} (h : RepR t at_ b u c) (h' : RepR t at_ b u' c') : u = u' ∧ c = c' := by
  rcases h with ⟨h1, rfl, rfl⟩ | ⟨h1, h2, rfl, rfl⟩ | ⟨z, h1, h2, h3, rfl, rfl⟩ | ⟨h1, h2, h3, h4, rfl⟩ <;>
  rcases h' with ⟨k1, rfl, rfl⟩ | ⟨k1, k2, rfl, rfl⟩ | ⟨z', k1, k2, k3, rfl, rfl⟩ | ⟨k1, k2, k3, k4, rfl⟩ <;>
  first
    | exact ⟨rfl, rfl⟩
    | exact absurd h1 k1
    | exact absurd k1 h1
    | (rw [h2] at k2; cases k2 <;> first | exact ⟨rfl, rfl⟩ | exact absurd ⟨k3, k4⟩ h3 | exact absurd ⟨h3, h4⟩ k3)
theorem sum_set (l : List Nat) : ∀ (i v x : Nat), l[i]? = some x → (l.set i v).sum + x = l.sum + v := by
  induction l with
  | nil => intro i v x h; simp at h
  | cons y r ih =>
    intro i v x h
    cases i with
    | zero => simp at h; subst h; simp; omega
    | succ i =>
      have := ih i v x (by simpa using h)
      simp only [List.set_cons_succ, List.sum_cons]
      omega
theorem sizeL_set {l : List Sy} {i : Nat} {x z : Sy} (h : l[i]? = some x) : sizeL (l.set i z) + size x = sizeL l + size z := by
  rw [sizeL_eq, sizeL_eq, List.map_set]
  exact sum_set _ i _ _ (by simp [h])
theorem put_size (b : Sy) : ∀ (at_ : List Int) (t z : Sy), putT b at_ t = some z → size z ≤ size t + size b ∧ (okT t → okT b → okT z) := by
  intro at_
  induction at_ with
  | nil =>
    intro t z h
    cases h
    exact ⟨by omega, fun _ h => h⟩
  | cons i r ih =>
    intro t z h
    unfold putT at h
    split at h
    · cases h
    · rename_i x hx
      split at h
      · cases h
      · cases hp : putT b r x with
        | none => rw [hp] at h; cases h
        | some y =>
          rw [hp] at h
          cases h
          obtain ⟨h1, h2⟩ := ih x y hp
          have hs := sizeL_set (z := y) hx
          have hm := List.mem_of_getElem? hx
          refine ⟨?_, fun ht hb => ?_⟩
          · rw [size_eq (.mk _ _), size_eq t]
            show sizeL (t.kids.set i.toNat y) + 1 ≤ _
            omega
          · obtain ⟨q1, q2⟩ := okT_iff.1 ht
            refine okT_iff.2 ⟨q1, fun w hw => ?_⟩
            rcases List.mem_or_eq_of_mem_set (show w ∈ t.kids.set i.toNat y from hw) with hw | rfl
            · exact q2 w hw
            · exact h2 (q2 x hm) hb
def RepV (t : Sy) (at_ : List Int) (b : Sy) (v : Value) (g' : G) : Prop :=
  ∃ (u : Sy) (c : Int) (na : Option Addr) (nn nc : Nat) (a : Option Addr) (n c' : Nat), v = .tuple ⟨[synV u na nn nc a n c', .int .i64 c]⟩ ∧ SynI g' u na nn nc a n c' ∧ RepR t at_ b u c
theorem repV_no {t : Sy} {at_ : List Int} {b : Sy} {c : Int} (g' : G) (h : RepR t at_ b noSy c) : RepV t at_ b (.tuple ⟨[(.agg ⟨[(.int .i64 (0 : Int)), (.int .i64 (0 : Int)), (.string (bs [])), (.slice none 0 0), (.slice none 0 0)]⟩), (.int .i64 c)]⟩) g' := ⟨noSy, c, none, 0, 0, none, 0, 0, rfl, no_syn g', h⟩
/-- Replace, of the reference. -/
theorem k28 (t : Sy) (at_ : List Int) (b : Sy) (hok : okT t) (hsz : size t ≤ 10000) (hokb : okT b) (hsb : size b ≤ 10000) {na : Option Addr} {nn nc : Nat} {a : Option Addr} {n c : Nat} {ata : Option Addr} {atl atc : Nat} {ba : Option Addr} {bn bc : Nat} {ka : Option Addr} {kn kc : Nat} {g : G} (h : SynI g t na nn nc a n c) (hat : SlE intE' g ata atl atc at_) (hb : SynI g b ba bn bc ka kn kc) :
    CallsP Tryd.prog 28 #[synV t na nn nc a n c, .slice ata atl atc, synV b ba bn bc ka kn kc] g fun v g' => RepV t at_ b v g' := by
  refine call28 _ _ _ _ _ _ _ _ _ _ _ _ _ _ _ _ _ _ _ _ _ g _ ?_
  unfold F28
  refine fun g1 m1 => (k20 t hok (by omega) (h.exm m1)).mono ?_
  rintro v g2 m2 rfl
  have m02 := m1.trans m2
  refine ⟨_, rfl, ifPn (fun q g3 _ => repV_no g3 (.inl ⟨q, rfl, rfl⟩)) (fun q => ?_)⟩
  refine (k48 b at_ t (by omega) (h.exm m02) (hat.exm m02) (hb.exm m02)).mono ?_
  rintro v g4 m4 ⟨u, ok, ua, un, uc, va, vn, vc, rfl, hu, hp⟩
  refine ⟨_, _, _, _, _, _, _, _, _, _, rfl, ?_⟩
  rcases hp with ⟨rfl, hp⟩ | ⟨rfl, rfl, hp⟩
  · refine ifF (fun hh => by cases hh) (fun _ => ?_)
    obtain ⟨hsu, hoku⟩ := put_size b at_ t u hp
    have hoku := hoku hok hokb
    intro J hJ g12 m12
    refine (k14 u.dat.op g12).mono ?_
    rintro v g13 m13 rfl
    refine ⟨_, rfl, (k14 t.dat.op g13).mono ?_⟩
    rintro v g14 m14 rfl
    have m414 := m12.trans (m13.trans m14)
    have fin : ∀ g7, Ex g4 g7 → J (tf (catOK t u)) g7 := by
      intro g7 m7
      refine hJ _ g7 (ifPn (fun q2 g8 _ => repV_no g8 (.inr (.inr (.inl ⟨u, q, hp, fun hh => q2 hh.1, rfl, rfl⟩)))) (fun q2 => (k34 u hoku (by omega) (hu.exm m7)).mono ?_))
      rintro v g9 m9 rfl
      refine ⟨_, rfl, ifPn (fun q3 g10 _ => repV_no g10 (.inr (.inr (.inl ⟨u, q, hp, fun hh => q3 hh.2, rfl, rfl⟩)))) (fun q3 g11 m11 => ⟨u, 0, _, _, _, _, _, _, rfl, hu.exm (m7.trans (m9.trans m11)), .inr (.inr (.inr ⟨q, hp, q2, q3, rfl⟩))⟩)⟩
    have hci := catOK_iff (u := u) q.1
    refine ⟨_, rfl, ifEq (fun e => ?_) (fun e => (k33 t.dat.op 5 (by omega) g14).mono ?_)⟩
    · have := fin g14 m414
      rwa [tf_of (hci.2 (.inl e))] at this
    · rintro v g15 m15 rfl
      refine ⟨_, rfl, ifP (fun q2 => (k33 u.dat.op 5 (by omega) g15).mono ?_) (fun q2 => ?_)⟩
      · rintro v g16 m16 rfl
        have := fin g16 (m414.trans (m15.trans m16))
        rw [tf_iff (hci.trans ⟨fun hh => hh.elim (fun hh => absurd hh e) (fun hh => hh.2), fun hh => .inr ⟨q2, hh⟩⟩)] at this
        exact ⟨_, rfl, this⟩
      · have := fin g15 (m414.trans m15)
        rwa [tf_no (fun hh => (hci.1 hh).elim e (fun hh => q2 hh.1))] at this
  · exact ifF (fun _ g5 _ g6 _ => repV_no g6 (.inr (.inl ⟨q, hp, rfl, rfl⟩))) (fun hh => by cases hh)
theorem cell_mid {w : World} {b : Nat} {A cs C : List Value} {e : TypeId} {fr : Nat × Nat} (h : w.heap[b]? = some (.cells ⟨A ++ (cs ++ C)⟩ e fr)) {k : Nat} {v : Value} (hv : cs[k]? = some v) : w.cell? ⟨b, A.length + k, none⟩ = some v := by
  have hk := (List.getElem?_eq_some_iff.1 hv).1
  have e' : (⟨A ++ (cs ++ C)⟩ : Array Value)[A.length + k]? = some v := by
    rw [← Array.getElem?_toList]
    show (A ++ (cs ++ C))[A.length + k]? = some v
    rw [List.getElem?_append_right (by omega), show A.length + k - A.length = k by omega, List.getElem?_append_left hk, hv]
  unfold World.cell?
  simp only [h]
  rw [if_neg (by simp)]
  exact e'
theorem setsAt_mid : ∀ (N cs : List Value) (A C : List Value), cs.length = N.length → setsAt (A ++ (cs ++ C)) A.length N = A ++ (N ++ C)
  | [], cs, A, C, h => by
    cases cs with
    | nil => rfl
    | cons x r => simp at h
  | v :: r, cs, A, C, h => by
    cases cs with
    | nil => simp at h
    | cons x q =>
      show setsAt ((A ++ (x :: q ++ C)).set A.length v) (A.length + 1) r = _
      have e : (A ++ (x :: q ++ C)).set A.length v = (A ++ [v]) ++ (q ++ C) := by
        rw [List.set_append_right _ _ (Nat.le_refl _)]
        simp
      rw [e]
      have := setsAt_mid r q (A ++ [v]) C (by simpa using h)
      rw [List.length_append, List.length_singleton] at this
      rw [this]
      simp
/-- What is known of a place within the copy. -/
structure Plc (w : World) (B S : Nat) (b : Sy) (at_ : List Int) (t : Sy) (rest : List Int) (pb : Nat) (A cs C : List Value) (e : TypeId) (u : Sy) : Prop where
  heap : w.heap[pb]? = some (.cells ⟨A ++ (cs ++ C)⟩ e (0, 0))
  len : cs.length = 5
  lo : B ≤ pb
  hi : pb ≤ S
  sep : ∃ x y, B ≤ x ∧ x ≤ y ∧ y ≤ S ∧ ¬ (x ≤ pb ∧ pb < y) ∧ sepT w u cs x y ∧ ∃ F : Sy → Sy, (putT b at_ t = (putT b rest u).map F) ∧
    ∀ (g' : G) (cs' : List Value) (z : Sy), cs'.length = 5 → g'.w.heap[pb]? = some (.cells ⟨A ++ (cs' ++ C)⟩ e (0, 0)) → (∀ k, B ≤ k → k ≤ S → k ≠ pb → ¬ (x ≤ k ∧ k < y) → g'.w.heap[k]? = w.heap[k]?) → CleanG g' B S → synE.rep g' cs' z →
      ∃ r, r.length = 5 ∧ g'.w.heap[S]? = some (.cells ⟨r⟩ 25 (0, 0)) ∧ synE.rep g' r (F z)
theorem Plc.step {w : World} {B S : Nat} {b : Sy} {at_ : List Int} {t : Sy} {k : Nat} {rest : List Int} {pb : Nat} {A cs C : List Value} {e : TypeId} {u : Sy} (h : Plc w B S b at_ t (((k : Nat) : Int) :: rest) pb A cs C e u) {z : Sy} (hz : u.kids[k]? = some z) :
    ∃ na nn nc pb' c e' A' cs' C', cs = [.int .i64 u.dat.op, .int .i64 u.dat.n, .string (bstr u.dat.s), .slice na nn nc, .slice (some ⟨pb', 0, none⟩) u.kids.length c] ∧ A'.length = k * 5 ∧ Plc w B S b at_ t rest pb' A' cs' C' e' z := by
  obtain ⟨x, y, h1, h2, h3, h4, h5, F, h6, h7⟩ := h.sep
  obtain ⟨na, nn, nc, pb', c, e', A', cs', C', x', y', e1, e2, e3, e4, e5, e6, e7, e8, e9, e10, e11⟩ := sepT_at h5 hz
  refine ⟨na, nn, nc, pb', c, e', A', cs', C', e1, e3, ⟨e2, sepT_len e10, by omega, by omega, x', y', by omega, e7, by omega, e9, e10, fun q => F (.mk u.dat (u.kids.set k q)), ?_, ?_⟩⟩
  · rw [h6, put_some hz]
    cases putT b rest z <;> rfl
  · intro g' ds q hd hb hs hc hr
    have hpb : pb ≠ pb' := fun hh => h4 (by omega)
    have hnode := e11 g' ds q hd hb (fun k' f1 f2 f3 f4 => hs k' (by omega) (by omega) f3 f4) (fun k' f1 f2 => hc k' (by omega) (by omega)) hr
    refine h7 g' cs (.mk u.dat (u.kids.set k q)) h.len ?_ (fun k' f1 f2 f3 f4 => hs k' f1 f2 (fun hh => f4 (by omega)) (fun hh => f4 (by omega))) hc hnode
    rw [hs pb h.lo h.hi hpb (fun hh => h4 (by omega))]
    exact h.heap
end Go.Proofs.YtmakoecgogjemaaDoor
