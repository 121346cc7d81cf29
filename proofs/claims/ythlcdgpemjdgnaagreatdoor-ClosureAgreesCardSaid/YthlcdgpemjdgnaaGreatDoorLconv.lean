/- The conversion to flat functions. -/
import Derived.Test.YthlcdgpemjdgnaaGreatDoorLfree
import Derived.Test.YthlcdgpemjdgnaaGreatDoorLamA
import Derived.Test.YthlcdgpemjdgnaaGreatDoorVmute
import Derived.Test.YthlcdgpemjdgnaaGreatDoorVfb
set_option linter.unusedVariables false
namespace Go.Lam
open Go Go.Vc Go.RowKit Go.Syn
structure FlatD where
  cap : Int
  body : E
instance : Inhabited FlatD := ⟨⟨0, noE⟩⟩
def insI (n : Int) : List Int → List Int
  | [] => [n]
  | a :: r => if a < n then a :: insI n r else if a = n then a :: r else n :: a :: r
theorem mem_insI {n s : Int} : ∀ {l : List Int}, s ∈ insI n l ↔ s ∈ l ∨ s = n
  | [] => by simp [insI]
  | a :: r => by
    unfold insI
    split
    · simp only [List.mem_cons, mem_insI (l := r), or_assoc]
    · split
      · next h => subst h; simp only [List.mem_cons]; exact ⟨.inl, fun h => h.elim id .inl⟩
      · simp only [List.mem_cons]; exact ⟨fun h => h.elim .inr .inl, fun h => h.elim .inr .inl⟩
theorem asc_insI {n : Int} : ∀ {l : List Int}, l.Pairwise (· < ·) → (insI n l).Pairwise (· < ·)
  | [], _ => by simp [insI]
  | a :: r, h => by
    obtain ⟨h1, h2⟩ := List.pairwise_cons.1 h
    unfold insI
    split
    · next q =>
      refine List.pairwise_cons.2 ⟨fun b hb => ?_, asc_insI h2⟩
      rcases mem_insI.1 hb with hb | rfl
      · exact h1 b hb
      · exact q
    · split
      · exact h
      · next q1 q2 =>
        refine List.pairwise_cons.2 ⟨fun b hb => ?_, h⟩
        rcases List.mem_cons.1 hb with rfl | hb
        · omega
        · have := h1 b hb; omega
theorem len_insI (n : Int) : ∀ l : List Int, (insI n l).length ≤ l.length + 1
  | [] => by simp [insI]
  | a :: r => by
    have := len_insI n r
    unfold insI
    split
    · simp only [List.length_cons]; omega
    · split <;> simp only [List.length_cons] <;> omega
def freeA (x : E) : List Int := (frees x 0).foldr insI []
theorem asc_freeA (x : E) : (freeA x).Pairwise (· < ·) := by
  unfold freeA
  generalize frees x 0 = l
  induction l with
  | nil => exact List.Pairwise.nil
  | cons a r ih => exact asc_insI ih
theorem mem_freeA {x : E} {s : Int} : s ∈ freeA x ↔ ∃ i : Nat, s = ((i : Nat) : Int) ∧ FV x i := by
  have e : s ∈ freeA x ↔ s ∈ frees x 0 := by
    unfold freeA
    generalize frees x 0 = l
    induction l with
    | nil => simp
    | cons a r ih => rw [List.foldr_cons, mem_insI, ih, List.mem_cons]; exact ⟨fun h => h.elim .inr .inl, fun h => h.elim .inr .inl⟩
  rw [e]
  exact mem_frees x 0 s
theorem len_freeA (x : E) : (freeA x).length ≤ (frees x 0).length := by
  unfold freeA
  generalize frees x 0 = l
  induction l with
  | nil => simp
  | cons a r ih =>
    have := len_insI a (r.foldr insI [])
    rw [List.foldr_cons, List.length_cons]
    omega
def plc (op n : Int) : E := .mk ⟨op, n, []⟩ []
def innL : Nat → List Int → List E → List E
  | _, [], L => L
  | k, i :: r, L => innL (k + 1) r (L.set i.toNat (plc 23 ((k : Nat) : Int)))
theorem innL_len : ∀ (k : Nat) (F : List Int) (L : List E), (innL k F L).length = L.length
  | _, [], L => rfl
  | k, i :: r, L => by rw [innL, innL_len, List.length_set]
theorem innL_app : ∀ (k : Nat) (A B : List Int) (L : List E), innL k (A ++ B) L = innL (k + A.length) B (innL k A L)
  | k, [], B, L => rfl
  | k, i :: r, B, L => by
    show innL (k + 1) (r ++ B) _ = _
    rw [innL_app (k + 1) r B, List.length_cons, show k + 1 + r.length = k + (r.length + 1) by omega]
    rfl
theorem innL_take {F : List Int} {j : Nat} {i : Int} (h : F[j]? = some i) (L : List E) : innL 0 (F.take (j + 1)) L = (innL 0 (F.take j) L).set i.toNat (plc 23 ((j : Nat) : Int)) := by
  have hj := (List.getElem?_eq_some_iff.1 h).1
  rw [List.take_add_one, h, Option.toList, innL_app, List.length_take, show 0 + min j F.length = j by omega]
  rfl
def innE (x : E) (m : Nat) : List E := plc 21 0 :: (if x.dat.op = 10 then plc 22 0 :: innL 0 (freeA x) (List.replicate m noE) else innL 0 (freeA x) (List.replicate m noE))
def setBody (fs : List FlatD) (n : Nat) (b : E) : List FlatD := fs.modify n fun f => ⟨f.cap, b⟩
def furP (op : Int) (j : Nat) : Prop := 0 < j ∧ (op = 11 ∨ op = 9)
instance (op : Int) (j : Nat) : Decidable (furP op j) := by unfold furP; infer_instance
abbrev Cv := E → List E → Nat → List FlatD → E × List FlatD
def cvL (cv : Cv) (op : Int) : Nat → List E → List E → Nat → List FlatD → List E × List FlatD
  | _, [], _, _, fs => ([], fs)
  | j, y :: r, env, k, fs =>
    let a := if furP op j then cv y (plc 21 ((k : Nat) : Int) :: env) (k + 1) fs else cv y env k fs
    let b := cvL cv op (j + 1) r env k a.2
    (a.1 :: b.1, b.2)
def funOf (x : E) : E := if x.dat.op = 10 then kid x 0 else x
def cvN : Nat → Cv
  | 0, _, _, _, fs => (noE, fs)
  | d + 1, x, env, k, fs =>
    if x.dat.op = 1 then (env.getD x.dat.n.toNat noE, fs)
    else if x.dat.op = 4 ∨ x.dat.op = 10 then
      let r := cvN d (kid (funOf x) 0) (innE x env.length) 1 (fs ++ [⟨(((freeA x).length : Nat) : Int), noE⟩])
      (.mk ⟨24, ((fs.length : Nat) : Int), []⟩ ((freeA x).map fun i => env.getD i.toNat noE), setBody r.2 fs.length r.1)
    else
      let r := cvL (cvN d) x.dat.op 0 x.kids env k fs
      (.mk ⟨if x.dat.op = 5 then 25 else x.dat.op, x.dat.n, x.dat.s⟩ r.1, r.2)
theorem cvL_app (cv : Cv) (op : Int) : ∀ (A B : List E) (j : Nat) (env : List E) (k : Nat) (fs : List FlatD), cvL cv op j (A ++ B) env k fs = ((cvL cv op j A env k fs).1 ++ (cvL cv op (j + A.length) B env k (cvL cv op j A env k fs).2).1, (cvL cv op (j + A.length) B env k (cvL cv op j A env k fs).2).2)
  | [], B, j, env, k, fs => by simp [cvL]
  | y :: A, B, j, env, k, fs => by
    show (_ :: (cvL cv op (j + 1) (A ++ B) env k _).1, (cvL cv op (j + 1) (A ++ B) env k _).2) = _
    rw [cvL_app cv op A B, List.length_cons, show j + 1 + A.length = j + (A.length + 1) by omega]
    rfl
theorem cvL_take (cv : Cv) (op : Int) {l : List E} {j : Nat} {y : E} (h : l[j]? = some y) (env : List E) (k : Nat) (fs : List FlatD) {ys : List E} {fs1 : List FlatD} (h1 : cvL cv op 0 (l.take j) env k fs = (ys, fs1)) {z : E} {fs2 : List FlatD}
    (h2 : (if furP op j then cv y (plc 21 ((k : Nat) : Int) :: env) (k + 1) fs1 else cv y env k fs1) = (z, fs2)) : cvL cv op 0 (l.take (j + 1)) env k fs = (ys ++ [z], fs2) := by
  have hj := (List.getElem?_eq_some_iff.1 h).1
  rw [List.take_add_one, h, Option.toList, cvL_app, h1, List.length_take, show 0 + min j l.length = j by omega]
  simp only [cvL, h2]
def flatB (S D : Nat) (f : FlatD) : Prop := sizeE f.body ≤ S ∧ depthE f.body ≤ D
theorem leaf_getD {env : List E} (h : ∀ p ∈ env, p.kids = []) (i : Nat) : (env.getD i noE).kids = [] := by
  by_cases q : i < env.length
  · refine h _ ?_
    rw [List.getD_eq_getElem?_getD, List.getElem?_eq_getElem q]
    exact List.getElem_mem q
  · rw [List.getD_eq_getElem?_getD, List.getElem?_eq_none (by omega)]
    rfl
theorem size_leaf {p : E} (h : p.kids = []) : sizeE p = 1 ∧ depthE p = 1 := by
  cases p with
  | mk d l =>
    have e : l = [] := h
    subst e
    exact ⟨rfl, rfl⟩
theorem innL_leaf : ∀ (k : Nat) (F : List Int) (L : List E), (∀ p ∈ L, p.kids = []) → ∀ p ∈ innL k F L, p.kids = []
  | _, [], L, h => h
  | k, i :: r, L, h => innL_leaf (k + 1) r _ fun p hp => by
    rcases List.mem_or_eq_of_mem_set hp with hp | rfl
    · exact h p hp
    · rfl
theorem innE_leaf (x : E) (m : Nat) : ∀ p ∈ innE x m, p.kids = [] := by
  have h := innL_leaf 0 (freeA x) (List.replicate m noE) (fun p hp => by rw [List.eq_of_mem_replicate hp]; rfl)
  unfold innE
  intro p hp
  rcases List.mem_cons.1 hp with rfl | hp
  · rfl
  · split at hp
    · rcases List.mem_cons.1 hp with rfl | hp
      · rfl
      · exact h p hp
    · exact h p hp
theorem innE_len (x : E) (m : Nat) : (innE x m).length = m + 1 + (if x.dat.op = 10 then 1 else 0) := by
  unfold innE
  split <;> simp [innL_len] <;> omega
theorem size_leaves : ∀ {l : List E}, (∀ p ∈ l, p.kids = []) → sizeEL l = l.length ∧ depthEL l ≤ 1
  | [], _ => ⟨rfl, by simp [depthEL]⟩
  | p :: r, h => by
    obtain ⟨h1, h2⟩ := size_leaf (h p (by simp))
    obtain ⟨h3, h4⟩ := size_leaves (l := r) (fun q hq => h q (by simp [hq]))
    simp only [sizeEL, depthEL, List.length_cons]
    omega
theorem mem_setBody {fs : List FlatD} {n : Nat} {b : E} {f : FlatD} (h : f ∈ setBody fs n b) : f ∈ fs ∨ ∃ g ∈ fs, f = ⟨g.cap, b⟩ := by
  unfold setBody at h
  obtain ⟨i, hi⟩ := List.getElem?_of_mem h
  rw [List.getElem?_modify] at hi
  cases hf : fs[i]? with
  | none => rw [hf] at hi; cases hi
  | some g =>
    rw [hf] at hi
    have hg := List.mem_of_getElem? hf
    by_cases q : n = i
    · simp only [q, if_true, Option.map_eq_map, Option.map_some, Option.some.injEq] at hi
      exact .inr ⟨g, hg, hi.symm⟩
    · simp only [q, if_false, Option.map_eq_map, Option.map_some, Option.some.injEq] at hi
      exact .inl (hi ▸ hg)
theorem setBody_len (fs : List FlatD) (n : Nat) (b : E) : (setBody fs n b).length = fs.length := by unfold setBody; simp
theorem fv_depth {x : E} {i : Nat} (h : FV x i) (hop : x.dat.op ≠ 1) : 2 ≤ depthE x := by
  rcases FV_iff.1 h with ⟨e, _⟩ | ⟨k, y, h1, _⟩
  · exact absurd e hop
  · have := depthE_mem (List.mem_of_getElem? h1)
    have e : depthE x = depthEL x.kids + 1 := by cases x; rfl
    have e2 : 1 ≤ depthE y := by cases y; simp [depthE]
    omega
theorem frees_kids {x : E} (hop : x.dat.op ≠ 1) : (frees x 0).length + 1 ≤ sizeE x := by
  cases x with
  | mk d l =>
    have e : d.op ≠ 1 := hop
    have key : ∀ (r : List E) (j : Nat), (freesL d.op j r 0).length ≤ sizeEL r := by
      intro r
      induction r with
      | nil => intro j; simp [freesL, sizeEL]
      | cons t r ihr =>
        intro j
        have h1 := frees_len t (0 + bndN d.op j)
        have h2 := ihr (j + 1)
        simp only [freesL, sizeEL, List.length_append]
        omega
    have := key l 0
    simp only [frees, sizeE]
    rw [if_neg (fun h => e h.1)]
    simp only [List.nil_append]
    omega
structure CvB (S D : Nat) (x : E) (env : List E) (fs : List FlatD) (r : E × List FlatD) : Prop where
  size : sizeE r.1 ≤ sizeE x
  depth : depthE r.1 ≤ depthE x
  len : fs.length ≤ r.2.length ∧ r.2.length + 1 ≤ fs.length + sizeE x
  all : ∀ f ∈ r.2, flatB S D f
theorem kid_size {x : E} {i : Nat} (h : i < x.kids.length) : sizeE (kid x i) + 1 ≤ sizeE x ∧ depthE (kid x i) + 1 ≤ depthE x := by
  have h1 := sizeE_mem (List.mem_of_getElem? (kid_get h))
  have h2 := depthE_mem (List.mem_of_getElem? (kid_get h))
  have e1 : sizeE x = sizeEL x.kids + 1 := by cases x; rfl
  have e2 : depthE x = depthEL x.kids + 1 := by cases x; rfl
  omega
theorem cvL_bound {S D : Nat} {cv : Cv} {op : Int} (H : ∀ (y : E) (env : List E) (k : Nat) (fs : List FlatD), formE y → sizeE y ≤ S → depthE y ≤ D → (∀ p ∈ env, p.kids = []) → (∀ f ∈ fs, flatB S D f) → CvB S D y env fs (cv y env k fs)) :
    ∀ (l : List E) (j : Nat) (env : List E) (k : Nat) (fs : List FlatD), (∀ y ∈ l, formE y ∧ sizeE y ≤ S ∧ depthE y ≤ D) → (∀ p ∈ env, p.kids = []) → (∀ f ∈ fs, flatB S D f) →
      sizeEL (cvL cv op j l env k fs).1 ≤ sizeEL l ∧ depthEL (cvL cv op j l env k fs).1 ≤ depthEL l ∧ (cvL cv op j l env k fs).1.length = l.length ∧ fs.length ≤ (cvL cv op j l env k fs).2.length ∧ (cvL cv op j l env k fs).2.length ≤ fs.length + sizeEL l ∧ ∀ f ∈ (cvL cv op j l env k fs).2, flatB S D f
  | [], j, env, k, fs, _, _, hf => by simp [cvL, sizeEL, depthEL]; exact hf
  | y :: r, j, env, k, fs, hl, he, hf => by
    obtain ⟨y1, y2, y3⟩ := hl y (by simp)
    have ha : CvB S D y env fs (if furP op j then cv y (plc 21 ((k : Nat) : Int) :: env) (k + 1) fs else cv y env k fs) := by
      split
      · have h := H y (plc 21 ((k : Nat) : Int) :: env) (k + 1) fs y1 y2 y3 (fun p hp => (List.mem_cons.1 hp).elim (fun e => e ▸ rfl) (he p)) hf
        exact ⟨h.size, h.depth, h.len, h.all⟩
      · exact H y env k fs y1 y2 y3 he hf
    have e : cvL cv op j (y :: r) env k fs = ((if furP op j then cv y (plc 21 ((k : Nat) : Int) :: env) (k + 1) fs else cv y env k fs).1 :: (cvL cv op (j + 1) r env k (if furP op j then cv y (plc 21 ((k : Nat) : Int) :: env) (k + 1) fs else cv y env k fs).2).1, (cvL cv op (j + 1) r env k (if furP op j then cv y (plc 21 ((k : Nat) : Int) :: env) (k + 1) fs else cv y env k fs).2).2) := rfl
    rw [e]
    generalize (if furP op j then cv y (plc 21 ((k : Nat) : Int) :: env) (k + 1) fs else cv y env k fs) = a at ha
    obtain ⟨b1, b2, b3, b4, b5, b6⟩ := cvL_bound H r (j + 1) env k a.2 (fun z hz => hl z (by simp [hz])) he ha.all
    have h1 := ha.size
    have h2 := ha.depth
    obtain ⟨h3, h4⟩ := ha.len
    simp only [sizeEL, depthEL, List.length_cons]
    exact ⟨by omega, by omega, by omega, by omega, by omega, b6⟩
theorem cv_bound {S D : Nat} : ∀ (d : Nat) (x : E) (env : List E) (k : Nat) (fs : List FlatD), formE x → sizeE x ≤ S → depthE x ≤ D → (∀ p ∈ env, p.kids = []) → (∀ f ∈ fs, flatB S D f) → CvB S D x env fs (cvN d x env k fs)
  | 0, x, env, k, fs, hx, hS, hD, he, hf => by
    have h1 := sizeE_pos x
    have h2 : 1 ≤ depthE x := by cases x; simp [depthE]
    exact ⟨by show 1 ≤ sizeE x; omega, by show 1 ≤ depthE x; omega, by show fs.length ≤ fs.length ∧ fs.length + 1 ≤ fs.length + sizeE x; omega, hf⟩
  | d + 1, x, env, k, fs, hx, hS, hD, he, hf => by
    have hp := sizeE_pos x
    have hdp : 1 ≤ depthE x := by cases x; simp [depthE]
    have hxs : sizeE x = sizeEL x.kids + 1 := by cases x; rfl
    have hxd : depthE x = depthEL x.kids + 1 := by cases x; rfl
    obtain ⟨n4, n5, n7, n9, n10, n12, n6, n1, n2, n3, nr, nk⟩ := node_len hx
    unfold cvN
    split
    · obtain ⟨h1, h2⟩ := size_leaf (leaf_getD he x.dat.n.toNat)
      exact ⟨by show sizeE (env.getD x.dat.n.toNat noE) ≤ sizeE x; omega, by show depthE (env.getD x.dat.n.toNat noE) ≤ depthE x; omega, by show fs.length ≤ fs.length ∧ fs.length + 1 ≤ fs.length + sizeE x; omega, hf⟩
    · next e1 =>
      split
      · next e =>
        have hfb : formE (kid (funOf x) 0) ∧ sizeE (kid (funOf x) 0) + 1 ≤ sizeE x ∧ depthE (kid (funOf x) 0) + 1 ≤ depthE x := by
          unfold funOf
          split
          · next e10 =>
            obtain ⟨h1, h2⟩ := n10 e10
            have k0 := kid_form hx (i := 0) (by omega)
            have s0 := kid_size (x := x) (i := 0) (by omega)
            have h3 := (node_len k0).1 h2
            have s1 := kid_size (x := kid x 0) (i := 0) (by omega)
            exact ⟨kid_form k0 (by omega), by omega, by omega⟩
          · next e10 =>
            have h1 := n4 (by omega)
            have s0 := kid_size (x := x) (i := 0) (by omega)
            exact ⟨kid_form hx (by omega), by omega, by omega⟩
        obtain ⟨f1, f2, f3⟩ := hfb
        have ih := cv_bound (S := S) (D := D) d (kid (funOf x) 0) (innE x env.length) 1 (fs ++ [⟨(((freeA x).length : Nat) : Int), noE⟩]) f1 (by omega) (by omega) (innE_leaf x _) (fun f hf' => by
          rcases List.mem_append.1 hf' with h | h
          · exact hf f h
          · have : f = ⟨(((freeA x).length : Nat) : Int), noE⟩ := by simpa using h
            rw [this]
            exact ⟨by show 1 ≤ S; omega, by show 1 ≤ D; omega⟩)
        have h1 := ih.size
        have h2 := ih.depth
        have h3 := ih.len
        have h4 := ih.all
        have hFl := len_freeA x
        have hFk := frees_kids e1
        have hleaf : ∀ p ∈ (freeA x).map (fun i => env.getD i.toNat noE), p.kids = [] := by
          intro p hp
          obtain ⟨i, _, rfl⟩ := List.mem_map.1 hp
          exact leaf_getD he _
        obtain ⟨l1, l2⟩ := size_leaves hleaf
        rw [List.length_map] at l1
        rw [List.length_append, List.length_singleton] at h3
        refine ⟨?_, ?_, ⟨?_, ?_⟩, fun f hf' => ?_⟩
        · show sizeEL _ + 1 ≤ _; omega
        · show depthEL _ + 1 ≤ _
          cases hF : freeA x with
          | nil => simp [depthEL]; omega
          | cons i r =>
            obtain ⟨i', _, hi⟩ := mem_freeA.1 (show i ∈ freeA x by rw [hF]; simp)
            have := fv_depth hi e1
            rw [← hF]
            omega
        · show _ ≤ (setBody _ _ _).length; rw [setBody_len]; omega
        · show (setBody _ _ _).length + 1 ≤ _; rw [setBody_len]; omega
        · rcases mem_setBody hf' with h | ⟨g, hg, rfl⟩
          · exact h4 f h
          · exact ⟨Nat.le_trans h1 (by omega), Nat.le_trans h2 (by omega)⟩
      · obtain ⟨b1, b2, b3, b4, b5, b6⟩ := cvL_bound (op := x.dat.op) (fun y env k fs h1 h2 h3 h4 h5 => cv_bound d y env k fs h1 h2 h3 h4 h5) x.kids 0 env k fs (fun y hy => ⟨(formE_un hx).2 y hy, by have := sizeE_mem hy; omega, by have := depthE_mem hy; omega⟩) he hf
        exact ⟨by show sizeEL (cvL (cvN d) x.dat.op 0 x.kids env k fs).1 + 1 ≤ sizeE x; omega, by show depthEL (cvL (cvN d) x.dat.op 0 x.kids env k fs).1 + 1 ≤ depthE x; omega, ⟨b4, by show (cvL (cvN d) x.dat.op 0 x.kids env k fs).2.length + 1 ≤ fs.length + sizeE x; omega⟩, b6⟩
theorem cv_upto (d : Nat) (x : E) (env : List E) (k : Nat) (fs : List FlatD) (hx : formE x) : (cvN d x env k fs).2.length + 1 ≤ fs.length + sizeE x := by
  have key : ∀ (d : Nat) (x : E) (env : List E) (k : Nat) (fs : List FlatD), formE x → (cvN d x env k fs).2.length + 1 ≤ fs.length + sizeE x := by
    intro d
    induction d with
    | zero => intro x env k fs _; have := sizeE_pos x; show fs.length + 1 ≤ _; omega
    | succ d ih =>
      intro x env k fs hx
      have hp := sizeE_pos x
      have hxs : sizeE x = sizeEL x.kids + 1 := by cases x; rfl
      have hl : ∀ (l : List E) (j : Nat) (env : List E) (k : Nat) (fs : List FlatD), (∀ y ∈ l, formE y) → (cvL (cvN d) x.dat.op j l env k fs).2.length ≤ fs.length + sizeEL l := by
        intro l
        induction l with
        | nil => intro j env k fs _; simp [cvL, sizeEL]
        | cons y r ihr =>
          intro j env k fs h
          have e : (cvL (cvN d) x.dat.op j (y :: r) env k fs).2 = (cvL (cvN d) x.dat.op (j + 1) r env k (if furP x.dat.op j then cvN d y (plc 21 ((k : Nat) : Int) :: env) (k + 1) fs else cvN d y env k fs).2).2 := rfl
          rw [e]
          have h1 := ihr (j + 1) env k (if furP x.dat.op j then cvN d y (plc 21 ((k : Nat) : Int) :: env) (k + 1) fs else cvN d y env k fs).2 (fun z hz => h z (by simp [hz]))
          have h2 : (if furP x.dat.op j then cvN d y (plc 21 ((k : Nat) : Int) :: env) (k + 1) fs else cvN d y env k fs).2.length + 1 ≤ fs.length + sizeE y := by
            split
            · exact ih y _ _ fs (h y (by simp))
            · exact ih y _ _ fs (h y (by simp))
          simp only [sizeEL]
          omega
      unfold cvN
      split
      · show fs.length + 1 ≤ _; omega
      · split
        · next e =>
          have hb : formE (kid (funOf x) 0) ∧ sizeE (kid (funOf x) 0) + 1 ≤ sizeE x := by
            obtain ⟨n4, n5, n7, n9, n10, n12, n6, n1, n2, n3, nr, nk⟩ := node_len hx
            unfold funOf
            split
            · next e10 =>
              obtain ⟨h1, h2⟩ := n10 e10
              have k0 := kid_form hx (i := 0) (by omega)
              have s0 := kid_size (x := x) (i := 0) (by omega)
              have h3 := (node_len k0).1 h2
              have s1 := kid_size (x := kid x 0) (i := 0) (by omega)
              exact ⟨kid_form k0 (by omega), by omega⟩
            · next e10 =>
              have h1 := n4 (by omega)
              have s0 := kid_size (x := x) (i := 0) (by omega)
              exact ⟨kid_form hx (by omega), by omega⟩
          have h1 := ih (kid (funOf x) 0) (innE x env.length) 1 (fs ++ [⟨(((freeA x).length : Nat) : Int), noE⟩]) hb.1
          rw [List.length_append, List.length_singleton] at h1
          show (setBody _ _ _).length + 1 ≤ _
          rw [setBody_len]
          omega
        · have h1 := hl x.kids 0 env k fs (formE_un hx).2
          show (cvL (cvN d) x.dat.op 0 x.kids env k fs).2.length + 1 ≤ _
          omega
  exact key d x env k fs hx
end Go.Lam
