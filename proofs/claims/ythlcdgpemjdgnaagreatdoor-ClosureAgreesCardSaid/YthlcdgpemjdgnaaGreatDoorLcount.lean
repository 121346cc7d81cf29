/- What the converted functions are made of. -/
import Derived.Test.YthlcdgpemjdgnaaGreatDoorLconv
set_option linter.unusedVariables false
namespace Go.Lam
open Go Go.Vc Go.RowKit Go.Syn
mutual
def funs : Bool → E → List E
  | fixed, .mk d l => (if d.op = 10 ∨ (d.op = 4 ∧ fixed = false) then [.mk d l] else []) ++ funsL (decide (d.op = 10)) l
def funsL : Bool → List E → List E
  | _, [] => []
  | b, t :: r => funs b t ++ funsL b r
end
theorem funs_un (b : Bool) (x : E) : funs b x = (if x.dat.op = 10 ∨ (x.dat.op = 4 ∧ b = false) then [x] else []) ++ funsL (decide (x.dat.op = 10)) x.kids := by
  cases x
  rw [funs]
  rfl
theorem funsL_mem {b : Bool} {y : E} : ∀ {l : List E}, y ∈ funsL b l → ∃ t ∈ l, y ∈ funs b t
  | [], h => by cases h
  | t :: r, h => by
    rcases List.mem_append.1 (show y ∈ funs b t ++ funsL b r from h) with h | h
    · exact ⟨t, by simp, h⟩
    · obtain ⟨u, h1, h2⟩ := funsL_mem h
      exact ⟨u, by simp [h1], h2⟩
theorem mem_funs_of {P : E → Prop} (H : ∀ d l, P (.mk d l) → ∀ y ∈ l, P y) {y : E} (x : E) : ∀ {b : Bool}, P x → y ∈ funs b x → P y ∧ (y.dat.op = 4 ∨ y.dat.op = 10) := by
  induction x using Tr.ind with
  | h d l ih =>
    intro b hx hy
    rw [funs] at hy
    rcases List.mem_append.1 hy with h | h
    · split at h
      · next e =>
        have : y = .mk d l := by simpa using h
        subst this
        exact ⟨hx, e.elim .inr (fun e => .inl e.1)⟩
      · cases h
    · obtain ⟨t, h1, h2⟩ := funsL_mem h
      exact ih t h1 (H d l hx t h1) h2
theorem funs_len (x : E) : ∀ b : Bool, (funs b x).length ≤ sizeE x := by
  induction x using Tr.ind with
  | h d l ih =>
    intro b
    have key : ∀ (c : Bool) (r : List E), (∀ t ∈ r, t ∈ l) → (funsL c r).length ≤ sizeEL r := by
      intro c r
      induction r with
      | nil => intro _; simp [funsL, sizeEL]
      | cons t r ihr =>
        intro h
        have h1 := ih t (h t (by simp)) c
        have h2 := ihr (fun z hz => h z (by simp [hz]))
        simp only [funsL, sizeEL, List.length_append]
        omega
    have h1 := key (decide (d.op = 10)) l (fun _ h => h)
    simp only [funs, sizeE, List.length_append]
    split <;> simp only [List.length_singleton, List.length_nil] <;> omega
theorem kids1 {x : E} (h : x.kids.length = 1) : x.kids = [kid x 0] := by
  unfold kid
  match x.kids, h with
  | [y], _ => rfl
theorem funs_fun {x : E} (hx : formE x) (h : x.dat.op = 4 ∨ x.dat.op = 10) : funs false x = x :: funs false (kid (funOf x) 0) := by
  obtain ⟨n4, _, _, _, n10, _⟩ := node_len hx
  rw [funs_un]
  rcases h with e | e
  · rw [if_pos (.inr ⟨e, rfl⟩), kids1 (n4 e), e]
    unfold funOf
    rw [if_neg (by omega)]
    simp [funsL]
  · obtain ⟨h1, h2⟩ := n10 e
    have h3 := (node_len (kid_form hx (i := 0) (by omega))).1 h2
    rw [if_pos (.inl e), kids1 h1]
    unfold funOf
    rw [if_pos e, decide_eq_true e]
    show [x] ++ (funs true (kid x 0) ++ []) = _
    rw [funs_un true (kid x 0), if_neg (by rw [h2]; simp), kids1 h3, h2]
    simp [funsL]
theorem funs_other {x : E} (h : ¬ (x.dat.op = 4 ∨ x.dat.op = 10)) : funs false x = funsL false x.kids := by
  rw [funs_un, if_neg (by intro q; omega), decide_eq_false (by omega)]
  rfl
def plcP (cap k : Nat) (p : E) : Prop := (∃ n : Nat, p = plc 21 ((n : Nat) : Int) ∧ n < k) ∨ p = plc 22 0 ∨ ∃ n : Nat, p = plc 23 ((n : Nat) : Int) ∧ n < cap
theorem plcP.mono {cap k k' : Nat} {p : E} (h : k ≤ k') : plcP cap k p → plcP cap k' p
  | .inl ⟨n, e, h1⟩ => .inl ⟨n, e, by omega⟩
  | .inr h => .inr h
def fnodeP (cs : List Int) (cap k : Nat) (d : ExpD) (l : List E) : Prop :=
  (d.op = 3 ∨ d.s = []) ∧
  ((d.op = 2 ∧ l.length = 0 ∧ -4503599627370496 ≤ d.n ∧ d.n ≤ 4503599627370496) ∨ (d.op = 3 ∧ l.length = 0 ∧ d.n = 0 ∧ d.s.length ≤ 16384) ∨
   ((d.op = 25 ∨ d.op = 11) ∧ l.length = 2 ∧ d.n = 0) ∨ (d.op = 6 ∧ l.length ≤ 1000 ∧ d.n = 0) ∨ ((d.op = 7 ∨ d.op = 8) ∧ l.length = 1 ∧ 0 ≤ d.n ∧ d.n ≤ 999) ∨ (d.op = 9 ∧ 2 ≤ l.length ∧ l.length ≤ 1001 ∧ d.n = 0) ∨
   (d.op = 12 ∧ 1 ≤ d.n ∧ d.n ≤ 14 ∧ l.length = arityN d.n) ∨ (d.op = 13 ∧ l.length = 0 ∧ 1 ≤ d.n ∧ d.n ≤ 1000000) ∨
   (d.op = 21 ∧ l.length = 0 ∧ 0 ≤ d.n ∧ d.n + 1 ≤ ((k : Nat) : Int)) ∨ (d.op = 22 ∧ l.length = 0 ∧ d.n = 0) ∨ (d.op = 23 ∧ l.length = 0 ∧ 0 ≤ d.n ∧ d.n + 1 ≤ ((cap : Nat) : Int)) ∨
   (d.op = 24 ∧ l.length ≤ 1000 ∧ 0 ≤ d.n ∧ d.n ≤ 4095 ∧ cs[d.n.toNat]? = some ((l.length : Nat) : Int)))
mutual
def goodB (cs : List Int) (cap : Nat) : Nat → E → Prop
  | k, .mk d l => fnodeP cs cap k d l ∧ goodBL cs cap d.op 0 k l
def goodBL (cs : List Int) (cap : Nat) : Int → Nat → Nat → List E → Prop
  | _, _, _, [] => True
  | op, j, k, t :: r => goodB cs cap (if furP op j then k + 1 else k) t ∧ goodBL cs cap op (j + 1) k r
end
theorem goodBL_get {cs : List Int} {cap : Nat} {op : Int} {k : Nat} {t : E} : ∀ {l : List E} {j i : Nat}, goodBL cs cap op j k l → l[i]? = some t → goodB cs cap (if furP op (j + i) then k + 1 else k) t
  | a :: r, j, 0, h, e => by
    cases e
    exact h.1
  | a :: r, j, i + 1, h, e => by
    have := goodBL_get (j := j + 1) (i := i) h.2 (by simpa using e)
    rwa [show j + 1 + i = j + (i + 1) by omega] at this
theorem goodB_un {cs : List Int} {cap k : Nat} {x : E} (h : goodB cs cap k x) : fnodeP cs cap k x.dat x.kids ∧ goodBL cs cap x.dat.op 0 k x.kids := by
  cases x
  exact h
theorem goodB_plc {cs : List Int} {cap k : Nat} {p : E} (h : plcP cap k p) : goodB cs cap k p := by
  rcases h with ⟨n, rfl, h⟩ | rfl | ⟨n, rfl, h⟩
  · exact ⟨⟨.inr rfl, .inr (.inr (.inr (.inr (.inr (.inr (.inr (.inr (.inl ⟨rfl, rfl, by show (0 : Int) ≤ ((n : Nat) : Int); omega, by show ((n : Nat) : Int) + 1 ≤ _; omega⟩))))))))⟩, trivial⟩
  · exact ⟨⟨.inr rfl, .inr (.inr (.inr (.inr (.inr (.inr (.inr (.inr (.inr (.inl ⟨rfl, rfl, rfl⟩)))))))))⟩, trivial⟩
  · exact ⟨⟨.inr rfl, .inr (.inr (.inr (.inr (.inr (.inr (.inr (.inr (.inr (.inr (.inl ⟨rfl, rfl, by show (0 : Int) ≤ ((n : Nat) : Int); omega, by show ((n : Nat) : Int) + 1 ≤ _; omega⟩))))))))))⟩, trivial⟩
abbrev capsF (fs : List FlatD) : List Int := fs.map FlatD.cap
abbrev capsX (l : List E) : List Int := l.map fun y => (((freeA y).length : Nat) : Int)
theorem caps_setBody (fs : List FlatD) (n : Nat) (b : E) : capsF (setBody fs n b) = capsF fs := by
  unfold setBody capsF
  refine List.ext_getElem? (fun i => ?_)
  rw [List.getElem?_map, List.getElem?_map, List.getElem?_modify]
  cases fs[i]? with
  | none => rfl
  | some f => by_cases h : n = i <;> simp [h]
theorem setBody_ne {fs : List FlatD} {n i : Nat} (b : E) (h : n ≠ i) : (setBody fs n b)[i]? = fs[i]? := by
  unfold setBody
  rw [List.getElem?_modify]
  cases fs[i]? with
  | none => rfl
  | some f => simp [h]
theorem setBody_at {fs : List FlatD} {n : Nat} (b : E) {f : FlatD} (h : fs[n]? = some f) : (setBody fs n b)[n]? = some ⟨f.cap, b⟩ := by
  unfold setBody
  rw [List.getElem?_modify, h]
  simp
theorem cvL_len (cv : Cv) (op : Int) : ∀ (l : List E) (j : Nat) (env : List E) (k : Nat) (fs : List FlatD), (cvL cv op j l env k fs).1.length = l.length
  | [], _, _, _, _ => rfl
  | y :: r, j, env, k, fs => by
    show (_ :: (cvL cv op (j + 1) r env k _).1).length = _
    rw [List.length_cons, cvL_len cv op r, List.length_cons]
theorem cvL_old {cv : Cv} (H : ∀ (y : E) (env : List E) (k : Nat) (fs : List FlatD) (i : Nat), i < fs.length → (cv y env k fs).2[i]? = fs[i]?) (op : Int) :
    ∀ (l : List E) (j : Nat) (env : List E) (k : Nat) (fs : List FlatD) (i : Nat), i < fs.length → (cvL cv op j l env k fs).2[i]? = fs[i]?
  | [], _, _, _, _, _, _ => rfl
  | y :: r, j, env, k, fs, i, hi => by
    have h1 : (if furP op j then cv y (plc 21 ((k : Nat) : Int) :: env) (k + 1) fs else cv y env k fs).2[i]? = fs[i]? := by
      split
      · exact H y _ _ fs i hi
      · exact H y _ _ fs i hi
    have hlt : i < (if furP op j then cv y (plc 21 ((k : Nat) : Int) :: env) (k + 1) fs else cv y env k fs).2.length := by
      rw [List.getElem?_eq_getElem hi] at h1
      exact (List.getElem?_eq_some_iff.1 h1).1
    show (cvL cv op (j + 1) r env k (if furP op j then cv y (plc 21 ((k : Nat) : Int) :: env) (k + 1) fs else cv y env k fs).2).2[i]? = _
    rw [cvL_old H op r (j + 1) env k _ i hlt, h1]
theorem cv_old : ∀ (d : Nat) (x : E) (env : List E) (k : Nat) (fs : List FlatD) (i : Nat), i < fs.length → (cvN d x env k fs).2[i]? = fs[i]?
  | 0, _, _, _, _, _, _ => rfl
  | d + 1, x, env, k, fs, i, hi => by
    unfold cvN
    split
    · rfl
    · split
      · show (setBody _ fs.length _)[i]? = _
        rw [setBody_ne _ (by omega), cv_old d _ _ _ _ i (by rw [List.length_append]; omega), List.getElem?_append_left hi]
      · exact cvL_old (cv_old d) x.dat.op x.kids 0 env k fs i hi
theorem cvL_caps {cv : Cv} {l0 : List E} (H : ∀ y ∈ l0, ∀ (env : List E) (k : Nat) (fs : List FlatD), capsF (cv y env k fs).2 = capsF fs ++ capsX (funs false y)) (op : Int) :
    ∀ (l : List E), (∀ y ∈ l, y ∈ l0) → ∀ (j : Nat) (env : List E) (k : Nat) (fs : List FlatD), capsF (cvL cv op j l env k fs).2 = capsF fs ++ capsX (funsL false l)
  | [], _, _, _, _, fs => by simp [cvL, funsL]
  | y :: r, hl, j, env, k, fs => by
    have h1 : capsF (if furP op j then cv y (plc 21 ((k : Nat) : Int) :: env) (k + 1) fs else cv y env k fs).2 = capsF fs ++ capsX (funs false y) := by
      split
      · exact H y (hl y (by simp)) _ _ fs
      · exact H y (hl y (by simp)) _ _ fs
    show capsF (cvL cv op (j + 1) r env k (if furP op j then cv y (plc 21 ((k : Nat) : Int) :: env) (k + 1) fs else cv y env k fs).2).2 = _ ++ capsX (funs false y ++ funsL false r)
    rw [cvL_caps H op r (fun z hz => hl z (by simp [hz])), h1, capsX, capsX, capsX, List.map_append, List.append_assoc]
theorem fun_body {x : E} (hx : formE x) (h : x.dat.op = 4 ∨ x.dat.op = 10) : formE (kid (funOf x) 0) ∧ sizeE (kid (funOf x) 0) + 1 ≤ sizeE x ∧ depthE (kid (funOf x) 0) + 1 ≤ depthE x := by
  obtain ⟨n4, _, _, _, n10, _⟩ := node_len hx
  unfold funOf
  split
  · next e10 =>
    obtain ⟨h1, h2⟩ := n10 e10
    have k0 := kid_form hx (i := 0) (by omega)
    have s0 := kid_size (x := x) (i := 0) (by omega)
    have h3 := (node_len k0).1 h2
    have s1 := kid_size (x := kid x 0) (i := 0) (by omega)
    exact ⟨kid_form k0 (by omega), by omega, by omega⟩
  · next e10 =>
    have h1 := n4 (by omega)
    have s0 := kid_size (x := x) (i := 0) (by omega)
    exact ⟨kid_form hx (by omega), by omega, by omega⟩
theorem depth_pos (x : E) : 1 ≤ depthE x := by cases x; simp [depthE]
theorem cv_caps : ∀ (d : Nat) (x : E) (env : List E) (k : Nat) (fs : List FlatD), formE x → depthE x ≤ d → capsF (cvN d x env k fs).2 = capsF fs ++ capsX (funs false x)
  | 0, x, _, _, _, _, h => by have := depth_pos x; omega
  | d + 1, x, env, k, fs, hx, hd => by
    have hxd : depthE x = depthEL x.kids + 1 := by cases x; rfl
    unfold cvN
    split
    · next e =>
      have hk : x.kids = [] := by
        have hn := (formE_un hx).1.2
        refine List.eq_nil_of_length_eq_zero ?_
        omega
      rw [funs_other (by omega), hk]
      simp [funsL]
    · split
      · next e =>
        obtain ⟨b1, b2, b3⟩ := fun_body hx e
        show capsF (setBody _ _ _) = _
        rw [caps_setBody, cv_caps d _ _ _ _ b1 (by omega), funs_fun hx e]
        simp
      · next e =>
        rw [funs_other e]
        exact cvL_caps (l0 := x.kids) (fun y hy env k fs => cv_caps d y env k fs ((formE_un hx).2 y hy) (by have := depthE_mem hy; omega)) x.dat.op x.kids (fun _ h => h) 0 env k fs
theorem innL_keep : ∀ {F : List Int} {k : Nat} {L : List E} {s : Nat}, ((s : Nat) : Int) ∉ F → (∀ i ∈ F, 0 ≤ i) → (innL k F L)[s]? = L[s]?
  | [], _, _, _, _, _ => rfl
  | i :: r, k, L, s, h, h0 => by
    have hi := h0 i (by simp)
    have hne : i.toNat ≠ s := fun e => h (by simp; left; omega)
    rw [innL, innL_keep (fun q => h (by simp [q])) (fun j hj => h0 j (by simp [hj])), List.getElem?_set_ne hne]
theorem innL_at : ∀ {F : List Int} {k : Nat} {L : List E} {s : Nat}, F.Pairwise (· < ·) → (∀ i ∈ F, 0 ≤ i) → ((s : Nat) : Int) ∈ F → s < L.length → ∃ j : Nat, F[j]? = some ((s : Nat) : Int) ∧ (innL k F L)[s]? = some (plc 23 ((k + j : Nat) : Int))
  | i :: r, k, L, s, hF, h0, h, hs => by
    obtain ⟨h1, h2⟩ := List.pairwise_cons.1 hF
    rcases List.mem_cons.1 h with e | h
    · subst e
      refine ⟨0, rfl, ?_⟩
      rw [innL, innL_keep (fun q => by have := h1 _ q; omega) (fun j hj => h0 j (by simp [hj])), show ((s : Nat) : Int).toNat = s by omega, List.getElem?_set_self hs]
      rfl
    · obtain ⟨j, e1, e2⟩ := innL_at (k := k + 1) (L := L.set i.toNat (plc 23 ((k : Nat) : Int))) h2 (fun j hj => h0 j (by simp [hj])) h (by rw [List.length_set]; exact hs)
      exact ⟨j + 1, by simpa using e1, by rw [innL, e2, show k + 1 + j = k + (j + 1) by omega]⟩
def EnvG (cap k : Nat) (x : E) (env : List E) : Prop := ∀ i, FV x i → ∃ p, env[i]? = some p ∧ plcP cap k p
theorem fv_fun {x : E} (hx : formE x) (h : x.dat.op = 4 ∨ x.dat.op = 10) {i : Nat} (hf : FV (kid (funOf x) 0) i) : (i = 0) ∨ (x.dat.op = 10 ∧ i = 1) ∨ ∃ s, FV x s ∧ i = s + (if x.dat.op = 10 then 2 else 1) := by
  obtain ⟨n4, _, _, _, n10, _⟩ := node_len hx
  rcases h with e | e
  · have e10 : x.dat.op ≠ 10 := by omega
    unfold funOf at hf
    rw [if_neg e10] at hf
    rw [if_neg e10]
    cases i with
    | zero => exact .inl rfl
    | succ i => exact .inr (.inr ⟨i, FV_iff.2 (.inr ⟨0, kid x 0, kid_get (by rw [n4 e]; omega), by rw [bnd_body (.inl e)]; exact hf⟩), rfl⟩)
  · obtain ⟨h1, h2⟩ := n10 e
    have h3 := (node_len (kid_form hx (i := 0) (by omega))).1 h2
    unfold funOf at hf
    rw [if_pos e] at hf
    rw [if_pos e]
    match i, hf with
    | 0, _ => exact .inl rfl
    | 1, _ => exact .inr (.inl ⟨e, rfl⟩)
    | i + 2, hf =>
      refine .inr (.inr ⟨i, FV_iff.2 (.inr ⟨0, kid x 0, kid_get (by omega), ?_⟩), rfl⟩)
      rw [bnd_body (.inr e)]
      refine FV_iff.2 (.inr ⟨0, kid (kid x 0) 0, kid_get (by omega), ?_⟩)
      rw [bnd_body (.inl h2)]
      exact hf
theorem innE_good {x : E} (hx : formE x) (h : x.dat.op = 4 ∨ x.dat.op = 10) {m : Nat} (hs : ∀ s, FV x s → s < m) : EnvG (freeA x).length 1 (kid (funOf x) 0) (innE x m) := by
  intro i hf
  have at_ : ∀ s, FV x s → ∃ p, (innL 0 (freeA x) (List.replicate m noE))[s]? = some p ∧ plcP (freeA x).length 1 p := by
    intro s hv
    obtain ⟨j, e1, e2⟩ := innL_at (k := 0) (L := List.replicate m noE) (s := s) (asc_freeA x) (fun i hi => by obtain ⟨q, rfl, _⟩ := mem_freeA.1 hi; omega) (mem_freeA.2 ⟨s, rfl, hv⟩) (by rw [List.length_replicate]; exact hs s hv)
    refine ⟨_, e2, .inr (.inr ⟨0 + j, rfl, ?_⟩)⟩
    have := (List.getElem?_eq_some_iff.1 e1).1
    omega
  unfold innE
  rcases fv_fun hx h hf with rfl | ⟨e, rfl⟩ | ⟨s, hv, rfl⟩
  · exact ⟨_, rfl, .inl ⟨0, rfl, by omega⟩⟩
  · rw [if_pos e]
    exact ⟨_, rfl, .inr (.inl rfl)⟩
  · obtain ⟨p, h1, h2⟩ := at_ s hv
    refine ⟨p, ?_, h2⟩
    split
    · simpa using h1
    · simpa using h1
structure CvG (cs : List Int) (cap k : Nat) (fs : List FlatD) (r : E × List FlatD) : Prop where
  good : goodB cs cap k r.1
  new : ∀ i f, fs.length ≤ i → r.2[i]? = some f → ∃ c : Nat, f.cap = ((c : Nat) : Int) ∧ goodB cs c 1 f.body
theorem cvL_good {cs : List Int} {cap : Nat} {cv : Cv} {op : Int} {l0 : List E}
    (H : ∀ y ∈ l0, ∀ (env : List E) (k : Nat) (fs : List FlatD), EnvG cap k y env → capsF (cv y env k fs).2 <+: cs → CvG cs cap k fs (cv y env k fs))
    (Ho : ∀ (y : E) (env : List E) (k : Nat) (fs : List FlatD) (i : Nat), i < fs.length → (cv y env k fs).2[i]? = fs[i]?)
    (Hc : ∀ y ∈ l0, ∀ (env : List E) (k : Nat) (fs : List FlatD), capsF (cv y env k fs).2 = capsF fs ++ capsX (funs false y)) :
    ∀ (l : List E), (∀ y ∈ l, y ∈ l0) → ∀ (j : Nat) (env : List E) (k : Nat) (fs : List FlatD),
      (∀ i y, l[i]? = some y → if furP op (j + i) then EnvG cap (k + 1) y (plc 21 ((k : Nat) : Int) :: env) else EnvG cap k y env) → capsF (cvL cv op j l env k fs).2 <+: cs →
      goodBL cs cap op j k (cvL cv op j l env k fs).1 ∧ ∀ i f, fs.length ≤ i → (cvL cv op j l env k fs).2[i]? = some f → ∃ c : Nat, f.cap = ((c : Nat) : Int) ∧ goodB cs c 1 f.body
  | [], _, j, env, k, fs, _, _ => ⟨trivial, fun i f hi h => by
      have := (List.getElem?_eq_some_iff.1 (show fs[i]? = some f from h)).1
      omega⟩
  | y :: r, hl, j, env, k, fs, he, hp => by
    have hy := hl y (by simp)
    have hr : ∀ z ∈ r, z ∈ l0 := fun z hz => hl z (by simp [hz])
    have e : cvL cv op j (y :: r) env k fs = ((if furP op j then cv y (plc 21 ((k : Nat) : Int) :: env) (k + 1) fs else cv y env k fs).1 :: (cvL cv op (j + 1) r env k (if furP op j then cv y (plc 21 ((k : Nat) : Int) :: env) (k + 1) fs else cv y env k fs).2).1, (cvL cv op (j + 1) r env k (if furP op j then cv y (plc 21 ((k : Nat) : Int) :: env) (k + 1) fs else cv y env k fs).2).2) := rfl
    rw [e] at hp ⊢
    have h0 := he 0 y rfl
    rw [Nat.add_zero] at h0
    have ha : capsF (if furP op j then cv y (plc 21 ((k : Nat) : Int) :: env) (k + 1) fs else cv y env k fs).2 <+: cs → CvG cs cap (if furP op j then k + 1 else k) fs (if furP op j then cv y (plc 21 ((k : Nat) : Int) :: env) (k + 1) fs else cv y env k fs) := by
      split
      · next q => rw [if_pos q] at h0; exact H y hy _ _ fs h0
      · next q => rw [if_neg q] at h0; exact H y hy _ _ fs h0
    have hao : ∀ i, i < fs.length → (if furP op j then cv y (plc 21 ((k : Nat) : Int) :: env) (k + 1) fs else cv y env k fs).2[i]? = fs[i]? := by
      split
      · exact Ho y _ _ fs
      · exact Ho y _ _ fs
    generalize (if furP op j then cv y (plc 21 ((k : Nat) : Int) :: env) (k + 1) fs else cv y env k fs) = a at ha hao hp ⊢
    have hcp := cvL_caps Hc op r hr (j + 1) env k a.2
    obtain ⟨b1, b2⟩ := cvL_good H Ho Hc r hr (j + 1) env k a.2 (fun i z hz => by
      have := he (i + 1) z (by simpa using hz)
      rwa [show j + 1 + i = j + (i + 1) by omega]) hp
    have ha := ha (List.IsPrefix.trans (by rw [hcp]; exact List.prefix_append _ _) hp)
    refine ⟨⟨ha.good, b1⟩, fun i f hi hf => ?_⟩
    by_cases q : i < a.2.length
    · have h2 : (cvL cv op (j + 1) r env k a.2).2[i]? = a.2[i]? := cvL_old Ho op r (j + 1) env k a.2 i q
      have hf' : (cvL cv op (j + 1) r env k a.2).2[i]? = some f := hf
      rw [h2] at hf'
      exact ha.new i f hi hf'
    · exact b2 i f (by omega) hf
theorem fnode_of {cs : List Int} {cap k : Nat} {d : ExpD} {l l' : List E} (hn : nodeP d l) (e1 : d.op ≠ 1) (e : ¬ (d.op = 4 ∨ d.op = 10)) (hl : l'.length = l.length) : fnodeP cs cap k ⟨if d.op = 5 then 25 else d.op, d.n, d.s⟩ l' := by
  obtain ⟨h1, h2⟩ := hn
  unfold fnodeP
  rw [hl]
  refine ⟨?_, ?_⟩
  · show (if d.op = 5 then (25 : Int) else d.op) = 3 ∨ d.s = []
    rcases h1 with h | h
    · left; rw [if_neg (by omega)]; exact h
    · exact .inr h
  · by_cases e5 : d.op = 5
    · rw [if_pos e5]
      right; right; left
      refine ⟨.inl rfl, ?_⟩
      rcases h2 with h | h | h | h | h | h | h | h | h | h | h
      · exact absurd (h.1.symm.trans e5) (by decide)
      · exact absurd (h.1.symm.trans e5) (by decide)
      · exact absurd (h.1.symm.trans e5) (by decide)
      · exact absurd (h.1.symm.trans e5) (by decide)
      · exact h.2
      · exact absurd (h.1.symm.trans e5) (by decide)
      · rcases h.1 with q | q <;> exact absurd (q.symm.trans e5) (by decide)
      · exact absurd (h.1.symm.trans e5) (by decide)
      · exact absurd (h.1.symm.trans e5) (by decide)
      · exact absurd (h.1.symm.trans e5) (by decide)
      · exact absurd (h.1.symm.trans e5) (by decide)
    · rw [if_neg e5]
      rcases h2 with h | h | h | h | h | h | h | h | h | h | h
      · exact absurd h.1 e1
      · exact .inl h
      · exact .inr (.inl h)
      · exact absurd (.inl h.1) e
      · exact .inr (.inr (.inl ⟨.inr (h.1.resolve_left e5), h.2⟩))
      · exact .inr (.inr (.inr (.inl h)))
      · exact .inr (.inr (.inr (.inr (.inl h))))
      · exact .inr (.inr (.inr (.inr (.inr (.inl h)))))
      · exact absurd (.inr h.1) e
      · exact .inr (.inr (.inr (.inr (.inr (.inr (.inl h))))))
      · exact .inr (.inr (.inr (.inr (.inr (.inr (.inr (.inl h)))))))
theorem cv_good {cs : List Int} (hcs : cs.length ≤ 4096) : ∀ (d : Nat) (x : E) (env : List E) (k cap : Nat) (fs : List FlatD), formE x → depthE x ≤ d → sizeE x ≤ 1000 → EnvG cap k x env → capsF (cvN d x env k fs).2 <+: cs → CvG cs cap k fs (cvN d x env k fs)
  | 0, x, _, _, _, _, _, h, _, _, _ => by have := depth_pos x; omega
  | d + 1, x, env, k, cap, fs, hx, hd, hsz, he, hp => by
    have hxd : depthE x = depthEL x.kids + 1 := by cases x; rfl
    have hxs : sizeE x = sizeEL x.kids + 1 := by cases x; rfl
    have hcaps := cv_caps (d + 1) x env k fs hx hd
    have hn := (formE_un hx).1
    unfold cvN at hp hcaps ⊢
    split
    · next e =>
      have h1 := (node_len hx).2.2.2.2.2.2.2.1 e
      obtain ⟨p, hq, hg⟩ := he x.dat.n.toNat (FV_iff.2 (.inl ⟨e, by omega⟩))
      have : env.getD x.dat.n.toNat noE = p := by rw [List.getD_eq_getElem?_getD, hq]; rfl
      refine ⟨?_, fun i f hi h => ?_⟩
      · show goodB cs cap k (env.getD x.dat.n.toNat noE)
        rw [this]
        exact goodB_plc hg
      · have := (List.getElem?_eq_some_iff.1 (show fs[i]? = some f from h)).1
        omega
    · next e1 =>
      rw [if_neg e1] at hp hcaps
      split
      · next e =>
        rw [if_pos e] at hp hcaps
        obtain ⟨b1, b2, b3⟩ := fun_body hx e
        have hFl := len_freeA x
        have hFk := frees_kids e1
        have hp' := hp
        rw [show capsF (setBody (cvN d (kid (funOf x) 0) (innE x env.length) 1 (fs ++ [⟨(((freeA x).length : Nat) : Int), noE⟩])).2 fs.length (cvN d (kid (funOf x) 0) (innE x env.length) 1 (fs ++ [⟨(((freeA x).length : Nat) : Int), noE⟩])).1) = _ from caps_setBody _ _ _] at hp'
        have ih := cv_good hcs d (kid (funOf x) 0) (innE x env.length) 1 (freeA x).length (fs ++ [⟨(((freeA x).length : Nat) : Int), noE⟩]) b1 (by omega) (by omega) (innE_good hx e (fun s hv => by
          obtain ⟨p, hq, _⟩ := he s hv
          exact (List.getElem?_eq_some_iff.1 hq).1)) hp'
        have hold := cv_old d (kid (funOf x) 0) (innE x env.length) 1 (fs ++ [⟨(((freeA x).length : Nat) : Int), noE⟩]) fs.length (by simp)
        rw [show (fs ++ [(⟨(((freeA x).length : Nat) : Int), noE⟩ : FlatD)])[fs.length]? = some ⟨(((freeA x).length : Nat) : Int), noE⟩ by simp] at hold
        have hat : cs[fs.length]? = some (((freeA x).length : Nat) : Int) := by
          obtain ⟨t, rfl⟩ := hp
          rw [hcaps, funs_fun hx e]
          simp
        have hlt := (List.getElem?_eq_some_iff.1 hat).1
        refine ⟨⟨⟨.inr rfl, .inr (.inr (.inr (.inr (.inr (.inr (.inr (.inr (.inr (.inr (.inr ⟨rfl, ?_, ?_, ?_, ?_⟩))))))))))⟩, ?_⟩, fun i f hi hf => ?_⟩
        · rw [List.length_map]; omega
        · show (0 : Int) ≤ ((fs.length : Nat) : Int); omega
        · show ((fs.length : Nat) : Int) ≤ 4095; omega
        · rw [List.length_map]
          show cs[((fs.length : Nat) : Int).toNat]? = _
          rw [show ((fs.length : Nat) : Int).toNat = fs.length by omega]
          exact hat
        · have key : ∀ (F : List Int), (∀ i ∈ F, ∃ p, env[i.toNat]? = some p ∧ plcP cap k p) → ∀ j, goodBL cs cap 24 j k (F.map fun i => env.getD i.toNat noE) := by
            intro F
            induction F with
            | nil => intro _ j; trivial
            | cons i r ih =>
              intro h j
              obtain ⟨p, hq, hg⟩ := h i (by simp)
              refine ⟨?_, ih (fun q hq => h q (by simp [hq])) (j + 1)⟩
              rw [if_neg (by unfold furP; intro q; rcases q.2 with q | q <;> cases q)]
              show goodB cs cap k (env.getD i.toNat noE)
              rw [List.getD_eq_getElem?_getD, hq]
              exact goodB_plc hg
          refine key _ (fun i hi => ?_) 0
          obtain ⟨s, rfl, hv⟩ := mem_freeA.1 hi
          rw [show ((s : Nat) : Int).toNat = s by omega]
          exact he s hv
        · by_cases q : i = fs.length
          · subst q
            have hf' := hf
            rw [show (setBody (cvN d (kid (funOf x) 0) (innE x env.length) 1 (fs ++ [⟨(((freeA x).length : Nat) : Int), noE⟩])).2 fs.length (cvN d (kid (funOf x) 0) (innE x env.length) 1 (fs ++ [⟨(((freeA x).length : Nat) : Int), noE⟩])).1)[fs.length]? = _ from setBody_at _ hold] at hf'
            cases hf'
            exact ⟨_, rfl, ih.good⟩
          · have hf' := hf
            rw [show (setBody (cvN d (kid (funOf x) 0) (innE x env.length) 1 (fs ++ [⟨(((freeA x).length : Nat) : Int), noE⟩])).2 fs.length (cvN d (kid (funOf x) 0) (innE x env.length) 1 (fs ++ [⟨(((freeA x).length : Nat) : Int), noE⟩])).1)[i]? = _ from setBody_ne _ (by omega)] at hf'
            exact ih.new i f (by simp; omega) hf'
      · next e =>
        rw [if_neg e] at hp hcaps
        obtain ⟨g1, g2⟩ := cvL_good (cs := cs) (cap := cap) (cv := cvN d) (op := x.dat.op) (l0 := x.kids)
          (fun y hy env k fs h1 h2 => cv_good hcs d y env k cap fs ((formE_un hx).2 y hy) (by have := depthE_mem hy; omega) (by have := sizeE_mem hy; omega) h1 h2)
          (cv_old d) (fun y hy env k fs => cv_caps d y env k fs ((formE_un hx).2 y hy) (by have := depthE_mem hy; omega)) x.kids (fun _ h => h) 0 env k fs (fun i y hy => by
            rw [Nat.zero_add]
            split
            · next q =>
              intro s hs
              cases s with
              | zero => exact ⟨_, rfl, .inl ⟨k, rfl, by omega⟩⟩
              | succ s =>
                obtain ⟨p, h1, h2⟩ := he s (FV_iff.2 (.inr ⟨i, y, hy, by rw [bnd_more q.2 q.1]; exact hs⟩))
                exact ⟨p, by simpa using h1, h2.mono (by omega)⟩
            · next q =>
              intro s hs
              refine he s (FV_iff.2 (.inr ⟨i, y, hy, ?_⟩))
              have : bndN x.dat.op i = 0 := by
                unfold bndN
                rw [if_neg e, if_neg (fun h => q ⟨h.2, h.1⟩)]
              rw [this]
              exact hs) hp
        have hlen := cvL_len (cvN d) x.dat.op x.kids 0 env k fs
        refine ⟨⟨?_, ?_⟩, g2⟩
        · exact fnode_of hn e1 e hlen
        · show goodBL cs cap (if x.dat.op = 5 then (25 : Int) else x.dat.op) 0 k (cvL (cvN d) x.dat.op 0 x.kids env k fs).1
          by_cases e5 : x.dat.op = 5
          · rw [if_pos e5]
            have key : ∀ (l : List E) (j : Nat), goodBL cs cap x.dat.op j k l → goodBL cs cap 25 j k l := by
              intro l
              induction l with
              | nil => intro _ _; trivial
              | cons t r ih =>
                intro j h
                refine ⟨?_, ih (j + 1) h.2⟩
                have h1 := h.1
                rw [if_neg (by unfold furP; intro q; omega)] at h1
                rw [if_neg (by unfold furP; intro q; rcases q.2 with q | q <;> cases q)]
                exact h1
            exact key _ 0 g1
          · rw [if_neg e5]; exact g1
theorem conv_good {x : E} (hx : formE x) (hd : depthE x ≤ 400) (hs : sizeE x ≤ 1000) (hsc : scopedE 0 x) :
    capsF (setBody (cvN 400 x [] 1 [⟨0, noE⟩]).2 0 (cvN 400 x [] 1 [⟨0, noE⟩]).1) = 0 :: capsX (funs false x) ∧
    ∀ (i : Nat) (f : FlatD), (setBody (cvN 400 x [] 1 [⟨0, noE⟩]).2 0 (cvN 400 x [] 1 [⟨0, noE⟩]).1)[i]? = some f → ∃ c : Nat, f.cap = ((c : Nat) : Int) ∧ goodB (0 :: capsX (funs false x)) c 1 f.body := by
  have hc := cv_caps 400 x [] 1 [⟨0, noE⟩] hx hd
  have hfl := funs_len x false
  have e : capsF (cvN 400 x [] 1 [⟨0, noE⟩]).2 = 0 :: capsX (funs false x) := hc
  have hg := cv_good (cs := 0 :: capsX (funs false x)) (by rw [List.length_cons, List.length_map]; omega) 400 x [] 1 0 [⟨0, noE⟩] hx hd hs (fun i hi => absurd (hsc i hi) (by omega)) (by rw [e]; exact List.prefix_refl _)
  refine ⟨by rw [caps_setBody]; exact e, fun i f hf => ?_⟩
  have hold := cv_old 400 x [] 1 [⟨0, noE⟩] 0 (by simp)
  by_cases q : i = 0
  · subst q
    rw [setBody_at _ (hold.trans rfl)] at hf
    cases hf
    exact ⟨0, rfl, hg.good⟩
  · rw [setBody_ne _ (by omega)] at hf
    exact hg.new i f (by show 1 ≤ i; omega) hf
end Go.Lam
