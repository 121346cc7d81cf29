/- Scope: the law ScopePaths. -/
import Derived.Test.YtkocjbgdmocmlaaGreatDoorC07af
import Derived.Test.YtkocjbgdmocmlaaGreatDoorC07AD
import Derived.Test.YtkocjbgdmocmlaaGreatDoorSfree2
import Derived.Test.YtkocjbgdmocmlaaGreatDoorFnL7
set_option linter.unusedVariables false
namespace Go.Proofs.YtkocjbgdmocmlaaGreatDoor
open Go Go.Vc Go.RowKit Go.Syn Go.Sort

def headsL : List Lab := [hVal, hType, hCon, hMod, hSig]
/-- The labels to which the path of a node may refer. -/
def mayD (d : SynD) : List Lab := if 1 < d.names.length then [hMod ++ d.names.getD 0 []] else if d.names.length = 1 then headsL.map (· ++ d.names.getD 0 []) else []
mutual
def mayT : Sy → List Lab
  | .mk d l => mayD d ++ mayL l
def mayL : List Sy → List Lab
  | [] => []
  | t :: r => mayT t ++ mayL r
end
theorem mayL_append (a b : List Sy) : mayL (a ++ b) = mayL a ++ mayL b := by
  induction a with
  | nil => rfl
  | cons x r ih => simp [mayL, ih]
theorem mayL_take {l : List Sy} {j : Nat} {t : Sy} (h : l[j]? = some t) : mayL (l.take (j + 1)) = mayL (l.take j) ++ mayT t := by
  rw [List.take_add_one, h, mayL_append]
  simp [mayL]
theorem mayD_len (d : SynD) : (mayD d).length ≤ 5 := by
  unfold mayD
  repeat' split
  all_goals simp [headsL]
theorem mayL_len : ∀ (l : List Sy), (∀ x ∈ l, (mayT x).length ≤ 5 * size x) → (mayL l).length ≤ 5 * sizeL l
  | [], _ => Nat.le_refl _
  | t :: r, h => by
    have h1 := h t (by simp)
    have h2 := mayL_len r (fun x hx => h x (by simp [hx]))
    simp only [mayL, sizeL, List.length_append]
    omega
theorem may_len (t : Sy) : (mayT t).length ≤ 5 * size t := by
  induction t using Tr.ind with
  | h d l ih =>
    have h1 := mayL_len l ih
    have h2 := mayD_len d
    show (mayD d ++ mayL l).length ≤ 5 * (sizeL l + 1)
    rw [List.length_append]
    omega
theorem refers_may {d : SynD} {s : Lab} (h : refersO d = some s) : s ∈ mayD d := by
  unfold refersO at h
  cases hh : headOf d.op with
  | none => rw [hh] at h; cases h
  | some hd =>
    rw [hh] at h
    cases hn : d.names with
    | nil => rw [hn] at h; cases h
    | cons x r =>
      rw [hn] at h
      have e := Option.some.inj h
      unfold mayD
      rw [hn]
      by_cases hr : r = []
      · subst hr
        rw [if_neg (by simp), if_pos (by simp)]
        have hm : hd ∈ headsL := by
          unfold headOf at hh
          repeat' (split at hh)
          all_goals first | (cases hh; simp [headsL]) | cases hh
        refine List.mem_map.2 ⟨hd, hm, ?_⟩
        simpa using e
      · have hl : 1 < (x :: r).length := by
          cases r with
          | nil => exact absurd rfl hr
          | cons y r => simp
        rw [if_pos hl]
        rw [if_neg hr] at e
        simp [← e]
theorem free_may (t : Sy) : ∀ B s, s ∈ freeT t B → s ∈ mayT t := by
  induction t using Tr.ind with
  | h d l ih =>
    intro B s hs
    have hs' : s ∈ ownRef d B ++ freeL l d (B ++ extra d) := hs
    show s ∈ mayD d ++ mayL l
    rcases List.mem_append.1 hs' with hs' | hs'
    · exact List.mem_append_left _ (refers_may ((mem_own d B s).1 hs').1)
    · refine List.mem_append_right _ ?_
      have key : ∀ (k : List Sy), (∀ x ∈ k, x ∈ l) → ∀ C, s ∈ freeL k d C → s ∈ mayL k := by
        intro k
        induction k with
        | nil => intro _ C h; cases h
        | cons x r ihk =>
          intro hm C h
          have h' : s ∈ freeT x C ++ freeL r d (C ++ addOf d x) := h
          show s ∈ mayT x ++ mayL r
          rcases List.mem_append.1 h' with h' | h'
          · exact List.mem_append_left _ (ih x (hm x (by simp)) C s h')
          · exact List.mem_append_right _ (ihk (fun y hy => hm y (by simp [hy])) _ h')
      exact key l (fun _ h => h) _ hs'
/-- The list of labels that is collected, at block ob; the function that collects, at block fb. -/
structure MS (g : G) (ob fb : Nat) (S : List Lab) : Prop where
  row : ∃ oa on oc, MutB g ob 22 [.slice oa on oc] ∧ OwnE strE g (ob + 1) 9 oa on oc S
  fn : Live g ⟨fb, 0, none⟩ (.func (.func 31) #[] #[.pointer (some ⟨ob, 0, none⟩), .pointer (some ⟨fb, 0, none⟩)])
theorem MS.ex {g g' : G} {ob fb : Nat} {S : List Lab} (h : MS g ob fb S) (m : Ex g g') : MS g' ob fb S := by
  obtain ⟨oa, on, oc, h1, h2⟩ := h.row
  exact ⟨⟨oa, on, oc, h1.ex m, h2.exm m⟩, h.fn.ex m⟩
/-- One label more. -/
theorem MS.put {g : G} {ob fb : Nat} {S : List Lab} (h : MS g ob fb S) (hS : S.length ≤ 1000000) {gx : G} {x : Lab} (n : NewL g gx 9 [.string (bstr x)]) {J : G → Prop}
    (hJ : ∀ g', Le g g' → MS g' ob fb (S ++ [x]) → J g') :
    ∃ oa on oc, g.w.cell? ⟨ob, 0, none⟩ = some (.slice oa on oc) ∧ ∃ xa xl xc wo, Sem.run Tryz.prog (Builtin.append_ #[22, 22] 22 #[.slice oa on oc, .slice (some ⟨g.w.heap.size, 0, none⟩) 1 1]) gx.w = .ok (.slice xa xl xc) wo ∧
      ∃ g8 : G, g8.w = wo ∧ Stp gx.w.heap.size (fun b => ob ≤ b) gx g8 ∧ (stOk g8.w ⟨ob, 0, none⟩ 1 ∧ ¬ g8.X ob ∧ mutAt g8 ⟨ob, 0, none⟩ 1 ∧ ∀ g9 : G, StG false g8 ⟨ob, 0, none⟩ [.slice xa xl xc] g9 → J g9) := by
  obtain ⟨oa, on, oc, h1, h2⟩ := h.row
  have hl := h2.len
  have hob := h1.lt
  obtain ⟨a', c', w', hr, g8, hw, hs, ho8, hst, _⟩ := h2.app1 E22 22 (by omega) n (x := x) rfl (by omega) (by unfold maxLen; omega)
  have h8 : MutB g8 ob 22 [.slice oa on oc] := (h1.ex n.ex).but (hst.but (Nat.le_refl _)) (h2.ne (by omega))
  refine ⟨oa, on, oc, h1.rd0 rfl, a', _, c', w', hr, g8, hw, hst.mono (Nat.le_refl _) (fun b _ hb => by have := h2.ge hb; omega), h8.ok0 (Nat.le_refl _), h8.nx, h8.mut0 _, fun g9 k9 => ?_⟩
  obtain ⟨h9, b9⟩ := h8.st0 k9
  rw [set1] at h9
  have le89 : Le g8 g9 := mut_le h8 b9
  have le09 : Le g g9 := (n.ex.le.trans hs.le).trans le89
  exact hJ g9 le09 ⟨⟨a', _, c', h9, ho8.but b9 (fun b hb e => by have := ho8.ge hb; omega) le89⟩, h.fn.mono le09⟩
theorem path_len {l : List Lab} {low : Bool} (h : pathP l low) : ∀ x ∈ l, x.length ≤ 24 := by
  intro x hx
  obtain ⟨h1, _, h3, h4⟩ := h
  obtain ⟨i, hi, rfl⟩ := List.getElem_of_mem hx
  by_cases q : i < l.length - 1
  · exact upper_len (h3 _ (List.mem_take_iff_getElem.2 ⟨i, by omega, rfl⟩))
  · have e : i = l.length - 1 := by omega
    have hg : l.getD (l.length - 1) [] = l[i] := by
      subst e
      rw [List.getD_eq_getElem?_getD, List.getElem?_eq_getElem hi]; rfl
    rw [hg] at h4
    split at h4
    · exact h4.1.2.1
    · exact upper_len h4
theorem names_len {d : SynD} {w : Bool} (h : ownP d w) : ∀ x ∈ d.names, x.length ≤ 24 := by
  by_cases hu : usesL d.op
  · have hb := h.2
    unfold ownB at hb
    unfold usesL at hu
    simp only [List.mem_cons, List.not_mem_nil, or_false] at hu
    have par : paramsP d.names → ∀ x ∈ d.names, x.length ≤ 24 := fun hp x hx => (hp.1 x hx).2.1
    rcases hu with (e | e | e | e | e | e | e | e | e | e | e | e) | (e | e | e | e) <;> simp [e] at hb
    · exact path_len hb
    · exact path_len hb
    · exact path_len hb
    · exact path_len hb
    · exact path_len hb
    · exact path_len hb
    · exact path_len hb
    · exact path_len hb
    · exact path_len hb
    · exact path_len hb
    · exact path_len hb
    · exact path_len hb
    · exact fun x hx => (hb.2.2.2 x hx).1.2.1
    · exact par hb.2
    · exact par hb.2
    · exact par hb.2
  · rw [h.1.2.2 hu]
    intro x hx
    cases hx
/-- The function that collects. -/
theorem k31 : ∀ (t : Sy) (w : Bool) (dep : Nat), walkP t w dep → ∀ (S : List Lab), S.length + 5 * size t ≤ 1000000 → ∀ {ob fb : Nat} {na : Option Addr} {nn nc : Nat} {a : Option Addr} {n c : Nat} {g : G}, SynI g t na nn nc a n c → MS g ob fb S →
    CallsG Tryz.prog 31 (#[synV t na nn nc a n c] ++ #[.pointer (some ⟨ob, 0, none⟩), .pointer (some ⟨fb, 0, none⟩)]) g (fun b => ob ≤ b) fun v g' => v = .tuple ⟨[]⟩ ∧ MS g' ob fb (S ++ mayT t) := by
  intro t
  induction t using Tr.ind with
  | h d l ih =>
    intro w dep hwk S hS ob fb na nn nc a n c g h ms
    refine PL7.call31 _ _ _ _ _ _ _ _ _ _ _ g _ _ ?_
    obtain ⟨hw1, hw2, hw3, hw4⟩ := walk_iff.1 hwk
    have hN : SlE strE g na nn nc d.names := h.names
    have hK : SlE synE g a n c l := h.kids
    have hl := hK.len
    have hcp := hK.le
    have hmx := hK.cap
    unfold maxLen at hmx
    have hnl := hN.len
    have hll := len_sizeL l
    have hse : size (.mk d l) = sizeL l + 1 := rfl
    have hml := mayD_len d
    have h24 : ∀ x ∈ d.names, x.length ≤ 24 := names_len (d := d) hw2
    have stp : ∀ {g1 g2 : G}, g.w.heap.size ≤ g1.w.heap.size → Stp g1.w.heap.size (fun b => ob ≤ b) g1 g2 → Stp g.w.heap.size (fun b => ob ≤ b) g1 g2 := fun hz hs => hs.mono hz (fun _ _ hh => hh)
    unfold PL7.F31
    intro J hJ
    have HJ : ∀ g1, Le g g1 → MS g1 ob fb (S ++ mayD d) → J g1 := by
      intro g1 le1 ms1
      refine hJ g1 ⟨fun m i g' => ∃ j : Nat, i = ((j : Nat) : Int) ∧ j + m = n ∧ MS g' ob fb (S ++ mayD d ++ mayL (l.take j)), ⟨n, 0, rfl, by omega, by simpa [mayL] using ms1⟩, ?_⟩
      rintro m i g2 le ⟨j, rfl, hj, ms2⟩
      have le2 := le1.trans le
      have hmL := mayL_len (l.take j) (fun x _ => may_len x)
      have hsl := sizeL_le l j
      refine ifLt (fun hlt => ⟨⟨by omega, by omega⟩, ?_⟩) (fun hge g5 m5 => ⟨rfl, ?_⟩)
      · have gj := List.getElem?_eq_getElem (show j < l.length by omega)
        generalize l[j] = x at gj
        have hin := List.mem_of_getElem? gj
        have hst : sizeL (l.take j) + size x ≤ sizeL l := by rw [← sizeL_take gj]; exact sizeL_le l (j + 1)
        refine rdT (hK.mono le2) j rfl gj (fun na' nn' nc' ka kn kc hx g3 m3 => ?_)
        have ms3 := ms2.ex m3
        refine ⟨31, _, ms3.fn.1, ⟨_, Tryz.func31, by kernel_rfl, by kernel_rfl⟩, _, fun _ _ hh => hh, CallsG.mono (ih x hin _ _ (hw4 x hin) _ (by simp only [List.length_append]; omega) (hx.exm m3) ms3) ?_⟩
        rintro v g4 s4 ⟨rfl, ms4⟩
        refine ⟨rfl, i64 (by omega) (by omega), m - 1, by omega, j + 1, by omega, by omega, ?_⟩
        rw [mayL_take gj, ← List.append_assoc]
        exact ms4
      · rw [take_all (by omega)] at ms2
        have := ms2.ex m5
        rwa [List.append_assoc] at this
    refine ifLt (fun q g6 m6 => ?_) (fun q => ifEq (fun q1 g10 m10 g11 n11 => ?_) (fun q1 g17 m17 => HJ g17 m17.le ?_))
    · have gj := List.getElem?_eq_getElem (show 0 < d.names.length by omega)
      have hg0 : d.names.getD 0 [] = d.names[0]'(by omega) := by rw [List.getD_eq_getElem?_getD, gj]; rfl
      generalize d.names[0] = x at gj hg0
      have hx24 := h24 x (List.mem_of_getElem? gj)
      have ms6 := ms.ex m6
      have hD : mayD d = [hMod ++ x] := by unfold mayD; rw [if_pos (by omega), hg0]
      obtain ⟨oa, on, oc, hcell, _⟩ := ms6.row
      refine ⟨_, _, _, hcell.rd0 rfl, ⟨by omega, by omega⟩, rdS (hN.exm m6) 0 rfl gj ⟨hd_size hMod x (by decide) (by omega), fun g7 n7 => ?_⟩⟩
      rw [show bs [109, 111, 100, 46] = bstr hMod from rfl, bstr_cat] at n7
      obtain ⟨oa', on', oc', hc', xa, xl, xc, wo, hr, g8, hw, hs8, k1, k2, k3, k4⟩ := ms6.put (by omega) n7 (J := J) (fun g' le' ms' => HJ g' (m6.le.trans le') (by rw [hD]; exact ms'))
      rw [hcell.rd0 rfl] at hc'
      cases hc'
      refine ⟨xa, xl, xc, wo, hr, g8, hw, stp (Nat.le_trans m6.size n7.ex.size) hs8, k1, k2, k3, fun _ => Nat.le_refl _, k4⟩
    · have gj := List.getElem?_eq_getElem (show 0 < d.names.length by omega)
      have hg0 : d.names.getD 0 [] = d.names[0]'(by omega) := by rw [List.getD_eq_getElem?_getD, gj]; rfl
      generalize d.names[0] = x at gj hg0
      have hx24 := h24 x (List.mem_of_getElem? gj)
      have m11 := m10.trans n11.ex
      have hD : mayD d = headsL.map (· ++ x) := by unfold mayD; rw [if_neg (by omega), if_pos (by omega), hg0]
      refine ⟨fun m i g' => ∃ p : Nat, i = ((p : Nat) : Int) ∧ p + m = 5 ∧ MS g' ob fb (S ++ (headsL.take p).map (· ++ x)), ⟨5, 0, rfl, by omega, by simpa using ms.ex m11⟩, ?_⟩
      rintro m i g12 le12 ⟨p, rfl, hp, ms12⟩
      refine ifLt (fun hlt => ⟨⟨by omega, by omega⟩, ?_⟩) (fun hge => HJ g12 (m11.le.trans le12) ?_)
      · have hp5 : p < headsL.length := by show p < 5; omega
        have gp := List.getElem?_eq_getElem hp5
        generalize headsL[p] = hd at gp
        have hd5 : hd.length ≤ 5 := by
          have := List.mem_of_getElem? gp
          simp only [headsL, List.mem_cons, List.not_mem_nil, or_false] at this
          rcases this with rfl | rfl | rfl | rfl | rfl <;> decide
        have hcell : Live g11 (Addr.add ⟨g10.w.heap.size, 0, none⟩ p) (.string (bstr hd)) := n11.at_ (i := p) (v := .string (bstr hd)) (by
          have e : ([(.string (bs [118, 97, 108, 46])), (.string (bs [116, 121, 112, 101, 46])), (.string (bs [99, 111, 110, 46])), (.string (bs [109, 111, 100, 46])), (.string (bs [115, 105, 103, 46]))] : List Value) = headsL.map (fun z => .string (bstr z)) := rfl
          rw [e, List.getElem?_map, gp]
          rfl)
        have e1 : Int.toNat ((p : Nat) : Int) * 1 = p := by omega
        refine ⟨bstr hd, by rw [e1]; exact (hcell.mono le12).1, fun g13 m13 => ?_⟩
        have ms13 := ms12.ex m13
        obtain ⟨oa, on, oc, hc13, _⟩ := ms13.row
        have hml2 : (headsL.take p).length ≤ 5 := by rw [List.length_take]; show min p 5 ≤ 5; omega
        refine ⟨_, _, _, hc13.rd0 rfl, ⟨by omega, by omega⟩, rdS ((hN.exm m11).mono (le12.trans m13.le)) 0 rfl gj ⟨hd_size hd x (by omega) (by omega), fun g14 n14 => ?_⟩⟩
        rw [bstr_cat] at n14
        have et : headsL.take (p + 1) = headsL.take p ++ [hd] := by rw [List.take_add_one, gp]; rfl
        obtain ⟨oa', on', oc', hc', xa, xl, xc, wo, hr, g15, hw, hs15, k1, k2, k3, k4⟩ := ms13.put (by simp only [List.length_append, List.length_map]; omega) n14 (J := fun g16 => InI64 (((p : Nat) : Int) + 1) ∧ (∃ m_3 : Nat, m_3 < m ∧ ∃ p_1 : Nat, ((p : Nat) : Int) + 1 = ((p_1 : Nat) : Int) ∧ p_1 + m_3 = 5 ∧ MS g16 ob fb (S ++ (headsL.take p_1).map (· ++ x)))) (fun g' le' ms' => ⟨i64 (by omega) (by omega), m - 1, by omega, p + 1, by omega, by omega, by
          rw [et]
          simpa [List.append_assoc] using ms'⟩)
        rw [hc13.rd0 rfl] at hc'
        cases hc'
        refine ⟨xa, xl, xc, wo, hr, g15, hw, stp (Nat.le_trans (Nat.le_trans (m11.le.trans le12).size m13.size) n14.ex.size) hs15, k1, k2, k3, fun _ => Nat.le_refl _, k4⟩
      · have h5 : headsL.take p = headsL := List.take_of_length_le (by show 5 ≤ p; omega)
        rw [h5] at ms12
        rw [hD]
        exact ms12
    · have hD : mayD d = [] := by unfold mayD; rw [if_neg (by omega), if_neg (by omega)]
      rw [hD, List.append_nil]
      exact ms.ex m17
theorem k115 (x : Lab) (g : G) : CallsP Tryz.prog 115 #[.string (bstr x)] g fun v _ => v = .bool false := by
  refine PL7.call115 _ g _ ?_
  unfold PL7.F115
  intro g1 _
  rw [strEq_bstr, tf_of rfl]
  rfl
theorem k80 (x y : Lab) (g : G) : CallsP Tryz.prog 80 #[.string (bstr x), .string (bstr y)] g fun v _ => v = .bool (tf (klt x y)) := by
  refine PL7.call80 _ _ g _ ?_
  unfold PL7.F80
  refine (k115 x g).mono ?_
  rintro v g1 _ rfl
  exact ⟨_, rfl, ifT (fun e => by cases e) (fun _ g5 _ => by rw [strLt_klt])⟩
/-- slices.IsSorted, of an ascending list. -/
theorem k32 {L : List Lab} (hs : Srt L) {a : Option Addr} {n c : Nat} {g : G} (h : SlE strE g a n c L) (hn : n ≤ 1048576) : CallsP Tryz.prog 32 #[.slice a n c] g fun v _ => v = .bool true := by
  refine PL7.call32 a n c g _ ?_
  have hl := h.len
  unfold PL7.F32
  refine ⟨i64 (by omega) (by omega), fun m i g' => i = ((m : Nat) : Int) - 1 ∧ m ≤ n, ⟨n, rfl, Nat.le_refl _⟩, ?_⟩
  rintro m i g1 le ⟨rfl, hm⟩
  refine ifLt (fun q g2 m2 => ⟨⟨by omega, by omega⟩, ?_⟩) (fun q g5 _ => rfl)
  have g1' := List.getElem?_eq_getElem (show m - 1 < L.length by omega)
  have g2' := List.getElem?_eq_getElem (show m - 2 < L.length by omega)
  have hlt := List.pairwise_iff_getElem.1 hs (m - 2) (m - 1) (by omega) (by omega) (by omega)
  generalize L[m - 1] = x at g1' hlt
  generalize L[m - 2] = y at g2' hlt
  have h2 := (h.mono le).exm m2
  refine rdS h2 (m - 1) (by omega) g1' ⟨i64 (by omega) (by omega), ⟨by omega, by omega⟩, rdS h2 (m - 2) (by omega) g2' ((k80 x y g2).mono ?_)⟩
  rintro v g3 _ rfl
  refine ⟨_, rfl, ifP (fun hh => absurd rfl (klt_ne (klt_trans hh hlt))) (fun _ => ⟨i64 (by omega) (by omega), m - 1, by omega, by omega, by omega⟩)⟩
theorem k34 {g : G} {ob fb : Nat} {S : List Lab} (ms : MS g ob fb S) (hS : S.length ≤ 1048576) (s : Lab) : CallsP Tryz.prog 34 #[.string (bstr s), .pointer (some ⟨ob, 0, none⟩)] g fun v _ => v = .bool (tf (s ∉ S)) := by
  refine PL7.call34 _ _ g _ ?_
  unfold PL7.F34
  obtain ⟨oa, on, oc, h1, h2⟩ := ms.row
  have hl := h2.len
  refine ⟨_, _, _, h1.rd0 rfl, (kk19 S s h2.sl (by omega)).mono ?_⟩
  rintro v g1 _ rfl
  exact ⟨_, rfl, fun g2 _ => by rw [tf_not]⟩
/-- ScopePaths. -/
theorem law7 (cat : Int) (t : Sy) {na : Option Addr} {nn nc : Nat} {a : Option Addr} {n c : Nat} {g : G} (ht : TabG g) (h : SynI g t na nn nc a n c) :
    CallsP Tryz.prog 7 #[.int .i64 cat, synV t na nn nc a n c] g fun v _ => v = .bool true := by
  refine PL7.call7 cat _ _ _ _ _ _ _ _ _ g _ ?_
  unfold PL7.F7
  refine fun g1 m1 => (k11 g1 (ht.exm m1)).mono ?_
  rintro v g2 m2 rfl
  have m02 := m1.trans m2
  refine ⟨_, rfl, ifF (fun hh => by cases hh) (fun _ g4 n4 => ?_)⟩
  refine ⟨nobody, fun _ _ hh => hh, (k12 [t] (one_tree (h.exm m02) n4)).mono ?_⟩
  rintro v g5 m5 ⟨b, rfl, hb⟩
  have m05 := (m02.trans n4.ex).trans m5
  refine ⟨_, rfl, ifF (fun _ g6 _ => rfl) (fun q => ?_)⟩
  obtain ⟨hsz, hok1⟩ := hb q
  have hs1 : size t ≤ 600 := by simpa [sizeL] using hsz
  have hok := hok1 t (by simp)
  refine (k13 cat t hok (by omega) (ht.exm m05) (h.exm m05)).mono ?_
  rintro v g7 m7 (⟨_, rfl⟩ | ⟨hv, fa, fn, fc, rfl, hf⟩)
  · exact ⟨_, _, _, _, rfl, ifNe (fun _ g8 _ => by simp [eqI]) (fun hh => by simp at hh)⟩
  refine ⟨_, _, _, _, rfl, ifNe (fun hh => absurd rfl hh) (fun _ g9 n9 g10 n10 => ?_)⟩
  have m07 := m05.trans m7
  have h1 := free_len t []
  have h2 := sortS_len (freeT t [])
  obtain ⟨F, hF⟩ : ∃ F, F = sortS (freeT t []) := ⟨_, rfl⟩
  rw [← hF] at hf h2
  have hfl := hf.len
  have hFs : Srt F := hF ▸ srt_sortS _
  have mo : MutB g9 g7.w.heap.size 22 [.slice none 0 0] := n9.mut
  have mf : MutB g10 g9.w.heap.size 54 [.nilFunc] := n10.mut
  have z7 := m07.size
  have zo := mo.lt
  refine ⟨mf.ok0 (Nat.le_refl _), mf.nx, mf.mut0 _, fun hh => absurd hh (by show ¬ g9.w.heap.size < _; omega), fun g11 k11' => ?_⟩
  obtain ⟨hlf, but11⟩ := mf.pub1 k11'
  have le11 : Le g7 g11 := (n9.ex.trans n10.ex).le.trans (mut_le mf but11)
  have ms : MS g11 g7.w.heap.size g9.w.heap.size [] := ⟨⟨none, 0, 0, (mo.ex n10.ex).but but11 (by omega), OwnE.nil _ _ _⟩, hlf⟩
  refine ⟨31, _, ms.fn.1, ⟨_, Tryz.func31, by kernel_rfl, by kernel_rfl⟩, (fun b => g7.w.heap.size ≤ b), fun b hb hh => absurd hb (by omega), CallsG.mono (k31 t false 1 hv.2 [] (by simp; omega) (h.mono (m07.le.trans le11)) ms) ?_⟩
  rintro v g12 s12 ⟨rfl, ms12⟩
  rw [List.nil_append] at ms12
  have le12 : Le g7 g12 := le11.trans s12.le
  have hf12 := hf.mono le12
  have hml := may_len t
  refine ⟨rfl, (k32 hFs hf12 (by omega)).mono ?_⟩
  rintro v g13 m13 rfl
  refine ⟨_, rfl, ifT (fun _ => (k17 (hf12.exm m13) (by omega)).mono ?_) (fun e => by cases e)⟩
  rintro v g14 m14 ⟨xa, xc, rfl, hm⟩
  have z13 : g.w.heap.size ≤ g13.w.heap.size := Nat.le_trans (Nat.le_trans z7 le12.size) m13.size
  refine ⟨_, _, _, rfl, blkOf xa, fun b hb hh => absurd (hm.ge hh) (by omega), CallsG.mono (k22 hm (by omega)) ?_⟩
  rintro v g15 s15 ⟨rfl, _⟩
  have hcF : Lib.compact F = F := by
    have h3 : F.mergeSort (fun x y => decide (x ≤ y)) = F := srt_merge hFs
    have h4 := compact_sorted F
    rwa [h3, sortS_self hFs] at h4
  have m1315 : Ex g13 g15 := ((m14.but (blkOf xa)).trans (s15.but (Nat.le_refl _))).ex (fun b hb _ hh => absurd (hm.ge hh) (by omega))
  have ms15 := (ms12.ex m13).ex m1315
  rw [hcF]
  refine ⟨_, _, _, rfl, ifEq (fun _ => ?_) (fun hh => absurd (by rw [hfl]) hh)⟩
  refine (k33x 34 #[.pointer (some ⟨g7.w.heap.size, 0, none⟩)] (fun s => s ∉ mayT t) F ((hf12.exm m13).exm m1315) (by omega) ⟨_, Tryz.func34, by kernel_rfl, by kernel_rfl⟩ (fun g' m' s _ => k34 (ms15.ex m') (by omega) s)).mono ?_
  rintro v g16 _ rfl
  refine ⟨_, rfl, fun g17 _ => ?_⟩
  rw [tf_not]
  refine (vT (fun ⟨s, hs, hh⟩ => hh (free_may t [] s ?_))).symm
  rw [hF, mem_sortS] at hs
  exact hs
end Go.Proofs.YtkocjbgdmocmlaaGreatDoor
