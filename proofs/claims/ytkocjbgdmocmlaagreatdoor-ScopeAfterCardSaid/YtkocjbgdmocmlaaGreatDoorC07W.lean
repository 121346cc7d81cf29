/- Joined texts. -/
import Derived.Test.YtkocjbgdmocmlaaGreatDoorC07v
import Derived.Test.YtkocjbgdmocmlaaGreatDoorVclip
import Derived.Test.YtkocjbgdmocmlaaGreatDoorVm4
import Derived.Test.YtkocjbgdmocmlaaGreatDoorShelf07k
import Derived.Test.YtkocjbgdmocmlaaGreatDoorFn07k
import Derived.Test.YtkocjbgdmocmlaaGreatDoorVkeys
import Derived.RangeFuncFrom
import Derived.RangeFuncNested
import Derived.RangeFuncBound
import Derived.RangeFuncBox
import Derived.RangeFuncCalls
import Derived.RangeFuncLeaves
import Derived.Shelf.Abstract
import Derived.Shelf.RegionOpen
import Derived.WalkKit
import Derived.OwnWalkIn
import Derived.TacticsInMore
import Derived.LoopNIn
import Derived.LoopIn
import Derived.Test.YtkocjbgdmocmlaaGreatDoorScomp
/- Scope: the walker. -/
set_option linter.unusedVariables false
namespace Go.Proofs.YtkocjbgdmocmlaaGreatDoor
open Go Go.Vc Go.RowKit Go.Syn

/-- A set of strings, as a map to truth. -/
noncomputable def setF (S : List Lab) : List UInt8 → Option Value := fun s => @ite _ (s ∈ S) (Classical.propDecidable _) (some (.bool true)) none
theorem setF_congr {S S' : List Lab} (h : ∀ s, s ∈ S ↔ s ∈ S') : setF S = setF S' := by
  funext s
  unfold setF
  by_cases e : s ∈ S'
  · rw [if_pos e, if_pos ((h s).2 e)]
  · rw [if_neg e, if_neg (fun hh => e ((h s).1 hh))]
theorem setF_put (S : List Lab) (s : Lab) : upd (setF S) s (some (.bool true)) = setF (S ++ [s]) := by
  funext x
  by_cases e : x = s
  · subst e
    rw [upd_same]
    simp [setF]
  · rw [upd_other _ _ e]
    simp [setF, e]
theorem setF_nil : (fun _ => none : List UInt8 → Option Value) = setF [] := by funext s; simp [setF]
/-- The walker at block wb holds the set S, in the map at block mb. -/
structure WS (g : G) (wb mb k : Nat) (S : List Lab) : Prop where
  pm : MutB g wb 100 [.map (some mb)]
  mg : MapG Tryz.prog g 9 mb k (setF S)
  ne : wb ≠ mb
theorem WS.ex {g g' : G} {wb mb k : Nat} {S : List Lab} (h : WS g wb mb k S) (m : Ex g g') : WS g' wb mb k S := ⟨h.pm.ex m, h.mg.ex m, h.ne⟩
theorem WS.grow {g : G} {wb mb k k' : Nat} {S S' : List Lab} (h : WS g wb mb k S) (hk : k ≤ k') (hS : ∀ s, s ∈ S ↔ s ∈ S') : WS g wb mb k' S' := ⟨h.pm, by rw [← setF_congr hS]; exact h.mg.mono hk, h.ne⟩
theorem op_range {d : SynD} {l : List Sy} (h : shapeP d l) : 1 ≤ d.op ∧ d.op ≤ 100 := by
  refine Classical.byContradiction fun hn => ?_
  unfold shapeP at h
  repeat (rw [if_neg (by first | omega | (simp only [List.mem_cons, List.not_mem_nil, or_false]; omega))] at h)
  exact h
theorem label_len {d : SynD} (hp : pathOK d) {s : Lab} (h : refersO d = some s) : s.length ≤ 100 := by
  unfold refersO at h
  rw [kind_head] at h
  cases hk : kindO d.op with
  | none => rw [hk] at h; cases h
  | some k =>
    rw [hk] at h
    obtain ⟨x, r, hx, hfit⟩ := hp k hk
    have hlen : x.length ≤ 24 := by
      split at hfit
      · unfold fitsK at hfit
        split at hfit
        · exact hfit.1.2.1
        · exact hfit.1.2.1
      · exact hfit.1.2.1
    have hh : (headK k).length ≤ 5 := by
      unfold headK
      repeat' split
      all_goals decide
    simp only [Option.map_some, hx] at h
    cases h
    have : hMod.length = 4 := rfl
    split <;> simp only [List.length_append] <;> omega
def W97 (t : Sy) : Prop := ∀ (w : Bool) (dep : Nat), walkP t w dep → ∀ (B S : List Lab) (k : Nat), B.length + 12 * size t ≤ 1000000 → k + size t ≤ 1000000 →
  ∀ {wb mb : Nat} {na : Option Addr} {nn nc : Nat} {a : Option Addr} {n c : Nat} {ba : Option Addr} {bn bc : Nat} {g : G}, TabG g → SynI g t na nn nc a n c → SlE strE g ba bn bc B → WS g wb mb k S →
    CallsG Tryz.prog 97 #[.pointer (some ⟨wb, 0, none⟩), synV t na nn nc a n c, .slice ba bn bc] g (fun b => b = mb) fun v g' => v = .tuple ⟨[]⟩ ∧ WS g' wb mb (k + size t) (S ++ freeT t B)
theorem k97 (t : Sy) : W97 t := by
  induction t using Tr.ind with
  | h d l ih =>
    intro w dep hwk B S k hsz hk wb mb na nn nc a n c ba bn bc g ht h hb ws
    refine call97 _ _ _ _ _ _ _ _ _ _ ba bn bc g _ _ ?_
    obtain ⟨hw1, hw2, hw3, hw4⟩ := walk_iff.1 hwk
    have hpt : pathOK (Tr.mk d l).dat := own_path hw2
    have hop : 1 ≤ (Tr.mk d l).dat.op ∧ (Tr.mk d l).dat.op ≤ 100 := op_range hw3
    have hsh := hw3
    change shapeP d l at hsh
    have hN : SlE strE g na nn nc d.names := h.names
    have hK : SlE synE g a n c l := h.kids
    have hl := hK.len
    have hcp := hK.le
    have hmx := hK.cap
    unfold maxLen at hmx
    have hnl := hN.len
    have hncp := hN.le
    have hnmx := hN.cap
    unfold maxLen at hnmx
    have hbl := hb.len
    have hll := len_sizeL l
    have hse : size (.mk d l) = sizeL l + 1 := rfl
    have hex := extra_le (d := d) hw2
    have efree : freeT (.mk d l) B = ownRef d B ++ freeL l d (B ++ extra d) := rfl
    have low : ∀ k s, (k = 1 ∨ k = 2) → lowerP s → fitsK k s := fun k s hk hp => by unfold fitsK; rw [if_pos hk]; exact hp
    have upp : ∀ (k : Int) (s : Lab), ¬ (k = 1 ∨ k = 2) → upperP s → fitsK k s := fun k s hk hp => by unfold fitsK; rw [if_neg hk]; exact hp
    have fin : ∀ (g' : G) (k' : Nat) (S' : List Lab), WS g' wb mb k' S' → k' ≤ k + size (.mk d l) → (∀ s, s ∈ S' ↔ s ∈ S ++ freeT (.mk d l) B) → (Value.tuple ⟨[]⟩ = Value.tuple ⟨[]⟩ ∧ WS g' wb mb (k + size (.mk d l)) (S ++ freeT (.mk d l) B)) :=
      fun g' k' S' h1 h2 h3 => ⟨rfl, h1.grow h2 h3⟩
    have call : ∀ (x : Sy), x ∈ l → ∀ (B' S' : List Lab) (k' : Nat) (g' : G), Le g g' → ∀ {na' : Option Addr} {nn' nc' : Nat} {ka : Option Addr} {kn kc : Nat} {pa : Option Addr} {pn pc : Nat}, SynI g' x na' nn' nc' ka kn kc → SlE strE g' pa pn pc B' → B'.length + 12 * size x ≤ 1000000 → k' + size x ≤ 1000000 → WS g' wb mb k' S' →
        CallsG Tryz.prog 97 #[.pointer (some ⟨wb, 0, none⟩), synV x na' nn' nc' ka kn kc, .slice pa pn pc] g' (fun b => b = mb) fun v g'' => v = .tuple ⟨[]⟩ ∧ WS g'' wb mb (k' + size x) (S' ++ freeT x B') :=
      fun x hin B' S' k' g' le _ _ _ _ _ _ _ _ _ hx hp h1 h2 hws => ih x hin _ _ (hw4 x hin) B' S' k' h1 h2 (ht.mono le) hx hp hws
    have stp : ∀ {g1 g2 : G}, Le g g1 → Stp g1.w.heap.size nobody g1 g2 → Stp g.w.heap.size (fun b => b = mb) g1 g2 := fun le hs => hs.mono le.size (fun _ _ hh => hh.elim)
    have hbnd : ∀ x ∈ l, size x ≤ sizeL l := fun x hx => size_mem hx
    unfold F97
    intro J hJ g53 m53
    have HJ : ∀ g1, Le g g1 → WS g1 wb mb (k + 1) (S ++ ownRef d B) → J g1 := by
      intro g1 le1 ws1
      refine hJ g1 ?_
      intro J1 hJ1
      refine oneOf [31, 81, 87, 71] (hJ1 _ g1 ?_)
      refine ifP (fun q => ?_) (fun q => ?_)
      · -- declarations, one after the other
        have q2 : d.op ∈ [31, 81, 87, 71] := q
        have q3 : d.op = 31 ∨ d.op = 81 ∨ d.op = 87 ∨ d.op = 71 := by simpa using q2
        have hex0 : extra d = [] := by unfold extra; rw [if_neg (by omega), if_neg (by omega), if_neg (by omega)]
        rw [hex0, List.append_nil] at efree
        refine ⟨fun m ba bn bc i g' => ∃ j : Nat, i = ((j : Nat) : Int) ∧ j + m = n ∧ SlE strE g' ba bn bc (B ++ (l.take j).flatMap (addOf d)) ∧ WS g' wb mb (k + 1 + sizeL (l.take j)) (S ++ ownRef d B ++ freeL (l.take j) d B),
          ⟨n, 0, rfl, by omega, by simpa using hb.mono le1, by simpa [sizeL, freeL] using ws1⟩, ?_⟩
        rintro m pa pn pc i g3 le ⟨j, rfl, hj, hp, ws3⟩
        have le3 := le1.trans le
        have hpl := hp.len
        have hpc := hp.le
        have b4 := adds_le d (l.take j)
        have b5 := sizeL_le l j
        simp only [List.length_append] at hpl
        refine ifLt (fun hlt => ⟨⟨by omega, by omega⟩, ?_⟩) (fun hge g9 m9 => fin g9 _ _ (ws3.ex m9) (by omega) (fun s => by rw [take_all (by omega), efree, List.append_assoc]))
        have gj := List.getElem?_eq_getElem (show j < l.length by omega)
        generalize l[j] = x at gj
        have hin := List.mem_of_getElem? gj
        have hsx := size_mem hin
        have hst : sizeL (l.take j) + size x ≤ sizeL l := by rw [← sizeL_take gj]; exact sizeL_le l (j + 1)
        have hax := add_le d x
        refine rdT (hK.mono le3) j rfl gj (fun na' nn' nc' ka kn kc hx g4 m4 => ⟨_, fun _ _ hh => hh, CallsG.mono (call x hin _ _ _ g4 (le3.trans m4.le) (hx.exm m4) (hp.exm m4) (by simp only [List.length_append]; omega) (by omega) (ws3.ex m4)) ?_⟩)
        rintro v g5 s5 ⟨rfl, ws5⟩
        have le5 := (le3.trans m4.le).trans s5.le
        refine ⟨rfl, fun g6 m6 => ⟨⟨by omega, by omega⟩, ⟨by omega, by omega⟩, (k61 x (by omega) _ _ (hw4 x hin) (fun _ => decide_eq_false (show ¬ d.op = 74 by omega)) ((ht.mono le5).exm m6) (((hx.exm m4).mono s5.le).exm m6)).mono ?_⟩⟩
        rintro v g7 m7 ⟨xa, xl, xc, rfl, hx2⟩
        have hxl := hx2.len
        have hbx := binds_le x
        have le7 := (le5.trans m6.le).trans m7.le
        obtain ⟨a', c', w', hr, g8, hw8, s8, hs8, _⟩ := SlE.clip E22 22 ((((hp.exm m4).mono s5.le).exm m6).exm m7) hx2.sl (by omega) (by unfold maxLen; omega) (m := 1) rfl
        refine ⟨xa, xl, xc, rfl, a', _, c', w', hr, g8, hw8, stp le7 s8, i64 (by omega) (by omega), m - 1, by omega, j + 1, by omega, by omega, ?_, (((ws5.ex m6).ex m7).ex s8.ex).grow ?_ ?_⟩
        · have hadd : addOf d x = bindsT x := by unfold addOf; rw [if_pos (by simp only [List.mem_cons, List.not_mem_nil, or_false]; omega)]
          rw [add_take gj, hadd, ← List.append_assoc]
          exact hs8
        · rw [sizeL_take gj]; omega
        · intro s
          rw [freeL_take gj, List.append_assoc, List.append_assoc]
      refine ifEq (fun q => ?_) (fun q30 => ?_)
      · -- a rule
        have q' : d.op = 30 := q
        unfold shapeP at hsh
        simp [q', partsP] at hsh
        obtain ⟨x, y, rfl⟩ : ∃ x y, l = [x, y] := by
          match l, hsh.1 with
          | [x, y], _ => exact ⟨x, y, rfl⟩
        simp only [List.length_cons, List.length_nil] at hl
        have hsxy : sizeL [x, y] = size x + size y := by simp [sizeL]
        have hex0 : extra d = [] := by unfold extra; rw [if_neg (by omega), if_neg (by omega), if_neg (by omega)]
        have hadd : addOf d x = bindsT x := by unfold addOf; rw [if_pos (by simp [q'])]
        have efr : freeT (.mk d [x, y]) B = ownRef d B ++ (freeT x B ++ freeT y (B ++ bindsT x)) := by
          rw [efree, hex0, List.append_nil, ← hadd]
          simp [freeL]
        have hbx := binds_le x
        refine ⟨⟨by omega, by omega⟩, rdT (hK.mono le1) 0 rfl rfl (fun na' nn' nc' ka kn kc hx => ⟨_, fun _ _ hh => hh, CallsG.mono (call x (by simp) _ _ _ g1 le1 hx (hb.mono le1) (by omega) (by omega) ws1) ?_⟩)⟩
        rintro v g10 s10 ⟨rfl, ws10⟩
        refine ⟨rfl, fun g11 m11 => ⟨⟨by omega, by omega⟩, ?_⟩⟩
        have le11 := (le1.trans s10.le).trans m11.le
        have hbc := hb.le
        refine rdT (hK.mono le11) 1 rfl rfl (fun na2 nn2 nc2 ka2 kn2 kc2 hy => ⟨⟨by omega, by omega⟩, ⟨by omega, by omega⟩, ⟨by omega, by omega⟩, rdT (hK.mono le11) 0 rfl rfl (fun na3 nn3 nc3 ka3 kn3 kc3 hx3 => ?_)⟩)
        refine (k61 x (by omega) _ _ (hw4 x (by simp [Tr.kids])) (fun _ => decide_eq_false (show ¬ d.op = 74 by omega)) (ht.mono le11) hx3).mono ?_
        rintro v g12 m12 ⟨xa, xl, xc, rfl, hx2⟩
        have hxl := hx2.len
        have le12 := le11.trans m12.le
        obtain ⟨a', c', w', hr, g13, hw13, s13, hs13, _⟩ := SlE.clip E22 22 (hb.mono le12) hx2.sl (by omega) (by unfold maxLen; omega) (m := 1) rfl
        refine ⟨xa, xl, xc, rfl, a', _, c', w', hr, g13, hw13, stp le12 s13, (m12.trans s13.ex).same, _, fun _ _ hh => hh, CallsG.mono (call y (by simp) _ _ _ g13 (le12.trans s13.le) (hy.exm (m12.trans s13.ex)) hs13 (by simp only [List.length_append]; omega) (by omega) (((ws10.ex m11).ex m12).ex s13.ex)) ?_⟩
        rintro v g14 s14 ⟨rfl, ws14⟩
        refine ⟨rfl, fun g15 m15 => fin g15 _ _ (ws14.ex m15) (by omega) (fun s => by rw [efr]; simp only [List.append_assoc])⟩
      refine ifEq (fun q => ?_) (fun q25 => ?_)
      · -- a function
        have q' : d.op = 25 := q
        have hown := hw2.2
        unfold ownB at hown
        simp [q', Tr.dat] at hown
        unfold shapeP at hsh
        simp [q', partsP] at hsh
        obtain ⟨x, rfl⟩ : ∃ x, l = [x] := by
          match l, hsh.1 with
          | [x], _ => exact ⟨x, rfl⟩
        simp only [List.length_cons, List.length_nil] at hl
        have hsx : sizeL [x] = size x := by simp [sizeL]
        have efr : freeT (.mk d [x]) B = ownRef d B ++ freeT x (B ++ extra d) := by
          rw [efree]
          simp [freeL]
        have hbc := hb.le
        intro J2 hJ2
        have H2 : ∀ pa pn pc g16, Le g g16 → SlE strE g16 pa pn pc (B ++ extra d) → WS g16 wb mb (k + 1) (S ++ ownRef d B) → J2 pa pn pc g16 := by
          intro pa pn pc g16 le16 hp ws16
          refine hJ2 pa pn pc g16 ⟨⟨by omega, by omega⟩, rdT (hK.mono le16) 0 rfl rfl (fun na' nn' nc' ka kn kc hx => ⟨_, fun _ _ hh => hh, CallsG.mono (call x (by simp) _ _ _ g16 le16 hx hp (by simp only [List.length_append]; omega) (by omega) ws16) ?_⟩)⟩
          rintro v g17 s17 ⟨rfl, ws17⟩
          exact ⟨rfl, fun g18 m18 => fin g18 _ _ (ws17.ex m18) (by omega) (fun s => by rw [efr]; simp only [List.append_assoc])⟩
        rw [show bs [] = bstr [] from rfl, show (bstr (Tr.mk d [x]).dat.s) = bstr d.s from rfl, strEq_bstr]
        refine ifPn (fun q1 g19 m19 => ⟨⟨by omega, by omega⟩, ⟨by omega, by omega⟩, (k88 1 d.s (by omega) (low 1 _ (.inl rfl) (hown.resolve_left q1)) g19 ((ht.mono le1).exm m19)).mono ?_⟩) (fun q1 => H2 ba bn bc g1 le1 ?_ ws1)
        · rintro v g20 m20 rfl
          refine ⟨_, rfl, fun g21 n21 => ?_⟩
          have m121 := (m19.trans m20).trans n21.ex
          obtain ⟨a', c', w', hr, g22, hw22, s22, hs22, _⟩ := SlE.clip E22 22 ((hb.mono le1).exm m121) (one_own n21 (Nat.zero_le _) (Ex.refl _)).sl (by omega) (by unfold maxLen; omega) (m := 1) rfl
          refine ⟨a', _, c', w', hr, g22, hw22, stp (le1.trans m121.le) s22, H2 a' _ c' g22 ((le1.trans m121.le).trans s22.le) ?_ ((ws1.ex m121).ex s22.ex)⟩
          have he : extra d = [hVal ++ d.s] := by unfold extra; rw [if_pos ⟨q', q1⟩]
          rw [he]
          exact hs22
        · have he : extra d = [] := by unfold extra; rw [if_neg (fun hh => hh.2 q1), if_neg (by omega), if_neg (by omega)]
          rw [he, List.append_nil]
          exact hb.mono le1
      refine ifEq (fun q => ?_) (fun q42 => ?_)
      · -- a named function
        have q' : d.op = 42 := q
        obtain ⟨hn9, hnlow⟩ := names42 (d := d) hw2 q'
        have hown := hw2.2
        unfold ownB at hown
        simp [q', Tr.dat] at hown
        unfold shapeP at hsh
        simp [q', partsP] at hsh
        obtain ⟨x, rfl⟩ : ∃ x, l = [x] := by
          match l, hsh.1 with
          | [x], _ => exact ⟨x, rfl⟩
        simp only [List.length_cons, List.length_nil] at hl
        have hsx : sizeL [x] = size x := by simp [sizeL]
        have efr : freeT (.mk d [x]) B = ownRef d B ++ freeT x (B ++ extra d) := by
          rw [efree]
          simp [freeL]
        have he : extra d = (hVal ++ d.s) :: d.names.map (hVal ++ ·) := by unfold extra; rw [if_neg (by omega), if_pos q']
        have hbc := hb.le
        refine fun g23 m23 => ⟨⟨by omega, by omega⟩, ⟨by omega, by omega⟩, (k88 1 d.s (by omega) (low 1 _ (.inl rfl) hown.1) g23 ((ht.mono le1).exm m23)).mono ?_⟩
        rintro v g24 m24 rfl
        refine ⟨_, rfl, fun g25 n25 => ?_⟩
        have m125 := (m23.trans m24).trans n25.ex
        obtain ⟨a', c', w', hr, g26, hw26, s26, _, hs26⟩ := SlE.clip E22 22 ((hb.mono le1).exm m125) (one_own n25 (Nat.zero_le _) (Ex.refl _)).sl (by omega) (by unfold maxLen; omega) (m := 1) rfl
        refine ⟨a', _, c', w', hr, g26, hw26, stp (le1.trans m125.le) s26, ?_⟩
        have le26 := (le1.trans m125.le).trans s26.le
        refine ⟨fun m ia im ic i g' => ∃ j : Nat, i = ((j : Nat) : Int) ∧ j + m = nn ∧ OwnE strE g' g.w.heap.size 9 ia im ic (B ++ (hVal ++ d.s) :: (d.names.take j).map (hVal ++ ·)) ∧ WS g' wb mb (k + 1) (S ++ ownRef d B),
          ⟨nn, 0, rfl, by omega, by simpa using (show OwnE strE g26 g.w.heap.size 9 a' (bn + 1) c' (B ++ [hVal ++ d.s]) from (hs26 (by omega)).base (le1.trans m125.le).size), (ws1.ex m125).ex s26.ex⟩, ?_⟩
        rintro m ia im ic i g27 le ⟨j, rfl, hj, ho, ws27⟩
        have le27 := le26.trans le
        have hol := ho.len
        simp only [List.length_append, List.length_cons, List.length_map, List.length_take] at hol
        refine ifLt (fun hlt => ⟨⟨by omega, by omega⟩, ?_⟩) (fun hge => ⟨⟨by omega, by omega⟩, ?_⟩)
        · have gj := List.getElem?_eq_getElem (show j < d.names.length by omega)
          generalize d.names[j] = y at gj
          refine rdS (hN.mono le27) j rfl gj ((k88 1 y (by omega) (low 1 _ (.inl rfl) (hnlow y (List.mem_of_getElem? gj))) g27 (ht.mono le27)).mono ?_)
          rintro v g28 m28 rfl
          refine ⟨_, rfl, fun g29 n29 => ?_⟩
          obtain ⟨a2, c2, w2, hr2, g30, hw30, s30, ho30, t30, _⟩ := (ho.exm m28).app1 E22 22 (Nat.le_trans le27.size m28.size) n29 (x := hVal ++ y) rfl (by omega) (by unfold maxLen; omega)
          have s30' : Stp g.w.heap.size (fun b => b = mb) g29 g30 := s30.mono (Nat.le_refl _) (fun _ _ hh => hh.elim)
          have ws30 : WS g30 wb mb (k + 1) (S ++ ownRef d B) := by
            have w29 := (ws27.ex m28).ex n29.ex
            have b29 := t30.but (Nat.le_refl _)
            exact ⟨w29.pm.but b29 (ho.ne ws.pm.lt), w29.mg.but b29 (ho.ne ws.mg.lt), w29.ne⟩
          refine ⟨a2, _, c2, w2, hr2, g30, hw30, s30', i64 (by omega) (by omega), m - 1, by omega, j + 1, by omega, by omega, ?_, ws30⟩
          rw [List.take_add_one, gj]
          simpa [List.append_assoc] using ho30
        · rw [take_all (by omega), ← he] at ho
          refine rdT (hK.mono le27) 0 rfl rfl (fun na' nn' nc' ka kn kc hx => ⟨_, fun _ _ hh => hh, CallsG.mono (call x (by simp) _ _ _ g27 le27 hx ho.sl (by simp only [List.length_append]; omega) (by omega) ws27) ?_⟩)
          rintro v g31 s31 ⟨rfl, ws31⟩
          exact ⟨rfl, fun g32 m32 => fin g32 _ _ (ws31.ex m32) (by omega) (fun s => by rw [efr]; simp only [List.append_assoc])⟩
      refine ifEq (fun q => ?_) (fun q44 => ?_)
      · -- a datatype
        have q' : d.op = 44 := q
        have hown := hw2.2
        unfold ownB at hown
        simp [q', Tr.dat] at hown
        have he : extra d = [hType ++ d.s] := by unfold extra; rw [if_neg (by omega), if_neg (by omega), if_pos q']
        have hadd : ∀ x, addOf d x = [] := fun x => by unfold addOf; rw [if_neg (by simp only [List.mem_cons, List.not_mem_nil, or_false]; omega), if_neg (by simp only [List.mem_cons, List.not_mem_nil, or_false]; omega)]
        have hadds : ∀ j, (l.take j).flatMap (addOf d) = [] := fun j => by simp [hadd]
        have hbc := hb.le
        refine fun g33 m33 => ⟨⟨by omega, by omega⟩, ⟨by omega, by omega⟩, (k88 2 d.s (by omega) (low 2 _ (.inr rfl) hown.1) g33 ((ht.mono le1).exm m33)).mono ?_⟩
        rintro v g34 m34 rfl
        refine ⟨_, rfl, fun g35 n35 => ?_⟩
        have m135 := (m33.trans m34).trans n35.ex
        obtain ⟨a', c', w', hr, g36, hw36, s36, hs36, _⟩ := SlE.clip E22 22 ((hb.mono le1).exm m135) (one_own n35 (Nat.zero_le _) (Ex.refl _)).sl (by omega) (by unfold maxLen; omega) (m := 1) rfl
        refine ⟨a', _, c', w', hr, g36, hw36, stp (le1.trans m135.le) s36, ?_⟩
        have le36 := (le1.trans m135.le).trans s36.le
        have hs36' : SlE strE g36 a' (bn + 1) c' (B ++ extra d) := by rw [he]; exact hs36
        refine ⟨fun m i g' => ∃ j : Nat, i = ((j : Nat) : Int) ∧ j + m = n ∧ WS g' wb mb (k + 1 + sizeL (l.take j)) (S ++ ownRef d B ++ freeL (l.take j) d (B ++ extra d)),
          ⟨n, 0, rfl, by omega, by simpa [sizeL, freeL] using (ws1.ex m135).ex s36.ex⟩, ?_⟩
        rintro m i g37 le ⟨j, rfl, hj, ws37⟩
        have le37 := le36.trans le
        refine ifLt (fun hlt => ⟨⟨by omega, by omega⟩, ?_⟩) (fun hge g40 m40 => fin g40 _ _ (ws37.ex m40) (by have := sizeL_le l j; omega) (fun s => by rw [take_all (by omega), efree, List.append_assoc]))
        have gj := List.getElem?_eq_getElem (show j < l.length by omega)
        generalize l[j] = x at gj
        have hin := List.mem_of_getElem? gj
        have hsx := size_mem hin
        have hst : sizeL (l.take j) + size x ≤ sizeL l := by rw [← sizeL_take gj]; exact sizeL_le l (j + 1)
        refine rdT (hK.mono le37) j rfl gj (fun na' nn' nc' ka kn kc hx g38 m38 => ⟨_, fun _ _ hh => hh, CallsG.mono (call x hin _ _ _ g38 (le37.trans m38.le) (hx.exm m38) ((hs36'.mono le).exm m38) (by simp only [List.length_append]; omega) (by omega) (ws37.ex m38)) ?_⟩)
        rintro v g39 s39 ⟨rfl, ws39⟩
        refine ⟨rfl, i64 (by omega) (by omega), m - 1, by omega, j + 1, by omega, by omega, ws39.grow ?_ ?_⟩
        · rw [sizeL_take gj]; omega
        · intro s
          rw [freeL_take gj, hadds, List.append_nil, List.append_assoc, List.append_assoc]
      intro J3 hJ3
      refine oneOf [83, 73] (hJ3 _ g1 ?_)
      refine ifP (fun q => ?_) (fun q => ?_)
      · -- a functor
        have q2 : d.op ∈ [83, 73] := q
        have q3 : d.op = 83 ∨ d.op = 73 := by simpa using q2
        have hup : upperP d.s := by
          have hown := hw2.2
          unfold ownB at hown
          rcases q3 with q' | q' <;> simp [q', Tr.dat] at hown <;> exact hown.1
        have hl2 : l.length = 2 := by
          unfold shapeP at hsh
          rcases q3 with q' | q' <;> simp [q', partsP] at hsh <;> exact hsh.1
        obtain ⟨x, y, rfl⟩ : ∃ x y, l = [x, y] := by
          match l, hl2 with
          | [x, y], _ => exact ⟨x, y, rfl⟩
        simp only [List.length_cons, List.length_nil] at hl
        have hsxy : sizeL [x, y] = size x + size y := by simp [sizeL]
        have hex0 : extra d = [] := by unfold extra; rw [if_neg (by omega), if_neg (by omega), if_neg (by omega)]
        have hadd : addOf d x = [hMod ++ d.s] := by unfold addOf; rw [if_neg (by simp only [List.mem_cons, List.not_mem_nil, or_false]; omega), if_pos (by simp only [List.mem_cons, List.not_mem_nil, or_false]; omega)]
        have efr : freeT (.mk d [x, y]) B = ownRef d B ++ (freeT x B ++ freeT y (B ++ [hMod ++ d.s])) := by
          rw [efree, hex0, List.append_nil, ← hadd]
          simp [freeL]
        have hsy1 := size_pos y
        have hsx1 := size_pos x
        refine ⟨⟨by omega, by omega⟩, rdT (hK.mono le1) 0 rfl rfl (fun na' nn' nc' ka kn kc hx => ⟨_, fun _ _ hh => hh, CallsG.mono (call x (by simp) _ _ _ g1 le1 hx (hb.mono le1) (by omega) (by omega) ws1) ?_⟩)⟩
        rintro v g42 s42 ⟨rfl, ws42⟩
        refine ⟨rfl, fun g43 m43 => ⟨⟨by omega, by omega⟩, ?_⟩⟩
        have le43 := (le1.trans s42.le).trans m43.le
        have hbc := hb.le
        refine rdT (hK.mono le43) 1 rfl rfl (fun na2 nn2 nc2 ka2 kn2 kc2 hy => ⟨⟨by omega, by omega⟩, ⟨by omega, by omega⟩, (k88 4 d.s (by omega) (upp 4 _ (by omega) hup) g43 (ht.mono le43)).mono ?_⟩)
        rintro v g44 m44 rfl
        refine ⟨_, rfl, fun g45 n45 => ?_⟩
        have m4345 := m44.trans n45.ex
        have le45 := le43.trans m4345.le
        obtain ⟨a', c', w', hr, g46, hw46, s46, hs46, _⟩ := SlE.clip E22 22 (hb.mono le45) (one_own n45 (Nat.zero_le _) (Ex.refl _)).sl (by omega) (by unfold maxLen; omega) (m := 1) rfl
        refine ⟨a', _, c', w', hr, g46, hw46, stp le45 s46, (m4345.trans s46.ex).same, _, fun _ _ hh => hh, CallsG.mono (call y (by simp) _ _ _ g46 (le45.trans s46.le) (hy.exm (m4345.trans s46.ex)) hs46 (by simp only [List.length_append, List.length_singleton]; omega) (by omega) (((ws42.ex m43).ex m4345).ex s46.ex)) ?_⟩
        rintro v g47 s47 ⟨rfl, ws47⟩
        refine ⟨rfl, fun g48 m48 => fin g48 _ _ (ws47.ex m48) (by omega) (fun s => by rw [efr, show headK 4 = hMod from rfl]; simp only [List.append_assoc])⟩
      · -- all others
        have qq : ¬ d.op ∈ [31, 81, 87, 71] := by assumption
        have q2 : ¬ d.op ∈ [83, 73] := q
        simp only [List.mem_cons, List.not_mem_nil, or_false] at qq q2
        have q30' : d.op ≠ 30 := q30
        have q25' : d.op ≠ 25 := q25
        have q42' : d.op ≠ 42 := q42
        have q44' : d.op ≠ 44 := q44
        have hex0 : extra d = [] := by unfold extra; rw [if_neg (by omega), if_neg (by omega), if_neg (by omega)]
        have hadd : ∀ x, addOf d x = [] := fun x => by unfold addOf; rw [if_neg (by simp only [List.mem_cons, List.not_mem_nil, or_false]; omega), if_neg (by simp only [List.mem_cons, List.not_mem_nil, or_false]; omega)]
        have hadds : ∀ j, (l.take j).flatMap (addOf d) = [] := fun j => by simp [hadd]
        rw [hex0, List.append_nil] at efree
        refine ⟨fun m i g' => ∃ j : Nat, i = ((j : Nat) : Int) ∧ j + m = n ∧ WS g' wb mb (k + 1 + sizeL (l.take j)) (S ++ ownRef d B ++ freeL (l.take j) d B),
          ⟨n, 0, rfl, by omega, by simpa [sizeL, freeL] using ws1⟩, ?_⟩
        rintro m i g49 le ⟨j, rfl, hj, ws49⟩
        have le49 := le1.trans le
        refine ifLt (fun hlt => ⟨⟨by omega, by omega⟩, ?_⟩) (fun hge g52 m52 => fin g52 _ _ (ws49.ex m52) (by have := sizeL_le l j; omega) (fun s => by rw [take_all (by omega), efree, List.append_assoc]))
        have gj := List.getElem?_eq_getElem (show j < l.length by omega)
        generalize l[j] = x at gj
        have hin := List.mem_of_getElem? gj
        have hsx := size_mem hin
        have hst : sizeL (l.take j) + size x ≤ sizeL l := by rw [← sizeL_take gj]; exact sizeL_le l (j + 1)
        refine rdT (hK.mono le49) j rfl gj (fun na' nn' nc' ka kn kc hx g50 m50 => ⟨_, fun _ _ hh => hh, CallsG.mono (call x hin _ _ _ g50 (le49.trans m50.le) (hx.exm m50) ((hb.mono le49).exm m50) (by omega) (by omega) (ws49.ex m50)) ?_⟩)
        rintro v g51 s51 ⟨rfl, ws51⟩
        refine ⟨rfl, i64 (by omega) (by omega), m - 1, by omega, j + 1, by omega, by omega, ws51.grow ?_ ?_⟩
        · rw [sizeL_take gj]; omega
        · intro s
          rw [freeL_take gj, hadds, List.append_nil, List.append_assoc, List.append_assoc]
    refine (k128 (.mk d l) hop hpt (ht.exm m53) (h.exm m53)).mono ?_
    rintro v g54 m54 rfl
    have m054 := m53.trans m54
    refine ⟨_, _, rfl, ?_⟩
    cases hr : refersO d with
    | none =>
      rw [show refersO (Tr.mk d l).dat = refersO d from rfl, hr]
      refine ifP (fun q => absurd rfl q) (fun _ => HJ g54 m054.le ((ws.ex m054).grow (by omega) (fun s => ?_)))
      have : ownRef d B = [] := by unfold ownRef; rw [hr]
      rw [this, List.append_nil]
    | some s =>
      rw [show refersO (Tr.mk d l).dat = refersO d from rfl, hr]
      have hsl := label_len hpt hr
      refine ifP (fun _ => (kk19 B s (hb.exm m054) (by omega)).mono ?_) (fun q => absurd (fun hh => by cases hh) q)
      rintro v g55 m55 rfl
      have ws55 := (ws.ex m054).ex m55
      refine ⟨_, rfl, ifPn (fun q1 => ?_) (fun q1 => HJ g55 (m054.trans m55).le (ws55.grow (by omega) (fun s => ?_)))⟩
      · obtain ⟨w', hrun, g56, hw56, s56, mg56⟩ := ws55.mg.putM Tryz.underlying9 Tryz.underlying98 (by unfold maxLen; omega) s (by unfold maxLen; omega) (.bool true)
        refine ⟨some mb, ws55.pm.rd0 rfl, w', hrun, g56, hw56, s56 _, HJ g56 ((m054.trans m55).le.trans (s56 0).le) ⟨ws55.pm.but ((s56 _).but (Nat.le_refl _)) ws55.ne, ?_, ws55.ne⟩⟩
        have : ownRef d B = [s] := by unfold ownRef; rw [hr]; exact if_neg q1
        rw [this, ← setF_put]
        exact mg56
      · have : ownRef d B = [] := by unfold ownRef; rw [hr]; exact if_pos q1
        rw [this, List.append_nil]
end Go.Proofs.YtkocjbgdmocmlaaGreatDoor
/- Scope: the keys of a set, sorted; free, Free. -/
set_option linter.unusedVariables false
namespace Go.Proofs.YtkocjbgdmocmlaaGreatDoor
open Go Go.Vc Go.RowKit Go.Syn Go.Maps Go.Sort Go.Shelf

theorem sortsA (m : Nat) : AnyZ.SortsIn Tryz.prog Tryz.sortedA_ren Fence.wide m :=
  ⟨fun blk off cap ss W hH hblk hsz => callsIn_wide.2 (AnyM.slices_Sort_string Tryz.sortA blk off cap ss W hH hblk hsz),
   fun p cap W => callsIn_wide.2 (AnyM.slices_Sort_string_none Tryz.sortA p cap W)⟩
theorem srt_merge {l : List Lab} (h : Srt l) : l.mergeSort leB = l := by
  refine List.mergeSort_of_pairwise ?_
  refine h.imp ?_
  intro x y hxy
  simp only [leB, decide_eq_true_eq]
  exact List.le_of_lt ((klt_iff x y).1 hxy)
theorem srt_nodup {l : List Lab} (h : Srt l) : l.Nodup := h.imp fun h => klt_ne h

theorem k98 (mb : Nat) (g : G) : CallsP Tryz.prog 98 #[.map (some mb)] g fun v g' => ∃ blk, v = .func (.func 129) #[] #[.pointer (some ⟨blk, 0, none⟩)] ∧ Live g' ⟨blk, 0, none⟩ (.map (some mb)) := by
  refine P98.call98 _ g _ ?_
  unfold P98.F98
  exact fun g1 n1 g2 m2 => ⟨_, rfl, (n1.at0 rfl).ex m2⟩
theorem k75 (mb : Nat) (g : G) : CallsP Tryz.prog 75 #[.map (some mb)] g fun v g' => ∃ blk, v = .func (.func 113) #[] #[.pointer (some ⟨blk, 0, none⟩)] ∧ Live g' ⟨blk, 0, none⟩ (.map (some mb)) := by
  refine P98.call75 _ g _ ?_
  unfold P98.F75
  exact fun g1 n1 g2 m2 => ⟨_, rfl, (n1.at0 rfl).ex m2⟩
/-- slices.Sorted, of the keys of a map. -/
theorem sorted_of {g : G} {D : DataW Value} {K : List Lab} {f : FuncId} {cp : Array Value} (hen : Go.Proofs.Enters Tryz.prog f)
    (hperm : K.Perm (strKeys D)) (hK : Srt K) (hlen : K.length ≤ 1048576) (hsz : Maps.size D = K.length)
    (hseq : SeqGives Fence.wide 2 Tryz.prog f cp encStr (fun ss => ss.Perm (strKeys D)) (Maps.size D) g.w) :
    CallsP Tryz.prog 74 #[.func (.func f) #[] cp] g fun v g' => ∃ a n c, v = .slice a n c ∧ SlE strE g' a n c K := by
  have cS := AnyZ.sorted_in Tryz.sortedA Fence.wide 5 trivial trivial trivial trivial rfl (by omega) (sortsA _) (enters_of Tryz.func20 (by kernel_rfl) rfl) f cp trivial hen _ _ (by unfold maxLen; omega) (by omega) _ hseq
  change CallsIn _ _ Tryz.prog 74 _ _ _ at cS
  have hC := callsIn_wide.1 cS
  refine (calls_below (Q := fun v w' => w'.ownsRow g.w.heap.size 9 1 v K.length (K.map encStr)) (hC.mono ?_)).mono ?_
  · rintro e w' ⟨v, ss, rfl, hS, hrow, _, hb⟩
    refine ⟨v, rfl, hb, ?_⟩
    have hp : ss.Perm K := hS.trans hperm.symm
    have e1 : ss.mergeSort leB = K := by rw [mergeSort_of_perm hp]; exact srt_merge hK
    have e2 : ss.length = K.length := hp.length_eq
    have hrow' := hrow
    rw [e2] at hrow'
    change w'.ownsRow g.w.heap.size 9 1 v K.length ((ss.mergeSort leB).map encStr) at hrow'
    rwa [e1] at hrow'
  · rintro v g' m ⟨h, hq, e⟩
    rw [e] at hq ⊢
    obtain ⟨a, c, rfl, hs⟩ := own_sl (h := h) hq
    exact ⟨a, _, c, rfl, strs_sle hs rfl⟩
theorem map_perm {g : G} {b nn : Nat} {fv : List UInt8 → Option Value} {D : DataW Value} {K : List Lab} (hown : g.w.ownsMap Tryz.prog 9 heldV b nn D) (hsay : Says D fv) (hK : Srt K) (hk : ∀ s, fv s ≠ none ↔ s ∈ K) : K.Perm (strKeys D) ∧ Maps.size D = K.length := by
  have hperm : K.Perm (strKeys D) := by
    refine Collected.perm (left := fun _ => false) ⟨srt_nodup hK, fun x => ?_⟩ hown (string_keyed Tryz.underlying9) Tryz.underlying9 (fun _ => rfl)
    rw [← hk x]
    cases hf : fv x with
    | none => simp [(hsay x).2 hf]
    | some u => simp [((hsay x).1 u hf).1]
  refine ⟨hperm, ?_⟩
  obtain ⟨l, rfl⟩ := hown.isMap
  have := hperm.length_eq
  have h2 : (strKeys (DataW.map l)).length = l.length := by simp [strKeys]
  rw [h2] at this
  exact this.symm
/-- .. of a map to truth. -/
theorem k74A {g : G} {blk b nn : Nat} {fv : List UInt8 → Option Value} {K : List Lab} (hl : Live g ⟨blk, 0, none⟩ (.map (some b))) (hm : MapG Tryz.prog g 9 b nn fv) (hK : Srt K) (hk : ∀ s, fv s ≠ none ↔ s ∈ K) (hlen : K.length ≤ 1048576) :
    CallsP Tryz.prog 74 #[.func (.func 129) #[] #[.pointer (some ⟨blk, 0, none⟩)]] g fun v g' => ∃ a n c, v = .slice a n c ∧ SlE strE g' a n c K := by
  obtain ⟨D, hown, hsay⟩ := hm.own
  obtain ⟨hperm, hsz⟩ := map_perm hown hsay hK hk
  exact sorted_of (enters_of Tryz.func129 (by kernel_rfl) rfl) hperm hK hlen hsz
    (AnyZ.keys_gives (ρ := Tryz.keysA_ren) { Tryz.keysA with } Fence.wide _ trivial rfl (by omega) blk b nn D _ (cell_lt hl.1) hl.1 hown)
/-- .. of a map to lists. -/
theorem k74B {g : G} {blk b nn : Nat} {fv : List UInt8 → Option Value} {K : List Lab} (hl : Live g ⟨blk, 0, none⟩ (.map (some b))) (hm : MapG Tryz.prog g 9 b nn fv) (hK : Srt K) (hk : ∀ s, fv s ≠ none ↔ s ∈ K) (hlen : K.length ≤ 1048576) :
    CallsP Tryz.prog 74 #[.func (.func 113) #[] #[.pointer (some ⟨blk, 0, none⟩)]] g fun v g' => ∃ a n c, v = .slice a n c ∧ SlE strE g' a n c K := by
  obtain ⟨D, hown, hsay⟩ := hm.own
  obtain ⟨hperm, hsz⟩ := map_perm hown hsay hK hk
  exact sorted_of (enters_of Tryz.func113 (by kernel_rfl) rfl) hperm hK hlen hsz
    (AnyZ.keys_gives (ρ := Tryz.keysB_ren) { Tryz.keysB with } Fence.wide _ trivial rfl (by omega) blk b nn D _ (cell_lt hl.1) hl.1 hown)
/-- free. -/
theorem k59 (t : Sy) (w : Bool) (dep : Nat) (hw : walkP t w dep) (hsz : size t ≤ 80000) {na : Option Addr} {nn nc : Nat} {a : Option Addr} {n c : Nat} {g : G} (ht : TabG g) (h : SynI g t na nn nc a n c) :
    CallsP Tryz.prog 59 #[synV t na nn nc a n c] g fun v g' => ∃ oa on oc, v = .slice oa on oc ∧ SlE strE g' oa on oc (sortS (freeT t [])) := by
  refine call59 _ _ _ _ _ _ _ _ _ g _ ?_
  unfold F59
  intro g1 m1 g2 n2 g3 n3
  have ws : WS g3 g2.w.heap.size g1.w.heap.size 0 [] := ⟨n3.mut, by rw [← setF_nil]; exact (MapG.new n2 Tryz.prog 9).ex n3.ex, by have := n2.blk; have := heap_lt this; omega⟩
  have le3 : Le g g3 := (m1.trans n2.ex).le.trans n3.ex.le
  have hz1 := m1.size
  have hz2 := n2.ex.size
  refine ⟨fun b => b = g1.w.heap.size, fun b hb e => by omega, CallsG.mono (k97 t w dep hw [] [] 0 (by simp; omega) (by omega) (ht.mono le3) (h.mono le3) (SlE.zero _) ws) ?_⟩
  rintro v g4 s4 ⟨rfl, ws4⟩
  refine ⟨rfl, _, ws4.pm.rd0 rfl, (k98 _ g4).mono ?_⟩
  rintro v g5 m5 ⟨blk, rfl, hl⟩
  have hfl := free_len t []
  have hsl := sortS_len (freeT t [])
  refine ⟨129, _, rfl, (k74A hl (ws4.mg.ex m5) (srt_sortS (freeT t [])) (fun s => ?_) (by omega)).mono ?_⟩
  · rw [mem_sortS]
    unfold setF
    by_cases e : s ∈ [] ++ freeT t []
    · rw [if_pos e]; simpa using e
    · rw [if_neg e]; simpa using e
  · rintro v g6 m6 ⟨oa, on, oc, rfl, ho⟩
    exact ⟨oa, on, oc, rfl, fun g7 m7 => ⟨_, _, _, rfl, ho.exm m7⟩⟩
/-- Free. -/
theorem k13 (cat : Int) (t : Sy) (hok : okT t) (hsz : size t ≤ 20000) {na : Option Addr} {nn nc : Nat} {a : Option Addr} {n c : Nat} {g : G} (ht : TabG g) (h : SynI g t na nn nc a n c) :
    CallsP Tryz.prog 13 #[.int .i64 cat, synV t na nn nc a n c] g fun v g' => (¬ validP cat t ∧ v = .tuple ⟨[.slice none 0 0, .int .i64 1]⟩) ∨ (validP cat t ∧ ∃ oa on oc, v = .tuple ⟨[.slice oa on oc, .int .i64 0]⟩ ∧ SlE strE g' oa on oc (sortS (freeT t []))) := by
  refine call13 _ _ _ _ _ _ _ _ _ _ g _ ?_
  unfold F13
  refine fun g1 m1 => (kk58 cat t hok hsz (ht.exm m1) (h.exm m1)).mono ?_
  rintro v g2 m2 rfl
  refine ⟨_, rfl, ifPn (fun q g3 m3 => .inl ⟨q, rfl⟩) (fun q => (k59 t false 1 q.2 (by omega) ((ht.exm m1).exm m2) ((h.exm m1).exm m2)).mono ?_)⟩
  rintro v g4 m4 ⟨oa, on, oc, rfl, ho⟩
  exact ⟨oa, on, oc, rfl, fun g5 m5 => .inr ⟨q, _, _, _, rfl, ho.exm m5⟩⟩
end Go.Proofs.YtkocjbgdmocmlaaGreatDoor
/- Scope: the values of a list, appended one by one. -/
set_option linter.unusedVariables false
namespace Go.Proofs.YtkocjbgdmocmlaaGreatDoor
open Go Go.Vc Go.RowKit Go.Syn Go.Maps Go.Sort Go.Shelf
attribute [local go_sem] Oper.semAt_some

set_option maxRecDepth 100000 in
set_option maxHeartbeats 1000000 in
/-- The iterator over a list. -/
theorem in154 (l Bn : Nat) {a : Option Addr} {ll c : Nat} (L : List Lab) {g : G} (h : SlE strE g a ll c L) (hll : ll ≤ 1048576) (J : List Lab → World → Prop)
    (hY : ∀ pre x W, J pre W → pre.length < ll → YieldAt Fence.wide 4 Tryz.prog l #[encStr x] W fun e W' => e = .returned (.bool true) ∧ J (pre ++ [x]) W' ∧ KeepsWalks W W')
    (hJ : ∀ pre W, J pre W → Below g.w.heap.size g.w W) (W : World) (hB : W.cell? ⟨Bn, 0, none⟩ = some (.slice a ll c)) (h0 : J [] W) :
    CallsIn Fence.wide 5 Tryz.prog 154 #[.func (.yield l) #[] #[], .pointer (some ⟨Bn, 0, none⟩)] W fun e W' => (∃ v, e = .returned v) ∧ J L W' := by
  have hlen := h.len
  have hle := h.le
  have hcap := h.cap
  unfold maxLen at hcap
  refine callsIn_of_wp Tryz.func154 rfl trivial ?_ rfl
  simp only [Tryz.ntmps154, List.size_toArray, List.length_cons, List.length_nil, Nat.reduceAdd, Nat.reduceSub, Array.replicate_succ, Array.replicate_zero, List.push_toArray, List.append_toArray, List.nil_append, List.cons_append]
  gi_wp2
  gi_loopw [7] (fun p wr => ∃ (q : Nat), p = .int .i64 q ∧ q ≤ ll ∧ J (L.take q) wr) (fun p wr => ll - (intOf p).toNat)
  case atStart =>
    exact ⟨0, rfl, by omega, by simpa using h0⟩
  case round =>
    obtain ⟨q, rfl, hq, hJs⟩ := hrel
    rcases Nat.lt_or_ge q ll with hql | hql
    rotate_left
    · gi_wp2
      go_end0
      rw [take_all (by omega)] at hJs
      exact ⟨⟨_, rfl⟩, hJs⟩
    have gq := List.getElem?_eq_getElem (show q < L.length by omega)
    generalize L[q] = x at gq
    obtain ⟨R, hR, hrw⟩ := h.ex
    obtain ⟨ad, rfl, hcl⟩ := hR.addr (by omega)
    obtain ⟨r, rfl, hrj⟩ := hrw.get gq
    have hcell := (hcl q _ (by have := hrj 0 (by decide); simpa [strE] using this)).1
    have hb := hJ _ _ hJs
    have hcell' : wr.cell? (ad.add q) = some (.string (bstr x)) := (hb.cell (p := ad.add q) (cell_lt hcell)).trans hcell
    clear hcell
    obtain ⟨fn, tmps, assign, body, hy, hR2⟩ := hY (L.take q) x wr hJs (by rw [List.length_take]; omega)
    change (Instr.yield l #[Value.string (bstr x)]).run Tryz.prog wr = _ at hy
    gi_wp2
    refine hR2.mono ?_
    rintro e W2 ⟨rfl, hJ2, _⟩
    gi_wp2
    go_roundw
    case rel => exact ⟨q + 1, by simp, by omega, by rw [List.take_add_one, gq]; exact hJ2⟩
    case measure => show ll - ((q : Int) + 1).toNat < ll - ((q : Int)).toNat; omega

theorem apArr : Go.Proofs.SlLaysZ.n11 Tryz.prog Tryz.sortedA_ren := { Tryz.sortedA with }
set_option maxRecDepth 100000 in
set_option maxHeartbeats 1000000 in
/-- AppendSeq(nil, Values(l)). -/
theorem in137 (Bn : Nat) {a : Option Addr} {ll c : Nat} (L : List Lab) {g : G} (h : SlE strE g a ll c L) (hll : ll ≤ 1048576) (hbn : g.w.cell? ⟨Bn, 0, none⟩ = some (.slice a ll c)) :
    CallsIn Fence.wide 6 Tryz.prog 137 #[.slice none 0 0, .func (.func 154) #[] #[.pointer (some ⟨Bn, 0, none⟩)]] g.w fun e w' => ∃ v, e = .returned v ∧ w'.ownsRow g.w.heap.size 9 1 v L.length (L.map encStr) ∧ Below g.w.heap.size g.w w' := by
  have hlen := h.len
  have hBn := cell_lt hbn
  refine callsIn_of_wp_marks Tryz.func137 rfl trivial ?_ rfl
  simp only [Tryz.ntmps137, List.size_toArray, List.length_cons, List.length_nil, Nat.reduceAdd, Nat.reduceSub, Array.replicate_succ, Array.replicate_zero, List.push_toArray, List.append_toArray, List.nil_append, List.cons_append]
  gi_wp2
  refine wpIn_rangeFunc ?_
  intro fn hfn
  obtain ⟨w, hw⟩ : ∃ w, g.w = w := ⟨_, rfl⟩
  rw [hw]
  obtain ⟨W0, hW0⟩ : ∃ W0, w.alloc (.cells #[.slice none 0 0] 22) = W0 := ⟨_, rfl⟩
  have hs0 : W0.heap.size = w.heap.size + 1 := by rw [← hW0]; simp
  have hb0 : Below w.heap.size w W0 := by rw [← hW0]; exact (Below.refl _ w).alloc (Nat.le_refl _) _
  have hv0 : W0.heap[w.heap.size]? = some (.cells #[.slice none 0 0] 22 (0, 0)) := by rw [← hW0]; exact World.alloc_heap_new w _
  rw [hW0]
  obtain ⟨sv, hsv⟩ : ∃ sv, Value.func (.func 154) #[] #[.pointer (some ⟨Bn, 0, none⟩)] = sv := ⟨_, rfl⟩
  obtain ⟨rc, hrc⟩ : ∃ rc, AnyZ.apRec Tryz.sortedA_ren fn sv w.heap.size W0.heap.size .ready none = rc := ⟨_, rfl⟩
  obtain ⟨W1, hW1⟩ : ∃ W1, (W0.alloc (.deferred (some []))).alloc (.loop rc) = W1 := ⟨_, rfl⟩
  have hold : ∀ k, k < W0.heap.size → W1.heap[k]? = W0.heap[k]? := fun k hk => by
    rw [← hW1]; exact (Below.heap_alloc _ _ k (by simp; omega)).trans (Below.heap_alloc _ _ k hk)
  have hb1 : Below w.heap.size w W1 := by rw [← hW1]; exact (hb0.alloc hb0.size _).alloc (by have := hb0.size; simp; omega) _
  have hM : AnyZ.ApAt Tryz.sortedA_ren w fn sv w.heap.size (W0.heap.size + 1) W0.heap.size [] W1 := by
    refine ⟨⟨_, (hold w.heap.size (by omega)).trans hv0, ⟨rfl, .inl ⟨rfl, rfl⟩⟩, by simp⟩, ?_, ?_, hb1⟩
    · rw [hrc, ← hW1]
      have := World.alloc_heap_new (W0.alloc (.deferred (some []))) (.loop rc)
      rwa [World.size_alloc] at this
    · rw [← hW1]
      exact (Below.heap_alloc _ _ _ (by simp)).trans (World.alloc_heap_new W0 _)
  refine ⟨W0.heap.size + 1, [{ target := .collected W0.heap.size, args := #[] }], W1, { target := .fn (.func 154) #[.pointer (some ⟨Bn, 0, none⟩)], args := #[.func (.yield (W0.heap.size + 1)) #[] #[]] }, W1, 154,
    #[.func (.yield (W0.heap.size + 1)) #[] #[]] ++ #[.pointer (some ⟨Bn, 0, none⟩)], W1, ?_, ?_, ?_, ?_, fun _ => by omega, ?_⟩
  · rw [← hW1, ← hrc, ← hsv]; exact run_enterLoop_outer _ _ _ _ _
  · simp [resolve, go_sem]
  · intro f' hf'; trivial
  · simp [invoke, go_sem]
  · have hseq := in154 (W0.heap.size + 1) Bn L h hll (AnyZ.ApAt Tryz.sortedA_ren w fn sv w.heap.size (W0.heap.size + 1) W0.heap.size)
      (fun pre x W hJ hl => AnyZ.apYield apArr Fence.wide 4 w fn trivial _ w.heap.size (W0.heap.size + 1) W0.heap.size (by omega) (by omega) (by omega) (Nat.le_refl _) (by omega) 1048576 (by unfold maxLen; omega) (by omega) pre x W hJ (by omega))
      (fun pre W hJ => hw ▸ hJ.below) W1 (by rw [← hw] at hb1; exact (hb1.cell (p := ⟨Bn, 0, none⟩) hBn).trans hbn) hM
    refine hseq.mono ?_
    rintro e W2 ⟨⟨v0, rfl⟩, h2⟩
    obtain ⟨v, hv, hrow, _⟩ := h2.box
    have hend := run_endLoop (P := Tryz.prog) h2.L (by simp [AnyZ.apRec])
    obtain ⟨W3, hW3⟩ : ∃ W3, W2.putObj (W0.heap.size + 1) (.loop { AnyZ.apRec Tryz.sortedA_ren fn sv w.heap.size W0.heap.size .ready none with state := .exhausted }) = W3 := ⟨_, rfl⟩
    rw [hW3] at hend
    have hg3 : W2.grownBy W3 (some (W0.heap.size + 1)) := by rw [← hW3]; exact grownBy_putObj_a _ _ _
    have hv3 : W3.heap[w.heap.size]? = some (.cells #[v] 22 (0, 0)) := by rw [← hW3]; exact (World.putObj_heap_other (by omega)).trans hv
    have hK3 : W3.heap[W0.heap.size]? = some (.deferred (some [])) := by rw [← hW3]; exact (World.putObj_heap_other (by omega)).trans h2.K
    have hrow3 := hrow.kept hg3 (ownsRow_ne_a hrow h2.L (fun cur e => by cases e))
    have hb3 : Below w.heap.size w W3 := h2.below.grown hg3 h2.below.size (fun k e => by cases e; omega)
    obtain ⟨hc3, hf3⟩ := cell_of_box_a hv3
    clear hW3
    refine ⟨none, W3, hend, ?_⟩
    gi_wp2
    rw [← hs0]
    refine ⟨by simp, .inl ⟨_, _, rfl, run_takeDeferred hK3, ?_⟩⟩
    rw [hw]
    exact ⟨_, results_tmp rfl _ _ _, v, rfl, hrow3.kept (grownBy_putObj_a _ _ _) (ownsRow_ne_a hrow3 hK3 (fun cur e => by cases e)), hb3.grown (grownBy_putObj_a _ _ _) hb3.size (fun k e => by cases e; omega)⟩
end Go.Proofs.YtkocjbgdmocmlaaGreatDoor
/- Scope: lists of the library: sorted, compacted, copied; twice; Binds. -/
set_option linter.unusedVariables false
namespace Go.Proofs.YtkocjbgdmocmlaaGreatDoor
open Go Go.Vc Go.RowKit Go.Syn Go.Maps Go.Sort Go.Shelf

theorem rws_str {g : G} {L : List Value} {xs : List Lab} (h : Rws strE g L xs) : L = xs.map encStr := by
  obtain ⟨rs, rfl, hh⟩ := h.ex
  clear h
  induction hh with
  | nil => rfl
  | cons h1 _ ih =>
    cases h1
    rw [List.flatten_cons, ih]
    rfl
/-- An own row of strings, all of it mutable. -/
theorem own_mutR {g g1 : G} (hs : Stp g.size nobody g g1) {a : Option Addr} {n c : Nat} {xs : List Lab} (h : OwnE strE g1 g.w.heap.size 9 a n c xs) : ∃ g', g'.w = g1.w ∧ Stp g.size nobody g g' ∧ MutR g' g.w.heap.size 9 1 a n c (xs.map encStr) := by
  obtain ⟨L, ho, hr⟩ := h.ex
  have hL := rws_str hr
  subst hL
  have hl : (xs.map encStr).length = n * 1 := ho.len
  rcases ho.row with ⟨rfl, h0, h1⟩ | ⟨b, cur, rfl, hb, hheap, hlc, hcm, hcs, hcur, hx, _, _⟩
  · subst h0; subst h1
    have : xs = [] := List.eq_nil_of_length_eq_zero (by simpa using hl)
    subst this
    exact ⟨g1, rfl, hs, MutR.nil _ _ _ _⟩
  · have hbl := heap_lt hheap
    have hb' : g.w.heap.size ≤ b := hb
    refine ⟨⟨g1.w, g1.X, fun x i => g1.D x i ∨ x = b, g1.hX, fun x i hh => by
      rcases hh with hh | rfl
      · exact g1.hD x i hh
      · exact hbl⟩, rfl, ⟨⟨hs.le.size, ?_, ?_, ?_⟩, hs.x, hs.keepX, hs.os, hs.tape, hs.output, hs.same, ?_⟩, ⟨hl, .inr ⟨b, cur.toList, rfl, hb, ⟨hheap, hx, fun i => .inr rfl⟩, hlc, hcm, by rw [Array.length_toList]; exact hcs, hcur⟩⟩⟩
    · rintro a v hlv
      have hlt := cell_lt hlv.1
      obtain ⟨k1, k2, k3⟩ := hs.le.cell a v hlv
      exact ⟨k1, k2, fun k => k.elim k3 (fun e => by omega)⟩
    · rintro x mm n hlv
      have hlt := heap_lt hlv.1
      obtain ⟨k1, k2, k3⟩ := hs.le.obj x mm n hlv
      exact ⟨k1, k2, fun k => k.elim k3 (fun e => by omega)⟩
    · rintro x o hlv
      obtain ⟨ty2, fr2, k1, k2, k3⟩ := hs.le.blk x o hlv
      obtain ⟨_, _, hlv1, _⟩ := hlv
      have hlt := heap_lt hlv1
      exact ⟨ty2, fr2, k1, k2, fun i k => k.elim (k3 i) (fun e => by omega)⟩
    · intro x hx hn i
      have hlt : x < g.w.heap.size := hx
      rw [← hs.d x hx hn i]
      exact ⟨fun k => k.elim id (fun e => by omega), .inl⟩
theorem own_calls {k : FuncId} {args : Array Value} {g : G} {Q : Option Addr → Nat → Nat → List Lab → Prop} (h : CallsP Tryz.prog k args g fun v g' => ∃ a n c xs, v = .slice a n c ∧ Q a n c xs ∧ OwnE strE g' g.w.heap.size 9 a n c xs) :
    CallsP Tryz.prog k args g fun v g' => ∃ a n c xs, v = .slice a n c ∧ Q a n c xs ∧ MutR g' g.w.heap.size 9 1 a n c (xs.map encStr) := by
  refine CallsP.ghost h ?_
  rintro v g1 hs ⟨a, n, c, xs, rfl, hQ, ho⟩
  obtain ⟨g', hw, hs', hm⟩ := own_mutR hs ho
  exact ⟨g', hw, hs', a, n, c, xs, rfl, hQ, hm⟩
/-- slices.Sort. -/
theorem k20 {g : G} {B : Nat} {a : Option Addr} {n c : Nat} {zs : List Lab} (h : MutR g B 9 1 a n c (zs.map encStr)) (hn : n ≤ 1048576) :
    CallsG Tryz.prog 20 #[.slice a n c] g (blkOf a) fun v g' => v = .tuple #[] ∧ MutR g' B 9 1 a n c ((zs.mergeSort fun x y => decide (x ≤ y)).map encStr) :=
  sort_mut encStr Tryz.slices_Sort_string Tryz.slices_Sort_string_none h (by omega)
/-- slices.Compact. -/
theorem k22 {g : G} {B : Nat} {a : Option Addr} {n c : Nat} {zs : List Lab} (h : MutR g B 9 1 a n c (zs.map encStr)) (hn : n ≤ 1048576) :
    CallsG Tryz.prog 22 #[.slice a n c] g (blkOf a) fun v g' => v = .slice a (Lib.compact zs).length c ∧ MutR g' B 9 1 a (Lib.compact zs).length c ((Lib.compact zs).map encStr) :=
  compact_mut Tryz.slices_Compact_string Tryz.slices_Compact_string_empty h (by omega)
/-- slices.Clone: a row of its own. -/
theorem k17o {g : G} {a : Option Addr} {n c : Nat} {zs : List Lab} (h : SlE strE g a n c zs) (hn : n ≤ 1048576) : CallsP Tryz.prog 17 #[.slice a n c] g fun v g' => ∃ a' c', v = .slice a' n c' ∧ OwnE strE g' g.w.heap.size 9 a' n c' zs := by
  refine call17 a n c g _ ?_
  have hl := h.len
  unfold F17
  refine ifT (fun q g1 _ => ?_) (fun q g2 n2 => ?_)
  · have ha : a = none := by cases a with | none => rfl | some _ => cases q
    have hc := h.nil ha
    have hle := h.le
    have hz : zs = [] := List.eq_nil_of_length_eq_zero (by omega)
    subst hz
    have hn0 : n = 0 := by simpa using hl.symm
    subst hn0
    exact ⟨none, 0, rfl, OwnE.nil _ _ _⟩
  · obtain ⟨a', c', w', hr, g3, hw, hs, ho, _, _⟩ := OwnE.app E22 22 n2.ex.size (OwnE.lit (E := strE) (xs := []) n2 Rws.nil (Nat.le_refl g.w.heap.size) (by simp)) (h.exm n2.ex) (by simp; omega) (by simp [maxLen]; omega)
    have e0 : ([] : List Lab).length + n = n := by simp
    rw [e0] at hr ho
    rw [List.nil_append] at ho
    exact ⟨a', _, c', w', hr, g3, hw, hs, fun g4 m4 => ⟨_, _, rfl, ho.exm m4⟩⟩
theorem k17 {g : G} {a : Option Addr} {n c : Nat} {zs : List Lab} (h : SlE strE g a n c zs) (hn : n ≤ 1048576) : CallsP Tryz.prog 17 #[.slice a n c] g fun v g' => ∃ a' c', v = .slice a' n c' ∧ MutR g' g.w.heap.size 9 1 a' n c' (zs.map encStr) := by
  refine (own_calls (Q := fun a' n' c' xs => n' = n ∧ xs = zs) ((k17o h hn).mono ?_)).mono ?_
  · rintro v g' _ ⟨a', c', rfl, ho⟩
    exact ⟨a', n, c', zs, rfl, ⟨rfl, rfl⟩, ho⟩
  · rintro v g' _ ⟨a', n', c', xs, rfl, ⟨rfl, rfl⟩, hm⟩
    exact ⟨a', c', rfl, hm⟩
theorem k135 (a : Option Addr) (n c : Nat) (g : G) : CallsP Tryz.prog 135 #[.slice a n c] g fun v g' => ∃ blk, v = .func (.func 154) #[] #[.pointer (some ⟨blk, 0, none⟩)] ∧ Live g' ⟨blk, 0, none⟩ (.slice a n c) := by
  refine P98.call135 _ _ _ g _ ?_
  unfold P98.F135
  exact fun g1 n1 g2 m2 => ⟨_, rfl, (n1.at0 rfl).ex m2⟩
theorem k137 {blk : Nat} {a : Option Addr} {n c : Nat} {zs : List Lab} {g : G} (h : SlE strE g a n c zs) (hn : n ≤ 1048576) (hl : Live g ⟨blk, 0, none⟩ (.slice a n c)) :
    CallsP Tryz.prog 137 #[.slice none 0 0, .func (.func 154) #[] #[.pointer (some ⟨blk, 0, none⟩)]] g fun v g' => ∃ a' c', v = .slice a' zs.length c' ∧ MutR g' g.w.heap.size 9 1 a' zs.length c' (zs.map encStr) := by
  refine calls_mut (Calls.mono (callsIn_wide.1 (in137 blk zs h hn hl.1)) ?_)
  rintro e w' ⟨v, rfl, hrow, hb⟩
  exact ⟨v, rfl, hb, hrow⟩
/-- slices.Sorted(slices.Values(l)). -/
theorem k74V {blk : Nat} {a : Option Addr} {n c : Nat} {zs : List Lab} {g : G} (h : SlE strE g a n c zs) (hn : n ≤ 1048576) (hl : Live g ⟨blk, 0, none⟩ (.slice a n c)) :
    CallsP Tryz.prog 74 #[.func (.func 154) #[] #[.pointer (some ⟨blk, 0, none⟩)]] g fun v g' => ∃ a' c', v = .slice a' n c' ∧ SlE strE g' a' n c' (zs.mergeSort fun x y => decide (x ≤ y)) := by
  have hlen := h.len
  have k112 : CallsP Tryz.prog 112 #[.func (.func 154) #[] #[.pointer (some ⟨blk, 0, none⟩)]] g fun v g' => ∃ a' c', v = .slice a' zs.length c' ∧ MutR g' g.w.heap.size 9 1 a' zs.length c' (zs.map encStr) := by
    refine P98.call112 _ _ g _ ?_
    unfold P98.F112
    refine (k137 h hn hl).mono ?_
    rintro v g1 _ ⟨a', c', rfl, hm⟩
    exact ⟨_, _, _, rfl, fun g2 m2 => ⟨_, _, rfl, hm.ex m2⟩⟩
  have main : CallsP Tryz.prog 74 #[.func (.func 154) #[] #[.pointer (some ⟨blk, 0, none⟩)]] g fun v g' => ∃ a' n' c' L, v = .slice a' n' c' ∧ (n' = n ∧ L = (zs.mergeSort fun x y => decide (x ≤ y)).map encStr) ∧ MutR g' g.w.heap.size 9 1 a' n' c' L := by
    refine P98.call74 _ _ g _ ?_
    unfold P98.F74
    refine k112.mono ?_
    rintro v g1 m1 ⟨a', c', rfl, hm⟩
    refine ⟨_, _, _, rfl, blkOf a', fun b hb hh => absurd (hm.ge hh) (by omega), CallsG.mono (k20 hm (by omega)) ?_⟩
    rintro v g2 s2 ⟨rfl, hm2⟩
    exact ⟨rfl, fun g3 m3 => ⟨_, _, _, _, rfl, ⟨hlen, rfl⟩, hm2.ex m3⟩⟩
  refine (CallsP.fin_mut (F := fun v a n c => v = .slice a n c) (Q := fun _ n' _ L => n' = n ∧ L = (zs.mergeSort fun x y => decide (x ≤ y)).map encStr) main).mono ?_
  rintro v g' _ ⟨a', n', c', L, rfl, ⟨rfl, rfl⟩, hs⟩
  exact ⟨a', c', rfl, strs_sle hs (by rw [List.length_mergeSort]; exact hlen)⟩
/-- twice. -/
theorem k109 {a : Option Addr} {n c : Nat} {zs : List Lab} {g : G} (h : SlE strE g a n c zs) (hn : n ≤ 1048576) : CallsP Tryz.prog 109 #[.slice a n c] g fun v _ => v = .bool (tf (¬ zs.Nodup)) := by
  have hlen := h.len
  refine P98.call109 _ _ _ g _ ?_
  unfold P98.F109
  refine (k135 a n c g).mono ?_
  rintro v g1 m1 ⟨blk, rfl, hl⟩
  refine ⟨_, _, rfl, (k74V (h.exm m1) hn hl).mono ?_⟩
  rintro v g2 m2 ⟨a2, c2, rfl, h2⟩
  refine ⟨_, _, _, rfl, (k17 h2 hn).mono ?_⟩
  rintro v g3 m3 ⟨a3, c3, rfl, hm⟩
  refine ⟨_, _, _, rfl, blkOf a3, fun b hb hh => absurd (hm.ge hh) (by have := m1.size; have := m2.size; omega), CallsG.mono (k22 hm hn) ?_⟩
  rintro v g4 s4 ⟨rfl, hm4⟩
  refine ⟨_, _, _, rfl, fun g5 _ => ?_⟩
  rw [tf_eq, tf_not, compact_sorted]
  refine vP ?_
  rw [← sortS_nodup]
  constructor <;> intro hh <;> omega
/-- Binds. -/
theorem k14 (t : Sy) (hok : okT t) (hsz : size t ≤ 20000) {na : Option Addr} {nn nc : Nat} {a : Option Addr} {n c : Nat} {g : G} (ht : TabG g) (h : SynI g t na nn nc a n c) :
    CallsP Tryz.prog 14 #[synV t na nn nc a n c] g fun v g' => (¬ (validP 2 t ∨ validP 4 t ∨ validP 5 t) ∧ v = .tuple ⟨[.slice none 0 0, .int .i64 1]⟩) ∨ ((validP 2 t ∨ validP 4 t ∨ validP 5 t) ∧ ∃ oa on oc, v = .tuple ⟨[.slice oa on oc, .int .i64 0]⟩ ∧ SlE strE g' oa on oc (sortS (bindsT t))) := by
  have main : CallsP Tryz.prog 14 #[synV t na nn nc a n c] g fun v g' => (¬ (validP 2 t ∨ validP 4 t ∨ validP 5 t) ∧ v = .tuple ⟨[.slice none 0 0, .int .i64 1]⟩) ∨ ((validP 2 t ∨ validP 4 t ∨ validP 5 t) ∧ ∃ oa on oc, v = .tuple ⟨[.slice oa on oc, .int .i64 0]⟩ ∧ MutR g' g.w.heap.size 9 1 oa on oc ((sortS (bindsT t)).map encStr)) := by
    refine P98.call14 _ _ _ _ _ _ _ _ _ g _ ?_
    unfold P98.F14
    refine fun g1 m1 => (kk60 t.dat.op g1).mono ?_
    rintro v g2 m2 rfl
    refine ⟨_, rfl, ?_⟩
    have m02 := m1.trans m2
    have bel : ∀ k, belP k t.dat.op → k = 2 ∨ k = 4 ∨ k = 5 → catN t.dat.op = 2 ∨ catN t.dat.op = 4 ∨ catN t.dat.op = 5 := by
      rintro k (⟨rfl, h43⟩ | ⟨_, hk⟩) h
      · refine .inr (.inl ?_)
        rcases h43 with e | e <;> rw [e] <;> decide
      · rw [hk]; exact h
    intro J hJ
    have HJ : ∀ g3, Ex g g3 → formedP t → (validP 2 t ∨ validP 4 t ∨ validP 5 t) → J g3 := by
      intro g3 m3 hf hv
      refine hJ g3 ?_
      have hbl := binds_le t
      have c61 := own_calls (Q := fun _ _ _ xs => xs = bindsT t) ((k61 t (by omega) false 1 hf (fun _ => rfl) (ht.exm m3) (h.exm m3)).mono (by
        rintro v g' _ ⟨oa, on, oc, rfl, ho⟩
        exact ⟨oa, on, oc, _, rfl, rfl, ho⟩))
      refine c61.mono ?_
      rintro v g4 m4 ⟨oa, on, oc, xs, rfl, rfl, hm⟩
      have hz := m3.size
      have hon : on ≤ 20000 := by have := hm.len; simp at this; omega
      refine ⟨_, _, _, rfl, blkOf oa, fun b hb hh => absurd (hm.ge hh) (by omega), CallsG.mono (k20 hm (by omega)) ?_⟩
      rintro v g5 s5 ⟨rfl, hm5⟩
      refine ⟨rfl, blkOf oa, fun b hb hh => absurd (hm.ge hh) (by omega), CallsG.mono (k22 hm5 (by omega)) ?_⟩
      rintro v g6 s6 ⟨rfl, hm6⟩
      rw [compact_sorted] at hm6 ⊢
      refine ⟨_, _, _, rfl, fun g7 m7 => .inr ⟨hv, _, _, _, rfl, ?_⟩⟩
      rcases hm6.row with hr | ⟨b, cur, e, hge, hr⟩
      · exact ⟨hm6.len, .inl hr⟩
      · exact MutR.ex ⟨hm6.len, .inr ⟨b, cur, e, by omega, hr⟩⟩ m7
    have test : ∀ (k : Int) (g' : G), Ex g g' → (k = 2 ∨ k = 4 ∨ k = 5) → catN t.dat.op = k → CallsP Tryz.prog 58 #[.int .i64 (catN t.dat.op), synV t na nn nc a n c] g' fun v g9 => ∃ x : Bool, v = .bool x ∧ ifB (!x) (∀ g10 : G, Ex g9 g10 → (fun (v : Value) (g' : G) => (¬ (validP 2 t ∨ validP 4 t ∨ validP 5 t) ∧ v = .tuple ⟨[.slice none 0 0, .int .i64 1]⟩) ∨ ((validP 2 t ∨ validP 4 t ∨ validP 5 t) ∧ ∃ oa on oc, v = .tuple ⟨[.slice oa on oc, .int .i64 0]⟩ ∧ MutR g' g.w.heap.size 9 1 oa on oc ((sortS (bindsT t)).map encStr))) (.tuple ⟨[.slice none 0 0, .int .i64 1]⟩) g10) (J g9) := by
      intro k g' m' hk hc
      refine (kk58 _ t hok hsz (ht.exm m') (h.exm m')).mono ?_
      rintro v g9 m9 rfl
      refine ⟨_, rfl, ifPn (fun q g10 m10 => .inl ⟨fun hh => q ?_, rfl⟩) (fun q => HJ g9 (m'.trans m9) q.2 ?_)⟩
      · have hf : formedP t := by rcases hh with hh | hh | hh <;> exact hh.2
        exact ⟨.inr ⟨by omega, rfl⟩, hf⟩
      · rw [hc] at q
        rcases hk with rfl | rfl | rfl
        · exact .inl q
        · exact .inr (.inl q)
        · exact .inr (.inr q)
    refine ifNe (fun q1 => ifNe (fun q2 => ifNe (fun q3 g8 m8 => .inl ⟨fun hh => ?_, rfl⟩) (fun q3 => test 5 g2 m02 (by omega) q3)) (fun q2 => test 4 g2 m02 (by omega) q2)) (fun q1 => test 2 g2 m02 (by omega) q1)
    rcases hh with hh | hh | hh
    · rcases bel 2 hh.1 (by omega) with e | e | e
      · exact q1 e
      · exact q2 e
      · exact q3 e
    · rcases bel 4 hh.1 (by omega) with e | e | e
      · exact q1 e
      · exact q2 e
      · exact q3 e
    · rcases bel 5 hh.1 (by omega) with e | e | e
      · exact q1 e
      · exact q2 e
      · exact q3 e
  refine CallsP.ghost main ?_
  rintro v g1 hs (⟨h1, rfl⟩ | ⟨h1, oa, on, oc, rfl, hm⟩)
  · exact ⟨g1, rfl, hs, .inl ⟨h1, rfl⟩⟩
  · have hln : (sortS (bindsT t)).length = on := by have := hm.len; simpa using this
    rcases hm.row with ⟨rfl, rfl, rfl⟩ | ⟨b, cur, rfl, hge, _⟩
    · have : sortS (bindsT t) = [] := List.eq_nil_of_length_eq_zero hln
      exact ⟨g1, rfl, hs, .inr ⟨h1, _, _, _, rfl, by rw [this]; exact SlE.zero _⟩⟩
    · exact ⟨g1.froz b, rfl, hs.froz (.inl hge), .inr ⟨h1, _, _, _, rfl, strs_sle hm.frozen hln⟩⟩
end Go.Proofs.YtkocjbgdmocmlaaGreatDoor
