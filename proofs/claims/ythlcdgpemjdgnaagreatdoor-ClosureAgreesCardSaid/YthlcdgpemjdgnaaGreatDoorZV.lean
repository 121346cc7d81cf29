/- Joined texts. -/
import Derived.Test.YthlcdgpemjdgnaaGreatDoorZB
import Derived.Test.YthlcdgpemjdgnaaGreatDoorZN
import Derived.Test.YthlcdgpemjdgnaaGreatDoorZA
/- Valid programs of flat functions. -/
set_option linter.unusedVariables false
namespace Go.Proofs.YthlcdgpemjdgnaaGreatDoor
open Go Go.Vc Go.RowKit Go.Syn Go.Lam Go.Sort
theorem k115 (n : Int) (g : G) : CallsP Tryz.prog 115 #[.int .i64 n] g fun v _ => v = .int .i64 ((arityR n : Nat) : Int) := by
  refine call115 _ g _ ?_
  unfold F115
  intro J hJ
  unfold arityR arityN
  refine ifEq (fun e g5 _ => by rw [if_pos (by omega), if_pos (by omega)]; rfl) (fun e6 => ifEq (fun e g6 _ => by rw [if_pos (by omega), if_pos (by omega)]; rfl) (fun e11 => ifEq (fun e g7 _ => by rw [if_pos (by omega), if_pos (by omega)]; rfl) (fun e13 => ifEq (fun e g8 _ => by rw [if_pos (by omega), if_pos (by omega)]; rfl) (fun e14 => hJ g ?_))))
  exact ifLt (fun q g2 _ => by show _ = Value.int .i64 ((arityR n : Nat) : Int); unfold arityR; rw [if_neg (by omega)]; rfl) (fun q => ifLt (fun q2 g3 _ => by show _ = Value.int .i64 ((arityR n : Nat) : Int); unfold arityR; rw [if_neg (by omega)]; rfl) (fun q2 g4 _ => by show _ = Value.int .i64 ((arityR n : Nat) : Int); unfold arityR arityN; rw [if_pos (by omega), if_neg (by omega)]; rfl))
theorem k44 {fs : List FlatD} {n : Int} {parts : Nat} {pb : Nat} {a : Option Addr} {ln lc : Nat} {g : G} (hp : Live g ⟨pb, 0, none⟩ (.slice a ln lc)) (hI : SlE flatE g a ln lc fs) (hl : fs.length ≤ 4096) :
    CallsP Tryz.prog 44 #[.int .i64 n, .int .i64 ((parts : Nat) : Int), .pointer (some ⟨pb, 0, none⟩)] g fun v _ => v = .bool (tf (0 ≤ n ∧ n ≤ 4095 ∧ (capsF fs)[n.toNat]? = some ((parts : Nat) : Int))) := by
  refine call44 _ _ _ g _ ?_
  have hln := hI.len
  unfold F44
  refine ⟨_, _, _, hp.1, i64 (by omega) (by omega), (k41 n 0 _ g).mono ?_⟩
  rintro v g1 m1 rfl
  refine ⟨_, rfl, ifP (fun q => ?_) (fun q g3 _ => vF (fun h => q ⟨h.1, ?_⟩))⟩
  · have gf := List.getElem?_eq_getElem (show n.toNat < fs.length by omega)
    generalize fs[n.toNat] = f at gf
    refine ⟨_, _, _, (hp.ex m1).1, ⟨by omega, by omega⟩, rdFl (i := n) (hI.exm m1) n.toNat (by omega) gf (fun ad ka kn kc hk hl' => ⟨_, (live0 (hl' 0 _ rfl)).1, fun g2 _ => ?_⟩)⟩
    show Value.bool (tf (f.cap = ((parts : Nat) : Int))) = _
    refine vP ⟨fun h => ⟨q.1, by omega, by rw [List.getElem?_map, gf, ← h]; rfl⟩, fun h => ?_⟩
    have := h.2.2
    rw [List.getElem?_map, gf] at this
    exact Option.some.inj this
  · have := (List.getElem?_eq_some_iff.1 h.2.2).1
    rw [List.length_map] at this
    omega
structure ChkV (g : G) (fs : List FlatD) (cap cb pb : Nat) (a : Option Addr) (ln lc : Nat) : Prop where
  blk : MutB g cb 126 [.int .i64 ((cap : Nat) : Int), .func (.func 44) #[] #[.pointer (some ⟨pb, 0, none⟩)]]
  ptr : Live g ⟨pb, 0, none⟩ (.slice a ln lc)
  row : SlE flatE g a ln lc fs
  len : fs.length ≤ 4096
theorem ChkV.ex {g g' : G} {fs : List FlatD} {cap cb pb : Nat} {a : Option Addr} {ln lc : Nat} (h : ChkV g fs cap cb pb a ln lc) (m : Ex g g') : ChkV g' fs cap cb pb a ln lc := ⟨h.blk.ex m, h.ptr.ex m, h.row.exm m, h.len⟩
theorem k92 {fs : List FlatD} {cap k cb pb : Nat} {pa : Option Addr} {pn pc : Nat} {d : ExpD} {l : List E} (hk : 1 ≤ k ∧ k ≤ 1000000) (hcap : cap ≤ 1000000) {a : Option Addr} {n c : Nat} {g : G} (hl : l.length = n) (h : ChkV g fs cap cb pb pa pn pc) :
    CallsP Tryz.prog 92 #[.pointer (some ⟨cb, 0, none⟩), .agg ⟨[.int .i64 d.op, .int .i64 d.n, .string (bstr d.s), .slice a n c]⟩, .int .i64 ((k : Nat) : Int)] g fun v _ => v = .bool (tf (fnodeP (capsF fs) cap k d l)) := by
  refine call92 _ _ _ _ _ _ _ _ g _ ?_
  subst hl
  unfold F92
  intro J hJ
  have hst : (strEq (bstr d.s) (bs []) = true) ↔ d.s = [] := by
    rw [strEq_true, show bs [] = bstr [] from rfl, bstr_inj]
  have main : (d.op = 3 ∨ d.s = []) → ∀ g1, Ex g g1 → J g1 := by
    intro hs g1 m1
    refine hJ g1 ?_
    clear hJ
    have fin : ∀ {p : Prop} (g' : G), (p ↔ fnodeP (capsF fs) cap k d l) → (fun (v : Value) (_ : G) => v = .bool (tf (fnodeP (capsF fs) cap k d l))) (.bool (tf p)) g' := fun g' hp => vP hp
    have bad : ∀ (g' : G), ¬ fnodeP (capsF fs) cap k d l → (fun (v : Value) (_ : G) => v = .bool (tf (fnodeP (capsF fs) cap k d l))) (.bool false) g' := fun g' hp => vF hp
    have ha := arityN_pos d.n
    have hsz : (bstr d.s).size = d.s.length := bstr_size _
    refine ifEq (fun e => ifEq (fun q => (k41 _ _ _ g1).mono ?_) (fun q g4 _ => bad g4 (fun hh => by have := hh.2; omega))) (fun e2 => ?_)
    · rintro v g2 _ rfl
      exact ⟨_, rfl, fun g3 _ => fin g3 ⟨fun hh => ⟨hs, .inl ⟨e, by omega, hh.1, hh.2⟩⟩, fun hh => by have := hh.2; omega⟩⟩
    refine ifEq (fun e => ifEq (fun q => ifEq (fun q2 g5 _ => fin g5 ⟨fun hh => ⟨hs, .inr (.inl ⟨e, by omega, q2, by omega⟩)⟩, fun hh => by have := hh.2; omega⟩) (fun q2 g6 _ => bad g6 (fun hh => by have := hh.2; omega))) (fun q g7 _ => bad g7 (fun hh => by have := hh.2; omega))) (fun e3 => ?_)
    refine ifEq (fun e => ifEq (fun q g8 _ => fin g8 ⟨fun hh => ⟨hs, .inr (.inr (.inr (.inl ⟨e, by omega, q⟩)))⟩, fun hh => by have := hh.2; omega⟩) (fun q g9 _ => bad g9 (fun hh => by have := hh.2; omega))) (fun e6 => ?_)
    intro J1 hJ1
    have key1 : ∀ b1, (b1 = true ↔ (d.op = 7 ∨ d.op = 8)) → J1 b1 g1 := by
      intro b1 hb
      refine hJ1 b1 g1 (ifT (fun q => ?_) (fun q => ?_))
      · have e := hb.1 q
        refine ifEq (fun q1 => (k41 _ _ _ g1).mono ?_) (fun q1 g13 _ => bad g13 (fun hh => by have := hh.2; omega))
        rintro v g11 _ rfl
        exact ⟨_, rfl, fun g12 _ => fin g12 ⟨fun hh => ⟨hs, .inr (.inr (.inr (.inr (.inl ⟨e, by omega, hh.1, hh.2⟩))))⟩, fun hh => by have := hh.2; omega⟩⟩
      have e78 : ¬ (d.op = 7 ∨ d.op = 8) := fun h => by rw [hb.2 h] at q; cases q
      refine ifEq (fun e => ifEq (fun q1 => (k41 _ _ _ g1).mono ?_) (fun q1 g16 _ => bad g16 (fun hh => by have := hh.2; omega))) (fun e9 => ?_)
      · rintro v g14 _ rfl
        exact ⟨_, rfl, fun g15 _ => fin g15 ⟨fun hh => ⟨hs, .inr (.inr (.inr (.inr (.inr (.inl ⟨e, by omega, by omega, q1⟩)))))⟩, fun hh => by have := hh.2; omega⟩⟩
      intro J2 hJ2
      have key2 : ∀ b2, (b2 = true ↔ (d.op = 11 ∨ d.op = 25)) → J2 b2 g1 := by
        intro b2 hb2
        refine hJ2 b2 g1 (ifT (fun q => ?_) (fun q => ?_))
        · have e := hb2.1 q
          exact ifEq (fun q1 g18 _ => fin g18 ⟨fun hh => ⟨hs, .inr (.inr (.inl ⟨by omega, by omega, q1⟩))⟩, fun hh => by have := hh.2; omega⟩) (fun q1 g19 _ => bad g19 (fun hh => by have := hh.2; omega))
        have e1125 : ¬ (d.op = 11 ∨ d.op = 25) := fun h => by rw [hb2.2 h] at q; cases q
        refine ifEq (fun e12 => (k115 d.n g1).mono ?_) (fun e12 => ?_)
        · have hA : arityR d.n = if 1 ≤ d.n ∧ d.n ≤ 14 then arityN d.n else 0 := rfl
          have c12 : fnodeP (capsF fs) cap k d l → 1 ≤ d.n ∧ d.n ≤ 14 ∧ l.length = arityN d.n := by
            intro hh
            rcases hh.2 with h | h | h | h | h | h | h | h | h | h | h | h
            · omega
            · omega
            · omega
            · omega
            · omega
            · omega
            · exact h.2
            · omega
            · omega
            · omega
            · omega
            · omega
          rintro v g20 _ rfl
          refine ⟨_, rfl, ifLt (fun q1 => (k115 d.n g20).mono ?_) (fun q1 g23 _ => bad g23 (fun hh => ?_))⟩
          · rintro v g21 _ rfl
            refine ⟨_, rfl, fun g22 _ => fin g22 ⟨fun hh => ?_, fun hh => ?_⟩⟩
            · by_cases hq : 1 ≤ d.n ∧ d.n ≤ 14
              · rw [if_pos hq] at hA
                exact ⟨hs, .inr (.inr (.inr (.inr (.inr (.inr (.inl ⟨e12, hq.1, hq.2, by omega⟩))))))⟩
              · rw [if_neg hq] at hA; omega
            · obtain ⟨c1, c2, c3⟩ := c12 hh
              rw [if_pos ⟨c1, c2⟩] at hA
              omega
          · obtain ⟨c1, c2, c3⟩ := c12 hh
            rw [if_pos ⟨c1, c2⟩] at hA
            omega
        refine ifEq (fun e13 => ifEq (fun q1 => (k41 _ _ _ g1).mono ?_) (fun q1 g26 _ => bad g26 (fun hh => by have := hh.2; omega))) (fun e13 => ?_)
        · rintro v g24 _ rfl
          exact ⟨_, rfl, fun g25 _ => fin g25 ⟨fun hh => ⟨hs, .inr (.inr (.inr (.inr (.inr (.inr (.inr (.inl ⟨e13, by omega, hh.1, hh.2⟩)))))))⟩, fun hh => by have := hh.2; omega⟩⟩
        refine ifEq (fun e21 => ifEq (fun q1 => ⟨i64 (by omega) (by omega), (k41 _ _ _ g1).mono ?_⟩) (fun q1 g29 _ => bad g29 (fun hh => by have := hh.2; omega))) (fun e21 => ?_)
        · rintro v g27 _ rfl
          exact ⟨_, rfl, fun g28 _ => fin g28 ⟨fun hh => ⟨hs, .inr (.inr (.inr (.inr (.inr (.inr (.inr (.inr (.inl ⟨e21, by omega, hh.1, by omega⟩))))))))⟩, fun hh => by have := hh.2; omega⟩⟩
        refine ifEq (fun e22 => ifEq (fun q1 g30 _ => fin g30 ⟨fun hh => ⟨hs, .inr (.inr (.inr (.inr (.inr (.inr (.inr (.inr (.inr (.inl ⟨e22, by omega, hh⟩)))))))))⟩, fun hh => by have := hh.2; omega⟩) (fun q1 g31 _ => bad g31 (fun hh => by have := hh.2; omega))) (fun e22 => ?_)
        refine ifEq (fun e23 g32 m32 => ifEq (fun q1 => ⟨_, (h.ex (m1.trans m32)).blk.rd0 rfl, i64 (by omega) (by omega), (k41 _ _ _ g32).mono ?_⟩) (fun q1 g35 _ => bad g35 (fun hh => by have := hh.2; omega))) (fun e23 => ?_)
        · rintro v g33 _ rfl
          exact ⟨_, rfl, fun g34 _ => fin g34 ⟨fun hh => ⟨hs, .inr (.inr (.inr (.inr (.inr (.inr (.inr (.inr (.inr (.inr (.inl ⟨e23, by omega, hh.1, by omega⟩))))))))))⟩, fun hh => by have := hh.2; omega⟩⟩
        refine ifEq (fun e24 g36 m36 => ?_) (fun e24 g40 _ => bad g40 (fun hh => by have := hh.2; omega))
        have c24 : fnodeP (capsF fs) cap k d l → l.length ≤ 1000 ∧ 0 ≤ d.n ∧ d.n ≤ 4095 ∧ (capsF fs)[d.n.toNat]? = some ((l.length : Nat) : Int) := by
          intro hh
          rcases hh.2 with h | h | h | h | h | h | h | h | h | h | h | h
          · omega
          · omega
          · omega
          · omega
          · omega
          · omega
          · omega
          · omega
          · omega
          · omega
          · omega
          · exact h.2
        refine ifLe (fun q1 => ?_) (fun q1 g39 _ => bad g39 (fun hh => by have := (c24 hh).1; omega))
        have h36 := h.ex (m1.trans m36)
        refine ⟨44, #[.pointer (some ⟨pb, 0, none⟩)], h36.blk.rd (j := 1) rfl, ⟨_, Tryz.func44, by kernel_rfl, by kernel_rfl⟩, (k44 (parts := l.length) h36.ptr h36.row h.len).mono ?_⟩
        rintro v g37 _ rfl
        exact ⟨_, rfl, fun g38 _ => fin g38 ⟨fun hh => ⟨hs, .inr (.inr (.inr (.inr (.inr (.inr (.inr (.inr (.inr (.inr (.inr ⟨e24, by omega, hh⟩))))))))))⟩, fun hh => (c24 hh).2⟩⟩
      exact ifEq (fun e => key2 true ⟨fun _ => .inl e, fun _ => rfl⟩) (fun e => key2 _ (by simp [show d.op ≠ 11 from e]))
    exact ifEq (fun e => key1 true ⟨fun _ => .inl e, fun _ => rfl⟩) (fun e => key1 _ (by simp [show d.op ≠ 7 from e]))
  refine ifNe (fun q => ifF (fun e g41 _ => ?_) (fun e g42 m42 => main (.inr (hst.1 e)) g42 m42)) (fun e g43 m43 => main (.inl e) g43 m43)
  refine vF (fun hh => ?_)
  rcases hh.1 with h3 | h3
  · exact q h3
  · rw [hst.2 h3] at e; cases e
theorem goodBL_iff {cs : List Int} {cap : Nat} {op : Int} {k : Nat} : ∀ {l : List E} {j : Nat}, goodBL cs cap op j k l ↔ ∀ i t, l[i]? = some t → goodB cs cap (if furP op (j + i) then k + 1 else k) t
  | [], j => by simp [goodBL]
  | a :: r, j => by
    rw [goodBL, goodBL_iff (l := r)]
    constructor
    · rintro ⟨h1, h2⟩ i t hi
      cases i with
      | zero => cases hi; exact h1
      | succ i => have := h2 i t (by simpa using hi); rwa [show j + 1 + i = j + (i + 1) by omega] at this
    · intro h
      refine ⟨h 0 a rfl, fun i t hi => ?_⟩
      have := h (i + 1) t (by simpa using hi)
      rwa [show j + (i + 1) = j + 1 + i by omega] at this
theorem k70 {fs : List FlatD} {cap cb pb : Nat} {pa : Option Addr} {pn pc : Nat} (x : E) : ∀ {k : Nat} {a : Option Addr} {n c : Nat} {g : G}, 1 ≤ k → k + depthE x ≤ 1000000 → cap ≤ 1000000 → SlE expE g a n c x.kids → ChkV g fs cap cb pb pa pn pc →
    CallsP Tryz.prog 70 #[.pointer (some ⟨cb, 0, none⟩), expV x a n c, .int .i64 ((k : Nat) : Int)] g fun v _ => v = .bool (tf (goodB (capsF fs) cap k x)) := by
  induction x using Tr.ind with
  | h d l ih =>
    intro k a n c g hk1 hk hcap hI hC
    have hI' : SlE expE g a n c l := hI
    have hl : l.length = n := hI'.len
    have hcp := hI'.cap
    have hle := hI'.le
    unfold maxLen at hcp
    have hdp : depthE (.mk d l) = depthEL l + 1 := rfl
    refine call70 _ _ _ _ _ _ _ _ g _ ?_
    unfold F70
    refine fun g1 m1 => (k92 ⟨hk1, by omega⟩ hcap hl (hC.ex m1)).mono ?_
    rintro v g2 m2 rfl
    have m02 := m1.trans m2
    refine ⟨_, rfl, ifPn (fun q g3 _ => vF (fun h => q h.1)) (fun q => ?_)⟩
    refine ⟨fun m i g' => ∃ j : Nat, i = ((j : Nat) : Int) ∧ j + m = n ∧ Ex g2 g' ∧ ∀ i t, i < j → l[i]? = some t → goodB (capsF fs) cap (if furP d.op i then k + 1 else k) t, ⟨n, 0, rfl, by omega, Ex.refl _, fun i t h => by omega⟩, ?_⟩
    rintro m i g4 le4 ⟨j, rfl, hj, m4, hall⟩
    refine ifLt (fun q4 => ⟨⟨by omega, by omega⟩, ?_⟩) (fun q4 g11 _ => vT ⟨q, goodBL_iff.2 (fun i t hi => ?_)⟩)
    · have gj := List.getElem?_eq_getElem (show j < l.length by omega)
      generalize l[j] = y at gj
      have hy := List.mem_of_getElem? gj
      have hdm := depthE_mem hy
      have m04 := m02.trans m4
      have no : ∀ {p : Prop}, (goodB (capsF fs) cap (if furP d.op j then k + 1 else k) y → p) → ¬ p → ¬ goodB (capsF fs) cap k (.mk d l) := fun h1 h2 h3 => h2 (h1 (by have := goodBL_iff.1 h3.2 j y gj; rwa [Nat.zero_add] at this))
      have next : goodB (capsF fs) cap (if furP d.op j then k + 1 else k) y → ∀ g5, Ex g2 g5 → (InI64 (((j : Nat) : Int) + 1) ∧ ∃ m_1 : Nat, m_1 < m ∧ ∃ j' : Nat, ((j : Nat) : Int) + 1 = ((j' : Nat) : Int) ∧ j' + m_1 = n ∧ Ex g2 g5 ∧ ∀ i t, i < j' → l[i]? = some t → goodB (capsF fs) cap (if furP d.op i then k + 1 else k) t) := by
        intro hg g5 m5
        refine ⟨i64 (by omega) (by omega), m - 1, by omega, j + 1, by omega, by omega, m5, fun i t hi ht => ?_⟩
        by_cases e : i = j
        · subst e
          rw [gj] at ht
          cases ht
          exact hg
        · exact hall i t (by omega) ht
      refine rdE (hI'.exm m04) j rfl gj (fun ka kn kc hk' g5 m5 => (kz66 d.op j g5).mono ?_)
      rintro v g6 m6 rfl
      have m46 := m5.trans m6
      refine ⟨_, rfl, ifP (fun hf => ⟨i64 (by omega) (by omega), ?_⟩) (fun hf => ?_)⟩
      · rw [show ((k : Nat) : Int) + 1 = ((k + 1 : Nat) : Int) by omega]
        refine (ih y hy (k := k + 1) (by omega) (by omega) hcap (hk'.exm m46) (hC.ex (m04.trans m46))).mono ?_
        rintro v g7 m7 rfl
        exact ⟨_, rfl, ifPn (fun hn g8 _ => vF (no (p := goodB (capsF fs) cap (k + 1) y) (fun h => by rwa [if_pos hf] at h) hn)) (fun hy' => next (by rw [if_pos hf]; exact hy') g7 ((m4.trans m46).trans m7))⟩
      · refine (ih y hy (k := k) hk1 (by omega) hcap (hk'.exm m46) (hC.ex (m04.trans m46))).mono ?_
        rintro v g7 m7 rfl
        exact ⟨_, rfl, ifPn (fun hn g8 _ => vF (no (p := goodB (capsF fs) cap k y) (fun h => by rwa [if_neg hf] at h) hn)) (fun hy' => next (by rw [if_neg hf]; exact hy') g7 ((m4.trans m46).trans m7))⟩
    · rw [Nat.zero_add]
      have := (List.getElem?_eq_some_iff.1 hi).1
      exact hall i t (by omega) hi
end Go.Proofs.YthlcdgpemjdgnaaGreatDoor
/- Valid programs of flat functions: Valid; few. -/
set_option linter.unusedVariables false
namespace Go.Proofs.YthlcdgpemjdgnaaGreatDoor
open Go Go.Vc Go.RowKit Go.Syn Go.Lam Go.Sort
def okF1 (cs : List Int) (f : FlatD) : Prop := 0 ≤ f.cap ∧ f.cap ≤ 1000 ∧ goodB cs f.cap.toNat 1 f.body
def validF (fs : List FlatD) (main : Int) : Prop := 1 ≤ fs.length ∧ fs.length ≤ 4096 ∧ 0 ≤ main ∧ main < ((fs.length : Nat) : Int) ∧ (∃ f, fs[main.toNat]? = some f ∧ f.cap = 0) ∧ ∀ f ∈ fs, okF1 (capsF fs) f
theorem k43 {fs : List FlatD} {f : FlatD} {pb : Nat} {pa : Option Addr} {pn pc : Nat} (hs : sizeE f.body ≤ 20000 ∧ depthE f.body ≤ 400) {a : Option Addr} {n c : Nat} {g : G} (hI : SlE expE g a n c f.body.kids) (hp : Live g ⟨pb, 0, none⟩ (.slice pa pn pc)) (hr : SlE flatE g pa pn pc fs) (hl : fs.length ≤ 4096) :
    CallsP Tryz.prog 43 #[flatV f a n c, .func (.func 44) #[] #[.pointer (some ⟨pb, 0, none⟩)]] g fun v _ => v = .bool (tf (okF1 (capsF fs) f)) := by
  refine call43 _ _ _ _ _ _ _ _ _ g _ ?_
  obtain ⟨fc, fb⟩ := f
  unfold F43
  intro g1 m1 g2 n2
  have m02 := m1.trans n2.ex
  refine (k41 fc 0 1000 g2).mono ?_
  rintro v g3 m3 rfl
  refine ⟨_, rfl, ifP (fun q => (kz40 hs ((hI.exm m02).exm m3)).mono ?_) (fun q g8 _ => vF (fun h => q ⟨h.1, h.2.1⟩))⟩
  rintro v g4 m4 rfl
  have hb := n2.mut
  have e : fc = ((fc.toNat : Nat) : Int) := by omega
  rw [e] at hb
  have hs2 := hs.2
  simp only at hs2
  have hC : ChkV g4 fs fc.toNat g1.w.heap.size pb pa pn pc := ⟨(hb.ex m3).ex m4, ((hp.ex m02).ex m3).ex m4, ((hr.exm m02).exm m3).exm m4, hl⟩
  refine ⟨_, rfl, ifT (fun _ => (k70 fb (k := 1) (by omega) (by omega) (by omega) (((hI.exm m02).exm m3).exm m4) hC).mono ?_) (fun h => by cases h)⟩
  rintro v g5 _ rfl
  exact ⟨_, rfl, fun g6 _ => vP ⟨fun h => ⟨q.1, q.2, h⟩, fun h => h.2.2⟩⟩
theorem k42 {fs : List FlatD} {f : FlatD} {pb : Nat} {pa : Option Addr} {pn pc : Nat} (hs : sizeE f.body ≤ 20000 ∧ depthE f.body ≤ 400) {a : Option Addr} {n c : Nat} {g : G} (hI : SlE expE g a n c f.body.kids) (hp : Live g ⟨pb, 0, none⟩ (.slice pa pn pc)) (hr : SlE flatE g pa pn pc fs) (hl : fs.length ≤ 4096) :
    CallsP Tryz.prog 42 #[flatV f a n c, .pointer (some ⟨pb, 0, none⟩)] g fun v _ => v = .bool (!tf (okF1 (capsF fs) f)) := by
  refine call42 _ _ _ _ _ _ _ _ g _ ?_
  unfold F42
  refine fun g1 m1 => (k43 hs (hI.exm m1) (hp.ex m1) (hr.exm m1) hl).mono ?_
  rintro v g2 _ rfl
  exact ⟨_, rfl, fun g3 _ => rfl⟩
theorem k68 {fs : List FlatD} {pb : Nat} {a : Option Addr} {n c : Nat} {g : G} (hs : ∀ f ∈ fs, sizeE f.body ≤ 20000 ∧ depthE f.body ≤ 400) (hp : Live g ⟨pb, 0, none⟩ (.slice a n c)) (hr : SlE flatE g a n c fs) (hl : fs.length ≤ 4096) :
    CallsP Tryz.prog 68 #[.slice a n c, .func (.func 42) #[] #[.pointer (some ⟨pb, 0, none⟩)]] g fun v _ => ∃ r : Int, v = .int .i64 r ∧ (0 ≤ r ↔ ¬ ∀ f ∈ fs, okF1 (capsF fs) f) := by
  refine call68 _ _ _ _ _ g _ ?_
  have hln := hr.len
  unfold F68
  refine ⟨fun m i g' => ∃ j : Nat, i = ((j : Nat) : Int) ∧ j + m = n ∧ Ex g g' ∧ ∀ f ∈ fs.take j, okF1 (capsF fs) f, ⟨n, 0, rfl, by omega, Ex.refl _, by simp⟩, ?_⟩
  rintro m i g1 le ⟨j, rfl, hj, m1, hall⟩
  refine ifLt (fun q => ⟨⟨by omega, by omega⟩, ?_⟩) (fun q g4 _ => ⟨-1, rfl, fun h => by omega, fun h => absurd (by rwa [List.take_of_length_le (by omega)] at hall) h⟩)
  have gj := List.getElem?_eq_getElem (show j < fs.length by omega)
  generalize fs[j] = f at gj
  have hf := List.mem_of_getElem? gj
  refine rdFl (i := ((j : Nat) : Int)) (hr.exm m1) j rfl gj (fun ad ka kn kc hk hl' => ⟨_, _, _, _, _, _, _, (live0 (hl' 0 _ rfl)).1, (hl' 1 _ rfl).1, (hl' 2 _ rfl).1, (hl' 3 _ rfl).1, (hl' 4 _ rfl).1, ⟨_, Tryz.func42, by kernel_rfl, by kernel_rfl⟩, (k42 (hs f hf) hk (hp.ex m1) (hr.exm m1) hl).mono ?_⟩)
  rintro v g2 m2 rfl
  exact ⟨_, rfl, ifPn (fun hn g3 _ => ⟨_, rfl, fun _ h => hn (h f hf), fun _ => by omega⟩) (fun hy => ⟨i64 (by omega) (by omega), m - 1, by omega, j + 1, by omega, by omega, m1.trans m2, (all_take gj _).2 ⟨hall, hy⟩⟩)⟩
theorem k18 {fs : List FlatD} {main : Int} {a : Option Addr} {n c : Nat} {g : G} (hs : ∀ f ∈ fs, sizeE f.body ≤ 20000 ∧ depthE f.body ≤ 400) (hr : SlE flatE g a n c fs) :
    CallsP Tryz.prog 18 #[.slice a n c, .int .i64 main] g fun v _ => v = .bool (tf (validF fs main)) := by
  refine call18 _ _ _ _ g _ ?_
  have hln := hr.len
  have hcp := hr.cap
  have hle := hr.le
  unfold maxLen at hcp
  unfold F18
  intro g1 n1 J hJ
  have hp1 : Live g1 ⟨g.w.heap.size, 0, none⟩ (.slice a n c) := live0 (n1.at_ (i := 0) rfl)
  have hr1 := hr.exm n1.ex
  refine ⟨a, n, c, hp1.1, (k41 _ _ _ g1).mono ?_⟩
  rintro v g5 m5 rfl
  refine ⟨_, rfl, ifPn (fun q g6 _ => vF (fun h => q ⟨by have := h.1; omega, by have := h.2.1; omega⟩)) (fun q => ⟨a, n, c, (hp1.ex m5).1, i64 (by omega) (by omega), (k41 _ _ _ g5).mono ?_⟩)⟩
  rintro v g7 m7 rfl
  have m57 := m5.trans m7
  refine ⟨_, rfl, ifPn (fun q2 g8 _ => vF (fun h => q2 ⟨h.2.2.1, by have := h.2.2.2.1; omega⟩)) (fun q2 => ⟨a, n, c, (hp1.ex m57).1, ⟨q2.1, by omega⟩, ?_⟩)⟩
  have gf := List.getElem?_eq_getElem (show main.toNat < fs.length by omega)
  generalize fs[main.toNat] = f at gf
  refine rdFl (i := main) (hr1.exm m57) main.toNat (by omega) gf (fun ad ka kn kc hk hl => ⟨_, (live0 (hl 0 _ rfl)).1, ifNe (fun h g9 _ => vF (fun hv => ?_)) (fun h => hJ g7 ?_)⟩)
  · obtain ⟨f', e1, e2⟩ := hv.2.2.2.2.1
    rw [gf] at e1
    cases e1
    exact h e2
  refine ⟨a, n, c, (hp1.ex m57).1, ?_⟩
  refine (call38 _ _ _ _ _ g7 _ ?_ : CallsP Tryz.prog 38 #[.slice a n c, .func (.func 42) #[] #[.pointer (some ⟨g.w.heap.size, 0, none⟩)]] g7 (fun v g3 => ∃ x : Bool, v = .bool x ∧ (x = tf (¬ ∀ f ∈ fs, okF1 (capsF fs) f)))).mono ?_
  · unfold F38
    refine (k68 hs (hp1.ex m57) (hr1.exm m57) (by omega)).mono ?_
    rintro v g1 _ ⟨r, rfl, hr'⟩
    refine ⟨r, rfl, fun g2 _ => ⟨_, rfl, ?_⟩⟩
    show tf (0 ≤ r) = _
    exact tf_iff hr'
  · rintro v g3 _ ⟨x, rfl, rfl⟩
    refine ⟨_, rfl, fun g4 _ => ?_⟩
    by_cases hall : ∀ f ∈ fs, okF1 (capsF fs) f
    · rw [tf_no (not_not_intro hall)]
      exact vT ⟨by omega, by omega, q2.1, by omega, ⟨f, gf, h⟩, hall⟩
    · rw [tf_of hall]
      exact vF (fun hv => hall hv.2.2.2.2.2)
end Go.Proofs.YthlcdgpemjdgnaaGreatDoor
/- The reference's Valid of flat functions. -/
set_option linter.unusedVariables false
namespace Go.Proofs.YthlcdgpemjdgnaaGreatDoor
open Go Go.Vc Go.RowKit Go.Syn Go.Lam Go.Sort
def fnodeQ (d : ExpD) (l : List E) : Prop :=
  (d.op = 3 ∨ d.s = []) ∧
  ((d.op = 2 ∧ l.length = 0 ∧ -4503599627370496 ≤ d.n ∧ d.n ≤ 4503599627370496) ∨ (d.op = 3 ∧ l.length = 0 ∧ d.n = 0 ∧ d.s.length ≤ 16384) ∨
   ((d.op = 25 ∨ d.op = 11) ∧ l.length = 2 ∧ d.n = 0) ∨ (d.op = 6 ∧ l.length ≤ 1000 ∧ d.n = 0) ∨ ((d.op = 7 ∨ d.op = 8) ∧ l.length = 1 ∧ 0 ≤ d.n ∧ d.n ≤ 999) ∨ (d.op = 9 ∧ 2 ≤ l.length ∧ l.length ≤ 1001 ∧ d.n = 0) ∨
   (d.op = 12 ∧ 1 ≤ d.n ∧ d.n ≤ 14 ∧ l.length = arityN d.n) ∨ (d.op = 13 ∧ l.length = 0 ∧ 1 ≤ d.n ∧ d.n ≤ 1000000) ∨
   (d.op = 21 ∧ l.length = 0 ∧ 0 ≤ d.n) ∨ (d.op = 22 ∧ l.length = 0 ∧ d.n = 0) ∨ (d.op = 23 ∧ l.length = 0 ∧ 0 ≤ d.n) ∨
   (d.op = 24 ∧ l.length ≤ 1000 ∧ 0 ≤ d.n))
mutual
def bodyP (cap : Nat) : Nat → E → Prop
  | k, .mk d l => (fnodeQ d l ∧ (d.op = 21 → d.n + 1 ≤ ((k : Nat) : Int)) ∧ (d.op = 23 → d.n + 1 ≤ ((cap : Nat) : Int))) ∧ bodyPL cap d.op 0 k l
def bodyPL (cap : Nat) : Int → Nat → Nat → List E → Prop
  | _, _, _, [] => True
  | op, j, k, t :: r => bodyP cap (if furP op j then k + 1 else k) t ∧ bodyPL cap op (j + 1) k r
end
mutual
def closP (cs : List Int) : E → Prop
  | .mk d l => (d.op = 24 → cs[d.n.toNat]? = some ((l.length : Nat) : Int)) ∧ closPL cs l
def closPL (cs : List Int) : List E → Prop
  | [] => True
  | t :: r => closP cs t ∧ closPL cs r
end
end Go.Proofs.YthlcdgpemjdgnaaGreatDoor
/- The reference's Valid of flat functions: bodies, closures, Valid. -/
set_option linter.unusedVariables false
namespace Go.Proofs.YthlcdgpemjdgnaaGreatDoor
open Go Go.Vc Go.RowKit Go.Syn Go.Lam Go.Sort
end Go.Proofs.YthlcdgpemjdgnaaGreatDoor
/- Outcomes, and their comparisons. -/
set_option linter.unusedVariables false
namespace Go.Proofs.YthlcdgpemjdgnaaGreatDoor
open Go Go.Vc Go.RowKit Go.Syn Go.Lam Go.Sort
def zeroSy : Sy := .mk ⟨0, 0, [], []⟩ []
structure Fin where
  op : Int
  code : Int
  left : Nat
  y : Sy
  out : List Lab
def finR (r : Res Th) : Fin := match r with
  | .stop op code left out => ⟨op, code, left, zeroSy, out⟩
  | .ok t left out => match obsN 400 t 20000 with
    | none => ⟨2, 2, left, zeroSy, out⟩
    | some (y, _) => ⟨1, 0, left, y, out⟩
theorem finR_some {t : Th} {left : Nat} {out : List Lab} {y : Sy} {l2 : Nat} (h : obsN 400 t 20000 = some (y, l2)) : finR (.ok t left out) = ⟨1, 0, left, y, out⟩ := by
  show (match obsN 400 t 20000 with | none => (⟨2, 2, left, zeroSy, out⟩ : Fin) | some (y, _) => ⟨1, 0, left, y, out⟩) = _
  rw [h]
theorem finR_none {t : Th} {left : Nat} {out : List Lab} (h : obsN 400 t 20000 = none) : finR (.ok t left out) = ⟨2, 2, left, zeroSy, out⟩ := by
  show (match obsN 400 t 20000 with | none => (⟨2, 2, left, zeroSy, out⟩ : Fin) | some (y, _) => ⟨1, 0, left, y, out⟩) = _
  rw [h]
structure Outc where
  op : Int
  code : Int
  steps : Int
  y : Sy
  out : List Lab
def zeroO : Outc := ⟨0, 0, 0, zeroSy, []⟩
def OutI (g : G) (o : Outc) (v : Value) : Prop := ∃ na nn nc a n c oa on oc, v = .agg ⟨[.int .i64 o.op, .int .i64 o.code, .int .i64 o.steps, .int .i64 o.y.dat.op, .int .i64 o.y.dat.n, .string (bstr o.y.dat.s), .slice na nn nc, .slice a n c, .slice oa on oc]⟩ ∧ SynI g o.y na nn nc a n c ∧ SlE strE g oa on oc o.out
theorem MutR.fro {g : G} {B : Nat} {a : Option Addr} {n c : Nat} {xs : List Lab} (h : MutR g B 9 1 a n c (xs.map encStr)) : SlE strE (g.frozP (blkOf a)) a n c xs := by
  have hlen : xs.length = n := by have := h.len; simpa using this
  refine strs_sle ?_ hlen
  rcases h.row with ⟨e0, e1, e2⟩ | ⟨b, cur, e, r1, r2, r3, r4, r5, r6⟩
  · have : xs = [] := List.eq_nil_of_length_eq_zero (by omega)
    rw [e0, e1, e2, this]
    exact Sl.zero _ _
  · rw [e]
    refine ⟨by rw [List.length_map]; omega, r3, r4, fun h => (by cases h), ?_⟩
    rintro ad e3 i v hi
    cases e3
    have e4 : (Addr.add ⟨b, 0, none⟩ i).block = b := add_block _ _
    have hc : cur[i]? = some v := by
      rw [← r6, List.getElem?_take] at hi
      split at hi
      · exact hi
      · cases hi
    exact ⟨r2.rd hc, by rw [e4]; exact r2.nx, fun hh => hh.2 (by rw [e4]; exact ⟨_, rfl, rfl⟩)⟩
theorem zero_out (g : G) : OutI g zeroO (.agg ⟨[.int .i64 0, .int .i64 0, .int .i64 0, .int .i64 0, .int .i64 0, .string (bs []), .slice none 0 0, .slice none 0 0, .slice none 0 0]⟩) := ⟨none, 0, 0, none, 0, 0, none, 0, 0, rfl, ⟨SlE.zero _, SlE.zero _⟩, SlE.zero _⟩
theorem kz48 {xs ys : List Lab} {a : Option Addr} {n c : Nat} {b : Option Addr} {m d : Nat} {g : G} (hx : SlE strE g a n c xs) (hy : SlE strE g b m d ys) : CallsP Tryz.prog 48 #[.slice a n c, .slice b m d] g fun v _ => v = .bool (tf (xs = ys)) := by
  refine call48 a n c b m d g _ ?_
  have hxl := hx.len
  have hyl := hy.len
  have hcap := hx.cap
  have hnc := hx.le
  unfold maxLen at hcap
  unfold F48
  refine ifNe (fun q g1 _ => vF (fun e => by rw [e] at hxl; omega)) (fun q => ?_)
  refine ⟨fun k i g' => ∃ j : Nat, i = ((j : Nat) : Int) ∧ j + k = n ∧ xs.take j = ys.take j, ⟨n, 0, rfl, by omega, rfl⟩, ?_⟩
  rintro k i g2 le ⟨j, rfl, hj, he⟩
  refine ifLt (fun q2 g3 m3 => ⟨⟨by omega, by omega⟩, ?_⟩) (fun q2 g5 _ => ?_)
  · have gx := List.getElem?_eq_getElem (show j < xs.length by omega)
    have gy := List.getElem?_eq_getElem (show j < ys.length by omega)
    generalize xs[j] = x at gx
    generalize ys[j] = y at gy
    have es : (strEq (bstr x) (bstr y) = true) = (x = y) := by rw [strEq_true, bstr_inj]
    refine rdS ((hx.mono le).exm m3) j rfl gx ⟨⟨by omega, by omega⟩, rdS ((hy.mono le).exm m3) j rfl gy (ifF (fun e g4 _ => vF (fun h => ?_)) (fun e => ⟨i64 (by omega) (by omega), k - 1, by omega, j + 1, by omega, by omega, take_eq_succ gx gy he (by rw [← es]; exact e)⟩))⟩
    rw [h, gy] at gx
    cases gx
    rw [es.mpr rfl] at e
    cases e
  · rw [List.take_of_length_le (by omega), List.take_of_length_le (by omega)] at he
    rw [tf_of he]
theorem kz47 (t : Sy) : ∀ {u : Sy} {na : Option Addr} {nn nc : Nat} {a : Option Addr} {n c : Nat} {ma : Option Addr} {mn mc : Nat} {b : Option Addr} {m d : Nat} {g : G}, SynI g t na nn nc a n c → SynI g u ma mn mc b m d →
    CallsP Tryz.prog 47 #[synV t na nn nc a n c, synV u ma mn mc b m d] g fun v _ => v = .bool (tf (t = u)) := by
  induction t using Tr.ind with
  | h dt l ih =>
    intro u na nn nc a n c ma mn mc b m d g ht hu
    obtain ⟨du, l2⟩ := u
    refine call47 _ _ _ _ _ _ _ _ _ _ _ _ _ _ _ _ _ _ g _ ?_
    have hN : SlE strE g na nn nc dt.names := ht.names
    have hM : SlE strE g ma mn mc du.names := hu.names
    have hK : SlE synE g a n c l := ht.kids
    have hQ : SlE synE g b m d l2 := hu.kids
    have hNl := hN.len
    have hMl := hM.len
    have hKl := hK.len
    have hQl := hQ.len
    have hcap := hK.cap
    have hcap2 := hN.cap
    have hle := hK.le
    have hle2 := hN.le
    unfold maxLen at hcap hcap2
    unfold F47
    intro J hJ
    refine ifNe (fun q g10 _ => vF (fun e => q (by cases e; rfl))) (fun q1 => ifNe (fun q g11 _ => vF (fun e => q (by cases e; rfl))) (fun q2 => ?_))
    have es : (strEq (bstr dt.s) (bstr du.s) = true) = (dt.s = du.s) := by rw [strEq_true, bstr_inj]
    refine ifF (fun e g12 _ => vF (fun h => ?_)) (fun e3 => ifNe (fun q g13 _ => vF (fun e => ?_)) (fun q4 => ifNe (fun q g14 _ => vF (fun e => ?_)) (fun q5 g15 m15 => hJ g15 ?_)))
    · cases h
      have e' : strEq (bstr dt.s) (bstr dt.s) = false := e
      rw [es.mpr rfl] at e'
      cases e'
    · cases e; omega
    · cases e; omega
    clear hJ
    have q3 : dt.s = du.s := by rw [← es]; exact e3
    refine ⟨fun k i g' => ∃ j : Nat, i = ((j : Nat) : Int) ∧ j + k = nn ∧ dt.names.take j = du.names.take j, ⟨nn, 0, rfl, by omega, rfl⟩, ?_⟩
    rintro k i g2 le ⟨j, rfl, hj, he⟩
    have hN2 := (hN.exm m15).mono le
    have hM2 := (hM.exm m15).mono le
    refine ifLt (fun qq g3 m3 => ⟨⟨by omega, by omega⟩, ?_⟩) (fun qq => ?_)
    · have gx := List.getElem?_eq_getElem (show j < dt.names.length by omega)
      have gy := List.getElem?_eq_getElem (show j < du.names.length by omega)
      generalize dt.names[j] = x at gx
      generalize du.names[j] = y at gy
      have ex : (strEq (bstr x) (bstr y) = true) = (x = y) := by rw [strEq_true, bstr_inj]
      refine rdS (hN2.exm m3) j rfl gx ⟨⟨by omega, by omega⟩, rdS (hM2.exm m3) j rfl gy (ifF (fun e g4 _ => vF (fun h => ?_)) (fun e => ⟨i64 (by omega) (by omega), k - 1, by omega, j + 1, by omega, by omega, take_eq_succ gx gy he (by rw [← ex]; exact e)⟩))⟩
      cases h
      rw [gy] at gx
      cases gx
      rw [ex.mpr rfl] at e
      cases e
    · rw [List.take_of_length_le (by omega), List.take_of_length_le (by omega)] at he
      refine ⟨fun k i g' => ∃ j : Nat, i = ((j : Nat) : Int) ∧ j + k = n ∧ l.take j = l2.take j, ⟨n, 0, rfl, by omega, rfl⟩, ?_⟩
      rintro k2 i2 g5 le5 ⟨j2, rfl, hj2, he2⟩
      have hK5 := ((hK.exm m15).mono le).mono le5
      have hQ5 := ((hQ.exm m15).mono le).mono le5
      refine ifLt (fun qq2 g6 m6 => ⟨⟨by omega, by omega⟩, ?_⟩) (fun qq2 g9 _ => ?_)
      · have gx := List.getElem?_eq_getElem (show j2 < l.length by omega)
        have gy := List.getElem?_eq_getElem (show j2 < l2.length by omega)
        generalize l[j2] = x at gx
        generalize l2[j2] = y at gy
        refine rdT (hK5.exm m6) j2 rfl gx (fun xa xn xc ka kn kc hx => ⟨⟨by omega, by omega⟩, rdT (hQ5.exm m6) j2 rfl gy (fun ya yn yc pa pn pc hy => (ih x (List.mem_of_getElem? gx) hx hy).mono ?_)⟩)
        rintro v g7 _ rfl
        refine ⟨_, rfl, ifPn (fun e g8 _ => vF (fun h => e ?_)) (fun e => ⟨i64 (by omega) (by omega), k2 - 1, by omega, j2 + 1, by omega, by omega, take_eq_succ gx gy he2 e⟩)⟩
        cases h
        rw [gy] at gx
        cases gx
        rfl
      · rw [List.take_of_length_le (by omega), List.take_of_length_le (by omega)] at he2
        rw [tf_of]
        obtain ⟨p1, p2, p3, p4⟩ := dt
        obtain ⟨r1, r2, r3, r4⟩ := du
        have h1 : p1 = r1 := q1
        have h2 : p2 = r2 := q2
        have h3 : p3 = r3 := q3
        have h4 : p4 = r4 := he
        rw [h1, h2, h3, h4, he2]
def sameEndP (o p : Outc) : Prop := o.op = p.op ∧ o.code = p.code ∧ o.y = p.y ∧ o.out = p.out
theorem kz20 {o p : Outc} {v w : Value} {g : G} (ho : OutI g o v) (hp : OutI g p w) : CallsP Tryz.prog 20 #[v, w] g fun x _ => x = .bool (tf (sameEndP o p)) := by
  obtain ⟨na, nn, nc, a, n, c, oa, on, oc, rfl, hy, hO⟩ := ho
  obtain ⟨ma, mn, mc, b, m, d, pa, pn, pc, rfl, hz, hP⟩ := hp
  refine call20 _ _ _ _ _ _ _ _ _ _ _ _ _ _ _ _ _ _ _ _ _ _ _ _ _ _ _ _ _ _ g _ ?_
  unfold F20
  refine ifEq (fun e1 => ifEq (fun e2 g1 m1 => (kz47 o.y (hy.exm m1) (hz.exm m1)).mono ?_) (fun e2 g6 _ => vF (fun h => e2 h.2.1))) (fun e1 g7 _ => vF (fun h => e1 h.1))
  rintro x g2 m2 rfl
  refine ⟨_, rfl, ifP (fun e3 => (kz48 ((hO.exm m1).exm m2) ((hP.exm m1).exm m2)).mono ?_) (fun e3 g5 _ => vF (fun h => e3 h.2.2.1))⟩
  rintro x g3 _ rfl
  exact ⟨_, rfl, fun g4 _ => vP ⟨fun h => ⟨e1, e2, e3, h⟩, fun h => h.2.2.2⟩⟩
theorem OutI.exm {g g1 : G} (m1 : Ex g g1) {q : Outc} {u : Value} : OutI g q u → OutI g1 q u := fun ⟨na, nn, nc, a, n, c, oa, on, oc, h1, h2, h3⟩ => ⟨na, nn, nc, a, n, c, oa, on, oc, h1, h2.exm m1, h3.exm m1⟩
end Go.Proofs.YthlcdgpemjdgnaaGreatDoor
/- Lists of texts compared; prefix. -/
set_option linter.unusedVariables false
namespace Go.Proofs.YthlcdgpemjdgnaaGreatDoor
open Go Go.Vc Go.RowKit Go.Syn Go.Lam Go.Sort
theorem k33 {xs ys : List Lab} {a : Option Addr} {n c : Nat} {b : Option Addr} {m d : Nat} {g : G} (hx : SlE strE g a n c xs) (hy : SlE strE g b m d ys) : CallsP Tryz.prog 33 #[.slice a n c, .slice b m d] g fun v _ => v = .bool (tf (xs = ys)) := by
  refine call33 a n c b m d g _ ?_
  have hxl := hx.len
  have hyl := hy.len
  have hcap := hx.cap
  have hnc := hx.le
  unfold maxLen at hcap
  unfold F33
  refine ifNe (fun q g1 _ => vF (fun e => by rw [e] at hxl; omega)) (fun q => ?_)
  refine ⟨fun k i g' => ∃ j : Nat, i = ((j : Nat) : Int) ∧ j + k = n ∧ xs.take j = ys.take j, ⟨n, 0, rfl, by omega, rfl⟩, ?_⟩
  rintro k i g2 le ⟨j, rfl, hj, he⟩
  refine ifLt (fun q2 g3 m3 => ⟨⟨by omega, by omega⟩, ?_⟩) (fun q2 g5 _ => ?_)
  · have gx := List.getElem?_eq_getElem (show j < xs.length by omega)
    have gy := List.getElem?_eq_getElem (show j < ys.length by omega)
    generalize xs[j] = x at gx
    generalize ys[j] = y at gy
    have es : (strEq (bstr x) (bstr y) = true) = (x = y) := by rw [strEq_true, bstr_inj]
    refine rdS ((hx.mono le).exm m3) j rfl gx ⟨⟨by omega, by omega⟩, rdS ((hy.mono le).exm m3) j rfl gy (ifF (fun e g4 _ => vF (fun h => ?_)) (fun e => ⟨i64 (by omega) (by omega), k - 1, by omega, j + 1, by omega, by omega, take_eq_succ gx gy he (by rw [← es]; exact e)⟩))⟩
    rw [h, gy] at gx
    cases gx
    rw [es.mpr rfl] at e
    cases e
  · rw [List.take_of_length_le (by omega), List.take_of_length_le (by omega)] at he
    rw [tf_of he]
theorem k13 {xs ys : List Lab} {a : Option Addr} {n c : Nat} {b : Option Addr} {m d : Nat} {g : G} (hx : SlE strE g a n c xs) (hy : SlE strE g b m d ys) : CallsP Tryz.prog 13 #[.slice a n c, .slice b m d] g fun v _ => v = .bool (tf (xs <+: ys)) := by
  refine call13 a n c b m d g _ ?_
  have hxl := hx.len
  have hyl := hy.len
  have hle := hy.le
  unfold F13
  refine ifLe (fun q => ⟨⟨by omega, by omega⟩, ?_⟩) (fun q g3 _ => vF (fun h => by have := h.length_le; omega))
  have ht : SlE strE g (slAddr b d 0 1) ((Int.toNat ((n : Nat) : Int)) - 0) (d - 0) (ys.take n) := hy.take (hi := n) (by omega)
  refine (k33 hx ht).mono ?_
  rintro v g1 _ rfl
  refine ⟨_, rfl, fun g2 _ => vP ?_⟩
  rw [List.prefix_iff_eq_take, hxl]
end Go.Proofs.YthlcdgpemjdgnaaGreatDoor
