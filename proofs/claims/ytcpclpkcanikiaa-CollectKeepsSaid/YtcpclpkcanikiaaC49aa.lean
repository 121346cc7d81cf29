/- The heap: blocks follow each other; what is put is valid, and is found again (no program in sight). -/
import Derived.Test.YtcpclpkcanikiaaC49U
set_option linter.unusedVariables false
namespace Go.Proofs.Ytcpclpkcanikiaa
open Go Go.Vc Go.RowKit

/-- From p on stand the blocks at L, and nothing else. -/
inductive Blks (l : List Wd) : Nat → List Int → Prop
  | nil : Blks l l.length []
  | cons {p : Nat} {L : List Int} : hdrP l p → Blks l (stepN l p) L → Blks l p (((p : Nat) : Int) :: L)
theorem hdr_lt {l : List Wd} {p : Nat} (h : hdrP l p) : p < l.length ∧ p < stepN l p ∧ stepN l p ≤ l.length := by
  have h1 := h.1
  have h6 := h.2.2.2.2.2.1
  unfold stepN
  omega
theorem Blks.le {l : List Wd} {p : Nat} {L : List Int} (h : Blks l p L) : p ≤ l.length := by
  induction h with
  | nil => exact Nat.le_refl _
  | cons h1 _ _ => exact Nat.le_of_lt (hdr_lt h1).1
theorem blks_stsF (l : List Wd) : ∀ (f p : Nat) (L : List Int), l.length ≤ p + f → p ≤ l.length → (stsF l f p = some L ↔ Blks l p L) := by
  intro f
  induction f with
  | zero =>
    intro p L h1 h2
    have e : p = l.length := by omega
    subst e
    constructor
    · intro h; cases h; exact .nil
    · intro h
      cases h with
      | nil => rfl
      | cons h1 _ => have := (hdr_lt h1).1; omega
  | succ f ih =>
    intro p L h1 h2
    by_cases hp : l.length ≤ p
    · have e : p = l.length := by omega
      subst e
      rw [stsF_end hp]
      constructor
      · intro h; cases h; exact .nil
      · intro h
        cases h with
        | nil => rfl
        | cons h1 _ => have := (hdr_lt h1).1; omega
    by_cases hh : hdrP l p
    · have hl := hdr_lt hh
      rw [stsF_yes (by omega) hh]
      constructor
      · intro h
        cases hr : stsF l f (stepN l p) with
        | none => rw [hr] at h; cases h
        | some R =>
          rw [hr] at h
          cases h
          exact .cons hh ((ih _ _ (by omega) (by omega)).1 hr)
      · intro h
        cases h with
        | nil => omega
        | cons _ h2 => rw [(ih _ _ (by omega) (by omega)).2 h2]; rfl
    · rw [stsF_no (by omega) hh]
      constructor
      · intro h; cases h
      · intro h
        cases h with
        | nil => omega
        | cons h1 _ => exact absurd h1 hh
theorem sts_iff {l : List Wd} {L : List Int} : sts l = some L ↔ Blks l 0 L := blks_stsF l _ _ _ (by omega) (by omega)

theorem getD_append {l e : List Wd} {p : Nat} (h : p < l.length) : (l ++ e).getD p zW = l.getD p zW := by
  simp [List.getD_eq_getElem?_getD, List.getElem?_append_left h]
theorem take_append {l e : List Wd} {p n : Nat} (h : p + n ≤ l.length) : ((l ++ e).drop p).take n = (l.drop p).take n := by
  rw [List.drop_append_of_le_length (by omega), List.take_append_of_le_length (by rw [List.length_drop]; omega)]
theorem hdrP_append {l : List Wd} (e : List Wd) {p : Nat} (h : hdrP l p) : hdrP (l ++ e) p ∧ stepN (l ++ e) p = stepN l p ∧ contW (l ++ e) p = contW l p ∧ (l ++ e).getD p zW = l.getD p zW ∧ (l ++ e).getD (p + 1) zW = l.getD (p + 1) zW ∧ (l ++ e).getD (p + 2) zW = l.getD (p + 2) zW := by
  obtain ⟨h1, h2, h3, h4, h5, h6, h7⟩ := h
  have e0 := getD_append (l := l) (e := e) (p := p) (by omega)
  have e1 := getD_append (l := l) (e := e) (p := p + 1) (by omega)
  have e2 := getD_append (l := l) (e := e) (p := p + 2) (by omega)
  have et := take_append (l := l) (e := e) (p := p + 3) (n := (l.getD (p + 2) zW).2.toNat) (by omega)
  refine ⟨?_, ?_, ?_, e0, e1, e2⟩
  · unfold hdrP
    rw [e0, e1, e2, et, List.length_append]
    exact ⟨by omega, h2, h3, h4, h5, by omega, h7⟩
  · unfold stepN; rw [e2]
  · unfold contW; rw [e2, et]
theorem Blks.append {l e : List Wd} {p : Nat} {L L' : List Int} (h : Blks l p L) (k : Blks (l ++ e) l.length L') : Blks (l ++ e) p (L ++ L') := by
  induction h with
  | nil => exact k
  | @cons p L h1 h2 ih =>
    obtain ⟨q1, q2, _⟩ := hdrP_append e h1
    refine .cons q1 ?_
    rw [q2]
    exact ih
/-- A new block. -/
theorem new_hdr (l : List Wd) {kind n : Int} {x : List Wd} (h : rightP kind n x) : hdrP (l ++ blkW kind n x) l.length ∧ stepN (l ++ blkW kind n x) l.length = (l ++ blkW kind n x).length ∧ contW (l ++ blkW kind n x) l.length = x ∧ ((l ++ blkW kind n x).getD l.length zW).2 = kind ∧ ((l ++ blkW kind n x).getD (l.length + 1) zW).2 = n := by
  have e0 : (l ++ blkW kind n x).getD l.length zW = (false, kind) := by simp [List.getD_eq_getElem?_getD, blkW]
  have e1 : (l ++ blkW kind n x).getD (l.length + 1) zW = (false, n) := by
    rw [List.getD_eq_getElem?_getD, List.getElem?_append_right (by omega)]
    simp [blkW]
  have e2 : (l ++ blkW kind n x).getD (l.length + 2) zW = (false, ((x.length : Nat) : Int)) := by
    rw [List.getD_eq_getElem?_getD, List.getElem?_append_right (by omega)]
    simp [blkW]
  have ed : (l ++ blkW kind n x).drop (l.length + 3) = x := by
    rw [List.drop_append]
    simp [blkW]
  have hlen : (l ++ blkW kind n x).length = l.length + (x.length + 3) := by rw [List.length_append, blkW_len]
  have et : ((l ++ blkW kind n x).drop (l.length + 3)).take x.length = x := by rw [ed, List.take_length]
  refine ⟨?_, ?_, ?_, by rw [e0], by rw [e1]⟩
  · unfold hdrP
    rw [e0, e1, e2, hlen]
    simp only [Int.toNat_natCast]
    rw [et]
    exact ⟨by omega, by simp, by simp, by simp, by omega, by omega, h⟩
  · unfold stepN; rw [e2, hlen]; simp only [Int.toNat_natCast]; omega
  · unfold contW; rw [e2]; simp only [Int.toNat_natCast]; exact et
theorem wordP_mono {L L' : List Int} (h : ∀ x ∈ L, x ∈ L') {w : Wd} (hw : wordP L w) : wordP L' w := by
  unfold wordP at hw ⊢
  split
  · rename_i h1; rw [if_pos h1] at hw; exact h _ hw
  · rename_i h1; rw [if_neg h1] at hw; exact hw
/-- The blocks of words, with right references. -/
def GoodW (l : List Wd) (L : List Int) : Prop := Blks l 0 L ∧ ∀ x ∈ L, ∀ w ∈ contW l x.toNat, wordP L w
theorem contW_at {l : List Wd} {p k : Nat} (h : hdrP l p) (hk : k < (l.getD (p + 2) zW).2.toNat) : (contW l p)[k]? = some (l.getD (p + 3 + k) zW) := by
  unfold contW
  rw [List.getElem?_take, if_pos hk, List.getElem?_drop]
  exact getW (by have := h.2.2.2.2.2.1; omega)
theorem contW_len {l : List Wd} {p : Nat} (h : hdrP l p) : (contW l p).length = (l.getD (p + 2) zW).2.toNat := by
  unfold contW
  rw [List.length_take, List.length_drop]
  have := h.2.2.2.2.2.1
  omega
theorem blkP_iff {L : List Int} {l : List Wd} {p : Nat} (h : hdrP l p) : blkP L l ((p : Nat) : Int) ↔ ∀ w ∈ contW l p, wordP L w := by
  unfold blkP
  rw [Int.toNat_natCast]
  constructor
  · intro hb w hw
    obtain ⟨k, hk⟩ := List.getElem?_of_mem hw
    have hlt := (List.getElem?_eq_some_iff.1 hk).1
    rw [contW_len h] at hlt
    rw [contW_at h hlt] at hk
    cases hk
    exact hb k hlt
  · intro hb k hk
    exact hb _ (List.mem_of_getElem? (contW_at h hk))
theorem Blks.mem {l : List Wd} {p : Nat} {L : List Int} (h : Blks l p L) : ∀ x ∈ L, ∃ q : Nat, x = ((q : Nat) : Int) ∧ p ≤ q ∧ hdrP l q := by
  induction h with
  | nil => intro x hx; cases hx
  | @cons p L h1 h2 ih =>
    intro x hx
    rcases List.mem_cons.1 hx with rfl | hx
    · exact ⟨p, rfl, Nat.le_refl _, h1⟩
    · obtain ⟨q, q1, q2, q3⟩ := ih x hx
      have := (hdr_lt h1).2.1
      exact ⟨q, q1, by omega, q3⟩
theorem valid_iff {l : List Wd} {fr lim : Int} : validP l fr lim ↔ 0 ≤ lim ∧ lim ≤ 65536 ∧ fr = ((l.length : Nat) : Int) ∧ fr ≤ lim ∧ ∃ L, GoodW l L := by
  unfold validP GoodW
  have key : ∀ L, (sts l = some L ∧ ∀ x ∈ L, blkP L l x) ↔ (Blks l 0 L ∧ ∀ x ∈ L, ∀ w ∈ contW l x.toNat, wordP L w) := by
    intro L
    rw [sts_iff]
    constructor
    · rintro ⟨h1, h2⟩
      refine ⟨h1, fun x hx => ?_⟩
      obtain ⟨q, rfl, _, hq⟩ := h1.mem x hx
      exact (blkP_iff hq).1 (h2 _ hx)
    · rintro ⟨h1, h2⟩
      refine ⟨h1, fun x hx => ?_⟩
      obtain ⟨q, rfl, _, hq⟩ := h1.mem x hx
      exact (blkP_iff hq).2 (h2 _ hx)
  constructor
  · rintro ⟨a, b, c, d, L, h⟩; exact ⟨a, b, c, d, L, (key L).1 h⟩
  · rintro ⟨a, b, c, d, L, h⟩; exact ⟨a, b, c, d, L, (key L).2 h⟩
/-- One more right block. -/
theorem GoodW.add {l : List Wd} {L : List Int} (h : GoodW l L) {kind n : Int} {x : List Wd} (hr : rightP kind n x) (hw : ∀ w ∈ x, wordP L w) : GoodW (l ++ blkW kind n x) (L ++ [((l.length : Nat) : Int)]) := by
  obtain ⟨q1, q2, q3, _⟩ := new_hdr l hr
  have hb : Blks (l ++ blkW kind n x) l.length [((l.length : Nat) : Int)] := by
    refine .cons q1 ?_
    rw [q2]
    exact .nil
  have sub : ∀ y ∈ L, y ∈ L ++ [((l.length : Nat) : Int)] := fun y hy => List.mem_append_left _ hy
  refine ⟨h.1.append hb, fun y hy w hwy => ?_⟩
  rcases List.mem_append.1 hy with hy | hy
  · obtain ⟨q, rfl, _, hq⟩ := h.1.mem y hy
    rw [Int.toNat_natCast, (hdrP_append _ hq).2.2.1] at hwy
    exact wordP_mono sub (h.2 _ hy w (by rw [Int.toNat_natCast]; exact hwy))
  · cases List.mem_singleton.1 hy
    rw [Int.toNat_natCast, q3] at hwy
    exact wordP_mono sub (hw w hwy)

mutual
/-- A word reads as a value. -/
def RdV (l : List Wd) (L : List Int) : Wd → Val → Prop
  | w, .mk op n s names vs => names = [] ∧ (op = 1 ∧ w = (false, n) ∧ s = [] ∧ vs = [] ∨ ∃ q : Nat, w = (true, ((q : Nat) : Int)) ∧ ((q : Nat) : Int) ∈ L ∧ hdrP l q ∧
    (op = 2 ∧ n = 0 ∧ vs = [] ∧ (l.getD q zW).2 = 4 ∧ textW (contW l q) = s ∨ op = 3 ∧ n = 0 ∧ s = [] ∧ (l.getD q zW).2 = 1 ∧ RdL l L (contW l q) vs ∨ op = 4 ∧ s = [] ∧ (l.getD q zW).2 = 2 ∧ (l.getD (q + 1) zW).2 = n ∧ RdL l L (contW l q) vs))
def RdL (l : List Wd) (L : List Int) : List Wd → List Val → Prop
  | ws, [] => ws = []
  | ws, v :: vs => ∃ w r, ws = w :: r ∧ RdV l L w v ∧ RdL l L r vs
end
theorem RdV_eq (l : List Wd) (L : List Int) (w : Wd) (v : Val) : RdV l L w v ↔ v.names = [] ∧ (v.op = 1 ∧ w = (false, v.n) ∧ v.s = [] ∧ v.l = [] ∨ ∃ q : Nat, w = (true, ((q : Nat) : Int)) ∧ ((q : Nat) : Int) ∈ L ∧ hdrP l q ∧
    (v.op = 2 ∧ v.n = 0 ∧ v.l = [] ∧ (l.getD q zW).2 = 4 ∧ textW (contW l q) = v.s ∨ v.op = 3 ∧ v.n = 0 ∧ v.s = [] ∧ (l.getD q zW).2 = 1 ∧ RdL l L (contW l q) v.l ∨ v.op = 4 ∧ v.s = [] ∧ (l.getD q zW).2 = 2 ∧ (l.getD (q + 1) zW).2 = v.n ∧ RdL l L (contW l q) v.l)) := by cases v; rw [RdV]; rfl
theorem RdL_snoc {l : List Wd} {L : List Int} : ∀ {ws : List Wd} {vs : List Val} {w : Wd} {v : Val}, RdL l L ws vs → RdV l L w v → RdL l L (ws ++ [w]) (vs ++ [v])
  | ws, [], w, v, h, hv => by
    rw [RdL] at h
    subst h
    show RdL l L [w] [v]
    rw [RdL]
    exact ⟨w, [], rfl, hv, by rw [RdL]⟩
  | ws, x :: vs, w, v, h, hv => by
    rw [RdL] at h
    obtain ⟨y, r, rfl, h1, h2⟩ := h
    show RdL l L (y :: (r ++ [w])) (x :: (vs ++ [v]))
    rw [RdL]
    exact ⟨y, r ++ [w], rfl, h1, RdL_snoc h2 hv⟩
theorem RdL_len {l : List Wd} {L : List Int} : ∀ {ws : List Wd} {vs : List Val}, RdL l L ws vs → ws.length = vs.length
  | ws, [], h => by rw [RdL] at h; subst h; rfl
  | ws, x :: vs, h => by
    rw [RdL] at h
    obtain ⟨y, r, rfl, _, h2⟩ := h
    simp [RdL_len h2]
theorem Rd_mono (l e : List Wd) (L L' : List Int) : ∀ (k : Nat), (∀ (v : Val) (w : Wd), szV v ≤ k → RdV l L w v → RdV (l ++ e) (L ++ L') w v) ∧ (∀ (vs : List Val) (ws : List Wd), szL vs ≤ k → RdL l L ws vs → RdL (l ++ e) (L ++ L') ws vs) := by
  intro k
  induction k with
  | zero =>
    refine ⟨fun v w h => by rw [szV_eq] at h; omega, fun vs ws h hr => ?_⟩
    cases vs with
    | nil => rw [RdL] at hr ⊢; exact hr
    | cons x r => simp only [szL, szV_eq] at h; omega
  | succ k ih =>
    have one : ∀ (v : Val) (w : Wd), szV v ≤ k + 1 → RdV l L w v → RdV (l ++ e) (L ++ L') w v := by
      intro v w h hr
      rw [szV_eq] at h
      rw [RdV_eq] at hr ⊢
      refine ⟨hr.1, ?_⟩
      rcases hr.2 with hr | ⟨q, h1, h2, h3, hr⟩
      · exact .inl hr
      · obtain ⟨q1, _, q3, q4, q5, _⟩ := hdrP_append e h3
        refine .inr ⟨q, h1, List.mem_append_left _ h2, q1, ?_⟩
        rw [q3, q4, q5]
        rcases hr with hr | ⟨a1, a2, a3, a4, a5⟩ | ⟨a1, a2, a3, a4, a5⟩
        · exact .inl hr
        · exact .inr (.inl ⟨a1, a2, a3, a4, ih.2 _ _ (by omega) a5⟩)
        · exact .inr (.inr ⟨a1, a2, a3, a4, ih.2 _ _ (by omega) a5⟩)
    refine ⟨one, ?_⟩
    intro vs
    induction vs with
    | nil => intro ws _ hr; rw [RdL] at hr ⊢; exact hr
    | cons x r ih2 =>
      intro ws h hr
      rw [RdL] at hr ⊢
      simp only [szL] at h
      obtain ⟨y, r', rfl, h1, h2⟩ := hr
      exact ⟨y, r', rfl, one _ _ (by omega) h1, ih2 _ (by omega) h2⟩
theorem RdV.mono {l : List Wd} {L : List Int} {w : Wd} {v : Val} (h : RdV l L w v) (e : List Wd) (L' : List Int) : RdV (l ++ e) (L ++ L') w v := (Rd_mono l e L L' (szV v)).1 v w (Nat.le_refl _) h
theorem RdL.mono {l : List Wd} {L : List Int} {ws : List Wd} {vs : List Val} (h : RdL l L ws vs) (e : List Wd) (L' : List Int) : RdL (l ++ e) (L ++ L') ws vs := (Rd_mono l e L L' (szL vs)).2 vs ws (Nat.le_refl _) h

theorem byteX_byte (b : UInt8) : byteX ((b.toNat : Nat) : Int) = b := by
  unfold byteX
  have := b.toNat_lt
  rw [show ((b.toNat : Nat) : Int) % 256 = ((b.toNat : Nat) : Int) by omega, Int.toNat_natCast]
  exact UInt8.ofNat_toNat
theorem textW_bytes (s : List UInt8) : textW (bytesW s) = s := by
  unfold textW bytesW
  rw [List.map_map]
  refine (List.map_congr_left (g := id) fun b _ => byteX_byte b).trans (by simp)
theorem bytes_right (s : List UInt8) (h : s.length ≤ 16384) : rightP 4 ((s.length : Nat) : Int) (bytesW s) := by
  refine .inr (.inr (.inr ⟨rfl, by rw [bytesW_len], by rw [bytesW_len]; exact h, ?_⟩))
  intro w hw
  unfold bytesW at hw
  obtain ⟨b, _, rfl⟩ := List.mem_map.1 hw
  have := b.toNat_lt
  exact ⟨rfl, by simp, by simp; omega⟩
theorem bytes_word (L : List Int) (s : List UInt8) : ∀ w ∈ bytesW s, wordP L w := by
  intro w hw
  unfold bytesW at hw
  obtain ⟨b, _, rfl⟩ := List.mem_map.1 hw
  have := b.toNat_lt
  unfold wordP plainP
  simp
  omega
/-- What a put of data brings about. -/
structure PutOk (lim : Int) (l : List Wd) (L : List Int) (v : Val) (l' : List Wd) (w : Wd) : Prop where
  ok : ∃ e L', l' = l ++ e ∧ GoodW l' (L ++ L') ∧ RdV l' (L ++ L') w v ∧ wordP (L ++ L') w
theorem addF_some {lim : Int} {l : List Wd} {kind n : Int} {x : List Wd} {l' : List Wd} {w : Wd} (h : addF lim l kind n x = some (l', w)) : l' = l ++ blkW kind n x ∧ w = (true, ((l.length : Nat) : Int)) ∧ ((l'.length : Nat) : Int) ≤ lim := by
  unfold addF at h
  split at h
  · cases h
  · cases h
    refine ⟨rfl, rfl, ?_⟩
    rw [List.length_append, blkW_len]
    omega
theorem put_ok (lim : Int) : ∀ (k : Nat), (∀ (v : Val) (l : List Wd) (L : List Int) (l' : List Wd) (w : Wd), szV v ≤ k → dataV v → GoodW l L → putV lim l v = some (l', w) → PutOk lim l L v l' w) ∧
    (∀ (vs : List Val) (l : List Wd) (L : List Int) (acc : List Wd) (done : List Val) (l' ws : List Wd), szL vs ≤ k → dataL vs → GoodW l L → RdL l L acc done → (∀ w ∈ acc, wordP L w) → putL lim l acc vs = some (l', ws) → ∃ e L', l' = l ++ e ∧ GoodW l' (L ++ L') ∧ RdL l' (L ++ L') ws (done ++ vs) ∧ ∀ w ∈ ws, wordP (L ++ L') w) := by
  intro k
  induction k with
  | zero =>
    refine ⟨fun v l L l' w h => by rw [szV_eq] at h; omega, fun vs l L acc done l' ws h hd hg hr hw hp => ?_⟩
    cases vs with
    | nil =>
      rw [putL] at hp
      cases hp
      exact ⟨[], [], by simp, by simpa using hg, by simpa using hr, by simpa using hw⟩
    | cons x r => simp only [szL, szV_eq] at h; omega
  | succ k ih =>
    have one : ∀ (v : Val) (l : List Wd) (L : List Int) (l' : List Wd) (w : Wd), szV v ≤ k + 1 → dataV v → GoodW l L → putV lim l v = some (l', w) → PutOk lim l L v l' w := by
      intro v l L l' w h hd hg hp
      rw [szV_eq] at h
      rw [putV_eq] at hp
      have hdd := (dataV_eq v).1 hd
      by_cases e1 : v.op = 1
      · rw [if_pos e1] at hp
        cases hp
        rcases hdd.2 with ⟨_, a1, a2, a3⟩ | ⟨a1, _⟩ | ⟨a1, _⟩ | ⟨a1, _⟩
        · refine ⟨[], [], by simp, by simpa using hg, ?_, ?_⟩
          · rw [RdV_eq]; exact ⟨hdd.1, .inl ⟨e1, rfl, a1, a3⟩⟩
          · unfold wordP; simpa using a2
        · omega
        · omega
        · omega
      rw [if_neg e1] at hp
      by_cases e2 : v.op = 2
      · rw [if_pos e2] at hp
        obtain ⟨rfl, rfl, _⟩ := addF_some hp
        rcases hdd.2 with ⟨a1, _⟩ | ⟨_, a1, a2, a3⟩ | ⟨a1, _⟩ | ⟨a1, _⟩
        · omega
        · have hr := bytes_right v.s a2
          obtain ⟨q1, _, q3, q4, _⟩ := new_hdr l hr
          refine ⟨blkW 4 _ (bytesW v.s), [((l.length : Nat) : Int)], rfl, hg.add hr (bytes_word L v.s), ?_, ?_⟩
          · rw [RdV_eq]
            exact ⟨hdd.1, .inr ⟨l.length, rfl, by simp, q1, .inl ⟨e2, a1, a3, q4, by rw [q3, textW_bytes]⟩⟩⟩
          · unfold wordP; simp
        · omega
        · omega
      rw [if_neg e2] at hp
      cases hr : putL lim l [] v.l with
      | none => rw [hr] at hp; cases hp
      | some p =>
        obtain ⟨l1, ws⟩ := p
        rw [hr] at hp
        simp only at hp
        have hdl : dataL v.l := by
          rcases hdd.2 with ⟨a1, _⟩ | ⟨a1, _⟩ | ⟨_, _, _, _, a⟩ | ⟨_, _, _, _, _, a⟩
          · exact absurd a1 e1
          · exact absurd a1 e2
          · exact a
          · exact a
        obtain ⟨e, L', rfl, hg1, hrd, hww⟩ := ih.2 v.l l L [] [] l1 ws (by omega) hdl hg (by rw [RdL]) (by simp) hr
        have hwl := RdL_len hrd
        rw [List.nil_append] at hrd hwl
        have fin : ∀ kind n, rightP kind n ws → addF lim (l ++ e) kind n ws = some (l', w) → (kind = 1 ∧ v.op = 3 ∧ v.n = 0 ∧ v.s = [] ∨ kind = 2 ∧ v.op = 4 ∧ n = v.n ∧ v.s = []) → PutOk lim l L v l' w := by
          intro kind n hright ha hk
          obtain ⟨rfl, rfl, _⟩ := addF_some ha
          obtain ⟨q1, _, q3, q4, q5⟩ := new_hdr (l ++ e) hright
          refine ⟨e ++ blkW kind n ws, L' ++ [(((l ++ e).length : Nat) : Int)], by simp, ?_, ?_, ?_⟩
          · rw [← List.append_assoc]; exact hg1.add hright hww
          · rw [← List.append_assoc, RdV_eq]
            have hrd2 := hrd.mono (blkW kind n ws) [(((l ++ e).length : Nat) : Int)]
            refine ⟨hdd.1, .inr ⟨(l ++ e).length, rfl, by simp, q1, ?_⟩⟩
            rw [q3, q4, q5]
            rcases hk with ⟨b1, b2, b3, b4⟩ | ⟨b1, b2, b3, b4⟩
            · exact .inr (.inl ⟨b2, b3, b4, b1, hrd2⟩)
            · exact .inr (.inr ⟨b2, b4, b1, b3, hrd2⟩)
          · unfold wordP; simp
        by_cases e4 : v.op = 4
        · rw [if_pos e4] at hp
          rcases hdd.2 with ⟨a1, _⟩ | ⟨a1, _⟩ | ⟨a1, _⟩ | ⟨_, a1, a2, a3, a4, _⟩
          · omega
          · omega
          · omega
          · exact fin 2 v.n (.inr (.inl ⟨rfl, a2, a3, by omega⟩)) hp (.inr ⟨rfl, e4, rfl, a1⟩)
        · rw [if_neg e4] at hp
          rcases hdd.2 with ⟨a1, _⟩ | ⟨a1, _⟩ | ⟨a0, a1, a2, a3, _⟩ | ⟨a1, _⟩
          · omega
          · omega
          · exact fin 1 0 (.inl ⟨rfl, rfl, by omega⟩) hp (.inl ⟨rfl, a0, a2, a1⟩)
          · omega
    refine ⟨one, ?_⟩
    intro vs
    induction vs with
    | nil =>
      intro l L acc done l' ws h hd hg hr hw hp
      rw [putL] at hp
      cases hp
      exact ⟨[], [], by simp, by simpa using hg, by simpa using hr, by simpa using hw⟩
    | cons x r ih2 =>
      intro l L acc done l' ws h hd hg hr hw hp
      simp only [szL] at h
      rw [putL] at hp
      cases hx : putV lim l x with
      | none => rw [hx] at hp; cases hp
      | some p =>
        obtain ⟨l1, w1⟩ := p
        rw [hx] at hp
        simp only at hp
        simp only [dataL] at hd
        obtain ⟨e, L1, rfl, hg1, hr1, hw1⟩ := one x l L l1 w1 (by omega) hd.1 hg hx
        obtain ⟨e2, L2, rfl, hg2, hr2, hw2⟩ := ih2 (l ++ e) (L ++ L1) (acc ++ [w1]) (done ++ [x]) l' ws (by omega) hd.2 hg1 (RdL_snoc (hr.mono e L1) hr1) (by
          intro w hm
          rcases List.mem_append.1 hm with hm | hm
          · exact wordP_mono (fun y hy => List.mem_append_left _ hy) (hw w hm)
          · cases List.mem_singleton.1 hm; exact hw1) hp
        refine ⟨e ++ e2, L1 ++ L2, by simp, ?_, ?_, ?_⟩
        · rw [← List.append_assoc]; exact hg2
        · rw [← List.append_assoc]; simpa using hr2
        · rw [← List.append_assoc]; exact hw2
end Go.Proofs.Ytcpclpkcanikiaa
