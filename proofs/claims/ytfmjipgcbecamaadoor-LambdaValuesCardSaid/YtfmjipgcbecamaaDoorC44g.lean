/- whole. -/
import Derived.Test.YtfmjipgcbecamaaDoorC44f
set_option linter.unusedVariables false
namespace Go.Proofs.YtfmjipgcbecamaaDoor
open Go Go.Vc Go.RowKit Go.Syn Go.Lam Go.Sort

def zeroSy : Sy := .mk ⟨0, 0, [], []⟩ []
/-- The outcome of an evaluation, with its observation. -/
structure Fin where
  op : Int
  code : Int
  left : Nat
  y : Sy
  out : List Lab
def finR (r : Res Th) : Fin := match r with
  | .stop op code left out => ⟨op, code, left, zeroSy, out⟩
  | .ok t left out => match obsN 400 t 20000 with
    | none => ⟨2, 2, left, zeroSy, out⟩
    | some (y, _) => ⟨1, 0, left, y, out⟩
theorem finR_some {t : Th} {left : Nat} {out : List Lab} {y : Sy} {l2 : Nat} (h : obsN 400 t 20000 = some (y, l2)) : finR (.ok t left out) = ⟨1, 0, left, y, out⟩ := by
  show (match obsN 400 t 20000 with | none => (⟨2, 2, left, zeroSy, out⟩ : Fin) | some (y, _) => ⟨1, 0, left, y, out⟩) = _
  rw [h]
theorem finR_none {t : Th} {left : Nat} {out : List Lab} (h : obsN 400 t 20000 = none) : finR (.ok t left out) = ⟨2, 2, left, zeroSy, out⟩ := by
  show (match obsN 400 t 20000 with | none => (⟨2, 2, left, zeroSy, out⟩ : Fin) | some (y, _) => ⟨1, 0, left, y, out⟩) = _
  rw [h]
def finN (x : E) (fuel : Nat) : Fin := finR (evalN fuel x [] fuel [])
theorem finish {g g5 : G} {M : Nat → Prop} (hs : Stp g.size M g g5) {vB : Nat} {L : List Value} (hm : MutB g5 vB 30 L) (hL : L.length = 5) (hge : g.w.heap.size ≤ vB) (a0 a1 a2 a3 a4 : Value) :
    ∃ g', g'.w = setV vB a0 a1 a2 a3 a4 g5.w ∧ Stp g.size M g g' ∧ But (fun x => x = vB) g5 g' ∧ Le g5 g' := by
  have h1 : Stp g.size M g5 (g5.store false ⟨vB, 0, none⟩ [a0, a1, a2, a3, a4]) := store_stp hm.nx (hm.mut0 5) (fun hh => by have hh' : vB < g.w.heap.size := hh; omega)
  obtain ⟨_, h2⟩ := hm.st0 (store_stG g5 false ⟨vB, 0, none⟩ [a0, a1, a2, a3, a4])
  exact ⟨g5.store false ⟨vB, 0, none⟩ [a0, a1, a2, a3, a4], (store_stG g5 false ⟨vB, 0, none⟩ [a0, a1, a2, a3, a4]).w.trans (setV_stL _ _ _ _ _ _ _).symm, hs.trans h1, h2, h1.le⟩
/-- whole. -/
theorem k34 {x : E} (hx : formE x) (hs : scopedE 0 x) {a : Option Addr} {n c : Nat} {g : G} (hI : SlE expE g a n c x.kids) (ht : TabG g) {mb fuel : Nat} (hf : fuel ≤ 1048576) (hm : Mach 58 g mb fuel fuel 1 0 [] none 0 0) :
    CallsG Tryd.prog 34 #[.pointer (some ⟨mb, 0, none⟩), expV x a n c] g (mset mb none) fun v g' =>
      ∃ na nn nc a n c, v = synV (finN x fuel).y na nn nc a n c ∧ SynI g' (finN x fuel).y na nn nc a n c ∧ MachS 58 g' mb fuel (finN x fuel).left (finN x fuel).op (finN x fuel).code (finN x fuel).out none g.w.heap.size := by
  have n1 := push_newL g 24 [.int .i64 x.dat.op, .int .i64 x.dat.n, .string (bstr x.dat.s), .slice a n c]
  have s1 := push_stp (g := g) (B := g.size) (Nat.le_refl _) (.cells ⟨[.int .i64 x.dat.op, .int .i64 x.dat.n, .string (bstr x.dat.s), .slice a n c]⟩ 24) false (mset mb none)
  generalize e1 : g.push (.cells ⟨[.int .i64 x.dat.op, .int .i64 x.dat.n, .string (bstr x.dat.s), .slice a n c]⟩ 24) false false = g1 at n1 s1
  have z1 : g1.w.heap.size = g.w.heap.size + 1 := by rw [← e1]; exact Array.size_push ..
  have w1 : g1.w = g.w.alloc (.cells ⟨[.int .i64 x.dat.op, .int .i64 x.dat.n, .string (bstr x.dat.s), .slice a n c]⟩ 24) := by rw [← e1]; rfl
  have n2 := push_newD g1 30 [.int .i64 0, .int .i64 0, .string ⟨#[]⟩, .slice none 0 0, .slice none 0 0]
  have s2 := push_stp (g := g1) (B := g.size) s1.le.size (.cells ⟨[.int .i64 0, .int .i64 0, .string ⟨#[]⟩, .slice none 0 0, .slice none 0 0]⟩ 30) true (mset mb none)
  generalize e2 : g1.push (.cells ⟨[.int .i64 0, .int .i64 0, .string ⟨#[]⟩, .slice none 0 0, .slice none 0 0]⟩ 30) false true = g2 at n2 s2
  have z2 : g2.w.heap.size = g.w.heap.size + 1 + 1 := by rw [← e2, ← z1]; exact Array.size_push ..
  have w2 : g2.w = g1.w.alloc (.cells ⟨[.int .i64 0, .int .i64 0, .string ⟨#[]⟩, .slice none 0 0, .slice none 0 0]⟩ 30) := by rw [← e2]; rfl
  have s12 := s1.trans s2
  have n3 := push_newD g2 3 [.int .i64 20000]
  have s3 := push_stp (g := g2) (B := g.size) s12.le.size (.cells ⟨[.int .i64 20000]⟩ 3) true (mset mb none)
  generalize e3 : g2.push (.cells ⟨[.int .i64 20000]⟩ 3) false true = g3 at n3 s3
  have w3 : g3.w = g2.w.alloc (.cells ⟨[.int .i64 20000]⟩ 3) := by rw [← e3]; rfl
  have s13 := s12.trans s3
  have hW : g3.w = W3 x.dat.op x.dat.n (bstr x.dat.s) a n c g.w := by rw [w3, w2, w1]
  clear e1 e2 e3 w1 w2 w3
  have m13 := (n1.ex.trans n2.ex).trans n3.ex
  have hm3 := hm.ex m13
  have hv3 := (n2.mut).ex n3.ex
  have hl3 := n3.mut
  rw [z1] at hv3
  rw [z2] at hl3
  have hml := hm.lt (b := mb) (.inl rfl)
  have novB : ¬ mset mb none (g.w.heap.size + 1) := by
    rintro (h | ⟨_, h, _⟩)
    · omega
    · cases h
  have nolB : ¬ mset mb none (g.w.heap.size + 1 + 1) := by
    rintro (h | ⟨_, h, _⟩)
    · omega
    · cases h
  have hz3 : g.w.heap.size + 1 + 1 < g3.w.heap.size := hl3.lt
  unfold CallsG
  refine whole_calls ⟨mb, 0, none⟩ x.dat.op x.dat.n (bstr x.dat.s) a n c g.w _ ?_
  rw [← hW]
  have hok := eval_ok fuel x [] fuel [] hx hs (by simp) (by simp)
  -- behind an ending
  have bad : ∀ {g4 : G} {op code : Int} {left : Nat} {out : List Lab} {oa on oc}, Stp g.size (mset mb none) g g4 → MutB g4 (g.w.heap.size + 1) 30 [.int .i64 0, .int .i64 0, .string ⟨#[]⟩, .slice none 0 0, .slice none 0 0] → Mach 58 g4 mb fuel left op code out oa on oc → (∀ b, blkOf oa b → g3.w.heap.size ≤ b) → finN x fuel = ⟨op, code, left, zeroSy, out⟩ →
      okV (g.w.heap.size + 1) g4.w ∧ ∃ v g', Ending.returned zeroA = .returned v ∧ g'.w = zeroV (g.w.heap.size + 1) (g4.w.alloc (.cells #[] 77)) ∧ Stp g.size (mset mb none) g g' ∧
        ∃ na nn nc a n c, v = synV (finN x fuel).y na nn nc a n c ∧ SynI g' (finN x fuel).y na nn nc a n c ∧ MachS 58 g' mb fuel (finN x fuel).left (finN x fuel).op (finN x fuel).code (finN x fuel).out none g.w.heap.size := by
    intro g4 op code left out oa on oc hs4 hmv hm4 hoa hfin
    refine ⟨⟨_, rfl, hmv.blk⟩, ?_⟩
    have n5 := push_newL g4 77 []
    have s5 := push_stp (g := g4) (B := g.size) hs4.le.size (.cells ⟨[]⟩ 77) false (mset mb none)
    obtain ⟨g', hw, hs', hb, hle⟩ := finish (hs4.trans s5) (hmv.ex n5.ex) rfl (by omega) (.int .i64 0) (.int .i64 0) (.string ⟨#[]⟩) (.slice none 0 0) (.slice none 0 0)
    rw [hfin]
    have nov : ¬ mset mb oa (g.w.heap.size + 1) := by
      rintro (h | h)
      · omega
      · have := hoa _ h; omega
    refine ⟨_, g', rfl, hw, hs', none, 0, 0, none, 0, 0, rfl, ⟨SlE.zero _, SlE.zero _⟩, oa, on, oc, (hm4.ex n5.ex).but hb (fun e => nov (e ▸ .inl rfl)) (fun b hb e => nov (e ▸ .inr hb)), fun b hb => .inr (by have := hoa b hb; omega)⟩
  refine Calls.mono (k48 fuel (Nat.le_refl _) (Nat.le_refl _) hf hx (show scopedE ([] : List Th).length x from hs) (by simp) (hI.exm m13) (EP.nil g3 none) (ht.exm m13) hm3 (by simp)) ?_
  rintro e w' ⟨g4, rfl, hs4, ⟨v, rfl, t, left, out, p, hr, rfl, hv, oa, on, oc, hm4, hn4⟩ | ⟨ch, rfl, op, code, left, out, hr, rfl, oa, on, oc, hm4, hn4⟩⟩
  · have b4 := hs4.but (Nat.le_refl _)
    have hoa : ∀ b, blkOf oa b → g3.w.heap.size ≤ b := fun b hb => (hn4 b hb).elim (fun ⟨_, h, _⟩ => by cases h) (fun h => h)
    have hv4 := hv3.but b4 novB
    have hl4 := hl3.but b4 nolB
    have s4 := s13.trans (hs4.mono (show g.w.heap.size ≤ g3.w.heap.size by omega) (fun b _ h => h))
    rw [hr] at hok
    have hlb : ¬ mset mb oa (g.w.heap.size + 1 + 1) := by
      rintro (h | h)
      · omega
      · have := hoa _ h; omega
    refine .inl ⟨p, rfl, Calls.mono (k47 400 (left := 20000) (depth := 1) hok.1 hv hm4 hl4 hlb (Nat.le_refl _) rfl) ?_⟩
    have hz4 : g3.w.heap.size ≤ g4.w.heap.size := hs4.le.size
    have nov : ¬ oset mb oa (g.w.heap.size + 1 + 1) (g.w.heap.size + 1) := by
      rintro ((h | h) | h)
      · omega
      · have := hoa _ h; omega
      · omega
    have conv : ∀ {g5 : G}, Stp g4.size (oset mb oa (g.w.heap.size + 1 + 1)) g4 g5 → Stp g.size (mset mb none) g g5 := fun h => s4.trans (h.mono (by show g.w.heap.size ≤ g4.w.heap.size; omega) (fun b hb hh => by
      have hb' : b < g.w.heap.size := hb
      rcases hh with (h1 | h1) | h1
      · exact .inl h1
      · have := hoa _ h1; omega
      · omega))
    rintro e w' ⟨g5, rfl, hs5, ⟨v, rfl, y, left2, na, nn, nc, a', n', c', hob, rfl, hI5, hb5, hm5⟩ | ⟨ch, rfl, hob, rfl, hm5⟩⟩
    · have hv5 := hv4.but (hs5.but (Nat.le_refl _)) nov
      have hfin : finN x fuel = ⟨1, 0, left, y, out⟩ := by unfold finN; rw [hr]; exact finR_some hob
      obtain ⟨g', hw, hs', hb, hle⟩ := finish (conv hs5) hv5 rfl (by omega) (.int .i64 y.dat.op) (.int .i64 y.dat.n) (.string (bstr y.dat.s)) (.slice na nn nc) (.slice a' n' c')
      refine .inl ⟨_, _, _, na, nn, nc, a', n', c', rfl, ⟨_, rfl, hv5.blk⟩, _, g', rfl, hw, hs', ?_⟩
      rw [hfin]
      have nov2 : ¬ mset mb oa (g.w.heap.size + 1) := fun h => nov (.inl h)
      exact ⟨na, nn, nc, a', n', c', rfl, hI5.mono hle, oa, on, oc, hm5.but hb (fun e => nov2 (e ▸ .inl rfl)) (fun b hb e => nov2 (e ▸ .inr hb)), fun b hb => .inr (by have := hoa b hb; omega)⟩
    · have hv5 := hv4.but (hs5.but (Nat.le_refl _)) nov
      have hfin : finN x fuel = ⟨2, 2, left, zeroSy, out⟩ := by unfold finN; rw [hr]; exact finR_none hob
      exact .inr ⟨rfl, bad (conv hs5) hv5 hm5 hoa hfin⟩
  · have b4 := hs4.but (Nat.le_refl _)
    have hoa : ∀ b, blkOf oa b → g3.w.heap.size ≤ b := fun b hb => (hn4 b hb).elim (fun ⟨_, h, _⟩ => by cases h) (fun h => h)
    have hv4 := hv3.but b4 novB
    have s4 := s13.trans (hs4.mono (show g.w.heap.size ≤ g3.w.heap.size by omega) (fun b _ h => h))
    have hfin : finN x fuel = ⟨op, code, left, zeroSy, out⟩ := by unfold finN; rw [hr]; rfl
    exact .inr ⟨rfl, bad s4 hv4 hm4 hoa hfin⟩
end Go.Proofs.YtfmjipgcbecamaaDoor
