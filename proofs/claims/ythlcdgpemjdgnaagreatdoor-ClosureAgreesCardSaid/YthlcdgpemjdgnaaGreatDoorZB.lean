/- Joined texts. -/
import Derived.Test.YthlcdgpemjdgnaaGreatDoorZA
import Derived.Test.YthlcdgpemjdgnaaGreatDoorLflat
import Derived.Test.YthlcdgpemjdgnaaGreatDoorLrefr
/- Closure: places, scopes. -/
set_option linter.unusedVariables false
namespace Go.Proofs.YthlcdgpemjdgnaaGreatDoor
open Go Go.Vc Go.RowKit Go.Syn Go.Lam Go.Sort
theorem E22 : Elem Tryz.prog 42 44 4 56 := ⟨Tryz.underlying42, by kernel_rfl⟩
theorem E27 : Elem Tryz.prog 22 55 5 64 := ⟨Tryz.underlying22, by kernel_rfl⟩
def mkE (op n : Int) (l : List E) : E := .mk ⟨op, n, []⟩ l
theorem kz90 (op n : Int) (l : List E) {la : Option Addr} {ll lc : Nat} (g : G) : CallsP Tryz.prog 90 #[.int .i64 op, .int .i64 n, .slice la ll lc] g fun v _ => v = expV (mkE op n l) la ll lc := by
  refine call90 _ _ _ _ _ g _ ?_
  unfold F90
  exact fun g1 _ g2 _ => rfl
theorem kz21 (op n : Int) (l : List E) {la : Option Addr} {ll lc : Nat} (g : G) : CallsP Tryz.prog 21 #[.int .i64 op, .int .i64 n, .slice la ll lc] g fun v _ => v = expV (mkE op n l) la ll lc := by
  refine call21 _ _ _ _ _ g _ ?_
  unfold F21
  exact fun g1 _ g2 _ => rfl
theorem rev_get {α : Type} {l : List α} {i : Nat} {x : α} (h : l[i]? = some x) : l.reverse[l.length - 1 - i]? = some x := by
  have hi := (List.getElem?_eq_some_iff.1 h).1
  rw [List.getElem?_reverse (by omega), show l.length - 1 - (l.length - 1 - i) = i by omega]
  exact h
theorem getE_some {l : List E} {i : Nat} (h : i < l.length) : l[i]? = some (l.getD i noE) := by
  rw [List.getD_eq_getElem?_getD, List.getElem?_eq_getElem h]
  rfl
theorem kz64 {env : List E} {i : Nat} (hi : i < env.length) (k : Int) {ea : Option Addr} {en ec : Nat} {g : G} (hE : SlE expE g ea en ec env.reverse) :
    CallsP Tryz.prog 64 #[.agg ⟨[.slice ea en ec, .int .i64 k]⟩, .int .i64 ((i : Nat) : Int)] g fun v g' => ∃ ya yn yc, v = expV (env.getD i noE) ya yn yc ∧ SlE expE g' ya yn yc (env.getD i noE).kids := by
  refine call64 _ _ _ _ _ g _ ?_
  have hel := hE.len
  have hcap := hE.cap
  have hle := hE.le
  rw [List.length_reverse] at hel
  unfold maxLen at hcap
  unfold F64
  refine ⟨i64 (by omega) (by omega), i64 (by omega) (by omega), ⟨by omega, by omega⟩, rdEL (i := ((en : Nat) : Int) - 1 - ((i : Nat) : Int)) hE (env.length - 1 - i) (by omega) (rev_get (getE_some hi)) (fun ad ya yn yc _ hy hl g1 m1 => ?_)⟩
  exact ⟨_, _, _, _, _, _, ((live0 (hl 0 _ rfl)).ex m1).1, ((hl 1 _ rfl).ex m1).1, ((hl 2 _ rfl).ex m1).1, ((hl 3 _ rfl).ex m1).1, fun g2 m2 => ⟨ya, yn, yc, rfl, hy.exm (m1.trans m2)⟩⟩
theorem kz91 {L : List E} {a : Option Addr} {n c : Nat} {g : G} (h : SlE expE g a n c L) : CallsP Tryz.prog 91 #[.slice a n c] g fun v _ => v = .slice (slAddr a (Int.toNat ((n : Nat) : Int)) 0 4) ((Int.toNat ((n : Nat) : Int)) - 0) ((Int.toNat ((n : Nat) : Int)) - 0) := by
  refine call91 _ _ _ g _ ?_
  have := h.le
  unfold F91
  exact ⟨⟨by omega, by omega⟩, ⟨by omega, by omega⟩, fun g1 _ => rfl⟩
theorem kz67 {env : List E} (k : Nat) (hk : k ≤ 1000000) {ea : Option Addr} {en ec : Nat} {g : G} (hE : SlE expE g ea en ec env.reverse) (hn : env.length ≤ 1000000) :
    CallsP Tryz.prog 67 #[.agg ⟨[.slice ea en ec, .int .i64 ((k : Nat) : Int)]⟩] g fun v g' => ∃ oa on oc, v = .agg ⟨[.slice oa on oc, .int .i64 ((k + 1 : Nat) : Int)]⟩ ∧ SlE expE g' oa on oc (plc 21 ((k : Nat) : Int) :: env).reverse ∧ ∀ b, blkOf oa b → g.w.heap.size ≤ b := by
  refine call67 _ _ _ _ g _ ?_
  have hel := hE.len
  rw [List.length_reverse] at hel
  unfold F67
  intro g1 m1
  refine ⟨i64 (by omega) (by omega), fun g2 m2 => (kz91 (hE.exm (m1.trans m2))).mono ?_⟩
  rintro v g3 m3 rfl
  refine ⟨_, _, _, rfl, fun g4 m4 => (kz90 21 ((k : Nat) : Int) [] g4).mono ?_⟩
  rintro v g5 m5 rfl
  refine ⟨_, _, _, _, _, _, rfl, fun g6 m6 g7 n7 g8 m8 => ?_⟩
  have m16 := (((m2.trans m3).trans m4).trans m5).trans m6
  have m18 := (m16.trans n7.ex).trans m8
  have hrow : SlE expE g7 (some ⟨g6.w.heap.size, 0, none⟩) 1 1 [plc 21 ((k : Nat) : Int)] := n7.sle (xs := [plc 21 ((k : Nat) : Int)]) (Rws.single (exp_rep (t := plc 21 ((k : Nat) : Int)) (SlE.zero _))) (by unfold maxLen; simp)
  obtain ⟨a', c', w', hr, g9, hw, hs, hsl, hown⟩ := SlE.clip (E := expE) E22 42 ((hE.exm m1).exm m18) (hrow.exm m8) (by omega) (by unfold maxLen; omega) (m := 4) rfl
  refine ⟨a', _, c', w', hr, g9, hw, hs.mono (m1.trans m18).size (fun _ _ h => h), sameB_of m18 hs m18.size, fun g10 m10 => ⟨a', en + 1, c', ?_, ?_, fun b hb => Nat.le_trans (m1.trans m18).size ((hown (by omega)).ge hb)⟩⟩
  · rw [show ((k : Nat) : Int) + 1 = ((k + 1 : Nat) : Int) by omega]
  · rw [List.reverse_cons]
    exact hsl.exm m10
theorem kz66 (op : Int) (j : Nat) (g : G) : CallsP Tryz.prog 66 #[.int .i64 op, .int .i64 ((j : Nat) : Int)] g fun v _ => v = .bool (tf (furP op j)) := by
  refine call66 _ _ g _ ?_
  unfold F66
  unfold furP
  refine ifEq (fun e g1 _ => ?_) (fun e1 => ifEq (fun e g2 _ => ?_) (fun e2 g3 _ => vF (fun h => by omega)))
  · show Value.bool (ltI _ _) = _
    rw [tf_lt]
    exact vP ⟨fun h => ⟨by omega, .inl e⟩, fun h => by omega⟩
  · show Value.bool (ltI _ _) = _
    rw [tf_lt]
    exact vP ⟨fun h => ⟨by omega, .inr e⟩, fun h => by omega⟩
end Go.Proofs.YthlcdgpemjdgnaaGreatDoor
/- Closure: the converter. -/
set_option linter.unusedVariables false
namespace Go.Proofs.YthlcdgpemjdgnaaGreatDoor
open Go Go.Vc Go.RowKit Go.Syn Go.Lam Go.Sort
theorem sle_nil {g g2 : G} {a : Option Addr} {n c : Nat} (h : SlE expE g a n c []) : SlE expE g2 a n c [] := by
  have hl := h.len
  obtain ⟨L, h1, h2⟩ := h.ex
  have e := h2.len
  have : L = [] := List.eq_nil_of_length_eq_zero (by simpa using e)
  subst this
  exact ⟨⟨[], ⟨h1.len, h1.le, h1.cap, h1.nil, fun ad _ i v hi => by simp at hi⟩, Rws.nil⟩, hl⟩
theorem sle_leaf {g g2 : G} {a : Option Addr} {n c : Nat} {L : List E} (h : SlE expE g a n c L) (hl : ∀ p ∈ L, p.kids = []) (hv : ∀ ad v, blkOf a ad.block → Live g ad v → Live g2 ad v) : SlE expE g2 a n c L := by
  obtain ⟨Lv, h1, rs, rfl, h2⟩ := h.ex
  refine ⟨⟨_, ⟨h1.len, h1.le, h1.cap, h1.nil, fun ad ha i v hi => hv _ _ ⟨ad, ha, (add_block _ _).symm⟩ (h1.at_ ad ha i v hi)⟩, rs, rfl, ?_⟩, h.len⟩
  clear h h1
  induction h2 with
  | nil => exact .nil
  | @cons r p rs L k1 _ ih =>
    refine .cons ?_ (ih (fun q hq => hl q (by simp [hq])))
    obtain ⟨ka, kn, kc, rfl, hk⟩ := exp_un k1
    have hp := hl p (by simp)
    rw [hp] at hk
    refine exp_rep ?_
    rw [hp]
    exact sle_nil hk
structure Conv (g : G) (cb : Nat) (a : Option Addr) (n c : Nat) (fs : List FlatD) : Prop where
  blk : MutB g cb 89 [.slice a n c, .bool false]
  row : FlatR g 55 a n c fs
  apart : ¬ blkOf a cb
def cset (cb : Nat) (a : Option Addr) : Nat → Prop := fun b => b = cb ∨ blkOf a b
namespace Conv
variable {g g' : G} {cb : Nat} {a : Option Addr} {n c : Nat} {fs : List FlatD}
theorem but (h : Conv g cb a n c fs) {p : Nat → Prop} (k : But p g g') (h1 : ¬ p cb) (h2 : ∀ b, blkOf a b → ¬ p b) (hl : Le g g') : Conv g' cb a n c fs := ⟨h.blk.but k h1, h.row.but k h2 hl, h.apart⟩
theorem exm (h : Conv g cb a n c fs) (k : Ex g g') : Conv g' cb a n c fs := h.but (k.but nobody) (fun h => h) (fun _ _ h => h) k.le
theorem lt (h : Conv g cb a n c fs) {b : Nat} (hb : cset cb a b) : b < g.w.heap.size := by
  rcases hb with rfl | hb
  · exact h.blk.lt
  · exact h.row.lt hb
theorem nx (h : Conv g cb a n c fs) {b : Nat} (hb : cset cb a b) : ¬ g.X b := by
  rcases hb with rfl | hb
  · exact h.blk.nx
  · exact h.row.nx hb
theorem d (h : Conv g cb a n c fs) {b : Nat} (hb : cset cb a b) (i : Nat) : g.D b i := by
  rcases hb with rfl | hb
  · exact h.blk.d i
  · exact h.row.d hb i
theorem live (h : Conv g cb a n c fs) {ad : Addr} {v : Value} (hv : Live g ad v) : ¬ cset cb a ad.block := fun hb => hv.2.2 (h.d hb _)
end Conv
def PostC (cb : Nat) (a : Option Addr) (sz : Nat) (r : E × List FlatD) (v : Value) (g' : G) : Prop := ∃ (ya : Option Addr) (yn yc : Nat) (a' : Option Addr) (n' c' : Nat), v = expV r.1 ya yn yc ∧ SlE expE g' ya yn yc r.1.kids ∧ Conv g' cb a' n' c' r.2 ∧ ∀ b, blkOf a' b → blkOf a b ∨ sz ≤ b
theorem PostC.ex {cb : Nat} {a : Option Addr} {sz : Nat} {r : E × List FlatD} {v : Value} {g g' : G} (m : Ex g g') : PostC cb a sz r v g → PostC cb a sz r v g'
  | ⟨ya, yn, yc, a', n', c', h1, h2, h3, h4⟩ => ⟨ya, yn, yc, a', n', c', h1, h2.exm m, h3.exm m, h4⟩
def K18 (d : Nat) : Prop := ∀ (x : E) (env : List E) (k : Nat) (fs : List FlatD) {xa : Option Addr} {xl xc : Nat} {ea : Option Addr} {en ec : Nat} {a : Option Addr} {n c cb : Nat} {g : G},
  formE x → scopedE env.length x → depthE x ≤ d → depthE x ≤ 400 → env.length + depthE x ≤ 1000 → k + depthE x ≤ 1000 → fs.length + sizeE x ≤ 1000 → (∀ p ∈ env, p.kids = []) →
  SlE expE g xa xl xc x.kids → SlE expE g ea en ec env.reverse → Conv g cb a n c fs →
  CallsG Tryz.prog 37 #[.pointer (some ⟨cb, 0, none⟩), expV x xa xl xc, .agg ⟨[.slice ea en ec, .int .i64 ((k : Nat) : Int)]⟩] g (cset cb a) (fun v g' => PostC cb a g.w.heap.size (cvN d x env k fs) v g')
theorem form_i64 (x : E) : formE x → i64E x := by
  induction x using Tr.ind with
  | h d l ih =>
    intro h
    rw [i64E, i64EL_iff]
    refine ⟨?_, fun y hy => ih y hy ((formE_un h).2 y hy)⟩
    have hn : nodeP d l := (formE_un h).1
    rcases hn.2 with h | h | h | h | h | h | h | h | h | h | h <;> omega
theorem asc_freeF {x : E} {F : List Int} (h : AscF x F) : F = freeA x := asc_unique h.1 (asc_freeA x) (fun s => by rw [h.2, mem_freeA])
theorem rev_set {α : Type} (l : List α) (i : Nat) (p : α) (h : i < l.length) : (l.set i p).reverse = l.reverse.set (l.length - 1 - i) p := by
  apply List.ext_getElem?
  intro j
  by_cases q : j < l.length
  · rw [List.getElem?_reverse (by rw [List.length_set]; exact q), List.length_set, List.getElem?_set, List.getElem?_set]
    by_cases e : i = l.length - 1 - j
    · rw [if_pos e, if_pos h, if_pos (by omega), if_pos (by rw [List.length_reverse]; omega)]
    · rw [if_neg e, if_neg (by omega), List.getElem?_reverse q]
  · rw [List.getElem?_eq_none (by rw [List.length_reverse, List.length_set]; omega), List.getElem?_eq_none (by rw [List.length_set, List.length_reverse]; omega)]
theorem zero24 : ∀ (i : TypeInfo) (z : Value), Tryz.prog.info? 44 = some i → i.zero = some z → z.cells = ⟨[.int .i64 0, .int .i64 0, .string ⟨#[]⟩, .slice none 0 0]⟩ := by
  intro i z hi hz
  have h : (Tryz.prog.info? 44).bind (·.zero) = some (.agg ⟨[.int .i64 0, .int .i64 0, .string ⟨#[]⟩, .slice none 0 0]⟩) := by kernel_rfl
  rw [hi, Option.bind_some, hz] at h
  obtain rfl := Option.some.inj h
  rfl
theorem made_rep (m : Nat) : (madeCells ⟨[.int .i64 0, .int .i64 0, .string ⟨#[]⟩, .slice none 0 0]⟩ (m * 4)).toList = (List.replicate m [Value.int .i64 0, .int .i64 0, .string ⟨#[]⟩, .slice none 0 0]).flatten := by
  have hl : ∀ r ∈ List.replicate m [Value.int .i64 0, .int .i64 0, .string ⟨#[]⟩, .slice none 0 0], r.length = 4 := fun r hr => by rw [List.eq_of_mem_replicate hr]; rfl
  apply List.ext_getElem?
  intro i
  by_cases q : i < m * 4
  · have h1 := flat_get (m := 4) hl (i := i / 4) (j := i % 4) (r := [Value.int .i64 0, .int .i64 0, .string ⟨#[]⟩, .slice none 0 0]) (by rw [List.getElem?_replicate, if_pos (by omega)]) (by omega)
    rw [show i / 4 * 4 + i % 4 = i by omega] at h1
    rw [h1]
    unfold madeCells
    rw [Array.toList_map, List.getElem?_map, Array.toList_range, List.getElem?_range q]
    have h4 : i % 4 = 0 ∨ i % 4 = 1 ∨ i % 4 = 2 ∨ i % 4 = 3 := by omega
    show some ((⟨[.int .i64 0, .int .i64 0, .string ⟨#[]⟩, .slice none 0 0]⟩ : Array Value)[i % 4]!) = _
    rcases h4 with h | h | h | h <;> rw [h] <;> rfl
  · rw [List.getElem?_eq_none (by unfold madeCells; simp; omega), List.getElem?_eq_none (by rw [flat_len hl, List.length_replicate]; omega)]
theorem make24 {g : G} (m : Nat) (hm : m ≤ 1000000) {B : Nat} (hB : B ≤ g.w.heap.size) (M : Nat → Prop) : ∃ c' w', (Instr.makeSlice 42 (.int .i64 ((m : Nat) : Int)) (.int .i64 ((m : Nat) : Int))).run Tryz.prog g.w = .ok (.slice (some ⟨g.w.heap.size, 0, none⟩) m c') w' ∧
    ∃ g', g'.w = w' ∧ Stp B M g g' ∧ Ex g g' ∧ c' = m ∧ MutE expE g' g.w.heap.size 44 m m (List.replicate m noE) := by
  have hmk := make_row E22 g.w zero24 .i64 .i64 ((m : Nat) : Int) ((m : Nat) : Int) (by omega) (by omega) (by omega) (by omega)
  rw [Int.toNat_natCast] at hmk
  have hz : (madeCells ⟨[.int .i64 0, .int .i64 0, .string ⟨#[]⟩, .slice none 0 0]⟩ (m * 4)).toList = (List.replicate m [Value.int .i64 0, .int .i64 0, .string ⟨#[]⟩, .slice none 0 0]).flatten := made_rep m
  have e : madeCells ⟨[.int .i64 0, .int .i64 0, .string ⟨#[]⟩, .slice none 0 0]⟩ (m * 4) = ⟨(List.replicate m [Value.int .i64 0, .int .i64 0, .string ⟨#[]⟩, .slice none 0 0]).flatten⟩ := by rw [← hz]
  rw [e] at hmk
  refine ⟨m, _, hmk, g.push (.cells ⟨_⟩ 44) false true, rfl, push_stp hB _ _ _, (push_newD g 44 _).ex, rfl, ?_⟩
  have hm1 := (push_newD g 44 (List.replicate m [Value.int .i64 0, .int .i64 0, .string ⟨#[]⟩, .slice none 0 0]).flatten).mut
  refine ⟨⟨_, hm1, by rw [flat_len (m := 4) (fun r hr => by rw [List.eq_of_mem_replicate hr]; rfl), List.length_replicate]; rfl, ?_⟩, List.length_replicate, Nat.le_refl _, by unfold maxLen; omega⟩
  have hl : (List.replicate m [Value.int .i64 0, .int .i64 0, .string ⟨#[]⟩, .slice none 0 0]).flatten.length = m * expE.m := by rw [flat_len (m := 4) (fun r hr => by rw [List.eq_of_mem_replicate hr]; rfl), List.length_replicate]; rfl
  rw [← hl, List.take_length]
  refine ⟨_, rfl, all2_of (by rw [List.length_replicate, List.length_replicate]) (fun i r t hr ht => ?_)⟩
  have h1 := List.eq_of_mem_replicate (List.mem_of_getElem? hr)
  have h2 := List.eq_of_mem_replicate (List.mem_of_getElem? ht)
  rw [h1, h2]
  exact exp_rep (t := noE) (SlE.zero _)
end Go.Proofs.YthlcdgpemjdgnaaGreatDoor
/- Closure: a function is converted. -/
set_option linter.unusedVariables false
namespace Go.Proofs.YthlcdgpemjdgnaaGreatDoor
open Go Go.Vc Go.RowKit Go.Syn Go.Lam Go.Sort
theorem froz_step {g : G} {B : Nat} {M p : Nat → Prop} (hp : ∀ b, p b → B ≤ b) : Stp B M g (g.frozP p) :=
  ⟨frozP_le g p, fun _ => Iff.rfl, fun _ _ => rfl, rfl, rfl, rfl, fun _ _ _ => rfl, fun b hb _ i => ⟨fun h => h.1, fun h => ⟨h, fun hh => by have := hp b hh; omega⟩⟩⟩
theorem froz_none (g : G) : g.frozP nobody = g := G.ext' rfl rfl (by funext x i; exact propext ⟨fun h => h.1, fun h => ⟨h, fun hh => hh⟩⟩)
theorem grow_froz {α : Type} {E : El α} {t e : TypeId} {bytes : Nat} (Et : Elem Tryz.prog t e E.m bytes) {g : G} {B : Nat} {M p : Nat → Prop} (hp : ∀ b, p b → B ≤ b) (hB : B ≤ g.w.heap.size) {a : Option Addr} {n : Nat} {xs : List α} {na : Option Addr} {y : α}
    (h : SlE E (g.frozP p) a n n xs) (hN : SlE E g na 1 1 [y]) (hb : (n + 1) * bytes ≤ 140737488355328) (hm : n + 1 ≤ maxLen) :
    ∃ a' c' w', (Builtin.append_ #[t, t] t #[.slice a n n, .slice na 1 1]).run Tryz.prog g.w = .ok (.slice a' (n + 1) c') w' ∧ ∃ g', g'.w = w' ∧ Stp B M g g' ∧ OwnE E g' B e a' (n + 1) c' (xs ++ [y]) ∧ But (fun b => p b ∨ blkOf a b) g g' := by
  obtain ⟨L, h1, h2⟩ := h.ex
  obtain ⟨N, h3, h4⟩ := (hN.mono (frozP_le g p)).ex
  obtain ⟨a', c', w', hr, g', hw, hs, ho, hs2, _⟩ := OwnG.grow (g := g.frozP p) (B := B) Et t hB h1 h3 (by omega) hb hm
  refine ⟨a', c', w', hr, g', hw, (froz_step hp).trans (hs.mono (Nat.le_refl _) (fun _ _ h => h.elim)), ⟨⟨_, ho, (h2.append h4).mono hs.le⟩, by rw [List.length_append, h.len]; rfl⟩, ?_⟩
  have b2 := hs2.but (Nat.le_refl _)
  exact ⟨b2.size, b2.x, fun b hb hx hq => b2.same b hb hx (fun hh => hq (.inr hh)), fun b hb hx hq i => (b2.d b hb hx (fun hh => hq (.inr hh)) i).trans ⟨fun h => h.1, fun h => ⟨h, fun hh => hq (.inl hh)⟩⟩⟩
theorem kz67f {env : List E} (k : Nat) (hk : k ≤ 1000000) {ea : Option Addr} {en ec : Nat} {g : G} {p : Nat → Prop} (hp : ∀ b, p b → b < g.w.heap.size) (hE : SlE expE (g.frozP p) ea en ec env.reverse) (hn : env.length ≤ 1000000) (hlf : ∀ q ∈ env, q.kids = []) :
    CallsP Tryz.prog 67 #[.agg ⟨[.slice ea en ec, .int .i64 ((k : Nat) : Int)]⟩] g fun v g' => ∃ oa on oc, v = .agg ⟨[.slice oa on oc, .int .i64 ((k + 1 : Nat) : Int)]⟩ ∧ SlE expE g' oa on oc (plc 21 ((k : Nat) : Int) :: env).reverse := by
  refine CallsP.thawP hp (kz67 k hk hE hn) ?_
  rintro v g1 g' ⟨oa, on, oc, rfl, hsl, hnew⟩ m1 m2 _ _
  refine ⟨oa, on, oc, rfl, sle_leaf (hsl.exm m2) (fun q hq => ?_) (fun ad w hb hl => ⟨hl.1, hl.2.1, fun hd => hl.2.2 ⟨hd, fun hh => ?_⟩⟩)⟩
  · rcases List.mem_cons.1 (List.mem_reverse.1 hq) with rfl | hq
    · rfl
    · exact hlf q hq
  · have h1 := hp _ hh
    have h2 : g.w.heap.size ≤ ad.block := hnew _ hb
    omega
theorem cvL_len {cv : Cv} {op : Int} (H : ∀ (y : E) (env : List E) (k : Nat) (fs : List FlatD), fs.length ≤ (cv y env k fs).2.length) : ∀ (l : List E) (j : Nat) (env : List E) (k : Nat) (fs : List FlatD), fs.length ≤ (cvL cv op j l env k fs).2.length
  | [], _, _, _, _ => Nat.le_refl _
  | y :: r, j, env, k, fs => by
    have e : cvL cv op j (y :: r) env k fs = ((if furP op j then cv y (plc 21 ((k : Nat) : Int) :: env) (k + 1) fs else cv y env k fs).1 :: (cvL cv op (j + 1) r env k (if furP op j then cv y (plc 21 ((k : Nat) : Int) :: env) (k + 1) fs else cv y env k fs).2).1, (cvL cv op (j + 1) r env k (if furP op j then cv y (plc 21 ((k : Nat) : Int) :: env) (k + 1) fs else cv y env k fs).2).2) := rfl
    rw [e]
    refine Nat.le_trans ?_ (cvL_len H r (j + 1) env k _)
    split
    · exact H _ _ _ _
    · exact H _ _ _ _
theorem cv_len : ∀ (d : Nat) (x : E) (env : List E) (k : Nat) (fs : List FlatD), fs.length ≤ (cvN d x env k fs).2.length
  | 0, _, _, _, _ => Nat.le_refl _
  | d + 1, x, env, k, fs => by
    unfold cvN
    split
    · exact Nat.le_refl _
    · split
      · show fs.length ≤ (setBody _ _ _).length
        rw [setBody_len]
        have := cv_len d (kid (funOf x) 0) (innE x env.length) 1 (fs ++ [⟨(((freeA x).length : Nat) : Int), noE⟩])
        rw [List.length_append] at this
        exact Nat.le_trans (Nat.le_add_right _ _) this
      · exact cvL_len (fun y env k fs => cv_len d y env k fs) _ _ _ _ _
theorem body_ok {x : E} (hx : formE x) (hop : x.dat.op = 4 ∨ x.dat.op = 10) {m : Nat} (hs : scopedE m x) : 0 < (funOf x).kids.length ∧ formE (kid (funOf x) 0) ∧ scopedE (innE x m).length (kid (funOf x) 0) ∧ depthE (kid (funOf x) 0) + 1 ≤ depthE x ∧ (innE x m).length + depthE (kid (funOf x) 0) ≤ m + depthE x ∧ sizeE (kid (funOf x) 0) + 1 ≤ sizeE x := by
  obtain ⟨n4, n5, n7, n9, n10, n12, n6, n1, n2, n3, nr, nk⟩ := node_len hx
  rw [innE_len]
  unfold funOf
  rcases hop with e | e
  · have h1 := n4 e
    have s0 := kid_size (x := x) (i := 0) (by omega)
    have k0 := scoped_kid hs (kid_get (x := x) (i := 0) (by omega))
    rw [bnd_body (.inl e)] at k0
    rw [if_neg (by omega), if_neg (by omega)]
    exact ⟨by omega, kid_form hx (by omega), k0, by omega, by omega, by omega⟩
  · obtain ⟨h1, h2⟩ := n10 e
    have k0 := kid_form hx (i := 0) (by omega)
    have s0 := kid_size (x := x) (i := 0) (by omega)
    have h3 := (node_len k0).1 h2
    have s1 := kid_size (x := kid x 0) (i := 0) (by omega)
    have c0 := scoped_kid hs (kid_get (x := x) (i := 0) (by omega))
    rw [bnd_body (.inr e)] at c0
    have c1 := scoped_kid c0 (kid_get (x := kid x 0) (i := 0) (by omega))
    rw [bnd_body (.inl h2)] at c1
    rw [if_pos e, if_pos e]
    exact ⟨by omega, kid_form k0 (by omega), c1, by omega, by omega, by omega⟩
theorem cv_fun {d : Nat} {x : E} (hop : x.dat.op = 4 ∨ x.dat.op = 10) {env : List E} {k : Nat} {fs : List FlatD} {y : E} {fs2 : List FlatD} (h : cvN d (kid (funOf x) 0) (innE x env.length) 1 (fs ++ [⟨(((freeA x).length : Nat) : Int), noE⟩]) = (y, fs2)) :
    cvN (d + 1) x env k fs = (.mk ⟨24, ((fs.length : Nat) : Int), []⟩ ((freeA x).map fun i => env.getD i.toNat noE), setBody fs2 fs.length y) := by
  have e : cvN (d + 1) x env k fs = if x.dat.op = 1 then (env.getD x.dat.n.toNat noE, fs) else if x.dat.op = 4 ∨ x.dat.op = 10 then
      (.mk ⟨24, ((fs.length : Nat) : Int), []⟩ ((freeA x).map fun i => env.getD i.toNat noE), setBody (cvN d (kid (funOf x) 0) (innE x env.length) 1 (fs ++ [⟨(((freeA x).length : Nat) : Int), noE⟩])).2 fs.length (cvN d (kid (funOf x) 0) (innE x env.length) 1 (fs ++ [⟨(((freeA x).length : Nat) : Int), noE⟩])).1)
      else (.mk ⟨if x.dat.op = 5 then 25 else x.dat.op, x.dat.n, x.dat.s⟩ (cvL (cvN d) x.dat.op 0 x.kids env k fs).1, (cvL (cvN d) x.dat.op 0 x.kids env k fs).2) := rfl
  rw [e, if_neg (by omega), if_pos hop, h]
theorem kz65 {d : Nat} (H : K18 d) {x : E} {env : List E} {k : Nat} {fs : List FlatD} {xa : Option Addr} {xl xc : Nat} {ea : Option Addr} {en ec : Nat} {a : Option Addr} {n c cb : Nat} {g : G} (hop : x.dat.op = 4 ∨ x.dat.op = 10)
    (hx : formE x) (hs : scopedE env.length x) (hd : depthE x ≤ d + 1) (hd4 : depthE x ≤ 400) (hen : env.length + depthE x ≤ 1000) (hfs : fs.length + sizeE x ≤ 1000) (hlf : ∀ p ∈ env, p.kids = [])
    (hI : SlE expE g xa xl xc x.kids) (hE : SlE expE g ea en ec env.reverse) (hC : Conv g cb a n c fs) :
    CallsG Tryz.prog 65 #[.pointer (some ⟨cb, 0, none⟩), expV x xa xl xc, .agg ⟨[.slice ea en ec, .int .i64 ((k : Nat) : Int)]⟩] g (cset cb a) (fun v g' => PostC cb a g.w.heap.size (cvN (d + 1) x env k fs) v g') := by
  refine call65 _ _ _ _ _ _ _ _ _ _ _ g _ _ ?_
  have hel := hE.len
  rw [List.length_reverse] at hel
  have hfn := hC.row.len
  obtain ⟨bo1, bo2, bo3, bo4, bo5, bo6⟩ := body_ok hx hop hs
  have hp1 : x.dat.op ≠ 1 := by omega
  have hv : validE x := ⟨hx, by omega, hd4⟩
  unfold F65
  refine fun g1 m1 => (kk17 (form_i64 x hx) (hI.exm m1)).mono ?_
  rintro v g2 m2 ⟨fa, fn, fc, fe, rfl, hFS⟩
  rcases hFS with ⟨_, rfl, F, hF, hA⟩ | ⟨h, _⟩
  rotate_left
  · exact absurd hv h
  obtain rfl := asc_freeF hA
  have hFl := hF.len
  have hFk := len_freeA x
  have hFs := frees_kids hp1
  have m02 := m1.trans m2
  have hC2 := hC.exm m02
  refine ⟨_, _, _, _, rfl, a, n, c, hC2.blk.rd0 rfl, ?_⟩
  intro J hJ
  refine ifLt (fun q => by omega) (fun _ => ifLe (fun q => by omega) (fun _ => hJ _ _ _ _ _ _ g2 ⟨a, n, c, hC2.blk.rd0 rfl, fun g4 n4 => ?_⟩))
  clear hJ
  have hsz2 : g.w.heap.size ≤ g2.w.heap.size := m02.size
  obtain ⟨a1, c1, w1, hr1, g5, hw1, hrow5, hst5, hnew5⟩ := hC2.row.app1 E27 (f := ⟨((fn : Nat) : Int), noE⟩) n4 (SlE.zero _) (by omega) (by unfold maxLen; omega)
  have hz4 : g.w.heap.size ≤ g4.w.heap.size := Nat.le_trans hsz2 n4.ex.size
  have b5 := hst5.but (Nat.le_refl _)
  have hblk5 : MutB g5 cb 89 [.slice a n c, .bool false] := (hC2.blk.ex n4.ex).but b5 hC.apart
  have hcb4 : cb < g4.w.heap.size := (hC2.blk.ex n4.ex).lt
  have hap1 : ¬ blkOf a1 cb := fun hh => (hnew5 cb hh).elim hC.apart (fun h2 => by omega)
  refine ⟨a1, n + 1, c1, w1, hr1, g5, hw1, hst5.mono hz4 (fun b hb h => .inr h), hblk5.ok0 (by simp), hblk5.nx, hblk5.mut0 1, fun _ => .inl rfl, fun g6 kz23 => ?_⟩
  obtain ⟨hblk6, b6⟩ := hblk5.st0 kz23
  have le56 : Le g5 g6 := mutb_le hblk5 b6
  have hC6 : Conv g6 cb a1 (n + 1) c1 (fs ++ [⟨((fn : Nat) : Int), noE⟩]) := ⟨hblk6, hrow5.but b6 (fun b hb e => hap1 (e ▸ hb)) le56, hap1⟩
  have hz6 : g.w.heap.size ≤ g6.w.heap.size := Nat.le_trans hz4 (Nat.le_trans hst5.le.size le56.size)
  have hcb6 : cb < g6.w.heap.size := hC6.lt (.inl rfl)
  have ha6 : ∀ b, blkOf a1 b → b < g6.w.heap.size := fun b hb => hC6.lt (.inr hb)
  obtain ⟨c2, w2, hmk, g7, hw7, hs7, m67, rfl, hme7⟩ := make24 (g := g6) en (by omega) hz6 (cset cb a)
  generalize hib : g6.w.heap.size = ib at hmk hme7 hcb6 ha6 hz6
  have hib7 : ib < g7.w.heap.size := hme7.lt
  have le27 : Le g2 g7 := ((n4.ex.le.trans hst5.le).trans le56).trans m67.le
  refine ⟨some ⟨ib, 0, none⟩, c2, c2, w2, hmk, g7, hw7, hs7, fun g8 m8 => (kz90 24 ((n : Nat) : Int) [] g8).mono ?_⟩
  rintro v g9 m9 rfl
  have m79 := m8.trans m9
  refine ⟨_, _, _, _, _, _, rfl, fun m v_1 out0 out1 out2 out3a out3l out3c g' => ∃ j : Nat, v_1 = ((j : Nat) : Int) ∧ j + m = fn ∧ out0 = 24 ∧ out1 = ((n : Nat) : Int) ∧ out2 = bs [] ∧ OwnE expE g' g7.w.heap.size 44 out3a out3l out3c (((freeA x).take j).map fun i => env.getD i.toNat noE) ∧
      MutE expE g' ib 44 c2 c2 (innL 0 ((freeA x).take j) (List.replicate c2 noE)).reverse ∧ Conv g' cb a1 (n + 1) c1 (fs ++ [⟨((fn : Nat) : Int), noE⟩]),
    fun g10 m10 => ⟨fn, 0, rfl, by omega, rfl, rfl, rfl, by simpa using OwnE.nil _ _ _, by
      have := (hme7.exm m79).exm m10
      simpa [innL] using this, ((hC6.exm m67).exm m79).exm m10⟩, ?_⟩
  rintro m v_1 out0 out1 out2 out3a out3l out3c g11 le11 ⟨j, rfl, hj, rfl, rfl, rfl, hout, hme, hC11⟩
  have le2 : Le g2 g11 := (le27.trans m79.le).trans le11
  have le0 : Le g g11 := m02.le.trans le2
  have hz7 : g.w.heap.size ≤ g7.w.heap.size := Nat.le_trans m02.size le27.size
  have hz79 : g7.w.heap.size ≤ g11.w.heap.size := Nat.le_trans m79.size le11.size
  have houtl := hout.sl.len
  rw [List.length_map, List.length_take] at houtl
  refine ifLt (fun q => ⟨⟨by omega, by omega⟩, ?_⟩) (fun q => ?_)
  · -- a captured value
    have gj := List.getElem?_eq_getElem (show j < (freeA x).length by omega)
    generalize (freeA x)[j] = s at gj
    obtain ⟨i, rfl, hfi⟩ := mem_freeA.1 (List.mem_of_getElem? gj)
    have hi := hs i hfi
    refine rdN (hF.mono le2) j rfl gj (fun g12 m12 => ⟨nobody, fun _ h => h.elim, i64 (by omega) (by omega), i64 (by omega) (by omega), (kz90 23 ((j : Nat) : Int) [] g12).mono ?_⟩)
    rintro v g13 m13 rfl
    have m113 := m12.trans m13
    have hme13 := hme.exm m113
    have hix : Int.toNat (((c2 : Nat) : Int) - 1 - ((i : Nat) : Int)) = c2 - 1 - i := by omega
    refine ⟨_, _, _, _, _, _, rfl, ⟨by omega, by omega⟩, ?_⟩
    show stOk g13.w (Addr.add ⟨ib, 0, none⟩ (Int.toNat (((c2 : Nat) : Int) - 1 - ((i : Nat) : Int)) * 4)) 4 ∧ _
    rw [hix]
    obtain ⟨ok1, ok2, ok3⟩ := hme13.ok (i := c2 - 1 - i) (by omega)
    refine ⟨ok1, ok2, ok3, fun hh => by rw [add_block] at hh; have hh : ib < g.w.heap.size := hh; omega, fun g14 k14 => ?_⟩
    obtain ⟨hme14, b14⟩ := hme13.st (x := plc 23 ((j : Nat) : Int)) (exp_rep (t := plc 23 ((j : Nat) : Int)) (SlE.zero _)) (by omega) k14
    have le14 : Le g13 g14 := hme13.le_st b14
    have hrs : (innL 0 ((freeA x).take j) (List.replicate c2 noE)).reverse.set (c2 - 1 - i) (plc 23 ((j : Nat) : Int)) = (innL 0 ((freeA x).take (j + 1)) (List.replicate c2 noE)).reverse := by
      rw [innL_take gj, Int.toNat_natCast, rev_set _ _ _ (by rw [innL_len, List.length_replicate]; omega), innL_len, List.length_replicate]
    rw [hrs] at hme14
    have hout14 := (hout.exm m113).but b14 (fun b hb e => hout.ne (b := b) (by have e' : b = ib := e; omega) hb) le14
    have hC14 := (hC11.exm m113).but b14 (fun e => by have e' : cb = ib := e; omega) (fun b hb e => by have e' : b = ib := e; have := ha6 b hb; omega) le14
    have fin : ∀ {g16 g17 g18 g19 : G} {ya : Option Addr} {yn yc : Nat}, Ex g14 g16 → Ex g16 g17 → SlE expE g17 ya yn yc (env.getD i noE).kids → Ex g17 g18 →
        NewL g18 g19 44 [.int .i64 (env.getD i noE).dat.op, .int .i64 (env.getD i noE).dat.n, .string (bstr (env.getD i noE).dat.s), .slice ya yn yc] →
        ∃ xa_4 : Option Addr, ∃ xl_4 : Nat, ∃ xc_4 : Nat, ∃ wo3 : World, Sem.run Tryz.prog (Builtin.append_ #[42, 42] 42 #[(.slice out3a out3l out3c), (.slice (some ⟨g18.w.heap.size, 0, none⟩) 1 1)]) g19.w = .ok (.slice xa_4 xl_4 xc_4) wo3 ∧ ∃ g20 : G, g20.w = wo3 ∧ Stp g.w.heap.size (cset cb a) g19 g20 ∧ InI64 (((j : Nat) : Int) + (1 : Int)) ∧ ∀ g21 : G, Ex g20 g21 →
          (∃ m_1 : Nat, m_1 < m ∧ ∃ j' : Nat, ((j : Nat) : Int) + 1 = ((j' : Nat) : Int) ∧ j' + m_1 = fn ∧ (24 : Int) = 24 ∧ ((n : Nat) : Int) = ((n : Nat) : Int) ∧ bs [] = bs [] ∧ OwnE expE g21 g7.w.heap.size 44 xa_4 xl_4 xc_4 (((freeA x).take j').map fun i => env.getD i.toNat noE) ∧
            MutE expE g21 ib 44 c2 c2 (innL 0 ((freeA x).take j') (List.replicate c2 noE)).reverse ∧ Conv g21 cb a1 (n + 1) c1 (fs ++ [⟨((fn : Nat) : Int), noE⟩])) := by
      intro g16 g17 g18 g19 ya yn yc m16 m17 hy m18 n19
      have m148 := (m16.trans m17).trans m18
      have hz18 : g7.w.heap.size ≤ g18.w.heap.size := Nat.le_trans hz79 (Nat.le_trans m113.size (Nat.le_trans le14.size m148.size))
      obtain ⟨a', c', w', hr, g20, hw, hs20, ho20, hst20, _⟩ := (hout14.exm m148).app1 E22 42 hz18 n19 (x := env.getD i noE) (exp_rep (hy.exm m18)) (by omega) (by unfold maxLen; omega)
      have b20 := hst20.but (Nat.le_refl _)
      have nb : ∀ b, b < g7.w.heap.size → ¬ blkOf out3a b := fun b hb => hout.ne hb
      refine ⟨a', _, c', w', hr, g20, hw, hs20.mono hz7 (fun _ _ h => h.elim), i64 (by omega) (by omega), fun g21 m21 => ⟨m - 1, by omega, j + 1, by omega, by omega, rfl, rfl, rfl, ?_, ?_, ?_⟩⟩
      · rw [List.take_add_one, gj, List.map_append]
        exact ho20.exm m21
      · exact (((hme14.exm m148).exm n19.ex).but b20 (nb ib hib7) hst20.le).exm m21
      · exact (((hC14.exm m148).exm n19.ex).but b20 (nb cb (by omega)) (fun b hb => nb b (by have := ha6 b hb; omega)) hst20.le).exm m21
    have hE16 : ∀ {g16 : G}, Ex g14 g16 → SlE expE g16 ea c2 ec env.reverse := fun m16 => (((hE.mono le0).exm m113).mono le14).exm m16
    refine fun g15 m15 => ⟨nobody, fun _ h => h.elim, fun g16 m16 => (kz64 hi ((k : Nat) : Int) (hE16 (m15.trans m16))).mono ?_, fun g16 m16 => (kz64 hi ((k : Nat) : Int) (hE16 (m15.trans m16))).mono ?_⟩
    · rintro v g17 m17 ⟨ya, yn, yc, rfl, hy⟩
      exact ⟨_, _, _, _, _, _, rfl, fun g18 m18 g19 n19 => fin (m15.trans m16) m17 hy m18 n19⟩
    · rintro v g17 m17 ⟨ya, yn, yc, rfl, hy⟩
      exact ⟨_, _, _, _, _, _, rfl, rep (fun g18 m18 g19 n19 => fin (m15.trans m16) m17 hy m18 n19) _⟩
  · -- the body
    rw [List.take_of_length_le (by omega)] at hout hme
    subst hFl
    subst hfn
    subst hel
    have hO11 := hout.sl
    intro J1 hJ1
    obtain ⟨envI, hEI, hEI2⟩ : ∃ envI, innE x env.length = plc 21 0 :: envI ∧ envI = if x.dat.op = 10 then plc 22 0 :: innL 0 (freeA x) (List.replicate env.length noE) else innL 0 (freeA x) (List.replicate env.length noE) := ⟨_, rfl, rfl⟩
    have hIl : envI.length + 1 = (innE x env.length).length := by rw [hEI, List.length_cons]
    have hlfI : ∀ q ∈ envI, q.kids = [] := fun q hq => innE_leaf x env.length q (by rw [hEI]; exact List.mem_cons_of_mem _ hq)
    have HJ1 : ∀ (g32 : G) (p : Nat → Prop) (ia : Option Addr) (il ic : Nat) (qa : Option Addr) (qn qc : Nat), Le g11 g32 → (∀ b, p b → b = ib) → SlE expE (g32.frozP p) ia il ic envI.reverse → SlE expE g32 qa qn qc (funOf x).kids →
        Conv g32 cb a1 (fs.length + 1) c1 (fs ++ [⟨(((freeA x).length : Nat) : Int), noE⟩]) → J1 ia il ic 0 (funOf x).dat.op (funOf x).dat.n (bstr (funOf x).dat.s) qa qn qc g32 := by
      intro g32 p ia il ic qa qn qc le32 hpib hin hQ hC32
      refine hJ1 _ _ _ _ _ _ _ _ _ _ g32 ?_
      clear hJ1
      intro J2 hJ2
      have hQl := hQ.len
      have HJ2 : ∀ (g33 : G) (ya : Option Addr) (yn yc : Nat) (a2 : Option Addr) (n2 c3 : Nat) (y : E) (fs2 : List FlatD), Le g11 g33 → cvN d (kid (funOf x) 0) (innE x env.length) 1 (fs ++ [⟨(((freeA x).length : Nat) : Int), noE⟩]) = (y, fs2) → SlE expE g33 ya yn yc y.kids → Conv g33 cb a2 n2 c3 fs2 →
          (∀ b, blkOf a2 b → blkOf a b ∨ g.w.heap.size ≤ b) → J2 y.dat.op y.dat.n (bstr y.dat.s) ya yn yc g33 := by
        intro g33 ya yn yc a2 n2 c3 y fs2 le33 hcv hy hC33 hnew
        have hl2 := cv_len d (kid (funOf x) 0) (innE x env.length) 1 (fs ++ [⟨(((freeA x).length : Nat) : Int), noE⟩])
        rw [hcv, List.length_append, List.length_singleton] at hl2
        have hl3 := hC33.row.len
        have hl4 : fs.length + 1 ≤ fs2.length := hl2
        refine hJ2 _ _ _ _ _ _ g33 (fun g34 m34 => ⟨nobody, fun _ h => h.elim, fun h => h, a2, n2, c3, (hC33.exm m34).blk.rd0 rfl, ⟨by omega, by omega⟩, (hC33.exm m34).row.store fs.length rfl (by omega) (hy.exm m34) (fun b hb hlt => (hnew b hb).elim .inr (fun h => by omega)) (fun g35 hrow35 b35 le35 g36 m36 => ?_)⟩)
        rw [cv_fun hop hcv]
        refine ⟨out3a, out3l, out3c, a2, n2, c3, rfl, ((((hO11.mono le33).exm m34).mono le35).exm m36), ⟨?_, hrow35.exm m36, hC33.apart⟩, hnew⟩
        exact (((hC33.exm m34).blk).but b35 hC33.apart).ex m36
      clear hJ2
      intro g37 m37
      have hC37 := hC32.exm m37
      have tail : ∀ {g40 : G} {ka : Option Addr} {kn kc : Nat} {oa : Option Addr} {on oc : Nat}, Ex g37 g40 → SlE expE g37 ka kn kc (kid (funOf x) 0).kids → SlE expE g40 oa on oc (innE x env.length).reverse →
          ∃ M5 : Nat → Prop, (∀ b, b < g.w.heap.size → M5 b → cset cb a b) ∧ (CallsG Tryz.prog 37 #[(.pointer (some ⟨cb, 0, none⟩)), expV (kid (funOf x) 0) ka kn kc, (.agg ⟨[(.slice oa on oc), (.int .i64 ((1 : Nat) : Int))]⟩)] g40 M5 fun v g41 =>
          ∃ x0_7 : Int, ∃ x1_9 : Int, ∃ x2_7 : ByteArray, ∃ x3a_7 : Option Addr, ∃ x3l_7 : Nat, ∃ x3c_7 : Nat, v = (.agg ⟨[(.int .i64 x0_7), (.int .i64 x1_9), (.string x2_7), (.slice x3a_7 x3l_7 x3c_7)]⟩) ∧ SameBut (cset cb a1) g37 g41 ∧ ∀ g42 : G, Ex g41 g42 →
          J2 x0_7 x1_9 x2_7 x3a_7 x3l_7 x3c_7 g42) := by
        intro g40 ka kn kc oa on oc m40 hk hsl
        have hz40 : g.w.heap.size ≤ g40.w.heap.size := Nat.le_trans le0.size (Nat.le_trans le32.size (m37.trans m40).size)
        refine ⟨cset cb a1, fun b hb h => h.elim .inl (fun h => (hnew5 b h).elim .inr (fun h2 => by omega)), (H (kid (funOf x) 0) (innE x env.length) 1 (fs ++ [⟨(((freeA x).length : Nat) : Int), noE⟩]) bo2 bo3 (by omega) (by omega) (by omega) (by omega) (by rw [List.length_append, List.length_singleton]; omega) (innE_leaf x _) (hk.exm m40) hsl (hC37.exm m40)).mono ?_⟩
        rintro v g41 hs41 ⟨ya, yn, yc, a2, n2, c3, rfl, hy, hC41, hnew41⟩
        refine ⟨_, _, _, _, _, _, rfl, fun b h1 h2 h3 => ((m40.but _).trans (hs41.but (Nat.le_refl _))).same b h1 h2 h3, fun g42 m42 => HJ2 g42 ya yn yc a2 n2 c3 _ _ (((le32.trans m37.le).trans m40.le).trans (hs41.le.trans m42.le)) rfl (hy.exm m42) (hC41.exm m42) (fun b hb => ?_)⟩
        rcases hnew41 b hb with h | h
        · exact (hnew5 b h).elim .inl (fun h2 => .inr (by omega))
        · exact .inr (by omega)
      have wth : ∀ {g38 : G}, Ex g37 g38 → CallsP Tryz.prog 67 #[.agg ⟨[.slice ia il ic, .int .i64 ((0 : Nat) : Int)]⟩] g38 fun v g' => ∃ oa on oc, v = .agg ⟨[.slice oa on oc, .int .i64 ((0 + 1 : Nat) : Int)]⟩ ∧ SlE expE g' oa on oc (plc 21 ((0 : Nat) : Int) :: envI).reverse := by
        intro g38 m38
        have hz38 : g11.w.heap.size ≤ g38.w.heap.size := Nat.le_trans le32.size (m37.trans m38).size
        exact kz67f 0 (by omega) (p := p) (fun b hb => by have := hpib b hb; omega) (hin.exm ((m37.trans m38).frozP p)) (by omega) hlfI
      refine ⟨cset cb a1, fun b hb => hC37.nx hb, ⟨by omega, by omega⟩, rdEL (i := 0) (hQ.exm m37) 0 rfl (kid_get bo1) (fun ad ka kn kc _ hk hl => ⟨(live0 (hl 0 _ rfl)).2.1, hC37.live (live0 (hl 0 _ rfl)), _, _, _, _, _, _, (live0 (hl 0 _ rfl)).1, (hl 1 _ rfl).1, (hl 2 _ rfl).1, (hl 3 _ rfl).1, fun g38 m38 => (wth m38).mono ?_, fun g38 m38 => (wth m38).mono ?_⟩)⟩
      · rintro v g39 m39 ⟨oa, on, oc, rfl, hsl⟩
        exact ⟨oa, on, oc, _, rfl, rep (fun g40 m40 => tail ((m38.trans m39).trans m40) hk (by rw [hEI]; exact hsl.exm m40)) _⟩
      · rintro v g39 m39 ⟨oa, on, oc, rfl, hsl⟩
        exact ⟨oa, on, oc, _, rfl, fun g40 m40 => tail ((m38.trans m39).trans m40) hk (by rw [hEI]; exact hsl.exm m40)⟩
    clear hJ1
    refine ifEq (fun e10 => ?_) (fun e10 g70 m70 => ?_)
    · rw [if_pos e10] at hEI2
      intro J3 hJ3
      have hfx : funOf x = kid x 0 := by unfold funOf; rw [if_pos e10]
      have hk1 := (node_len hx).2.2.2.2.1 e10
      have hIl' := hI.len
      have HJ3 : ∀ (g59 : G) (ia : Option Addr) (il ic : Nat), Le g11 g59 → SlE expE g59 ia il ic envI.reverse → Conv g59 cb a1 (fs.length + 1) c1 (fs ++ [⟨(((freeA x).length : Nat) : Int), noE⟩]) → J3 ia il ic 0 g59 := by
        intro g59 ia il ic le59 hin hC59
        refine hJ3 _ _ _ _ g59 ⟨⟨by omega, by omega⟩, rdE (hI.mono (le0.trans le59)) 0 rfl (kid_get (x := x) (by omega)) (fun ka kn kc hk g52 m52 => ?_)⟩
        have := HJ1 g52 nobody ia il ic ka kn kc (le59.trans m52.le) (fun b h => h.elim) (by rw [froz_none]; exact hin.exm m52) (by rw [hfx]; exact hk.exm m52) (hC59.exm m52)
        rw [hfx] at this
        exact this
      clear hJ3 HJ1
      intro g53 m53
      have app : ∀ {g56 g57 : G}, Ex g53 g56 → NewL g56 g57 44 [.int .i64 (plc 22 0).dat.op, .int .i64 (plc 22 0).dat.n, .string (bstr (plc 22 0).dat.s), .slice none 0 0] →
          ∃ xa_8 : Option Addr, ∃ xl_8 : Nat, ∃ xc_8 : Nat, ∃ wo6 : World, Sem.run Tryz.prog (Builtin.append_ #[42, 42] 42 #[(.slice (some ⟨ib, 0, none⟩) env.length env.length), (.slice (some ⟨g56.w.heap.size, 0, none⟩) 1 1)]) g57.w = .ok (.slice xa_8 xl_8 xc_8) wo6 ∧ ∃ g58 : G, g58.w = wo6 ∧ Stp g.w.heap.size (cset cb a) g57 g58 ∧ ∀ g59 : G, Ex g58 g59 →
          J3 xa_8 xl_8 xc_8 (0 : Int) g59 := by
        intro g56 g57 m56 n57
        have m57 := (m53.trans m56).trans n57.ex
        have hrow : SlE expE g57 (some ⟨g56.w.heap.size, 0, none⟩) 1 1 [plc 22 0] := n57.sle (xs := [plc 22 0]) (Rws.single (exp_rep (t := plc 22 0) (SlE.zero _))) (by unfold maxLen; simp)
        obtain ⟨a', c', w', hr, g58, hw, hs58, ho58, b58⟩ := grow_froz (E := expE) E22 (g := g57) (B := g.w.heap.size) (M := cset cb a) (p := fun b => b = ib) (fun b hb => by omega) (Nat.le_trans le0.size m57.size) (hme.exm m57).sl hrow (by omega) (by unfold maxLen; omega)
        refine ⟨a', _, c', w', hr, g58, hw, hs58, fun g59 m59 => HJ3 g59 _ _ _ ((m57.le.trans hs58.le).trans m59.le) ?_ ?_⟩
        · rw [hEI2, List.reverse_cons]
          exact ho58.sl.exm m59
        · have hno : ∀ b, b < ib → ¬ (b = ib ∨ blkOf (some ⟨ib, 0, none⟩) b) := by
            rintro b hb (h | ⟨_, h, rfl⟩)
            · omega
            · cases h; exact absurd hb (by show ¬ ib < ib; omega)
          exact ((hC11.exm m57).but b58 (hno cb hcb6) (fun b hb => hno b (ha6 b hb)) hs58.le).exm m59
      refine ⟨nobody, fun _ h => h.elim, fun g54 m54 => (kz90 22 0 [] g54).mono ?_, fun g54 m54 => (kz90 22 0 [] g54).mono ?_⟩
      · rintro v g55 m55 rfl
        exact ⟨_, _, _, _, _, _, rfl, fun g56 m56 g57 n57 => app ((m54.trans m55).trans m56) n57⟩
      · rintro v g55 m55 rfl
        exact ⟨_, _, _, _, _, _, rfl, rep (fun g56 m56 g57 n57 => app ((m54.trans m55).trans m56) n57) _⟩
    · rw [if_neg e10] at hEI2
      have hfx : funOf x = x := by unfold funOf; rw [if_neg e10]
      have := HJ1 g70 (fun b => b = ib) (some ⟨ib, 0, none⟩) env.length env.length xa xl xc m70.le (fun b h => h) (by rw [hEI2]; exact (hme.exm m70).sl) (by rw [hfx]; exact (hI.mono le0).exm m70) (hC11.exm m70)
      rw [hfx] at this
      exact this
end Go.Proofs.YthlcdgpemjdgnaaGreatDoor
/- Closure: an expression is converted. -/
set_option linter.unusedVariables false
namespace Go.Proofs.YthlcdgpemjdgnaaGreatDoor
open Go Go.Vc Go.RowKit Go.Syn Go.Lam Go.Sort
theorem cv_node {d : Nat} {x : E} (h1 : x.dat.op ≠ 1) (h2 : ¬ (x.dat.op = 4 ∨ x.dat.op = 10)) (env : List E) (k : Nat) (fs : List FlatD) :
    cvN (d + 1) x env k fs = (.mk ⟨if x.dat.op = 5 then 25 else x.dat.op, x.dat.n, x.dat.s⟩ (cvL (cvN d) x.dat.op 0 x.kids env k fs).1, (cvL (cvN d) x.dat.op 0 x.kids env k fs).2) := by
  show (if x.dat.op = 1 then _ else if _ then _ else _) = _
  rw [if_neg h1, if_neg h2]
theorem cv_var {d : Nat} {x : E} (h1 : x.dat.op = 1) (env : List E) (k : Nat) (fs : List FlatD) : cvN (d + 1) x env k fs = (env.getD x.dat.n.toNat noE, fs) := by
  show (if x.dat.op = 1 then _ else _) = _
  rw [if_pos h1]
theorem kid_scope {x : E} (hx : formE x) {m : Nat} (hs : scopedE m x) (h4 : ¬ (x.dat.op = 4 ∨ x.dat.op = 10)) {j : Nat} {y : E} (hy : x.kids[j]? = some y) : formE y ∧ scopedE (m + (if furP x.dat.op j then 1 else 0)) y ∧ depthE y + 1 ≤ depthE x := by
  have h1 := scoped_kid hs hy
  have h2 := depthE_mem (List.mem_of_getElem? hy)
  have h3 : depthE x = depthEL x.kids + 1 := by cases x; rfl
  refine ⟨(formE_un hx).2 y (List.mem_of_getElem? hy), ?_, by omega⟩
  have e : bndN x.dat.op j = if furP x.dat.op j then 1 else 0 := by
    unfold bndN
    rw [if_neg h4]
    by_cases q : furP x.dat.op j
    · rw [if_pos q, if_pos ⟨q.2, q.1⟩]
    · rw [if_neg q, if_neg (fun h => q ⟨h.2, h.1⟩)]
  rw [e] at h1
  exact h1
theorem cvL_count (d : Nat) (op : Int) : ∀ (l : List E) (j : Nat) (env : List E) (k : Nat) (fs : List FlatD), (∀ y ∈ l, formE y) → (cvL (cvN d) op j l env k fs).1.length = l.length
  | [], _, _, _, _, _ => rfl
  | y :: r, j, env, k, fs, h => by
    have e : cvL (cvN d) op j (y :: r) env k fs = ((if furP op j then cvN d y (plc 21 ((k : Nat) : Int) :: env) (k + 1) fs else cvN d y env k fs).1 :: (cvL (cvN d) op (j + 1) r env k (if furP op j then cvN d y (plc 21 ((k : Nat) : Int) :: env) (k + 1) fs else cvN d y env k fs).2).1, (cvL (cvN d) op (j + 1) r env k (if furP op j then cvN d y (plc 21 ((k : Nat) : Int) :: env) (k + 1) fs else cvN d y env k fs).2).2) := rfl
    rw [e]
    simp only [List.length_cons]
    rw [cvL_count d op r (j + 1) env k _ (fun z hz => h z (by simp [hz]))]
theorem cvL_upto (d : Nat) (op : Int) (l : List E) (env : List E) (k : Nat) (fs : List FlatD) (hl : ∀ y ∈ l, formE y) : (cvL (cvN d) op 0 l env k fs).2.length ≤ fs.length + sizeEL l := by
  have key : ∀ (l : List E) (j : Nat) (env : List E) (k : Nat) (fs : List FlatD), (∀ y ∈ l, formE y) → (cvL (cvN d) op j l env k fs).2.length ≤ fs.length + sizeEL l := by
    intro l
    induction l with
    | nil => intro j env k fs _; simp [cvL, sizeEL]
    | cons y r ih =>
      intro j env k fs h
      have e : (cvL (cvN d) op j (y :: r) env k fs).2 = (cvL (cvN d) op (j + 1) r env k (if furP op j then cvN d y (plc 21 ((k : Nat) : Int) :: env) (k + 1) fs else cvN d y env k fs).2).2 := rfl
      rw [e]
      have h1 := ih (j + 1) env k (if furP op j then cvN d y (plc 21 ((k : Nat) : Int) :: env) (k + 1) fs else cvN d y env k fs).2 (fun z hz => h z (by simp [hz]))
      have h2 : (if furP op j then cvN d y (plc 21 ((k : Nat) : Int) :: env) (k + 1) fs else cvN d y env k fs).2.length + 1 ≤ fs.length + sizeE y := by
        split
        · exact cv_upto d y _ _ fs (h y (by simp))
        · exact cv_upto d y _ _ fs (h y (by simp))
      simp only [sizeEL]
      omega
  exact key l 0 env k fs hl
theorem kz37 : ∀ d, K18 d := by
  intro d
  induction d with
  | zero =>
    intro x env k fs xa xl xc ea en ec a n c cb g hx hs hd
    have : 1 ≤ depthE x := by cases x; simp [depthE]
    omega
  | succ d H =>
    intro x env k fs xa xl xc ea en ec a n c cb g hx hs hd hd4 hen hk hfs hlf hI hE hC
    refine call37 _ _ _ _ _ _ _ _ _ _ _ g _ _ ?_
    have hel := hE.len
    rw [List.length_reverse] at hel
    have hIl := hI.len
    have hcap := hI.cap
    have hnc := hI.le
    obtain ⟨n4, n5, n7, n9, n10, n12, n6, n1, n2, n3, nr, nk⟩ := node_len hx
    unfold maxLen at hcap
    unfold F37
    intro g1 m1
    have hC1 := hC.exm m1
    refine ⟨false, hC1.blk.rd (j := 1) rfl, ifT (fun e => by cases e) (fun _ => ?_)⟩
    intro J hJ
    have fin34 : (x.dat.op = 4 ∨ x.dat.op = 10) → ∃ M8 : Nat → Prop, (∀ b, b < g.w.heap.size → M8 b → cset cb a b) ∧ (CallsG Tryz.prog 65 #[(.pointer (some ⟨cb, 0, none⟩)), expV x xa xl xc, (.agg ⟨[(.slice ea en ec), (.int .i64 ((k : Nat) : Int))]⟩)] g1 M8 fun v g58 =>
        ∃ x0 : Int, ∃ x1 : Int, ∃ x2 : ByteArray, ∃ x3a : Option Addr, ∃ x3l : Nat, ∃ x3c : Nat, v = (.agg ⟨[(.int .i64 x0), (.int .i64 x1), (.string x2), (.slice x3a x3l x3c)]⟩) ∧ ∀ g59 : G, Ex g58 g59 → PostC cb a g.w.heap.size (cvN (d + 1) x env k fs) (.agg ⟨[(.int .i64 x0), (.int .i64 x1), (.string x2), (.slice x3a x3l x3c)]⟩) g59) := by
      intro e
      refine ⟨cset cb a, fun _ _ h => h, (kz65 H e hx hs hd hd4 hen hfs hlf (hI.exm m1) (hE.exm m1) hC1).mono ?_⟩
      rintro v g2 _ ⟨ya, yn, yc, a2, n2, c2, rfl, hy, hC2, hnew⟩
      exact ⟨_, _, _, _, _, _, rfl, fun g3 m3 => ⟨ya, yn, yc, a2, n2, c2, rfl, hy.exm m3, hC2.exm m3, fun b hb => (hnew b hb).imp id (fun h => Nat.le_trans m1.size h)⟩⟩
    refine ifEq (fun e => ?_) (fun e1 => ifEq (fun e => fin34 (.inl e)) (fun e4 => ifEq (fun e => fin34 (.inr e)) (fun e10 => hJ _ _ _ _ _ _ g1 ?_)))
    · have hsc := scoped_var hs e (n1 e).1
      have hnn : x.dat.n = ((x.dat.n.toNat : Nat) : Int) := by have := (n1 e).1; omega
      have hc := kz64 hsc ((k : Nat) : Int) (hE.exm m1)
      rw [← hnn] at hc
      refine hc.mono ?_
      rintro v g2 m2 ⟨ya, yn, yc, rfl, hy⟩
      refine ⟨_, _, _, _, _, _, rfl, fun g3 m3 => ?_⟩
      rw [cv_var e]
      exact ⟨ya, yn, yc, a, n, c, rfl, hy.exm m3, (hC1.exm m2).exm m3, fun b hb => .inl hb⟩
    clear hJ fin34
    have h4 : ¬ (x.dat.op = 4 ∨ x.dat.op = 10) := fun h => h.elim e4 e10
    rw [cv_node e1 h4]
    intro J1 hJ1
    have main : ∀ (o : Int) (g4 : G), Ex g1 g4 → o = (if x.dat.op = 5 then 25 else x.dat.op) → J1 o x.dat.n (bstr x.dat.s) none 0 0 g4 := by
      intro o g4 m4 ho
      refine hJ1 _ _ _ _ _ _ g4 ?_
      clear hJ1
      subst ho
      have hC4 := hC1.exm m4
      have hz4 : g.w.heap.size ≤ g4.w.heap.size := (m1.trans m4).size
      refine ⟨fun m v_1 out0 out1 out2 out3a out3l out3c g' => ∃ (j : Nat) (ys : List E) (a1 : Option Addr) (n1 c1 : Nat) (fs1 : List FlatD), v_1 = ((j : Nat) : Int) ∧ j + m = xl ∧ out0 = (if x.dat.op = 5 then 25 else x.dat.op) ∧ out1 = x.dat.n ∧ out2 = bstr x.dat.s ∧
          cvL (cvN d) x.dat.op 0 (x.kids.take j) env k fs = (ys, fs1) ∧ OwnE expE g' g4.w.heap.size 44 out3a out3l out3c ys ∧ Conv g' cb a1 n1 c1 fs1 ∧ (∀ b, blkOf a1 b → blkOf a b ∨ g4.w.heap.size ≤ b) ∧ (∀ b, blkOf out3a b → ¬ cset cb a1 b),
        ⟨xl, 0, [], a, n, c, fs, rfl, by omega, rfl, rfl, rfl, by rw [List.take_zero]; rfl, OwnE.nil _ _ _, hC4, fun b hb => .inl hb, fun b ⟨_, h, _⟩ => by cases h⟩, ?_⟩
      rintro m v_1 out0 out1 out2 out3a out3l out3c g5 le5 ⟨j, ys, a1, n1, c1, fs1, rfl, hj, rfl, rfl, rfl, hcv, hout, hC5, hnew5, hdis⟩
      have le05 : Le g g5 := (m1.le.trans m4.le).trans le5
      have hcl := cvL_count d x.dat.op (x.kids.take j) 0 env k fs (fun y hy => (formE_un hx).2 y (List.mem_of_mem_take hy))
      rw [hcv, List.length_take] at hcl
      have hol := hout.sl.len
      have hfl := cvL_upto d x.dat.op (x.kids.take j) env k fs (fun y hy => (formE_un hx).2 y (List.mem_of_mem_take hy))
      rw [hcv] at hfl
      have hsx : sizeE x = sizeEL x.kids + 1 := by cases x; rfl
      refine ifLt (fun q => ?_) (fun q g53 m53 => ?_)
      · intro J2 hJ2
        have gj := List.getElem?_eq_getElem (show j < x.kids.length by omega)
        generalize x.kids[j] = y at gj
        obtain ⟨y1, y2, y3⟩ := kid_scope hx hs h4 gj
        have htk := sizeEL_take gj
        have hle2 := sizeEL_le x.kids (j + 1)
        have hys := fun {z : E} {fs2 : List FlatD} (h : (if furP x.dat.op j then cvN d y (plc 21 ((k : Nat) : Int) :: env) (k + 1) fs1 else cvN d y env k fs1) = (z, fs2)) => cvL_take (cvN d) x.dat.op gj env k fs hcv h
        have hfl' : fs1.length ≤ fs.length + sizeEL (x.kids.take j) := hfl
        have hcl' : ys.length = min j x.kids.length := hcl
        have fin : ∀ {g12 g13 g14 g15 : G} {z : E} {fs2 : List FlatD} {v : Value}, Ex g5 g12 → Stp g12.size (cset cb a1) g12 g13 → (if furP x.dat.op j then cvN d y (plc 21 ((k : Nat) : Int) :: env) (k + 1) fs1 else cvN d y env k fs1) = (z, fs2) →
            ∀ {za : Option Addr} {zn zc : Nat} {a2 : Option Addr} {n2 c2 : Nat}, SlE expE g13 za zn zc z.kids → Conv g13 cb a2 n2 c2 fs2 → (∀ b, blkOf a2 b → blkOf a1 b ∨ g12.w.heap.size ≤ b) → Ex g13 g14 → NewL g14 g15 44 [.int .i64 z.dat.op, .int .i64 z.dat.n, .string (bstr z.dat.s), .slice za zn zc] →
            ∃ xa_1 : Option Addr, ∃ xl_1 : Nat, ∃ xc_1 : Nat, ∃ wo1 : World, Sem.run Tryz.prog (Builtin.append_ #[42, 42] 42 #[(.slice out3a out3l out3c), (.slice (some ⟨g14.w.heap.size, 0, none⟩) 1 1)]) g15.w = .ok (.slice xa_1 xl_1 xc_1) wo1 ∧ ∃ g16 : G, g16.w = wo1 ∧ Stp g.w.heap.size (cset cb a) g15 g16 ∧ ∀ g17 : G, Ex g16 g17 →
              J2 (if x.dat.op = 5 then 25 else x.dat.op) x.dat.n (bstr x.dat.s) xa_1 xl_1 xc_1 g17 := by
          intro g12 g13 g14 g15 z fs2 v m12 hs13 hz za zn zc a2 n2 c2 hzk hC13 hnew13 m14 n15
          have b13 := (m12.but (cset cb a1)).trans (hs13.but (Nat.le_refl _))
          have hout13 := hout.but b13 hdis (m12.le.trans hs13.le)
          have hz12 : g5.w.heap.size ≤ g12.w.heap.size := m12.size
          have hz13 : g12.w.heap.size ≤ g13.w.heap.size := hs13.le.size
          have hzz : g4.w.heap.size ≤ g14.w.heap.size := Nat.le_trans le5.size (Nat.le_trans hz12 (Nat.le_trans hz13 m14.size))
          obtain ⟨a', c', w', hr, g16, hw, hs16, ho16, hst16, hnw⟩ := (hout13.exm m14).app1 E22 42 hzz n15 (x := z) (exp_rep (hzk.exm m14)) (by omega) (by unfold maxLen; omega)
          have b16 := hst16.but (Nat.le_refl _)
          have hd2 : ∀ b, blkOf out3a b → ¬ cset cb a2 b := by
            intro b hb hh
            have hlt : b < g5.w.heap.size := hout.lt hb
            rcases hh with h | h
            · exact hdis b hb (.inl h)
            · rcases hnew13 b h with h | h
              · exact hdis b hb (.inr h)
              · omega
          refine ⟨a', _, c', w', hr, g16, hw, hs16.mono hz4 (fun _ _ h => h.elim), fun g17 m17 => hJ2 _ _ _ _ _ _ g17 ⟨i64 (by omega) (by omega), m - 1, by omega, j + 1, ys ++ [z], a2, n2, c2, fs2, by omega, by omega, rfl, rfl, rfl, ?_, ho16.exm m17, ?_, ?_, ?_⟩⟩
          · exact hys hz
          · exact (((hC13.exm m14).exm n15.ex).but b16 (fun h => hd2 cb h (.inl rfl)) (fun b hb h => hd2 b h (.inr hb)) hst16.le).exm m17
          · intro b hb
            rcases hnew13 b hb with h | h
            · exact hnew5 b h
            · exact .inr (Nat.le_trans le5.size (Nat.le_trans hz12 h))
          · intro b hb hh
            rcases hnw b hb with h | h
            · exact hd2 b h hh
            · have h1 : b < g13.w.heap.size := hC13.lt hh
              have h2 := (m14.trans n15.ex).size
              omega
        clear hJ2
        have sub : ∀ b, b < g.w.heap.size → cset cb a1 b → cset cb a b := fun b hb h => h.elim .inl (fun h => (hnew5 b h).elim .inr (fun h2 => by omega))
        have nx : ∀ {g9 : G}, Ex g5 g9 → ∀ b, cset cb a1 b → ¬ g9.X b := fun m9 b hb => (hC5.exm m9).nx hb
        have same : ∀ {g9 g12 g13 : G}, Ex g9 g12 → Stp g12.size (cset cb a1) g12 g13 → SameBut (cset cb a1) g9 g13 := fun m hs b h1 h2 h3 => ((m.but _).trans (hs.but (Nat.le_refl _))).same b h1 h2 h3
        refine ⟨⟨by omega, by omega⟩, rdE (hI.mono le05) j rfl gj (fun ka kn kc hkk g7 m7 => (kz66 x.dat.op j g7).mono ?_)⟩
        rintro v g8 m8 rfl
        have m58 := m7.trans m8
        refine ⟨_, rfl, ifP (fun hf g9 m9 => ?_) (fun hf g36 m36 => ?_)⟩
        · rw [if_pos hf] at y2
          have m59 := m58.trans m9
          have hE9 := (hE.mono le05).exm m59
          have wth : ∀ {g10 : G}, Ex g9 g10 → _ := fun {g10} m10 => kz67 k (by omega) (hE9.exm m10) (by omega)
          have tail : ∀ {g12 : G} {oa : Option Addr} {on oc : Nat}, Ex g9 g12 → SlE expE g12 oa on oc (plc 21 ((k : Nat) : Int) :: env).reverse → CallsG Tryz.prog 37 #[(.pointer (some ⟨cb, 0, none⟩)), expV y ka kn kc, (.agg ⟨[(.slice oa on oc), (.int .i64 ((k + 1 : Nat) : Int))]⟩)] g12 (cset cb a1) (fun v g' => PostC cb a1 g12.w.heap.size (cvN d y (plc 21 ((k : Nat) : Int) :: env) (k + 1) fs1) v g') :=
            fun {g12 oa on oc} m12 hsl => H y (plc 21 ((k : Nat) : Int) :: env) (k + 1) fs1 y1 (by simpa using y2) (by omega) (by omega) (by rw [List.length_cons]; omega) (by omega) (by omega) (fun p hp => (List.mem_cons.1 hp).elim (fun e => e ▸ rfl) (hlf p)) ((hkk.exm m59).exm m12) hsl ((hC5.exm m59).exm m12)
          refine ⟨cset cb a1, nx m59, fun g10 m10 => (wth m10).mono ?_, fun g10 m10 => (wth m10).mono ?_⟩
          · rintro v g11 m11 ⟨oa, on, oc, rfl, hsl, _⟩
            refine ⟨oa, on, oc, _, rfl, fun g12 m12 => ⟨cset cb a1, sub, (tail ((m10.trans m11).trans m12) (hsl.exm m12)).mono ?_⟩⟩
            rintro v g13 hs13 ⟨za, zn, zc, a2, n2, c2, rfl, hzk, hC13, hnew13⟩
            exact ⟨_, _, _, _, _, _, rfl, same ((m10.trans m11).trans m12) hs13, fun g14 m14 g15 n15 => fin (v := .bool true) (m59.trans ((m10.trans m11).trans m12)) hs13 (by rw [if_pos hf]) hzk hC13 hnew13 m14 n15⟩
          · rintro v g11 m11 ⟨oa, on, oc, rfl, hsl, _⟩
            refine ⟨oa, on, oc, _, rfl, fun g12 m12 => ⟨cset cb a1, sub, (tail ((m10.trans m11).trans m12) (hsl.exm m12)).mono ?_⟩, fun g12 m12 => ⟨cset cb a1, sub, (tail ((m10.trans m11).trans m12) (hsl.exm m12)).mono ?_⟩⟩
            · rintro v g13 hs13 ⟨za, zn, zc, a2, n2, c2, rfl, hzk, hC13, hnew13⟩
              exact ⟨_, _, _, _, _, _, rfl, same ((m10.trans m11).trans m12) hs13, fun g14 m14 g15 n15 => fin (v := .bool true) (m59.trans ((m10.trans m11).trans m12)) hs13 (by rw [if_pos hf]) hzk hC13 hnew13 m14 n15⟩
            · rintro v g13 hs13 ⟨za, zn, zc, a2, n2, c2, rfl, hzk, hC13, hnew13⟩
              exact ⟨_, _, _, _, _, _, rfl, same ((m10.trans m11).trans m12) hs13, rep (fun g14 m14 g15 n15 => fin (v := .bool true) (m59.trans ((m10.trans m11).trans m12)) hs13 (by rw [if_pos hf]) hzk hC13 hnew13 m14 n15) _⟩
        · rw [if_neg hf] at y2
          have m536 := m58.trans m36
          have tail : ∀ {g12 : G}, Ex g36 g12 → CallsG Tryz.prog 37 #[(.pointer (some ⟨cb, 0, none⟩)), expV y ka kn kc, (.agg ⟨[(.slice ea en ec), (.int .i64 ((k : Nat) : Int))]⟩)] g12 (cset cb a1) (fun v g' => PostC cb a1 g12.w.heap.size (cvN d y env k fs1) v g') :=
            fun {g12} m12 => H y env k fs1 y1 (by simpa using y2) (by omega) (by omega) (by omega) (by omega) (by omega) hlf ((hkk.exm m536).exm m12) (((hE.mono le05).exm m536).exm m12) ((hC5.exm m536).exm m12)
          refine ⟨cset cb a1, nx m536, fun g37 m37 => ⟨cset cb a1, sub, (tail m37).mono ?_⟩, fun g37 m37 => ⟨cset cb a1, sub, (tail m37).mono ?_⟩⟩
          · rintro v g13 hs13 ⟨za, zn, zc, a2, n2, c2, rfl, hzk, hC13, hnew13⟩
            exact ⟨_, _, _, _, _, _, rfl, same m37 hs13, fun g14 m14 g15 n15 => fin (v := .bool true) (m536.trans m37) hs13 (by rw [if_neg hf]) hzk hC13 hnew13 m14 n15⟩
          · rintro v g13 hs13 ⟨za, zn, zc, a2, n2, c2, rfl, hzk, hC13, hnew13⟩
            exact ⟨_, _, _, _, _, _, rfl, same m37 hs13, rep (fun g14 m14 g15 n15 => fin (v := .bool true) (m536.trans m37) hs13 (by rw [if_neg hf]) hzk hC13 hnew13 m14 n15) _⟩
      · rw [List.take_of_length_le (by omega)] at hcv
        rw [hcv]
        exact ⟨out3a, out3l, out3c, a1, n1, c1, rfl, hout.sl.exm m53, hC5.exm m53, fun b hb => (hnew5 b hb).imp id (fun h => Nat.le_trans hz4 h)⟩
    clear hJ1
    exact ifEq (fun e g54 m54 => main 25 g54 m54 (by rw [if_pos e])) (fun e g55 m55 => main x.dat.op g55 m55 (by rw [if_neg e]))
end Go.Proofs.YthlcdgpemjdgnaaGreatDoor
/- Closure: sizes; Convert. -/
set_option linter.unusedVariables false
namespace Go.Proofs.YthlcdgpemjdgnaaGreatDoor
open Go Go.Vc Go.RowKit Go.Syn Go.Lam Go.Sort
theorem kz69 (x : E) : ∀ {a : Option Addr} {n c : Nat} {g : G}, sizeE x ≤ 1000000 → SlE expE g a n c x.kids → CallsP Tryz.prog 69 #[expV x a n c] g fun v _ => v = .tuple ⟨[.int .i64 ((sizeE x : Nat) : Int), .int .i64 ((depthE x : Nat) : Int)]⟩ := by
  induction x using Tr.ind with
  | h d l ih =>
    intro a n c g hs hI
    refine call69 _ _ _ _ _ _ g _ ?_
    have hl : l.length = n := hI.len
    have hsz : sizeE (.mk d l) = sizeEL l + 1 := rfl
    have hdp : depthE (.mk d l) = depthEL l + 1 := rfl
    have hds : ∀ x : E, depthE x ≤ sizeE x := by
      intro x
      induction x using Tr.ind with
      | h d l ih =>
        have key : ∀ r : List E, (∀ y ∈ r, depthE y ≤ sizeE y) → depthEL r ≤ sizeEL r := by
          intro r
          induction r with
          | nil => intro _; simp [depthEL]
          | cons z r ihr =>
            intro h
            have h1 := h z (by simp)
            have h2 := ihr (fun y hy => h y (by simp [hy]))
            simp only [depthEL, sizeEL]
            omega
        have := key l ih
        simp only [depthE, sizeE]
        omega
    unfold F69
    refine ⟨fun m nodes depth i g' => ∃ j : Nat, i = ((j : Nat) : Int) ∧ j + m = n ∧ nodes = ((sizeEL (l.take j) : Nat) : Int) ∧ depth = ((depthEL (l.take j) : Nat) : Int), fun g1 m1 => ⟨n, 0, rfl, by omega, rfl, rfl⟩, ?_⟩
    rintro m nodes depth i g2 le ⟨j, rfl, hj, rfl, rfl⟩
    have hle := sizeEL_le l j
    have hd1 : depthEL (l.take j) ≤ sizeEL (l.take j) := by
      have key : ∀ r : List E, depthEL r ≤ sizeEL r := by
        intro r
        induction r with
        | nil => simp [depthEL]
        | cons z r ihr =>
          have h1 := hds z
          simp only [depthEL, sizeEL]
          omega
      exact key _
    refine ifLt (fun q => ⟨⟨by omega, by omega⟩, ?_⟩) (fun q => ⟨i64 (by omega) (by omega), i64 (by omega) (by omega), fun g5 _ => ?_⟩)
    · have gj := List.getElem?_eq_getElem (show j < l.length by omega)
      generalize l[j] = y at gj
      have hy := List.mem_of_getElem? gj
      have htk := sizeEL_take gj
      have hdk := depthEL_take gj
      have hle2 := sizeEL_le l (j + 1)
      have hsy := sizeE_mem hy
      have hll := sizeEL_len l
      refine rdE (hI.mono le) j rfl gj (fun ka kn kc hk g3 m3 => (ih y hy (by omega) (hk.exm m3)).mono ?_)
      rintro v g4 _ rfl
      refine ⟨_, _, rfl, i64 (by omega) (by omega), i64 (by omega) (by omega), m - 1, by omega, j + 1, by omega, by omega, by omega, ?_⟩
      rw [hdk]
      unfold maxI
      split <;> omega
    · rw [List.take_of_length_le (by omega), hsz, hdp]
      rw [show ((sizeEL l : Nat) : Int) + 1 = ((sizeEL l + 1 : Nat) : Int) by omega, show ((depthEL l : Nat) : Int) + 1 = ((depthEL l + 1 : Nat) : Int) by omega]
theorem kz40 {x : E} (hs : sizeE x ≤ 20000 ∧ depthE x ≤ 400) {a : Option Addr} {n c : Nat} {g : G} (hI : SlE expE g a n c x.kids) : CallsP Tryz.prog 40 #[expV x a n c] g fun v _ => v = .bool false := by
  refine call40 _ _ _ _ _ _ g _ ?_
  unfold F40
  refine fun g1 m1 => (kz69 x (by omega) (hI.exm m1)).mono ?_
  rintro v g2 _ rfl
  refine ⟨_, _, rfl, ifLt (fun q => by omega) (fun q g4 _ => ?_)⟩
  show Value.bool (ltI (400 : Int) ((depthE x : Nat) : Int)) = _
  rw [tf_lt, tf_no (by omega)]
abbrev flatV (f : FlatD) (a : Option Addr) (n c : Nat) : Value := .agg ⟨flatRow f a n c⟩
theorem kz39 {f : FlatD} (hs : flatB 20000 400 f) {a : Option Addr} {n c : Nat} {g : G} (hI : SlE expE g a n c f.body.kids) : CallsP Tryz.prog 39 #[flatV f a n c] g fun v _ => v = .bool false := by
  refine call39 _ _ _ _ _ _ _ g _ ?_
  unfold F39
  refine fun g1 m1 => (kz40 hs (hI.exm m1)).mono ?_
  rintro v g2 _ rfl
  exact ⟨_, rfl, fun g3 _ => rfl⟩
theorem rdFl {fs : List FlatD} {a : Option Addr} {n c : Nat} {g : G} (h : SlE flatE g a n c fs) {i : Int} (p : Nat) (hi : i = (p : Int)) {f : FlatD} (hf : fs[p]? = some f) {K : Addr → Prop}
    (hk : ∀ ad ka kn kc, SlE expE g ka kn kc f.body.kids → (∀ j v, (flatRow f ka kn kc)[j]? = some v → Live g (Addr.add (Addr.add ad (Int.toNat i * 5)) j) v) → K ad) : derefP a K := by
  subst hi
  refine h.rd (i := p) hf (fun r ad hr hl => ?_)
  obtain ⟨ka, kn, kc, rfl, hI⟩ := hr
  refine hk ad ka kn kc hI ?_
  rw [Int.toNat_natCast]
  exact hl
theorem kz68 {fs : List FlatD} (hs : ∀ f ∈ fs, flatB 20000 400 f) {a : Option Addr} {n c : Nat} {g : G} (h : SlE flatE g a n c fs) : CallsP Tryz.prog 68 #[.slice a n c, .func (.func 39) #[] #[]] g fun v _ => v = .int .i64 (-1) := by
  refine call68 _ _ _ _ _ g _ ?_
  have hl := h.len
  have hcap := h.cap
  have hnc := h.le
  unfold maxLen at hcap
  unfold F68
  refine ⟨fun m i g' => ∃ j : Nat, i = ((j : Nat) : Int) ∧ j + m = n, ⟨n, 0, rfl, by omega⟩, ?_⟩
  rintro m i g1 le ⟨j, rfl, hj⟩
  refine ifLt (fun q => ⟨⟨by omega, by omega⟩, ?_⟩) (fun q g4 _ => rfl)
  have gj := List.getElem?_eq_getElem (show j < fs.length by omega)
  generalize fs[j] = f at gj
  refine rdFl (i := ((j : Nat) : Int)) (h.mono le) j rfl gj (fun ad ka kn kc hk hl => ⟨_, _, _, _, _, _, _, (live0 (hl 0 _ rfl)).1, (hl 1 _ rfl).1, (hl 2 _ rfl).1, (hl 3 _ rfl).1, (hl 4 _ rfl).1, ⟨_, Tryz.func39, by kernel_rfl, by kernel_rfl⟩, (kz39 (hs f (List.mem_of_getElem? gj)) hk).mono ?_⟩)
  rintro v g2 _ rfl
  exact ⟨_, rfl, ifT (fun e => by cases e) (fun _ => ⟨i64 (by omega) (by omega), m - 1, by omega, j + 1, by omega, by omega⟩)⟩
theorem kz38 {fs : List FlatD} (hs : ∀ f ∈ fs, flatB 20000 400 f) {a : Option Addr} {n c : Nat} {g : G} (h : SlE flatE g a n c fs) : CallsP Tryz.prog 38 #[.slice a n c, .func (.func 39) #[] #[]] g fun v _ => v = .bool false := by
  refine call38 _ _ _ _ _ g _ ?_
  unfold F38
  refine (kz68 hs h).mono ?_
  rintro v g1 _ rfl
  exact ⟨_, rfl, fun g2 _ => by simp⟩
def f0 : FlatD := ⟨0, noE⟩
def convF (x : E) : List FlatD := setBody (cvN 400 x [] 1 [f0]).2 0 (cvN 400 x [] 1 [f0]).1
theorem convF_small {x : E} (hx : formE x) (hs : sizeE x ≤ 20000) (hd : depthE x ≤ 400) : ∀ f ∈ convF x, flatB 20000 400 f := by
  have hp := sizeE_pos x
  have hdp : 1 ≤ depthE x := by cases x; simp [depthE]
  have h := cv_bound (S := 20000) (D := 400) 400 x [] 1 [f0] hx hs hd (by simp) (fun f hf => by
    have : f = f0 := by simpa using hf
    rw [this]
    exact ⟨by show 1 ≤ 20000; omega, by show 1 ≤ 400; omega⟩)
  intro f hf
  rcases mem_setBody hf with h1 | ⟨g, hg, rfl⟩
  · exact h.all f h1
  · exact ⟨Nat.le_trans h.size hs, Nat.le_trans h.depth hd⟩
open Classical in
noncomputable def convA (x : E) : List FlatD × Int := if validE x ∧ scopedE 0 x then (convF x, 0) else ([], 1)
def ConvSay (x : E) (v : Value) (g' : G) : Prop := ∃ a n c, v = .tuple ⟨[.slice a n c, .int .i64 0, .int .i64 (convA x).2]⟩ ∧ SlE flatE g' a n c (convA x).1
theorem kz17 {x : E} (hx : i64E x) (hsz : sizeE x ≤ 900) {a : Option Addr} {n c : Nat} {g : G} (hI : SlE expE g a n c x.kids) : CallsP Tryz.prog 17 #[expV x a n c] g fun v g' => ConvSay x v g' := by
  refine CallsP.frz (call17 _ _ _ _ _ _ g _ ?_)
  unfold F17
  have no : ∀ (g' : G), ¬ (validE x ∧ scopedE 0 x) → ∃ p : Nat → Prop, (∀ b, p b → g.w.heap.size ≤ b) ∧ ConvSay x (.tuple ⟨[.slice none 0 0, .int .i64 0, .int .i64 1]⟩) (g'.frozP p) := by
    intro g' h
    have e : convA x = ([], 1) := by unfold convA; rw [if_neg h]
    exact ⟨nobody, fun _ h => h.elim, none, 0, 0, by rw [e], by rw [e]; exact SlE.zero _⟩
  refine fun g1 m1 => (kk17 hx (hI.exm m1)).mono ?_
  rintro v g2 m2 ⟨fa, fn, fc, fe, rfl, hFS⟩
  have m02 := m1.trans m2
  refine ⟨_, _, _, _, rfl, ?_⟩
  intro J hJ
  rcases hFS with ⟨hv, rfl, F, hF, hA⟩ | ⟨h, he, rfl, rfl, rfl⟩
  rotate_left
  · exact ifNe (fun _ g16 _ => no g16 (fun hh => h hh.1)) (fun hh => by omega)
  have hFl := hF.len
  have h0 := asc_nil hA
  refine ifNe (fun h => absurd rfl h) (fun _ => ifLt (fun q g17 _ => no g17 (fun hh => by have := h0.2 hh.2; rw [this] at hFl; simp at hFl; omega)) (fun q => hJ g2 ?_))
  clear hJ
  have hsc : scopedE 0 x := h0.1 (List.eq_nil_of_length_eq_zero (by omega))
  have e : convA x = (convF x, 0) := by unfold convA; rw [if_pos ⟨hv, hsc⟩]
  intro g4 n4 g5 n5
  have hz2 : g.w.heap.size ≤ g2.w.heap.size := m02.size
  have hrow4 : FlatR g4 55 (some ⟨g2.w.heap.size, 0, none⟩) 1 1 [f0] := FlatR.lit (f := f0) n4 (SlE.zero _)
  have hb5 := n5.mut
  have hC5 : Conv g5 g4.w.heap.size (some ⟨g2.w.heap.size, 0, none⟩) 1 1 [f0] := ⟨hb5, hrow4.exm n5.ex, fun ⟨ad, hh, e⟩ => by
    cases hh
    have h1 : g2.w.heap.size < g4.w.heap.size := hrow4.lt ⟨_, rfl, rfl⟩
    have e : g2.w.heap.size = g4.w.heap.size := e
    omega⟩
  have hz4 : g.w.heap.size ≤ g4.w.heap.size := Nat.le_trans hz2 n4.ex.size
  have isb : ∀ b, cset g4.w.heap.size (some ⟨g2.w.heap.size, 0, none⟩) b → g.w.heap.size ≤ b := by
    rintro b (h | ⟨ad, hh, rfl⟩)
    · omega
    · cases hh; exact hz2
  have m05 := (m02.trans n4.ex).trans n5.ex
  have hvd := hv.2.2
  refine ⟨cset g4.w.heap.size (some ⟨g2.w.heap.size, 0, none⟩), fun b hb h => absurd (isb b h) (by omega), (kz37 400 x [] 1 [f0] hv.1 hsc hv.2.2 hv.2.2 (by simp; omega) (by omega) (by simp; omega) (by simp) (hI.exm m05) (SlE.zero _) hC5).mono ?_⟩
  rintro v g6 hs6 ⟨ya, yn, yc, a2, n2, c2, rfl, hy, hC6, hnew6⟩
  have hl6 := hC6.row.len
  have hl1 := cv_len 400 x [] 1 [f0]
  have hl2 := cv_upto 400 x [] 1 [f0] hv.1
  rw [List.length_singleton] at hl1 hl2
  have hge : ∀ b, blkOf a2 b → g.w.heap.size ≤ b := fun b hb => (hnew6 b hb).elim (fun h => isb b (.inr h)) (fun h => Nat.le_trans m05.size h)
  refine ⟨_, _, _, _, _, _, rfl, ?_⟩
  intro J1 hJ1 g13 m13
  have hC13 := hC6.exm m13
  refine ⟨false, hC13.blk.rd (j := 1) rfl, ifT (fun e => by cases e) (fun _ => ⟨a2, n2, c2, hC13.blk.rd0 rfl, ifLt (fun q => by omega) (fun _ => hJ1 g13 (fun g8 m8 => ⟨a2, n2, c2, (hC13.exm m8).blk.rd0 rfl, ⟨by omega, by omega⟩, (hC13.exm m8).row.store 0 rfl (by omega) ((hy.exm m13).exm m8) (fun b hb hlt => absurd (hge b hb) (by omega)) (fun g9 hrow9 b9 le9 => ?_)⟩))⟩)⟩
  have hblk9 := ((hC13.exm m8).blk).but b9 hC6.apart
  have hsmall := convF_small hv.1 (by omega) hv.2.2
  refine ⟨a2, n2, c2, hblk9.rd0 rfl, ?_⟩
  have hrow9' : FlatR g9 55 a2 n2 c2 (convF x) := hrow9
  refine (CallsP.thawP (p := blkOf a2) (fun b hb => hrow9'.lt hb) (kz38 hsmall hrow9'.fro) (Q' := fun v g' => v = .bool false ∧ Ex g9 g') (fun v g1 g' hv m _ _ _ => ⟨hv, m⟩)).mono ?_
  rintro v g10 _ ⟨rfl, m10⟩
  refine ⟨_, rfl, ifT (fun e => by cases e) (fun _ => ⟨a2, n2, c2, (hblk9.ex m10).rd0 rfl, fun g12 m12 => ⟨blkOf a2, hge, a2, n2, c2, by rw [e], ?_⟩⟩)⟩
  rw [e]
  exact ((hrow9'.exm m10).exm m12).fro
end Go.Proofs.YthlcdgpemjdgnaaGreatDoor
/- Closure: law 3. -/
set_option linter.unusedVariables false
namespace Go.Proofs.YthlcdgpemjdgnaaGreatDoor
open Go Go.Vc Go.RowKit Go.Syn Go.Lam Go.Sort
theorem take_eq_succ {α : Type} {l m : List α} {j : Nat} {x y : α} (hx : l[j]? = some x) (hy : m[j]? = some y) (h : l.take j = m.take j) (e : x = y) : l.take (j + 1) = m.take (j + 1) := by
  rw [List.take_add_one, List.take_add_one, hx, hy, h, e]
theorem kz49 (x : E) : ∀ {y : E} {a : Option Addr} {n c : Nat} {b : Option Addr} {m d : Nat} {g : G}, SlE expE g a n c x.kids → SlE expE g b m d y.kids → CallsP Tryz.prog 49 #[expV x a n c, expV y b m d] g fun v _ => v = .bool (tf (x = y)) := by
  induction x using Tr.ind with
  | h dx l ih =>
    intro y a n c b m d g hX hY
    obtain ⟨dy, l2⟩ := y
    refine call49 _ _ _ _ _ _ _ _ _ _ _ _ g _ ?_
    have hX' : SlE expE g a n c l := hX
    have hY' : SlE expE g b m d l2 := hY
    have hXl := hX'.len
    have hYl := hY'.len
    have hcap := hX'.cap
    have hle := hX'.le
    unfold maxLen at hcap
    unfold F49
    intro J hJ
    have es : (strEq (bstr dx.s) (bstr dy.s) = true) = (dx.s = dy.s) := by rw [strEq_true, bstr_inj]
    refine ifNe (fun q g7 _ => vF (fun e => q (by cases e; rfl))) (fun q1 => ifNe (fun q g8 _ => vF (fun e => q (by cases e; rfl))) (fun q2 => ifF (fun e g9 _ => vF (fun h => ?_)) (fun e3 => ifNe (fun q g10 _ => vF (fun e => ?_)) (fun q4 g11 m11 => hJ g11 ?_))))
    · cases h
      have e' : strEq (bstr dx.s) (bstr dx.s) = false := e
      rw [es.mpr rfl] at e'
      cases e'
    · cases e; omega
    clear hJ
    have q3 : dx.s = dy.s := by rw [← es]; exact e3
    refine ⟨fun k i g' => ∃ j : Nat, i = ((j : Nat) : Int) ∧ j + k = n ∧ l.take j = l2.take j, ⟨n, 0, rfl, by omega, rfl⟩, ?_⟩
    rintro k i g2 le ⟨j, rfl, hj, he⟩
    refine ifLt (fun qq g3 m3 => ⟨⟨by omega, by omega⟩, ?_⟩) (fun qq g6 _ => ?_)
    · have gx := List.getElem?_eq_getElem (show j < l.length by omega)
      have gy := List.getElem?_eq_getElem (show j < l2.length by omega)
      generalize l[j] = x at gx
      generalize l2[j] = y at gy
      refine rdE (((hX'.exm m11).mono le).exm m3) j rfl gx (fun ka kn kc hk => ⟨⟨by omega, by omega⟩, rdE (((hY'.exm m11).mono le).exm m3) j rfl gy (fun pa pn pc hp => (ih x (List.mem_of_getElem? gx) hk hp).mono ?_)⟩)
      rintro v g4 _ rfl
      refine ⟨_, rfl, ifPn (fun q g5 _ => vF (fun h => q ?_)) (fun q => ⟨i64 (by omega) (by omega), k - 1, by omega, j + 1, by omega, by omega, take_eq_succ gx gy he q⟩)⟩
      cases h
      rw [gy] at gx
      cases gx
      rfl
    · rw [List.take_of_length_le (by omega), List.take_of_length_le (by omega)] at he
      obtain ⟨p1, p2, p3⟩ := dx
      obtain ⟨r1, r2, r3⟩ := dy
      have h1 : p1 = r1 := q1
      have h2 : p2 = r2 := q2
      have h3 : p3 = r3 := q3
      rw [h1, h2, h3, he]
      exact vT rfl
theorem kz22 {fs gs : List FlatD} {a : Option Addr} {n c : Nat} {b : Option Addr} {m d : Nat} {g : G} (hX : SlE flatE g a n c fs) (hY : SlE flatE g b m d gs) : CallsP Tryz.prog 22 #[.slice a n c, .slice b m d] g fun v _ => v = .bool (tf (fs = gs)) := by
  refine call22 _ _ _ _ _ _ g _ ?_
  have hXl := hX.len
  have hYl := hY.len
  have hcap := hX.cap
  have hle := hX.le
  unfold maxLen at hcap
  unfold F22
  refine ifNe (fun q g1 _ => vF (fun e => by rw [e] at hXl; omega)) (fun q => ?_)
  refine ⟨fun k i g' => ∃ j : Nat, i = ((j : Nat) : Int) ∧ j + k = n ∧ fs.take j = gs.take j, ⟨n, 0, rfl, by omega, rfl⟩, ?_⟩
  rintro k i g2 le ⟨j, rfl, hj, he⟩
  refine ifLt (fun q2 g3 m3 => ⟨⟨by omega, by omega⟩, ?_⟩) (fun q2 g7 _ => ?_)
  · have gx := List.getElem?_eq_getElem (show j < fs.length by omega)
    have gy := List.getElem?_eq_getElem (show j < gs.length by omega)
    generalize fs[j] = x at gx
    generalize gs[j] = y at gy
    have hX3 := (hX.mono le).exm m3
    have hY3 := (hY.mono le).exm m3
    refine rdFl (i := ((j : Nat) : Int)) hX3 j rfl gx (fun ad ka kn kc hk hl => ⟨_, (live0 (hl 0 _ rfl)).1, ⟨by omega, by omega⟩, rdFl (i := ((j : Nat) : Int)) hY3 j rfl gy (fun ad1 pa pn pc hp hl1 => ⟨_, (live0 (hl1 0 _ rfl)).1, ifNe (fun e g4 _ => vF (fun h => e ?_)) (fun e => ⟨⟨by omega, by omega⟩, ?_⟩)⟩)⟩)
    · rw [h, gy] at gx; cases gx; rfl
    · refine rdFl (i := ((j : Nat) : Int)) hX3 j rfl gx (fun ad2 ka kn kc hk hl2 => ⟨_, _, _, _, _, _, (hl2 1 _ rfl).1, ?_, ?_, ?_, ⟨by omega, by omega⟩, rdFl (i := ((j : Nat) : Int)) hY3 j rfl gy (fun ad3 pa pn pc hp hl3 => ⟨_, _, _, _, _, _, (hl3 1 _ rfl).1, ?_, ?_, ?_, (kz49 x.body hk hp).mono ?_⟩)⟩)
      · rw [add_add]; exact (hl2 2 _ rfl).1
      · rw [add_add]; exact (hl2 3 _ rfl).1
      · rw [add_add]; exact (hl2 4 _ rfl).1
      · rw [add_add]; exact (hl3 2 _ rfl).1
      · rw [add_add]; exact (hl3 3 _ rfl).1
      · rw [add_add]; exact (hl3 4 _ rfl).1
      · rintro v g5 _ rfl
        refine ⟨_, rfl, ifPn (fun q g6 _ => vF (fun h => q ?_)) (fun q => ⟨i64 (by omega) (by omega), k - 1, by omega, j + 1, by omega, by omega, take_eq_succ gx gy he ?_⟩)⟩
        · rw [h, gy] at gx; cases gx; rfl
        · obtain ⟨x1, x2⟩ := x
          obtain ⟨y1, y2⟩ := y
          have e1 : x1 = y1 := e
          have e2 : x2 = y2 := q
          rw [e1, e2]
  · rw [List.take_of_length_le (by omega), List.take_of_length_le (by omega)] at he
    rw [tf_of he]
theorem kz14 (x : E) : ∀ {most : Int} {depth : Nat} {a : Option Addr} {n c : Nat} {g : G}, 1 ≤ most → most ≤ 4400 → depth ≤ 251 → SlE expE g a n c x.kids →
    CallsP Tryz.prog 14 #[expV x a n c, .int .i64 most, .int .i64 ((depth : Nat) : Int)] g fun v _ => ∃ r : Int, v = .int .i64 r ∧ 0 ≤ r ∧ r ≤ most ∧ (r < most → r = ((sizeE x : Nat) : Int) ∧ depthE x + depth ≤ 251) := by
  induction x using Tr.ind with
  | h dx l ih =>
    intro most depth a n c g h1 h2 h3 hX
    refine call14 _ _ _ _ _ _ _ _ g _ ?_
    have hX' : SlE expE g a n c l := hX
    have hXl := hX'.len
    have hcap := hX'.cap
    have hle := hX'.le
    unfold maxLen at hcap
    have hsz : sizeE (.mk dx l) = sizeEL l + 1 := rfl
    have hdp : depthE (.mk dx l) = depthEL l + 1 := rfl
    unfold F14
    intro J hJ
    have all : ∀ _ : G, (∃ r : Int, Value.int .i64 most = .int .i64 r ∧ 0 ≤ r ∧ r ≤ most ∧ (r < most → r = ((sizeE (.mk dx l) : Nat) : Int) ∧ depthE (.mk dx l) + depth ≤ 251)) := fun _ => ⟨most, rfl, by omega, by omega, fun h => by omega⟩
    refine ifLt (fun _ g7 _ => all g7) (fun hd => ?_)
    have fin : ∀ g', Ex g g' → J g' := by
      intro g1 m1
      refine hJ g1 ?_
      refine ⟨fun m s v g' => ∃ j : Nat, v = ((j : Nat) : Int) ∧ j + m = n ∧ 1 ≤ s ∧ s ≤ most ∧ (s < most → s = ((sizeEL (l.take j) + 1 : Nat) : Int) ∧ depthEL (l.take j) + 1 + depth ≤ 251), ⟨n, 0, rfl, by omega, by omega, by omega, fun _ => ⟨rfl, ?_⟩⟩, ?_⟩
      · show 0 + 1 + depth ≤ 251; omega
      rintro m s v g2 le ⟨j, rfl, hj, hs1, hs2, hs3⟩
      refine ifLt (fun q => ⟨⟨by omega, by omega⟩, ?_⟩) (fun q g6 _ => ?_)
      · have gj := List.getElem?_eq_getElem (show j < l.length by omega)
        generalize l[j] = y at gj
        have hy := List.mem_of_getElem? gj
        have htk := sizeEL_take gj
        have hdk := depthEL_take gj
        refine rdE ((hX'.exm m1).mono le) j rfl gj (fun ka kn kc hk => ifLe (fun _ g3 _ => all g3) (fun q3 => ⟨i64 (by omega) (by omega), i64 (by omega) (by omega), fun g4 m4 => ?_⟩))
        rw [show ((depth : Nat) : Int) + 1 = ((depth + 1 : Nat) : Int) by omega]
        refine (ih y hy (most := most - s) (depth := depth + 1) (by omega) (by omega) (by omega) (hk.exm m4)).mono ?_
        rintro v g5 _ ⟨r, rfl, r1, r2, r3⟩
        refine ⟨_, rfl, i64 (by omega) (by omega), i64 (by omega) (by omega), m - 1, by omega, j + 1, by omega, by omega, by omega, by omega, fun hh => ?_⟩
        have h4 := hs3 (by omega)
        have h5 := r3 (by omega)
        rw [hdk]
        constructor <;> omega
      · have e : minI s most = s := by unfold minI; split <;> omega
        rw [e]
        refine ⟨s, rfl, by omega, by omega, fun hh => ?_⟩
        have h4 := hs3 hh
        rw [List.take_of_length_le (by omega)] at h4
        omega
    exact ifLt (fun _ => ifLe (fun _ g8 _ => all g8) (fun _ => ifLt (fun _ g9 _ => all g9) (fun _ g10 m10 => fin g10 m10))) (fun _ => ifLt (fun _ g11 _ => all g11) (fun _ g12 m12 => fin g12 m12))
def eV1 := mkE 1 1 []
def eF1 := mkE 4 0 [eV1]
def eF2 := mkE 4 0 [eF1]
def cL0 := mkE 21 0 []
def cC1 := mkE 24 1 []
def cC2 := mkE 24 2 [cL0]
def cP0 := mkE 23 0 []
theorem conv_awake : convF eF2 = [⟨0, cC1⟩, ⟨0, cC2⟩, ⟨1, cP0⟩] := by kernel_rfl
theorem valid_awake : validE eF2 := by
  refine ⟨?_, ?_, ?_⟩
  · simp [eF2, eF1, eV1, mkE, formE, formEL, nodeP, arityN]
  · simp [eF2, eF1, eV1, mkE, sizeE, sizeEL]
  · simp [eF2, eF1, eV1, mkE, depthE, depthEL]
theorem scoped_awake : scopedE 0 eF2 := by
  intro i hi
  simp [eF2, eF1, eV1, mkE, FV, FVL, bndN] at hi
  omega
theorem i64_awake : i64E eF2 := by simp [eF2, eF1, eV1, mkE, i64E, i64EL]
theorem new1 {g g' : G} {t : E} {a : Option Addr} {n c : Nat} (h : SlE expE g a n c t.kids) (nn : NewL g g' 44 [.int .i64 t.dat.op, .int .i64 t.dat.n, .string (bstr t.dat.s), .slice a n c]) : SlE expE g' (some ⟨g.w.heap.size, 0, none⟩) 1 1 [t] :=
  nn.sle (Rws.single (exp_rep h)) (by unfold maxLen; simp)
theorem newF3 {g g' : G} {f1 f2 f3 : FlatD} {a : Option Addr} {n c : Nat} {b : Option Addr} {m d : Nat} {p : Option Addr} {q r : Nat} (h1 : SlE expE g a n c f1.body.kids) (h2 : SlE expE g b m d f2.body.kids) (h3 : SlE expE g p q r f3.body.kids)
    (nn : NewL g g' 55 (flatRow f1 a n c ++ (flatRow f2 b m d ++ flatRow f3 p q r))) : SlE flatE g' (some ⟨g.w.heap.size, 0, none⟩) 3 3 [f1, f2, f3] :=
  nn.sle (Rws.cons (E := flatE) (r := flatRow f1 a n c) ⟨_, _, _, rfl, h1⟩ (Rws.cons (E := flatE) (r := flatRow f2 b m d) ⟨_, _, _, rfl, h2⟩ (Rws.single (E := flatE) ⟨_, _, _, rfl, h3⟩))) (by unfold maxLen; simp)
theorem kz6 (g : G) : CallsP Tryz.prog 6 #[] g fun v _ => v = .bool true := by
  refine call6 g _ ?_
  unfold F6
  have nil : ∀ g' : G, SlE expE g' none 0 0 ([] : List E) := fun g' => SlE.zero _
  refine (kz21 1 1 [] g).mono ?_
  rintro v g1 m1 rfl
  refine ⟨_, _, _, _, _, _, rfl, fun g2 n2 => (kz21 4 0 [eV1] g2).mono ?_⟩
  have h2 := new1 (t := eV1) (nil g1) n2
  rintro v g3 m3 rfl
  refine ⟨_, _, _, _, _, _, rfl, fun g4 n4 => (kz21 4 0 [eF1] g4).mono ?_⟩
  have h4 := new1 (t := eF1) (h2.exm m3) n4
  rintro v g5 m5 rfl
  refine ⟨_, _, _, _, _, _, rfl, (kz17 (x := eF2) i64_awake (by simp [eF2, eF1, eV1, mkE, sizeE, sizeEL]) (h4.exm m5)).mono ?_⟩
  rintro v g6 m6 ⟨ca, cn, cc, rfl, hC⟩
  have e : convA eF2 = ([⟨0, cC1⟩, ⟨0, cC2⟩, ⟨1, cP0⟩], 0) := by unfold convA; rw [if_pos ⟨valid_awake, scoped_awake⟩, conv_awake]
  rw [e] at hC ⊢
  refine ⟨_, _, _, _, _, rfl, ifEq (fun _ => ifEq (fun _ => ?_) (fun h => absurd rfl h)) (fun h => absurd rfl h)⟩
  refine (kz21 24 1 [] g6).mono ?_
  rintro v g7 m7 rfl
  refine ⟨_, _, _, _, _, _, rfl, (kz21 21 0 [] g7).mono ?_⟩
  rintro v g8 m8 rfl
  refine ⟨_, _, _, _, _, _, rfl, fun g9 n9 => (kz21 24 2 [cL0] g9).mono ?_⟩
  have h9 := new1 (t := cL0) (nil g8) n9
  rintro v g10 m10 rfl
  refine ⟨_, _, _, _, _, _, rfl, (kz21 23 0 [] g10).mono ?_⟩
  rintro v g11 m11 rfl
  refine ⟨_, _, _, _, _, _, rfl, fun g12 n12 => ?_⟩
  have h12 := newF3 (f1 := ⟨0, cC1⟩) (f2 := ⟨0, cC2⟩) (f3 := ⟨1, cP0⟩) (nil g11) (h9.exm (m10.trans m11)) (nil g11) n12
  refine (kz22 (hC.exm (((((m7.trans m8).trans n9.ex).trans m10).trans m11).trans n12.ex)) h12).mono ?_
  rintro v g13 m13 rfl
  refine ⟨_, rfl, fun g14 _ => ?_⟩
  rw [tf_of rfl]
end Go.Proofs.YthlcdgpemjdgnaaGreatDoor
