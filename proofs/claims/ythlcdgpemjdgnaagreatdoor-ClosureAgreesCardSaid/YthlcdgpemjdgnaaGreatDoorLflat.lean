/- Rows of flat functions that are appended to and written in place. -/
import Derived.Test.YthlcdgpemjdgnaaGreatDoorLconv
import Derived.Test.YthlcdgpemjdgnaaGreatDoorLamA
set_option linter.unusedVariables false
namespace Go.Lam
open Go Go.Vc Go.RowKit Go.Syn
abbrev flatRow (f : FlatD) (a : Option Addr) (n c : Nat) : List Value := [.int .i64 f.cap, .int .i64 f.body.dat.op, .int .i64 f.body.dat.n, .string (bstr f.body.dat.s), .slice a n c]
def flatE : El FlatD where
  m := 5
  rep g r f := ∃ a n c, r = flatRow f a n c ∧ SlE expE g a n c f.body.kids
  len := by rintro g r f ⟨a, n, c, rfl, _⟩; rfl
  mono := by rintro g g' r f m ⟨a, n, c, rfl, h⟩; exact ⟨a, n, c, rfl, h.mono m⟩
  one := by
    rintro g r f ⟨a, n, c, rfl, _⟩ u hu
    simp at hu
    rcases hu with rfl | rfl | rfl | rfl | rfl <;> rfl
@[simp] theorem flatE_m : flatE.m = 5 := rfl
structure FlatR (g : G) (e : TypeId) (a : Option Addr) (n c : Nat) (fs : List FlatD) : Prop where
  ex : ∃ L, MutR g 0 e 5 a n c L ∧ Rws flatE g L fs
namespace FlatR
variable {P : Program} {g g' : G} {e : TypeId} {a : Option Addr} {n c : Nat} {fs : List FlatD}
theorem len (h : FlatR g e a n c fs) : fs.length = n := by
  obtain ⟨L, h1, h2⟩ := h.ex
  have e1 := h1.len
  have e2 := h2.len
  simp at e2
  omega
theorem but (h : FlatR g e a n c fs) {p : Nat → Prop} (k : But p g g') (hp : ∀ b, blkOf a b → ¬ p b) (hl : Le g g') : FlatR g' e a n c fs := by
  obtain ⟨L, h1, h2⟩ := h.ex
  exact ⟨L, h1.but k hp, h2.mono hl⟩
theorem exm (h : FlatR g e a n c fs) (k : Ex g g') : FlatR g' e a n c fs := h.but (k.but nobody) (fun _ _ h => h) k.le
theorem lt (h : FlatR g e a n c fs) {b : Nat} (hb : blkOf a b) : b < g.w.heap.size := by obtain ⟨L, h1, _⟩ := h.ex; exact h1.lt hb
theorem nx (h : FlatR g e a n c fs) {b : Nat} (hb : blkOf a b) : ¬ g.X b := by obtain ⟨L, h1, _⟩ := h.ex; exact h1.nx hb
theorem d (h : FlatR g e a n c fs) {b : Nat} (hb : blkOf a b) (i : Nat) : g.D b i := by
  obtain ⟨L, h1, _⟩ := h.ex
  obtain ⟨ad, rfl, rfl⟩ := hb
  rcases h1.row with ⟨hh, _⟩ | ⟨b', cur, hh, _, h2, _⟩
  · cases hh
  · cases hh; exact h2.d i
theorem cap (h : FlatR g e a n c fs) : n ≤ c ∧ c ≤ maxLen := by
  obtain ⟨L, h1, _⟩ := h.ex
  rcases h1.row with ⟨_, rfl, rfl⟩ | ⟨_, _, _, _, _, h3, h4, _⟩
  · exact ⟨Nat.le_refl _, by unfold maxLen; omega⟩
  · exact ⟨h3, h4⟩
theorem lit {f : FlatD} {ka : Option Addr} {kn kc : Nat} (hn : NewD g g' e (flatRow f ka kn kc)) (hk : SlE expE g ka kn kc f.body.kids) : FlatR g' e (some ⟨g.w.heap.size, 0, none⟩) 1 1 [f] :=
  ⟨flatRow f ka kn kc, ⟨by simp, .inr ⟨g.w.heap.size, _, rfl, Nat.zero_le _, hn.mut, Nat.le_refl _, by unfold maxLen; omega, by simp, by simp⟩⟩, Rws.single (E := flatE) ⟨ka, kn, kc, rfl, hk.exm hn.ex⟩⟩
theorem app1 {t : TypeId} {bytes : Nat} (Et : Elem P t e 5 bytes) {gx : G} (h : FlatR gx e a n c fs) {f : FlatD} {ka : Option Addr} {kn kc : Nat} (hn : NewL gx g e (flatRow f ka kn kc)) (hk : SlE expE gx ka kn kc f.body.kids)
    (hb : (n + 1) * bytes ≤ 140737488355328) (hm : n + 1 ≤ maxLen) :
    ∃ a' c' w', (Builtin.append_ #[t, t] t #[.slice a n c, .slice (some ⟨gx.w.heap.size, 0, none⟩) 1 1]).run P g.w = .ok (.slice a' (n + 1) c') w' ∧ ∃ g', g'.w = w' ∧ FlatR g' e a' (n + 1) c' (fs ++ [f]) ∧ Stp g.w.heap.size (blkOf a) g g' ∧ (∀ b, blkOf a' b → blkOf a b ∨ g.w.heap.size ≤ b) := by
  obtain ⟨L, h1, h2⟩ := h.ex
  have hN := hn.sl (m := 5) (n := 1) (by simp) (by unfold maxLen; omega)
  obtain ⟨a', c', w', hr, g', hw, hs, ho, hst, hnew⟩ := (h1.ex hn.ex).app (P := P) Et t (Nat.zero_le _) hN (fun u hu => flatE.one (g := gx) (r := flatRow f ka kn kc) (x := f) ⟨ka, kn, kc, rfl, hk⟩ u hu) hb hm
  refine ⟨a', c', w', hr, g', hw, ⟨L ++ flatRow f ka kn kc, ho, ?_⟩, hst, hnew⟩
  exact ((h2.mono hn.ex.le).mono hst.le).append (Rws.single (E := flatE) ⟨ka, kn, kc, rfl, (hk.exm hn.ex).mono hst.le⟩)
theorem setsAt_mid (pre r r' post : List Value) (h : r.length = r'.length) : setsAt (pre ++ (r ++ post)) pre.length r' = pre ++ (r' ++ post) := by
  have e := setsAt_app r' pre (r ++ post) 0
  rw [Nat.add_zero] at e
  rw [e, setsAt_zero r' r post h]
theorem setBody_eq {fs : List FlatD} {i : Nat} {f : FlatD} (h : fs[i]? = some f) (b : E) : setBody fs i b = fs.set i ⟨f.cap, b⟩ := by
  unfold setBody
  apply List.ext_getElem?
  intro j
  rw [List.getElem?_modify, List.getElem?_set]
  by_cases q : i = j
  · subst q
    rw [h]
    have := (List.getElem?_eq_some_iff.1 h).1
    simp [this]
  · simp [q]
theorem store (h : FlatR g e a n c fs) {i : Int} (p : Nat) (hi : i = ((p : Nat) : Int)) (hp : p < n) {t : E} {ka : Option Addr} {kn kc : Nat} (ht : SlE expE g ka kn kc t.kids) {sz : Nat} {M : Nat → Prop} (hM : ∀ b, blkOf a b → b < sz → M b) {K : G → Prop}
    (hk : ∀ g', FlatR g' e a n c (setBody fs p t) → But (blkOf a) g g' → Le g g' → K g') :
    derefP a fun ad => stOk g.w (Addr.add (Addr.add ad (Int.toNat i * 5)) 1) 4 ∧ ¬ g.X (Addr.block (Addr.add (Addr.add ad (Int.toNat i * 5)) 1)) ∧ mutAt g (Addr.add (Addr.add ad (Int.toNat i * 5)) 1) 4 ∧ ((Addr.block (Addr.add (Addr.add ad (Int.toNat i * 5)) 1)) < sz → M (Addr.block (Addr.add (Addr.add ad (Int.toNat i * 5)) 1))) ∧
      ∀ g', StG false g (Addr.add (Addr.add ad (Int.toNat i * 5)) 1) [.int .i64 t.dat.op, .int .i64 t.dat.n, .string (bstr t.dat.s), .slice ka kn kc] g' → K g' := by
  subst hi
  rw [Int.toNat_natCast]
  have hlen := h.len
  obtain ⟨L, h1, h2⟩ := h.ex
  rcases h1.row with ⟨_, rfl, _⟩ | ⟨b, cur, rfl, hb0, hmb, hnc, hcm, hcl, htk⟩
  · omega
  have eA : Addr.add (Addr.add ⟨b, 0, none⟩ (p * 5)) 1 = Addr.add ⟨b, 0, none⟩ (p * 5 + 1) := addr_add_add _ _ _
  show stOk g.w _ 4 ∧ _
  rw [eA, add_block]
  refine ⟨hmb.ok (by omega), hmb.nx, hmb.mutA _ _, fun hh => hM _ ⟨_, rfl, rfl⟩ hh, fun g' k => ?_⟩
  obtain ⟨hm', hbut⟩ := hmb.st k
  have hle : Le g g' := hbut.le (fun z hz j => by have e : z = b := hz; rw [e]; exact hmb.d j)
  have hblk : But (blkOf (some ⟨b, 0, none⟩)) g g' := hbut.mono (fun z _ hz => ⟨_, rfl, hz.symm⟩)
  refine hk g' ?_ hblk hle
  obtain ⟨rs, rfl, hall⟩ := h2.ex
  have hrl := hall.length
  have hpr : p < rs.length := by omega
  have gf := List.getElem?_eq_getElem (show p < fs.length by omega)
  generalize fs[p] = f at gf
  obtain ⟨r0, gr, qa, qn, qc, rfl, hq⟩ := hall.get gf
  have hlens := Rws.lens hall
  have e1 : rs = rs.take p ++ flatRow f qa qn qc :: rs.drop (p + 1) := by
    have h0 : rs.drop p = flatRow f qa qn qc :: rs.drop (p + 1) := by
      obtain ⟨q1, q2⟩ := List.getElem?_eq_some_iff.1 gr
      rw [← q2]
      exact List.drop_eq_getElem_cons q1
    rw [← h0, List.take_append_drop]
  have e2 : ((rs.take p).flatten).length = p * 5 := by
    rw [flat_len (m := 5) (fun r hr => hlens r (List.mem_of_mem_take hr)), List.length_take]
    congr 1
    omega
  let r' : List Value := [.int .i64 t.dat.op, .int .i64 t.dat.n, .string (bstr t.dat.s), .slice ka kn kc]
  have e3 : cur = ((rs.take p).flatten ++ [.int .i64 f.cap]) ++ ([.int .i64 f.body.dat.op, .int .i64 f.body.dat.n, .string (bstr f.body.dat.s), .slice qa qn qc] ++ ((rs.drop (p + 1)).flatten ++ cur.drop (n * 5))) := by
    have h3 : cur = rs.flatten ++ cur.drop (n * 5) := by rw [← htk, List.take_append_drop]
    have h4 : rs.flatten = (rs.take p).flatten ++ (flatRow f qa qn qc ++ (rs.drop (p + 1)).flatten) := by
      conv => lhs; rw [e1]
      rw [List.flatten_append, List.flatten_cons]
    conv => lhs; rw [h3, h4]
    simp
  have e4 : setsAt cur (p * 5 + 1) r' = ((rs.take p).flatten ++ [.int .i64 f.cap]) ++ (r' ++ ((rs.drop (p + 1)).flatten ++ cur.drop (n * 5))) := by
    have h5 := setsAt_mid ((rs.take p).flatten ++ [.int .i64 f.cap]) [.int .i64 f.body.dat.op, .int .i64 f.body.dat.n, .string (bstr f.body.dat.s), .slice qa qn qc] r' ((rs.drop (p + 1)).flatten ++ cur.drop (n * 5)) rfl
    rw [← e3, List.length_append, e2] at h5
    exact h5
  have e5 : (rs.set p (flatRow ⟨f.cap, t⟩ ka kn kc)).flatten = ((rs.take p).flatten ++ [.int .i64 f.cap]) ++ (r' ++ (rs.drop (p + 1)).flatten) := by
    rw [List.set_eq_take_append_cons_drop, if_pos hpr, List.flatten_append, List.flatten_cons]
    simp [r']
  have e6 : setsAt cur (p * 5 + 1) r' = (rs.set p (flatRow ⟨f.cap, t⟩ ka kn kc)).flatten ++ cur.drop (n * 5) := by
    rw [e4, e5]
    simp
  have hset : All2 (flatE.rep g') (rs.set p (flatRow ⟨f.cap, t⟩ ka kn kc)) (setBody fs p t) := by
    rw [setBody_eq gf]
    exact All2.set (hall.imp (fun _ _ hr => flatE.mono hle hr)) p ⟨ka, kn, kc, rfl, ht.mono hle⟩
  have hsl := hset.length
  rw [setBody_len] at hsl
  have e7 : (rs.set p (flatRow ⟨f.cap, t⟩ ka kn kc)).flatten.length = n * 5 := by
    rw [flat_len (m := 5) (Rws.lens hset), hsl, hlen]
  have hcl' : (setsAt cur (p * 5 + 1) r').length = c * 5 := by
    rw [e6, List.length_append, e7, List.length_drop, hcl]
    have : n * 5 ≤ c * 5 := Nat.mul_le_mul_right 5 hnc
    omega
  exact ⟨_, ⟨e7, .inr ⟨b, _, rfl, hb0, hm', hnc, hcm, hcl', by rw [e6, ← e7, List.take_left]⟩⟩, _, rfl, hset⟩
theorem fro (h : FlatR g e a n c fs) : SlE flatE (g.frozP (blkOf a)) a n c fs := by
  obtain ⟨L, h1, h2⟩ := h.ex
  refine ⟨⟨L, ?_, h2.mono (frozP_le _ _)⟩, h.len⟩
  have hl := h1.len
  rcases h1.row with ⟨e0, e1, e2⟩ | ⟨b, cur, e, r1, r2, r3, r4, r5, r6⟩
  · have : L = [] := List.eq_nil_of_length_eq_zero (by omega)
    rw [e0, e1, e2, this]
    exact Sl.zero _ _
  · rw [e]
    refine ⟨hl, r3, r4, fun h => (by cases h), ?_⟩
    rintro ad e3 i v hi
    cases e3
    have e4 : (Addr.add ⟨b, 0, none⟩ i).block = b := add_block _ _
    have hc : cur[i]? = some v := by
      rw [← r6, List.getElem?_take] at hi
      split at hi
      · exact hi
      · cases hi
    exact ⟨r2.rd hc, by rw [e4]; exact r2.nx, fun hh => hh.2 (by rw [e4]; exact ⟨_, rfl, rfl⟩)⟩
end FlatR
end Go.Lam
