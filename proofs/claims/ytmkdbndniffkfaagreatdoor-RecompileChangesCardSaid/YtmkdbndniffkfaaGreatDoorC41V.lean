/- Joined texts. -/
import Derived.Test.YtmkdbndniffkfaaGreatDoorC41Y
import Derived.Test.YtmkdbndniffkfaaGreatDoorShelf41
import Derived.Test.YtmkdbndniffkfaaGreatDoorStre
import Derived.Test.YtmkdbndniffkfaaGreatDoorFnC3
/- Records of units as they stand. -/
set_option linter.unusedVariables false
namespace Go.Proofs.YtmkdbndniffkfaaGreatDoor
open Go Go.Vc Go.RowKit Go.Syn

theorem rep_l (x : UInt8) : ∀ n : Nat, Lib.repeatL [x] n = List.replicate n x
  | 0 => rfl
  | n + 1 => by rw [Lib.repeatL, rep_l x n]; rfl
/-- 64 times one letter. -/
def dg (x : UInt8) : Lab := List.replicate 64 x
theorem dg_len (x : UInt8) : (dg x).length = 64 := by simp [dg]
theorem k10 (x : UInt8) (s : ByteArray) (hs : s = bstr [x]) (g : G) : CallsP Tryz.prog 10 #[.string s, .int .i64 (64 : Int)] g fun v _ => v = .string (bstr (dg x)) := by
  subst hs
  have h := Tryz.strings_Repeat (bstr [x]) 64 g.w (by omega) (by rw [show (bstr [x]).size = 1 from rfl]; omega)
  refine (calls_below (Q := fun v _ => v = .string (bstr (dg x))) (h.mono ?_)).mono ?_
  · rintro e w' ⟨rfl, hb⟩
    refine ⟨_, rfl, hb, ?_⟩
    rw [show (bstr [x]).data.toList = [x] from rfl, rep_l]
    rfl
  · rintro v g1 _ ⟨_, h, _⟩
    exact h
/-- A read of a name; what lies there is live. -/
theorem rdL {L : List Lab} {a : Option Addr} {n c : Nat} {g : G} (h : SlE strE g a n c L) {i : Int} (p : Nat) (hi : i = (p : Int)) {s : Lab} (hr : L[p]? = some s) {K : Addr → Prop}
    (hk : ∀ ad, a = some ad → Live g (Addr.add ad (Int.toNat i * 1)) (.string (bstr s)) → K ad) : derefP a K := by
  subst hi
  have hrd := h.rd (i := p) hr (K := fun ad => ∃ rr, strE.rep g rr s ∧ ∀ j v, rr[j]? = some v → Live g ((Addr.add ad (p * 1)).add j) v) (fun rr ad h1 h2 => ⟨rr, h1, h2⟩)
  obtain ⟨ad, rfl, rr, hx, hl⟩ := derefP_some hrd
  refine hk ad rfl ?_
  rw [Int.toNat_natCast]
  have hrr : rr = [.string (bstr s)] := hx
  have h0 := hl 0 (.string (bstr s)) (by rw [hrr]; rfl)
  rwa [Addr.add_zero'] at h0
/-- The index of the unit of a name. -/
def IdxSay (L : List UnitD) (name : Lab) (v : Value) : Prop := ∃ i : Int, v = .int .i64 i ∧ ((i = -1 ∧ ∀ u ∈ L, ¬ u.name = name) ∨ ∃ (j : Nat) (u : UnitD), i = ((j : Nat) : Int) ∧ L[j]? = some u ∧ u.name = name)
theorem k49 {u : UnitD} {ia : Option Addr} {im ic : Nat} {da : Option Addr} {dn dc : Nat} {name : Lab} {ad : Addr} {g : G} (hc : Live g ad (.string (bstr name))) :
    CallsP Tryz.prog 49 (#[unitV u ia im ic da dn dc] ++ #[.pointer (some ad)]) g fun v _ => ∃ b, v = .bool b ∧ (b = true ↔ u.name = name) := by
  refine call49 _ _ _ _ _ _ _ _ g _ ?_
  unfold F49
  intro g1 m1
  refine ⟨_, (hc.mono m1.le).1, fun g2 _ => ⟨_, rfl, ?_⟩⟩
  simp [bstr_inj]
theorem k18 {u : UnitD} {ia : Option Addr} {im ic : Nat} {da : Option Addr} {dn dc : Nat} {name : Lab} {ad : Addr} {g : G} (hc : Live g ad (.string (bstr name))) :
    CallsP Tryz.prog 18 (#[unitV u ia im ic da dn dc] ++ #[.pointer (some ad)]) g fun v _ => ∃ b, v = .bool b ∧ (b = true ↔ u.name = name) := by
  refine call18 _ _ _ _ _ _ _ _ g _ ?_
  unfold F18
  intro g1 m1
  refine ⟨_, (hc.mono m1.le).1, fun g2 _ => ⟨_, rfl, ?_⟩⟩
  simp [bstr_inj]
section
variable {L : List UnitD} {a : Option Addr} {n c : Nat} {g : G}
theorem k17c (k : FuncId) (he : Go.Vc.Enters Tryz.prog k) (hk : ∀ (u : UnitD) (ia : Option Addr) (im ic : Nat) (da : Option Addr) (dn dc : Nat) (name : Lab) (ad : Addr) (g : G), Live g ad (.string (bstr name)) → CallsP Tryz.prog k (#[unitV u ia im ic da dn dc] ++ #[.pointer (some ad)]) g fun v _ => ∃ b, v = .bool b ∧ (b = true ↔ u.name = name))
    (h : SlE unitE g a n c L) (hn : L.length ≤ 16) {name : Lab} {ad : Addr} (hc : Live g ad (.string (bstr name))) : CallsP Tryz.prog 17 #[.slice a n c, .func (.func k) #[] #[.pointer (some ad)]] g fun v _ => IdxSay L name v := by
  have hl := h.len
  refine (kq17 k #[.pointer (some ad)] (fun u => u.name = name) L h (by omega) he (fun g' u le _ ia im ic da dn dc _ => hk u ia im ic da dn dc name ad g' (hc.mono le))).mono ?_
  rintro v g1 _ ⟨i, rfl, h1 | ⟨j, u, h1, h2, h3, _⟩⟩
  · exact ⟨i, rfl, .inl h1⟩
  · exact ⟨i, rfl, .inr ⟨j, u, h1, h2, h3⟩⟩
/-- face's index, a closure of built. -/
theorem k48 (h : SlE unitE g a n c L) (hn : L.length ≤ 16) {ad : Addr} (hc : Live g ad (.slice a n c)) (name : Lab) : CallsP Tryz.prog 48 (#[.string (bstr name)] ++ #[.pointer (some ad)]) g fun v _ => IdxSay L name v := by
  refine call48 _ _ g _ ?_
  unfold F48
  intro g1 n1
  refine ⟨_, _, _, (hc.mono n1.ex.le).1, (k17c 49 ⟨_, Tryz.func49, by kernel_rfl, by kernel_rfl⟩ (fun u ia im ic da dn dc name ad g h => k49 h) (h.exm n1.ex) hn (n1.at0 rfl)).mono ?_⟩
  rintro v g2 _ ⟨i, rfl, hi⟩
  exact ⟨_, rfl, fun g3 _ => ⟨i, rfl, hi⟩⟩
/-- Bit i of x, as the program asks it. -/
noncomputable def bitB (x : Int) (i : Int) : Bool := eqI (bits BinOp.and IntKind.u32 (shrI IntKind.u32 x i) (1 : Int)) (1 : Int)
/-- Has the face of the unit of a name turned? -/
theorem k16 (h : SlE unitE g a n c L) (hn : L.length ≤ 16) {ad ad2 : Addr} (hc : Live g ad (.slice a n c)) {face : Int} (hf : Live g ad2 (.int .u32 face)) (name : Lab) : CallsP Tryz.prog 16 (#[.string (bstr name)] ++ #[.pointer (some ad), .pointer (some ad2)]) g fun v _ =>
    ∃ b, v = .bool b ∧ ((b = false ∧ ∀ u ∈ L, ¬ u.name = name) ∨ ∃ (j : Nat) (u : UnitD), L[j]? = some u ∧ u.name = name ∧ b = bitB face ((j : Nat) : Int)) := by
  refine call16 _ _ _ g _ ?_
  unfold F16
  intro g1 n1
  refine ⟨_, _, _, (hc.mono n1.ex.le).1, (k17c 18 ⟨_, Tryz.func18, by kernel_rfl, by kernel_rfl⟩ (fun u ia im ic da dn dc name ad g h => k18 h) (h.exm n1.ex) hn (n1.at0 rfl)).mono ?_⟩
  rintro v g2 m2 ⟨i, rfl, hi⟩
  refine ⟨_, rfl, ifLe (fun q => ?_) (fun q g4 _ => ⟨_, rfl, ?_⟩)⟩
  · rcases hi with ⟨rfl, _⟩ | ⟨j, u, rfl, h2, h3⟩
    · omega
    · exact ⟨_, ((hf.mono n1.ex.le).mono m2.le).1, q, fun g3 _ => ⟨_, rfl, .inr ⟨j, u, h2, h3, rfl⟩⟩⟩
  · rcases hi with ⟨rfl, h2⟩ | ⟨j, u, rfl, h2, h3⟩
    · exact .inl ⟨rfl, h2⟩
    · omega
end
/-- The reason that says nothing, or another. -/
theorem k14 (r : ReaD) (g : G) : CallsP Tryz.prog 14 (#[reaV r] ++ #[]) g fun v _ => ∃ b, v = .bool b ∧ (b = true ↔ r ≠ ⟨0, []⟩) := by
  refine call14 _ _ g _ ?_
  unfold F14
  intro g1 _ g2 _
  refine ⟨_, rfl, ?_⟩
  obtain ⟨op, un⟩ := r
  have e : (strEq (bstr un) (bs []) = true) = (un = []) := by
    rw [strEq_true, show bs [] = bstr [] from rfl, bstr_inj]
  simp only [Bool.not_eq_true', Bool.and_true, Bool.and_eq_false_iff, ne_eq, ReaD.mk.injEq]
  rw [← e]
  simp [Classical.or_iff_not_imp_left]
end Go.Proofs.YtmkdbndniffkfaaGreatDoor
/- built; reasons looked through. -/
set_option linter.unusedVariables false
namespace Go.Proofs.YtmkdbndniffkfaaGreatDoor
open Go Go.Vc Go.RowKit Go.Syn

/-- A read of a reason. -/
theorem rdX {X : List ReaD} {a : Option Addr} {n c : Nat} {g : G} (h : SlE reaE g a n c X) {i : Int} (p : Nat) (hi : i = (p : Int)) {r : ReaD} (hr : X[p]? = some r) {K : Addr → Prop}
    (hk : ∀ ad, a = some ad → Live g (Addr.add ad (Int.toNat i * 2)) (.int .i64 r.op) → Live g (Addr.add (Addr.add ad (Int.toNat i * 2)) 1) (.string (bstr r.unit)) → K ad) : derefP a K := by
  subst hi
  have hrd := h.rd (i := p) hr (K := fun ad => ∃ rr, reaE.rep g rr r ∧ ∀ j v, rr[j]? = some v → Live g ((Addr.add ad (p * 2)).add j) v) (fun rr ad h1 h2 => ⟨rr, h1, h2⟩)
  obtain ⟨ad, rfl, rr, hx, hl⟩ := derefP_some hrd
  have hrr : rr = [.int .i64 r.op, .string (bstr r.unit)] := hx
  subst hrr
  refine hk ad rfl ?_ ?_
  · rw [Int.toNat_natCast]
    have h0 := hl 0 _ rfl
    rwa [Addr.add_zero'] at h0
  · rw [Int.toNat_natCast]
    exact hl 1 _ rfl
/-- slices.ContainsFunc, of reasons. -/
theorem k13 (f : FuncId) (c0 : Array Value) (p : ReaD → Prop) (X : List ReaD) {a : Option Addr} {n c : Nat} {g : G} (h : SlE reaE g a n c X) (hn : n ≤ 1048576) (he : Go.Vc.Enters Tryz.prog f)
    (hf : ∀ g' r, CallsP Tryz.prog f (#[reaV r] ++ c0) g' fun v _ => ∃ b, v = .bool b ∧ (b = true ↔ p r)) :
    CallsP Tryz.prog 13 #[.slice a n c, .func (.func f) #[] c0] g fun v _ => ∃ b, v = .bool b ∧ (b = true ↔ ∃ r ∈ X, p r) := by
  have hl := h.len
  have k53 : CallsP Tryz.prog 53 #[.slice a n c, .func (.func f) #[] c0] g fun v _ => ∃ i : Int, v = .int .i64 i ∧ ((0 ≤ i ∧ ∃ r ∈ X, p r) ∨ (i < 0 ∧ ∀ r ∈ X, ¬ p r)) := by
    refine call53 a n c f c0 g _ ?_
    unfold F53
    refine ⟨fun m i g' => ∃ j : Nat, i = ((j : Nat) : Int) ∧ j + m = n ∧ ∀ r ∈ X.take j, ¬ p r, ⟨n, 0, rfl, by omega, by simp⟩, ?_⟩
    rintro m i g1 le ⟨j, rfl, hj, hall⟩
    refine ifLt (fun hlt => ⟨⟨by omega, by omega⟩, ?_⟩) (fun hge g4 _ => ⟨_, rfl, .inr ⟨by omega, by rwa [take_all (by omega)] at hall⟩⟩)
    have gj := List.getElem?_eq_getElem (show j < X.length by omega)
    generalize X[j] = r at gj
    refine rdX (h.mono le) j rfl gj (fun ad _ l0 l1 => ?_)
    refine ⟨_, _, l0.1, l1.1, he, (hf g1 r).mono ?_⟩
    rintro v g2 _ ⟨b, rfl, hb⟩
    exact ⟨_, rfl, ifT (fun e g3 _ => ⟨_, rfl, .inl ⟨by omega, r, List.mem_of_getElem? gj, hb.1 e⟩⟩) (fun e => ⟨i64 (by omega) (by omega), m - 1, by omega, j + 1, by omega, by omega, (all_take gj (fun r => ¬ p r)).2 ⟨hall, fun hh => by rw [hb.2 hh] at e; cases e⟩⟩)⟩
  refine call13 a n c f c0 g _ ?_
  unfold F13
  refine k53.mono ?_
  rintro v g1 _ ⟨i, rfl, hi⟩
  refine ⟨_, rfl, fun g2 _ => ⟨_, rfl, ?_⟩⟩
  rw [leI_true]
  rcases hi with ⟨h1, h2⟩ | ⟨h1, h2⟩
  · exact ⟨fun _ => h2, fun _ => h1⟩
  · exact ⟨fun hh => by omega, fun ⟨r, hr, hp⟩ => absurd hp (h2 r hr)⟩
theorem E32 : Elem Tryz.prog 32 59 5 96 := ⟨Tryz.underlying32, by kernel_rfl⟩
theorem builtR_at (F : Lab → Lab) : ∀ (us : List UnitD) (ss fs : List Lab) {i : Nat} {u : UnitD} {s f : Lab}, us[i]? = some u → ss[i]? = some s → fs[i]? = some f → (builtR F us ss fs)[i]? = some ⟨u.name, s, u.imps, u.imps.map F, f⟩
  | [], _, _, _, _, _, _, h, _, _ => by simp at h
  | _ :: _, [], _, _, _, _, _, _, h, _ => by simp at h
  | _ :: _, _ :: _, [], _, _, _, _, _, _, h => by simp at h
  | x :: us, y :: ss, z :: fs, 0, u, s, f, h1, h2, h3 => by
    simp at h1 h2 h3
    subst h1; subst h2; subst h3
    rfl
  | x :: us, y :: ss, z :: fs, i + 1, u, s, f, h1, h2, h3 => by
    have := builtR_at F us ss fs (i := i) (by simpa using h1) (by simpa using h2) (by simpa using h3)
    simpa [builtR] using this
/-- built. -/
theorem k11 {L : List UnitD} {o : List Lab} (hO : Ordered L o) {S F : List Lab} (hS1 : S.length = L.length) (hF1 : F.length = L.length) {a : Option Addr} {n c : Nat} {sa : Option Addr} {sn sc : Nat} {fa : Option Addr} {fn fc : Nat} {g : G}
    (h : SlE unitE g a n c L) (hS : SlE strE g sa sn sc S) (hF : SlE strE g fa fn fc F) :
    CallsP Tryz.prog 11 #[.slice a n c, .slice sa sn sc, .slice fa fn fc] g fun v g' => ∃ ra rn rc, v = .slice ra rn rc ∧ SlE recE g' ra rn rc (builtR (faceOf L F) L S F) := by
  refine call11 a n c sa sn sc fa fn fc g _ ?_
  have hl := h.len
  have hsl := hS.len
  have hfl := hF.len
  have h16 := hO.ln
  have hbl := builtR_len (faceOf L F) (us := L) hS1 hF1
  unfold F11
  intro g1 n1
  have hcell := n1.at0 (v := .slice a n c) rfl
  refine ⟨_, _, _, hcell.1, fun m oa on oc i g' => ∃ j : Nat, i = ((j : Nat) : Int) ∧ j + m = n ∧ OwnE recE g' g1.w.heap.size 59 oa on oc ((builtR (faceOf L F) L S F).take j), ⟨n, 0, rfl, by omega, by simpa using OwnE.nil _ _ _⟩, ?_⟩
  rintro m oa on oc i g2 le2 ⟨j, rfl, hj, hout⟩
  have hol := hout.len
  rw [List.length_take, hbl] at hol
  have le02 : Le g g2 := n1.ex.le.trans le2
  refine ifLt (fun q => ⟨⟨by omega, by omega⟩, ?_⟩) (fun q g22 m22 => ?_)
  rotate_left
  · rw [List.take_of_length_le (by omega)] at hout
    exact ⟨_, _, _, rfl, hout.sl.exm m22⟩
  have gj := List.getElem?_eq_getElem (show j < L.length by omega)
  have gs := List.getElem?_eq_getElem (show j < S.length by omega)
  have gf := List.getElem?_eq_getElem (show j < F.length by omega)
  generalize L[j] = u at gj
  generalize S[j] = src at gs
  generalize F[j] = fac at gf
  have hu := List.mem_of_getElem? gj
  have hbj : (builtR (faceOf L F) L S F)[j]? = some ⟨u.name, src, u.imps, u.imps.map (faceOf L F), fac⟩ := builtR_at (faceOf L F) L S F gj gs gf
  refine rdUA (h.mono le02) j rfl gj (fun ad ia im ic da dn dc hI hc => ?_)
  obtain ⟨c0, c1, c2⟩ := hc g2 (Le.refl _)
  refine ⟨_, _, _, _, _, _, _, c0, c1, c2, ?_⟩
  have hil := hI.imps.len
  have hi16 := (hO.ok u hu).2.1
  intro J hJ g17 m17
  refine ⟨⟨by omega, by omega⟩, rdL ((hS.mono le02).exm m17) j rfl gs (fun ad3 _ l3 => ⟨l3.2.1, _, l3.1, ⟨by omega, by omega⟩, rdL ((hF.mono le02).exm m17) j rfl gf (fun ad4 _ l4 => ⟨l4.2.1, _, l4.1, ?_⟩)⟩)⟩
  refine rep ?_ _
  intro g18 m18 g19 m19
  have m219 := (m17.trans m18).trans m19
  refine hJ _ _ _ _ _ _ _ _ _ g19 ⟨fun m p r0 r1 r2a r2l r2c r3a r3l r3c r4 g' => ∃ p' : Nat, p = ((p' : Nat) : Int) ∧ p' + m = im ∧ r0 = bstr u.name ∧ r1 = bstr src ∧ r2a = ia ∧ r2l = im ∧ r2c = ic ∧ OwnE strE g' g2.w.heap.size 9 r3a r3l r3c ((u.imps.take p').map (faceOf L F)) ∧ r4 = bstr fac ∧ Ex g2 g',
    ⟨im, 0, rfl, by omega, rfl, rfl, rfl, rfl, rfl, by simpa using OwnE.nil _ _ _, rfl, m219⟩, ?_⟩
  rintro m2 p0 r0 r1 r2a r2l r2c da' dn' dc' r4 g4 le4 ⟨p, rfl, hp, rfl, rfl, rfl, rfl, rfl, hd, rfl, m4⟩
  have hdl := hd.len
  rw [List.length_map, List.length_take] at hdl
  have le04 := le02.trans m4.le
  refine ifLt (fun q2 => ⟨⟨by omega, by omega⟩, ?_⟩) (fun q2 g15 n15 => ?_)
  · have gp := List.getElem?_eq_getElem (show p < u.imps.length by omega)
    generalize u.imps[p] = s at gp
    have hs := List.mem_of_getElem? gp
    refine rdS ((hI.imps.exm m4)) p rfl gp ⟨⟨_, Tryz.func48, by kernel_rfl, by kernel_rfl⟩, (k48 (h.mono le04) h16 ((hcell.mono le2).mono m4.le) s).mono ?_⟩
    rintro v g5 m5 ⟨k, rfl, hk⟩
    rcases hk with ⟨rfl, hno⟩ | ⟨jj, y, rfl, gy, rfl⟩
    · obtain ⟨y, hy, e⟩ := mem_names.1 (hO.imp u hu s hs)
      exact absurd e (hno y hy)
    · refine ⟨_, rfl, ifLe (fun _ g6 m6 => ?_) (fun q3 => by omega)⟩
      have hjj := (List.getElem?_eq_some_iff.1 gy).1
      have gfy := List.getElem?_eq_getElem (show jj < F.length by omega)
      generalize F[jj] = fy at gfy
      have hfy : faceOf L F y.name = fy := faceOf_at hO.nd gy gfy
      have m46 := m5.trans m6
      refine ⟨⟨by omega, by omega⟩, rdL ((hF.mono le04).exm m46) jj rfl gfy (fun ad2 _ l2 => ⟨l2.2.1, _, l2.1, rep ?_ _⟩)⟩
      intro g7 m7 g8 n8
      have m47 := m46.trans m7
      obtain ⟨a', c', w', hr, g9, hw, hs9, ho9, _, _⟩ := (hd.exm m47).app1 E30 30 (Nat.le_trans m4.size m47.size) n8 (x := fy) rfl (by omega) (by unfold maxLen; omega)
      refine ⟨a', _, c', w', hr, g9, hw, hs9.mono le02.size (fun _ _ hh => hh), i64 (by omega) (by omega), fun g10 m10 => ⟨m2 - 1, by omega, p + 1, by omega, by omega, rfl, rfl, rfl, rfl, rfl, ?_, rfl, ?_⟩⟩
      · rw [List.take_add_one, gp, List.map_append]
        show OwnE strE g10 _ 9 _ _ _ (_ ++ [faceOf L F y.name])
        rw [hfy]
        exact ho9.exm m10
      · exact (ex_stp ((m4.trans m47).trans n8.ex) hs9).trans m10
  · rw [take_all (by omega)] at hd
    have hx : recE.rep g4 [.string (bstr u.name), .string (bstr src), .slice r2a r2l r2c, .slice da' dn' dc', .string (bstr fac)] ⟨u.name, src, u.imps, u.imps.map (faceOf L F), fac⟩ :=
      ⟨_, _, _, _, _, _, rfl, hI.imps.exm m4, hd.sl⟩
    obtain ⟨a', c', w', hr, g16, hw, hs16, ho16, _, _⟩ := (hout.exm m4).app1 E32 32 (Nat.le_trans le2.size m4.size) n15 (x := ⟨u.name, src, u.imps, u.imps.map (faceOf L F), fac⟩) hx (by omega) (by unfold maxLen; omega)
    refine ⟨a', _, c', w', hr, g16, hw, hs16.mono n1.ex.size (fun _ _ hh => hh), i64 (by omega) (by omega), m - 1, by omega, j + 1, by omega, by omega, ?_⟩
    rw [List.take_add_one, hbj]
    exact ho16
end Go.Proofs.YtmkdbndniffkfaaGreatDoor
/- Four rows of names that grow at a time; two of them are written in place. -/
set_option linter.unusedVariables false
namespace Go.Proofs.YtmkdbndniffkfaaGreatDoor
open Go Go.Vc Go.RowKit Go.Syn

theorem rws_strN {g : G} {L : List Value} {xs : List Lab} (h : Rws strE g L xs) : L = xs.map encStr := by
  obtain ⟨rs, rfl, h⟩ := h
  induction h with
  | nil => rfl
  | cons h1 h2 ih => 
    have e : _ = [encStr _] := h1
    simp [e, ih]
/-- A row of names, one's own; mu: all its cells are mutable. -/
def RwI (g : G) (B : Nat) (mu : Bool) (h : SlH) (L : List Lab) : Prop := match mu with
  | true => MutR g B 9 1 h.a h.n h.c (L.map encStr)
  | false => OwnE strE g B 9 h.a h.n h.c L
namespace RwI
variable {g g' : G} {B : Nat} {mu : Bool} {h : SlH} {L : List Lab}
theorem len (H : RwI g B mu h L) : L.length = h.n := by
  cases mu with
  | true => have := MutR.len H; simpa using this
  | false => exact OwnE.len H
theorem but (H : RwI g B mu h L) {p : Nat → Prop} (k : But p g g') (hp : ∀ b, blkOf h.a b → ¬ p b) (hl : Le g g') : RwI g' B mu h L := by
  cases mu with
  | true => exact MutR.but H k hp
  | false => exact OwnE.but H k hp hl
theorem lt (H : RwI g B mu h L) {z : Nat} (hz : blkOf h.a z) : z < g.w.heap.size := by
  cases mu with
  | true => exact MutR.lt H hz
  | false => exact OwnE.lt H hz
theorem ge (H : RwI g B mu h L) {z : Nat} (hz : blkOf h.a z) : B ≤ z := by
  cases mu with
  | true => exact MutR.ge H hz
  | false => exact OwnE.ge H hz
theorem app (H : RwI g B mu h L) (hB : B ≤ g.w.heap.size) {na : Option Addr} {x : Lab} (hN : SlE strE g na 1 1 [x]) (hn : h.n ≤ 1000) :
    ∃ a' c' w', (Builtin.append_ #[30, 30] 30 #[.slice h.a h.n h.c, .slice na 1 1]).run Tryz.prog g.w = .ok (.slice a' (h.n + 1) c') w' ∧ ∃ g', g'.w = w' ∧ Stp B nobody g g' ∧ RwI g' B mu ⟨a', h.n + 1, c'⟩ (L ++ [x]) ∧ Stp g.w.heap.size (blkOf h.a) g g' ∧ (∀ b, blkOf a' b → blkOf h.a b ∨ g.w.heap.size ≤ b) := by
  cases mu with
  | true =>
    obtain ⟨N, h1, h2⟩ := hN.ex
    have e := rws_strN h2
    subst e
    obtain ⟨a', c', w', hr, g', hw, hs, ho, hs2, hl⟩ := MutR.app (P := Tryz.prog) E30 30 hB H h1 (fun u hu => by simp at hu; subst hu; rfl) (by omega) (by unfold maxLen; omega)
    refine ⟨a', c', w', hr, g', hw, hs, ?_, hs2, hl⟩
    show MutR g' B 9 1 a' (h.n + 1) c' ((L ++ [x]).map encStr)
    rw [List.map_append]
    exact ho
  | false => exact OwnE.app (P := Tryz.prog) E30 30 hB H hN (by omega) (by unfold maxLen; omega)
end RwI
def four {α : Type} (a b c d : α) : Fin 4 → α
  | 0 => a
  | 1 => b
  | 2 => c
  | 3 => d
def upF {α : Type} (f : Fin 4 → α) (k : Fin 4) (x : α) : Fin 4 → α := fun i => if i = k then x else f i
theorem up0 {α : Type} (a b c d x : α) : upF (four a b c d) 0 x = four x b c d := by funext i; match i with | 0 => rfl | 1 => rfl | 2 => rfl | 3 => rfl
theorem up1 {α : Type} (a b c d x : α) : upF (four a b c d) 1 x = four a x c d := by funext i; match i with | 0 => rfl | 1 => rfl | 2 => rfl | 3 => rfl
theorem up2 {α : Type} (a b c d x : α) : upF (four a b c d) 2 x = four a b x d := by funext i; match i with | 0 => rfl | 1 => rfl | 2 => rfl | 3 => rfl
theorem up3 {α : Type} (a b c d x : α) : upF (four a b c d) 3 x = four a b c x := by funext i; match i with | 0 => rfl | 1 => rfl | 2 => rfl | 3 => rfl
def muF : Fin 4 → Bool := four false false true true
/-- The four rows, in blocks that differ. -/
structure FourI (g : G) (B : Nat) (H : Fin 4 → SlH) (LL : Fin 4 → List Lab) : Prop where
  row : ∀ i, RwI g B (muF i) (H i) (LL i)
  apart : ∀ i j, i ≠ j → ∀ z, blkOf (H i).a z → ¬ blkOf (H j).a z
namespace FourI
variable {g g' : G} {B : Nat} {H : Fin 4 → SlH} {LL : Fin 4 → List Lab}
theorem nil (g : G) (B : Nat) : FourI g B (four ⟨none, 0, 0⟩ ⟨none, 0, 0⟩ ⟨none, 0, 0⟩ ⟨none, 0, 0⟩) (four [] [] [] []) := by
  refine ⟨fun i => ?_, fun i j _ z hz => ?_⟩
  · match i with
    | 0 => exact OwnE.nil g B 9
    | 1 => exact OwnE.nil g B 9
    | 2 => exact MutR.nil g B 9 1
    | 3 => exact MutR.nil g B 9 1
  · match i, hz with
    | 0, ⟨_, h, _⟩ => cases h
    | 1, ⟨_, h, _⟩ => cases h
    | 2, ⟨_, h, _⟩ => cases h
    | 3, ⟨_, h, _⟩ => cases h
theorem but (h : FourI g B H LL) {p : Nat → Prop} (k : But p g g') (hp : ∀ i b, blkOf (H i).a b → ¬ p b) (hl : Le g g') : FourI g' B H LL := ⟨fun i => (h.row i).but k (hp i) hl, h.apart⟩
theorem exm (h : FourI g B H LL) (k : Ex g g') : FourI g' B H LL := h.but (k.but nobody) (fun _ _ _ hh => hh) k.le
/-- One row has turned. -/
theorem turn (h : FourI g B H LL) (k : Fin 4) {y : SlH} {l : List Lab} (hb : But (blkOf (H k).a) g g') (hl : Le g g') (hy : RwI g' B (muF k) y l) (hn : ∀ b, blkOf y.a b → blkOf (H k).a b ∨ g.w.heap.size ≤ b) : FourI g' B (upF H k y) (upF LL k l) := by
  refine ⟨fun i => ?_, fun i j hne z h1 h2 => ?_⟩
  · unfold upF
    by_cases e : i = k
    · rw [if_pos e, if_pos e, e]; exact hy
    · rw [if_neg e, if_neg e]; exact (h.row i).but hb (fun b hb' hk => h.apart i k e b hb' hk) hl
  · unfold upF at h1 h2
    by_cases e : i = k
    · rw [if_pos e] at h1
      rw [if_neg (fun e2 => hne (e.trans e2.symm))] at h2
      rcases hn z h1 with hh | hh
      · exact h.apart k j (fun e2 => hne (e.trans e2)) z hh h2
      · have := (h.row j).lt h2; omega
    · rw [if_neg e] at h1
      by_cases e2 : j = k
      · rw [if_pos e2] at h2
        rcases hn z h2 with hh | hh
        · exact h.apart k i (fun e3 => e e3.symm) z hh h1
        · have := (h.row i).lt h1; omega
      · rw [if_neg e2] at h2
        exact h.apart i j hne z h1 h2
/-- A name more. -/
theorem app (h : FourI g B H LL) (k : Fin 4) (hB : B ≤ g.w.heap.size) {na : Option Addr} {x : Lab} (hN : SlE strE g na 1 1 [x]) (hn : (H k).n ≤ 1000) :
    ∃ a' c' w', (Builtin.append_ #[30, 30] 30 #[.slice (H k).a (H k).n (H k).c, .slice na 1 1]).run Tryz.prog g.w = .ok (.slice a' ((H k).n + 1) c') w' ∧ ∃ g', g'.w = w' ∧ Stp B nobody g g' ∧ FourI g' B (upF H k ⟨a', (H k).n + 1, c'⟩) (upF LL k (LL k ++ [x])) ∧ But (blkOf (H k).a) g g' := by
  obtain ⟨a', c', w', hr, g', hw, hs, ho, hs2, hl⟩ := (h.row k).app hB hN hn
  have hb := hs2.but (Nat.le_refl _)
  exact ⟨a', c', w', hr, g', hw, hs, h.turn k hb hs.le ho hl, hb⟩
/-- A write into a row. -/
theorem put (h : FourI g B H LL) (k : Fin 4) (hk : muF k = true) {j : Nat} (hj : j < (LL k).length) {i : Int} (hi : i = (j : Int)) {Q : Addr → Prop}
    (hQ : ∀ ad, stOk g.w (Addr.add ad (Int.toNat i * 1)) 1 → ¬ g.X (Addr.block (Addr.add ad (Int.toNat i * 1))) → mutAt g (Addr.add ad (Int.toNat i * 1)) 1 → B ≤ Addr.block (Addr.add ad (Int.toNat i * 1)) →
      (∀ x g3, StG false g (Addr.add ad (Int.toNat i * 1)) [.string (bstr x)] g3 → Le g g3 ∧ FourI g3 B H (upF LL k ((LL k).set j x))) → Q ad) : derefP (H k).a Q := by
  have hr := h.row k
  have hlen := hr.len
  rw [hk] at hr
  have hr' : MutR g B 9 1 (H k).a (H k).n (H k).c ((LL k).map encStr) := hr
  rcases hr'.row with ⟨_, h0, _⟩ | ⟨b, cur, e, r1, r2, r3, r4, r5, r6⟩
  · omega
  rw [e]
  subst hi
  rw [show Int.toNat ((j : Nat) : Int) * 1 = j by omega] at hQ
  have hlt : j < cur.length := by omega
  refine hQ ⟨b, 0, none⟩ (r2.ok (j := j) (n := 1) (by omega)) (r2.nxA j) (r2.mutA j 1) (by rw [add_block]; exact r1) (fun x g3 k3 => ?_)
  obtain ⟨r3', bt3⟩ := r2.st (j := j) k3
  have le3 : Le g g3 := bt3.le (fun y hy i => by have e : y = b := hy; rw [e]; exact r2.d i)
  have isb : ∀ z, z = b → blkOf (H k).a z := by rintro z rfl; exact ⟨_, e, rfl⟩
  refine ⟨le3, ?_⟩
  have hh := h.turn k (y := H k) (l := (LL k).set j x) (bt3.mono (fun z _ hz => isb z hz)) le3 ?_ (fun b hb => .inl hb)
  · have e2 : upF H k (H k) = H := by
      funext i
      unfold upF
      by_cases e3 : i = k
      · rw [if_pos e3, e3]
      · rw [if_neg e3]
    rwa [e2] at hh
  · rw [hk]
    show MutR g3 B 9 1 (H k).a (H k).n (H k).c (((LL k).set j x).map encStr)
    refine ⟨by rw [List.length_map, List.length_set]; omega, .inr ⟨b, _, e, r1, r3', r3, r4, ?_, ?_⟩⟩
    · rw [setsAt_one, List.length_set]; exact r5
    · rw [setsAt_one, List.take_set, r6, List.map_set]; rfl
/-- The blocks of the rows that are written in place. -/
def mutB (H : Fin 4 → SlH) (z : Nat) : Prop := blkOf (H 2).a z ∨ blkOf (H 3).a z
/-- .. which stand for their names while they are frozen. -/
theorem fro (h : FourI g B H LL) (k : Fin 4) (hk : muF k = true) (hb : ∀ z, blkOf (H k).a z → mutB H z) : SlE strE (g.frozP (mutB H)) (H k).a (H k).n (H k).c (LL k) := by
  have hr := h.row k
  have hlen := hr.len
  rw [hk] at hr
  have hr' : MutR g B 9 1 (H k).a (H k).n (H k).c ((LL k).map encStr) := hr
  refine strs_sle ?_ hlen
  rcases hr'.row with ⟨e0, e1, e2⟩ | ⟨b, cur, e, r1, r2, r3, r4, r5, r6⟩
  · have : LL k = [] := List.eq_nil_of_length_eq_zero (by omega)
    rw [e0, e1, e2, this]
    exact Sl.zero _ _
  · have hbb : mutB H b := hb b ⟨_, e, rfl⟩
    rw [e]
    refine ⟨by rw [List.length_map]; omega, r3, r4, fun h => (by cases h), ?_⟩
    rintro ad e3 i v hi
    cases e3
    have e4 : (Addr.add ⟨b, 0, none⟩ i).block = b := add_block _ _
    have hc : cur[i]? = some v := by
      rw [← r6, List.getElem?_take] at hi
      split at hi
      · exact hi
      · cases hi
    exact ⟨r2.rd hc, by rw [e4]; exact r2.nx, fun hh => hh.2 (by rw [e4]; exact hbb)⟩
/-- A call while they are frozen. -/
theorem call (h : FourI g B H LL) {k : FuncId} {args : Array Value} {Q : Value → G → Prop} (hc : SlE strE (g.frozP (mutB H)) (H 2).a (H 2).n (H 2).c (LL 2) → SlE strE (g.frozP (mutB H)) (H 3).a (H 3).n (H 3).c (LL 3) → Le g (g.frozP (mutB H)) → CallsP Tryz.prog k args (g.frozP (mutB H)) Q) :
    CallsP Tryz.prog k args g fun v g' => ∃ g1, Q v g1 ∧ Ex g1 (g'.frozP (mutB H)) ∧ Ex g g' := by
  refine CallsP.thawP (p := mutB H) ?_ (hc (h.fro 2 rfl (fun z hz => .inl hz)) (h.fro 3 rfl (fun z hz => .inr hz)) (frozP_le _ _)) (fun v g1 g' hq m m1 _ _ => ⟨g1, hq, m1, m⟩)
  rintro b (hb | hb)
  · exact (h.row 2).lt hb
  · exact (h.row 3).lt hb
end FourI
end Go.Proofs.YtmkdbndniffkfaaGreatDoor
/- What Plan says of the records as they were, where some sources and faces have turned. -/
set_option linter.unusedVariables false
namespace Go.Proofs.YtmkdbndniffkfaaGreatDoor
open Go Go.Vc Go.RowKit Go.Syn

/-- A row of digests: at each place the one or the other. -/
noncomputable def pickL (x : Int) (y z : UInt8) (j : Nat) : List Lab := (List.range j).map fun i => if bitB x ((i : Nat) : Int) then dg y else dg z
theorem pickL_len (x : Int) (y z : UInt8) (j : Nat) : (pickL x y z j).length = j := by simp [pickL]
theorem pickL_succ (x : Int) (y z : UInt8) (j : Nat) : pickL x y z (j + 1) = pickL x y z j ++ [if bitB x ((j : Nat) : Int) then dg y else dg z] := by
  simp [pickL, List.range_succ]
theorem pickL_get (x : Int) (y z : UInt8) {j i : Nat} (h : i < j) : (pickL x y z j)[i]? = some (if bitB x ((i : Nat) : Int) then dg y else dg z) := by
  simp [pickL, h]
theorem pickL_set (x : Int) (y z : UInt8) (j : Nat) (a b : Lab) : (pickL x y z j ++ [a]).set j b = pickL x y z j ++ [b] := by
  have h := pickL_len x y z j
  generalize pickL x y z j = l at h
  subst h
  simp
theorem pickL_mem {x : Int} {y z : UInt8} {j : Nat} {s : Lab} (h : s ∈ pickL x y z j) : s = dg y ∨ s = dg z := by
  simp only [pickL, List.mem_map] at h
  obtain ⟨i, _, rfl⟩ := h
  split
  · exact .inl rfl
  · exact .inr rfl
theorem dg_dig {x : UInt8} (h : hexB x) : digestP (dg x) := ⟨fun b hb => by rw [List.eq_of_mem_replicate hb]; exact h, dg_len x⟩
theorem dg_ne {x y : UInt8} (h : x ≠ y) : dg x ≠ dg y := fun e => h (by
  have := congrArg (fun l : Lab => l.head?) e
  simpa [dg, List.replicate] using this)
theorem hex97 : hexB 97 := by unfold hexB; decide
theorem hex98 : hexB 98 := by unfold hexB; decide
theorem hex99 : hexB 99 := by unfold hexB; decide
theorem hex100 : hexB 100 := by unfold hexB; decide
theorem short_of {l : List Lab} (h : l.length ≤ 20) (hm : ∀ s ∈ l, ∃ x, s = dg x) : shortL l := ⟨by omega, fun s hs => by obtain ⟨x, rfl⟩ := hm s hs; rw [dg_len]; omega⟩
section
variable {L : List UnitD} {o : List Lab} (hO : Ordered L o)
include hO
theorem face_rep {s : Lab} (hs : s ∈ namesU L) (x : UInt8) : faceOf L (List.replicate L.length (dg x)) s = dg x := by
  obtain ⟨y, hy, rfl⟩ := mem_names.1 hs
  obtain ⟨i, hi, hh⟩ := List.mem_iff_getElem.1 hy
  exact faceOf_at hO.nd (i := i) (by rw [List.getElem?_eq_getElem hi, hh]) (by simp [hi])
theorem face_pick {i : Nat} {u : UnitD} (hu : L[i]? = some u) (x : Int) (y z : UInt8) : faceOf L (pickL x y z L.length) u.name = if bitB x ((i : Nat) : Int) then dg y else dg z :=
  faceOf_at hO.nd hu (pickL_get x y z (List.getElem?_eq_some_iff.1 hu).1)
/-- Has the face of the unit of a name turned? -/
def turned (L : List UnitD) (face : Int) (s : Lab) : Prop := ∃ (j : Nat) (u : UnitD), L[j]? = some u ∧ u.name = s ∧ bitB face ((j : Nat) : Int) = true
theorem turned_iff {s : Lab} (hs : s ∈ namesU L) (face : Int) : turned L face s ↔ faceOf L (List.replicate L.length (dg 98)) s ≠ faceOf L (pickL face 100 98 L.length) s := by
  rw [face_rep hO hs]
  obtain ⟨y, hy, rfl⟩ := mem_names.1 hs
  obtain ⟨i, hi, hh⟩ := List.mem_iff_getElem.1 hy
  have gi : L[i]? = some y := by rw [List.getElem?_eq_getElem hi, hh]
  rw [face_pick hO gi]
  constructor
  · rintro ⟨j, u, h1, h2, h3⟩
    have : j = i := by
      have hn := hO.nd
      have e1 : (namesU L)[j]? = some y.name := by unfold namesU; rw [List.getElem?_map, h1]; simp [h2]
      have e2 : (namesU L)[i]? = some y.name := by unfold namesU; rw [List.getElem?_map, gi]; rfl
      have hj := (List.getElem?_eq_some_iff.1 e1).1
      exact (List.getElem?_inj hj hn).1 (e1.trans e2.symm)
    subst this
    rw [if_pos h3]
    exact dg_ne (by decide)
  · intro h
    by_cases q : bitB face ((i : Nat) : Int) = true
    · exact ⟨i, y, gi, rfl, q⟩
    · rw [if_neg q] at h; exact absurd rfl h
theorem built_ok {r : RecD} (hr : r ∈ builtR (faceOf L (List.replicate L.length (dg 98))) L (List.replicate L.length (dg 97)) (List.replicate L.length (dg 98))) : recOK r ∧ recP r := by
  obtain ⟨u, hu, s, hs, f, hf, rfl⟩ := builtR_mem _ _ _ _ hr
  have e1 := List.eq_of_mem_replicate hs
  have e2 := List.eq_of_mem_replicate hf
  subst e1; subst e2
  have hp := hO.ok u hu
  obtain ⟨p1, p2, p3, p4, p5, _⟩ := hp
  have hd : ∀ d ∈ u.imps.map (faceOf L (List.replicate L.length (dg 98))), d = dg 98 := by
    intro d hd
    obtain ⟨s, hs, rfl⟩ := List.mem_map.1 hd
    exact face_rep hO (hO.imp u hu s hs) 98
  refine ⟨⟨by show (dg 97).length ≤ _; rw [dg_len]; omega, by show (dg 98).length ≤ _; rw [dg_len]; omega, by show u.imps.length ≤ _; omega, short_of (by rw [List.length_map]; omega) (fun s hs => ⟨98, hd s hs⟩)⟩, p1, dg_dig hex97, dg_dig hex98, ⟨p2, p3, p5⟩, p4, by rw [List.length_map], fun d h => by rw [hd d h]; exact dg_dig hex98⟩
/-- What Plan is to say at a unit. -/
noncomputable def wantR (L : List UnitD) (source face : Int) (i : Nat) (u : UnitD) : ReaD :=
  if bitB source ((i : Nat) : Int) = true then ⟨2, []⟩ else match u.imps.find? (fun s => tf (turned L face s)) with
    | some s => ⟨4, s⟩
    | none => ⟨0, []⟩
theorem plan_want {i : Nat} {u : UnitD} (hu : L[i]? = some u) (source face : Int) :
    (planRow L (builtR (faceOf L (List.replicate L.length (dg 98))) L (List.replicate L.length (dg 97)) (List.replicate L.length (dg 98))) (pickL face 100 98 L.length) L (pickL source 99 97 L.length))[i]? = some (wantR L source face i u) := by
  have hi := (List.getElem?_eq_some_iff.1 hu).1
  rw [plan_built hO.nd (by simp) (by simp) hu (s := dg 97) (by simp [hi]) (pickL_get source 99 97 hi)]
  unfold wantR
  congr 1
  by_cases q : bitB source ((i : Nat) : Int) = true
  · rw [if_pos q, if_pos q, if_pos (dg_ne (by decide))]
  · rw [if_neg q, if_neg q, if_neg (fun h => h rfl)]
    have e : ∀ l : List Lab, (∀ s ∈ l, s ∈ namesU L) → l.find? (fun n => decide (faceOf L (List.replicate L.length (dg 98)) n ≠ faceOf L (pickL face 100 98 L.length) n)) = l.find? (fun s => tf (turned L face s)) := by
      intro l
      induction l with
      | nil => intro _; rfl
      | cons a r ih =>
        intro h
        have ha := turned_iff hO (h a (by simp)) face
        rw [List.find?_cons, List.find?_cons, ih (fun s hs => h s (by simp [hs]))]
        rw [show decide (faceOf L (List.replicate L.length (dg 98)) a ≠ faceOf L (pickL face 100 98 L.length) a) = tf (turned L face a) from by
          by_cases q2 : turned L face a
          · rw [tf_true.mpr q2, decide_eq_true (ha.1 q2)]
          · rw [tf_false.mpr q2, decide_eq_false (fun hh => q2 (ha.2 hh))]]
    have e2 := e u.imps (hO.imp u (List.mem_of_getElem? hu))
    rw [e2]
    cases List.find? (fun s => tf (turned L face s)) u.imps <;> rfl
theorem plan_same {i : Nat} {u : UnitD} (hu : L[i]? = some u) :
    (planRow L (builtR (faceOf L (List.replicate L.length (dg 98))) L (List.replicate L.length (dg 97)) (List.replicate L.length (dg 98))) (List.replicate L.length (dg 98)) L (List.replicate L.length (dg 97)))[i]? = some ⟨0, []⟩ := by
  have hi := (List.getElem?_eq_some_iff.1 hu).1
  rw [plan_built hO.nd (by simp) (by simp) hu (s := dg 97) (by simp [hi]) (s' := dg 97) (by simp [hi]), if_neg (fun h => h rfl)]
  have e : u.imps.find? (fun n => decide (faceOf L (List.replicate L.length (dg 98)) n ≠ faceOf L (List.replicate L.length (dg 98)) n)) = none := by simp
  rw [e]
end
/-- The first one that a test finds. -/
theorem find_first {p : Lab → Bool} : ∀ {l : List Lab} {j : Nat} {s : Lab}, l[j]? = some s → p s = true → (∀ x ∈ l.take j, p x = false) → l.find? p = some s
  | [], _, _, h, _, _ => by simp at h
  | a :: l, 0, s, h, hp, _ => by simp at h; subst h; rw [List.find?_cons, hp]
  | a :: l, j + 1, s, h, hp, hn => by
    rw [List.find?_cons, hn a (by simp)]
    exact find_first (j := j) (by simpa using h) hp (fun x hx => hn x (by simp [hx]))
end Go.Proofs.YtmkdbndniffkfaaGreatDoor
/- RecompileChanges. -/
set_option linter.unusedVariables false
namespace Go.Proofs.YtmkdbndniffkfaaGreatDoor
open Go Go.Vc Go.RowKit Go.Syn

theorem sameBut_of {p : Nat → Prop} {g g1 g' : G} (m : Ex g g1) (h : But p g1 g') : SameBut p g g' := fun b h1 h2 h3 => ((m.but p).trans h).same b h1 h2 h3
noncomputable def lists (source face : Int) (j : Nat) : Fin 4 → List Lab := four (List.replicate j (dg 97)) (List.replicate j (dg 98)) (pickL source 99 97 j) (pickL face 100 98 j)
theorem lev2 (L : List UnitD) : (levelsA L).2 = (orderN L).2 := by
  unfold levelsA
  split
  · next h => rw [h]
  · rfl
theorem rep_succ (j : Nat) (x : Lab) : List.replicate j x ++ [x] = List.replicate (j + 1) x := by rw [← List.replicate_succ']
/-- One more round: what was appended, and then written. -/
theorem law3 (L : List UnitD) (source face : Int) {a : Option Addr} {n c : Nat} {g : G} (ht : TabG g) (h : SlE unitE g a n c L) :
    CallsP Tryz.prog 3 #[.slice a n c, .int .u32 source, .int .u32 face] g fun v _ => v = .bool true := by
  refine P3.call3 a n c source face g _ ?_
  have hl := h.len
  unfold P3.F3
  intro g1 n1 g2 n2 J hJ
  have hcl := (n1.at0 (v := .slice a n c) rfl).mono n2.ex.le
  have hcf := n2.at0 (v := .int .u32 face) rfl
  have m02 := n1.ex.trans n2.ex
  refine (k7 g2 (ht.exm m02)).mono ?_
  rintro v g52 m52 rfl
  refine ⟨_, rfl, ifF (fun e => by cases e) (fun _ => ⟨_, _, _, (hcl.mono m52.le).1, (k8 ((h.exm m02).exm m52)).mono ?_⟩)⟩
  rintro v g55 m55 ⟨b, rfl, hb⟩
  have m255 := m52.trans m55
  refine ⟨_, rfl, ifF (fun _ => (k7 g55 (ht.exm (m02.trans m255))).mono ?_) (fun e => ?_)⟩
  · rintro v g56 _ rfl
    exact ⟨_, rfl, fun _ _ => rfl⟩
  obtain ⟨h20, hL⟩ := hb e
  have m055 := m02.trans m255
  refine hJ g55 ⟨_, _, _, (hcl.mono m255.le).1, (k9 hL (ht.exm m055) (h.exm m055)).mono ?_⟩
  rintro v g4 m4 ⟨va, vn, vc, rfl, _⟩
  refine ⟨_, _, _, _, rfl, ?_⟩
  rw [lev2]
  refine ifNe (fun q g5 _ => rfl) (fun q => ?_)
  have hO := orderN_ordered q
  have h16 := hO.ln
  have m24 := m255.trans m4
  have m04 := m02.trans m24
  have hcl4 := hcl.mono m24.le
  have hcf4 := hcf.mono m24.le
  have hz : g.w.heap.size ≤ g4.w.heap.size := m04.size
  refine ⟨_, _, _, hcl4.1, fun m sa sl sc fa fl fc oa ol oc ca cl cc i g' => ∃ j : Nat, i = ((j : Nat) : Int) ∧ j + m = n ∧ FourI g' g4.w.heap.size (four ⟨sa, sl, sc⟩ ⟨fa, fl, fc⟩ ⟨oa, ol, oc⟩ ⟨ca, cl, cc⟩) (lists source face j),
    ⟨n, 0, rfl, by omega, FourI.nil _ _⟩, ?_⟩
  rintro m sa sl sc fa fl fc oa ol oc ca cl cc i g6 le6 ⟨j, rfl, hj, H6⟩
  have e1 : j = sl := by have := (H6.row 0).len; simpa [lists, four] using this
  have e2 : j = fl := by have := (H6.row 1).len; simpa [lists, four] using this
  have e3 : j = ol := by have := (H6.row 2).len; simpa [lists, four, pickL_len] using this
  have e4 : j = cl := by have := (H6.row 3).len; simpa [lists, four, pickL_len] using this
  subst e1 e2 e3 e4
  refine ifLt (fun q1 => (k10 97 _ rfl g6).mono ?_) (fun q1 => ?_)
  · -- a round
    rintro v g7 m7 rfl
    refine ⟨_, rfl, fun g8 n8 => ?_⟩
    have H8 := (H6.exm m7).exm n8.ex
    obtain ⟨sa', sc', w1, hr1, g9, hw1, hs1, H9, _⟩ := H8.app 0 (Nat.le_trans le6.size (m7.trans n8.ex).size) (x := dg 97) (n8.sle (Rws.single rfl) (by unfold maxLen; simp)) (by show j ≤ _; omega)
    rw [lists, up0, up0] at H9
    refine ⟨sa', j + 1, sc', w1, hr1, g9, hw1, hs1.mono hz (fun _ _ hh => hh), (k10 98 _ rfl g9).mono ?_⟩
    rintro v g10 m10 rfl
    refine ⟨_, rfl, fun g11 n11 => ?_⟩
    have le9 : Le g4 g9 := ((le6.trans m7.le).trans n8.ex.le).trans hs1.le
    have H11 := (H9.exm m10).exm n11.ex
    obtain ⟨fa', fc', w2, hr2, g12, hw2, hs2, H12, _⟩ := H11.app 1 (Nat.le_trans le9.size (m10.trans n11.ex).size) (x := dg 98) (n11.sle (Rws.single rfl) (by unfold maxLen; simp)) (by show j ≤ _; omega)
    rw [up1, up1] at H12
    refine ⟨fa', j + 1, fc', w2, hr2, g12, hw2, hs2.mono hz (fun _ _ hh => hh), ?_⟩
    have le12 : Le g4 g12 := (le9.trans (m10.trans n11.ex).le).trans hs2.le
    intro J1 hJ1 g19 m19
    have H19 := H12.exm m19
    have le19 := le12.trans m19.le
    -- behind the two appends
    have fin : ∀ (oa' : Option Addr) (oc' : Nat) (ca' : Option Addr) (cc' : Nat) (g13 : G), Le g4 g13 → FourI g13 g4.w.heap.size (four ⟨sa', j + 1, sc'⟩ ⟨fa', j + 1, fc'⟩ ⟨oa', j + 1, oc'⟩ ⟨ca', j + 1, cc'⟩) (four (List.replicate j (dg 97) ++ [dg 97]) (List.replicate j (dg 98) ++ [dg 98]) (pickL source 99 97 j ++ [dg 97]) (pickL face 100 98 j ++ [dg 98])) → J1 oa' (j + 1) oc' ca' (j + 1) cc' g13 := by
      intro oa' oc' ca' cc' g13 le13 H13
      refine hJ1 _ _ _ _ _ _ g13 ?_
      intro J2 hJ2
      have two : ∀ g14, Le g4 g14 → FourI g14 g4.w.heap.size (four ⟨sa', j + 1, sc'⟩ ⟨fa', j + 1, fc'⟩ ⟨oa', j + 1, oc'⟩ ⟨ca', j + 1, cc'⟩) (four (List.replicate j (dg 97) ++ [dg 97]) (List.replicate j (dg 98) ++ [dg 98]) (pickL source 99 97 (j + 1)) (pickL face 100 98 j ++ [dg 98])) → J2 g14 := by
        intro g14 le14 H14
        refine hJ2 g14 ⟨_, (hcf4.mono le14).1, by omega, ?_⟩
        have done : ∀ g16, FourI g16 g4.w.heap.size (four ⟨sa', j + 1, sc'⟩ ⟨fa', j + 1, fc'⟩ ⟨oa', j + 1, oc'⟩ ⟨ca', j + 1, cc'⟩) (four (List.replicate j (dg 97) ++ [dg 97]) (List.replicate j (dg 98) ++ [dg 98]) (pickL source 99 97 (j + 1)) (pickL face 100 98 (j + 1))) →
            InI64 (((j : Nat) : Int) + 1) ∧ ∃ m_1 : Nat, m_1 < m ∧ ∃ j' : Nat, ((j : Nat) : Int) + 1 = ((j' : Nat) : Int) ∧ j' + m_1 = n ∧ FourI g16 g4.w.heap.size (four ⟨sa', j + 1, sc'⟩ ⟨fa', j + 1, fc'⟩ ⟨oa', j + 1, oc'⟩ ⟨ca', j + 1, cc'⟩) (lists source face j') := by
          intro g16 H16
          refine ⟨i64 (by omega) (by omega), m - 1, by omega, j + 1, by omega, by omega, ?_⟩
          rw [rep_succ, rep_succ] at H16
          exact H16
        by_cases qf : bitB face ((j : Nat) : Int) = true
        · refine ifT (fun _ => (k10 100 _ rfl g14).mono ?_) (fun e => by rw [show eqI _ _ = bitB face ((j : Nat) : Int) from rfl, qf] at e; cases e)
          rintro v g15 m15 rfl
          refine ⟨_, rfl, ⟨by omega, by omega⟩, (H14.exm m15).put 3 rfl (j := j) (by show j < (pickL face 100 98 j ++ [dg 98]).length; rw [List.length_append, pickL_len]; simp) rfl (fun ad p1 p2 p3 p4 p5 => ⟨p1, p2, p3, fun hh => by omega, fun g16 k16 => ?_⟩)⟩
          obtain ⟨le16, H16⟩ := p5 (dg 100) g16 k16
          rw [up3] at H16
          refine done g16 ?_
          rw [pickL_succ face, if_pos qf]
          rw [show (four (List.replicate j (dg 97) ++ [dg 97]) (List.replicate j (dg 98) ++ [dg 98]) (pickL source 99 97 (j + 1)) (pickL face 100 98 j ++ [dg 98]) 3).set j (dg 100) = pickL face 100 98 j ++ [dg 100] from pickL_set face 100 98 j _ _] at H16
          exact H16
        · refine ifT (fun e => absurd e qf) (fun _ => done g14 ?_)
          rw [pickL_succ face, if_neg qf]
          exact H14
      refine ⟨by omega, ?_⟩
      by_cases qs : bitB source ((j : Nat) : Int) = true
      · refine ifT (fun _ => (k10 99 _ rfl g13).mono ?_) (fun e => by rw [show eqI _ _ = bitB source ((j : Nat) : Int) from rfl, qs] at e; cases e)
        rintro v g17 m17 rfl
        refine ⟨_, rfl, ⟨by omega, by omega⟩, (H13.exm m17).put 2 rfl (j := j) (by show j < (pickL source 99 97 j ++ [dg 97]).length; rw [List.length_append, pickL_len]; simp) rfl (fun ad p1 p2 p3 p4 p5 => ⟨p1, p2, p3, fun hh => by omega, fun g18 k18 => ?_⟩)⟩
        obtain ⟨le18, H18⟩ := p5 (dg 99) g18 k18
        rw [up2] at H18
        refine two g18 ((le13.trans m17.le).trans le18) ?_
        rw [pickL_succ source, if_pos qs]
        rw [show (four (List.replicate j (dg 97) ++ [dg 97]) (List.replicate j (dg 98) ++ [dg 98]) (pickL source 99 97 j ++ [dg 97]) (pickL face 100 98 j ++ [dg 98]) 2).set j (dg 99) = pickL source 99 97 j ++ [dg 99] from pickL_set source 99 97 j _ _] at H18
        exact H18
      · refine ifT (fun e => absurd e qs) (fun _ => two g13 le13 ?_)
        rw [pickL_succ source, if_neg qs]
        exact H13
    have hS19 : SlE strE g19 sa' (j + 1) sc' (List.replicate j (dg 97) ++ [dg 97]) := OwnE.sl (H19.row 0)
    have hF19 : SlE strE g19 fa' (j + 1) fc' (List.replicate j (dg 98) ++ [dg 98]) := OwnE.sl (H19.row 1)
    refine ⟨blkOf oa, fun b hb => MutR.nx (H19.row 2) hb, ⟨by omega, by omega⟩, rdL hS19 j rfl (s := dg 97) (by simp) (fun ad2 ea2 l2 => ⟨?_, _, l2.1, ⟨by omega, by omega⟩, rdL hF19 j rfl (s := dg 98) (by simp) (fun ad3 ea3 l3 => ⟨?_, _, l3.1, ?_⟩)⟩)⟩
    · rw [add_block]
      exact H19.apart 0 2 (by decide) ad2.block ⟨ad2, ea2, rfl⟩
    · rw [add_block]
      exact H19.apart 1 2 (by decide) ad3.block ⟨ad3, ea3, rfl⟩
    have apO : ∀ (gx : G) (p : Nat), Ex g19 gx → SlE strE gx (some ⟨p, 0, none⟩) 1 1 [dg 97] → ∃ oa' oc' wo, Sem.run Tryz.prog (Builtin.append_ #[30, 30] 30 #[(.slice oa j oc), (.slice (some ⟨p, 0, none⟩) 1 1)]) gx.w = .ok (.slice oa' (j + 1) oc') wo ∧ ∃ g', g'.w = wo ∧ Stp g.w.heap.size nobody gx g' ∧ SameBut (blkOf oa) g19 g' ∧ Le gx g' ∧
        FourI g' g4.w.heap.size (four ⟨sa', j + 1, sc'⟩ ⟨fa', j + 1, fc'⟩ ⟨oa', j + 1, oc'⟩ ⟨ca, j, cc⟩) (four (List.replicate j (dg 97) ++ [dg 97]) (List.replicate j (dg 98) ++ [dg 98]) (pickL source 99 97 j ++ [dg 97]) (pickL face 100 98 j)) := by
      intro gx p mx hN
      obtain ⟨a', c', w', hr, g', hw, hs, H', hb⟩ := (H19.exm mx).app 2 (Nat.le_trans le19.size mx.size) hN (by show j ≤ _; omega)
      rw [up2, up2] at H'
      exact ⟨a', c', w', hr, g', hw, hs.mono hz (fun _ _ hh => hh), sameBut_of mx hb, hs.le, H'⟩
    have apC : ∀ (oa' : Option Addr) (oc' : Nat) (gx : G) (p : Nat), Le g4 gx → FourI gx g4.w.heap.size (four ⟨sa', j + 1, sc'⟩ ⟨fa', j + 1, fc'⟩ ⟨oa', j + 1, oc'⟩ ⟨ca, j, cc⟩) (four (List.replicate j (dg 97) ++ [dg 97]) (List.replicate j (dg 98) ++ [dg 98]) (pickL source 99 97 j ++ [dg 97]) (pickL face 100 98 j)) →
        SlE strE gx (some ⟨p, 0, none⟩) 1 1 [dg 98] → ∃ ca' cl' cc' wo, Sem.run Tryz.prog (Builtin.append_ #[30, 30] 30 #[(.slice ca j cc), (.slice (some ⟨p, 0, none⟩) 1 1)]) gx.w = .ok (.slice ca' cl' cc') wo ∧ ∃ g', g'.w = wo ∧ Stp g.w.heap.size nobody gx g' ∧ J1 oa' (j + 1) oc' ca' cl' cc' g' := by
      intro oa' oc' gx p lex Hx hN
      obtain ⟨a', c', w', hr, g', hw, hs, H', hb⟩ := Hx.app 3 lex.size hN (by show j ≤ _; omega)
      rw [up3, up3] at H'
      exact ⟨a', _, c', w', hr, g', hw, hs.mono hz (fun _ _ hh => hh), fin oa' oc' a' c' g' (lex.trans hs.le) H'⟩
    have one : ∀ {gx gy : G} {x : Lab}, NewL gx gy 9 [.string (bstr x)] → SlE strE gy (some ⟨gx.w.heap.size, 0, none⟩) 1 1 [x] := fun nn => nn.sle (Rws.single rfl) (by unfold maxLen; simp)
    refine ⟨fun g20 n20 => ⟨?_, fun g24 n24 => ?_⟩, fun g27 n27 g28 n28 => ?_⟩
    · obtain ⟨a', c', w', hr, g21, hw, hs, hsb, hle, H21⟩ := apO g20 _ n20.ex (one n20)
      refine ⟨a', _, c', w', hr, g21, hw, hs, hsb, fun g22 n22 => ?_⟩
      exact apC a' c' g22 _ (((le19.trans n20.ex.le).trans hle).trans n22.ex.le) (H21.exm n22.ex) (one n22)
    · obtain ⟨a', c', w', hr, g25, hw, hs, hsb, hle, H25⟩ := apO g24 _ (n20.ex.trans n24.ex) ((one n20).exm n24.ex)
      refine ⟨a', _, c', w', hr, g25, hw, hs, hsb, ?_⟩
      exact apC a' c' g25 _ ((le19.trans (n20.ex.trans n24.ex).le).trans hle) H25 ((one n24).mono hle)
    · obtain ⟨a', c', w', hr, g29, hw, hs, hsb, hle, H29⟩ := apO g28 _ (n27.ex.trans n28.ex) (one n28)
      refine ⟨a', _, c', w', hr, g29, hw, hs, hsb, ?_⟩
      exact apC a' c' g29 _ ((le19.trans (n27.ex.trans n28.ex).le).trans hle) H29 (((one n27).exm n28.ex).mono hle)
  -- behind the loop
  have ejn : j = L.length := by omega
  subst ejn
  have le06 : Le g g6 := m04.le.trans le6
  have hS6 : SlE strE g6 sa L.length sc (List.replicate L.length (dg 97)) := OwnE.sl (H6.row 0)
  have hF6 : SlE strE g6 fa L.length fc (List.replicate L.length (dg 98)) := OwnE.sl (H6.row 1)
  refine ⟨_, _, _, (hcl4.mono le6).1, (k11 hO (by simp) (by simp) (h.mono le06) hS6 hF6).mono ?_⟩
  rintro v g31 m31 ⟨ra, rn, rc, rfl, hR⟩
  have H31 := H6.exm m31
  have le31 : Le g4 g31 := le6.trans m31.le
  have le031 : Le g g31 := le06.trans m31.le
  have hbl := builtR_len (faceOf L (List.replicate L.length (dg 98))) (us := L) (ss := List.replicate L.length (dg 97)) (fs := List.replicate L.length (dg 98)) (by simp) (by simp)
  have hnd : ((builtR (faceOf L (List.replicate L.length (dg 98))) L (List.replicate L.length (dg 97)) (List.replicate L.length (dg 98))).map (·.name)).Nodup := by
    rw [builtR_names _ _ _ _ (by simp) (by simp)]; exact hO.nd
  have hbo := @built_ok L _ hO
  generalize hBR : builtR (faceOf L (List.replicate L.length (dg 98))) L (List.replicate L.length (dg 97)) (List.replicate L.length (dg 98)) = BR at hR hbl hnd hbo
  have hp1 : planA L BR (List.replicate L.length (dg 97)) (List.replicate L.length (dg 98)) = (planRow L BR (List.replicate L.length (dg 98)) L (List.replicate L.length (dg 97)), 0) :=
    planA_ok q ⟨by simp, by simp, fun s hs => by rw [List.eq_of_mem_replicate hs]; exact dg_dig hex97, fun s hs => by rw [List.eq_of_mem_replicate hs]; exact dg_dig hex98, fun r hr => (hbo hr).2⟩ (by omega) hnd
  have hp2 : planA L BR (pickL source 99 97 L.length) (pickL face 100 98 L.length) = (planRow L BR (pickL face 100 98 L.length) L (pickL source 99 97 L.length), 0) :=
    planA_ok q ⟨pickL_len _ _ _ _, pickL_len _ _ _ _, fun s hs => (pickL_mem hs).elim (fun e => e ▸ dg_dig hex99) (fun e => e ▸ dg_dig hex97), fun s hs => (pickL_mem hs).elim (fun e => e ▸ dg_dig hex100) (fun e => e ▸ dg_dig hex98), fun r hr => (hbo hr).2⟩ (by omega) hnd
  refine ⟨_, _, _, rfl, _, _, _, (hcl4.mono le31).1, (k12 hL (fun r hr => (hbo hr).1) (by omega) (short_of (by simp; omega) (fun s hs => ⟨97, List.eq_of_mem_replicate hs⟩)) (short_of (by simp; omega) (fun s hs => ⟨98, List.eq_of_mem_replicate hs⟩)) (ht.mono le031) (h.mono le031) hR (hS6.exm m31) (hF6.exm m31)).mono ?_⟩
  rintro v g32 m32 ⟨xa, xn, xc, rfl, hx⟩
  rw [hp1] at hx
  have hxl := hx.len
  rw [planRow_len _ _ _ _ _ (by simp)] at hxl
  refine ⟨_, _, _, _, rfl, ?_⟩
  rw [hp1]
  intro J3 hJ3
  have le32 := le31.trans m32.le
  refine ifNe (fun hh => absurd rfl hh) (fun _ => ⟨_, _, _, (hcl4.mono le32).1, ifNe (fun hh => absurd (by omega) hh) (fun _ => (k13 14 #[] (fun r => r ≠ ⟨0, []⟩) _ hx (by omega) ⟨_, Tryz.func14, by kernel_rfl, by kernel_rfl⟩ (fun g' r => k14 r g')).mono ?_)⟩)
  rintro v g50 m50 ⟨b, rfl, hb50⟩
  refine ⟨_, rfl, ifT (fun e => ?_) (fun _ => ?_)⟩
  · obtain ⟨r, hr, hne⟩ := hb50.1 e
    obtain ⟨i, hi, hri⟩ := List.mem_iff_getElem.1 hr
    have hil : i < L.length := by rw [planRow_len _ _ _ _ _ (by simp)] at hi; exact hi
    have := plan_same hO (List.getElem?_eq_getElem hil)
    rw [hBR, List.getElem?_eq_getElem hi, hri] at this
    cases this
    exact absurd rfl hne
  have m3150 := m32.trans m50
  have H50 := H31.exm m3150
  have le50 : Le g4 g50 := le31.trans m3150.le
  have le050 : Le g g50 := le031.trans m3150.le
  refine hJ3 g50 ⟨_, _, _, (hcl4.mono le50).1, (H50.call (Q := fun v g' => PlanSay (planA L BR (pickL source 99 97 L.length) (pickL face 100 98 L.length)) v g') (fun hS hF lef => ?_)).mono ?_⟩
  · exact k12 hL (fun r hr => (hbo hr).1) (by omega) (short_of (by rw [pickL_len]; omega) (fun s hs => (pickL_mem hs).elim (fun e => ⟨99, e⟩) (fun e => ⟨97, e⟩))) (short_of (by rw [pickL_len]; omega) (fun s hs => (pickL_mem hs).elim (fun e => ⟨100, e⟩) (fun e => ⟨98, e⟩))) (ht.mono (le050.trans lef)) (h.mono (le050.trans lef)) ((hR.exm m3150).mono lef) hS hF
  rintro v g34 m34 ⟨gq, ⟨ya, yn, yc, rfl, hy⟩, mq, _⟩
  rw [hp2] at hy
  have hyl := hy.len
  rw [planRow_len _ _ _ _ _ (by rw [pickL_len])] at hyl
  have hy34 := hy.exm mq
  generalize FourI.mutB _ = fp at hy34 mq
  refine ⟨_, _, _, _, rfl, ?_⟩
  rw [hp2]
  intro J4 hJ4
  have le34 : Le g4 g34 := le50.trans m34.le
  have le034 : Le g g34 := le050.trans m34.le
  refine ifNe (fun hh => absurd rfl hh) (fun _ => ⟨_, _, _, (hcl4.mono le34).1, ifNe (fun hh => absurd (by omega) hh) (fun _ => ?_)⟩)
  refine hJ4 g34 ⟨_, _, _, (hcl4.mono le34).1, fun m i g' => ∃ j : Nat, i = ((j : Nat) : Int) ∧ j + m = n ∧ Ex g34 g', ⟨n, 0, rfl, by omega, Ex.refl _⟩, ?_⟩
  rintro m2 i g36 le36 ⟨j, rfl, hj2, m36⟩
  refine ifLt (fun q2 => ⟨⟨by omega, by omega⟩, ?_⟩) (fun _ g45 _ => rfl)
  have gj := List.getElem?_eq_getElem (show j < L.length by omega)
  generalize L[j] = u at gj
  have hu := List.mem_of_getElem? gj
  refine rdUA ((h.mono le034).exm m36) j rfl gj (fun ad ia im ic da dn dc hI hc => ?_)
  obtain ⟨c0, c1, c2⟩ := hc g36 (Le.refl _)
  have hil := hI.imps.len
  have hi16 := (hO.ok u hu).2.1
  refine ⟨_, _, _, _, _, _, _, c0, c1, c2, fun g37 m37 g38 m38 => ?_⟩
  have m3638 := m37.trans m38
  have m3438 := m36.trans m3638
  have le38 : Le g4 g38 := le34.trans m3438.le
  have hw := plan_want hO gj source face
  rw [hBR] at hw
  refine (kq15 16 _ (fun s => turned L face s) u.imps (hI.imps.exm m3638) (by omega) ⟨_, Tryz.func16, by kernel_rfl, by kernel_rfl⟩ (fun g' mg s hs => ?_)).mono ?_
  · refine (k16 (h.mono ((le034.trans m3438.le).trans mg.le)) h16 (hcl4.mono (le38.trans mg.le)) (hcf4.mono (le38.trans mg.le)) s).mono ?_
    rintro v g'' _ ⟨b, rfl, hb⟩
    congr 1
    rcases hb with ⟨rfl, hno⟩ | ⟨i, y, gy, rfl, rfl⟩
    · exact (tf_false.mpr (fun ⟨i, y, gy, e, _⟩ => hno y (List.mem_of_getElem? gy) e)).symm
    · have : turned L face y.name ↔ bitB face ((i : Nat) : Int) = true := by
        constructor
        · rintro ⟨i2, y2, gy2, e, hh⟩
          have : i2 = i := by
            have x1 : (namesU L)[i2]? = some y.name := by unfold namesU; rw [List.getElem?_map, gy2]; simp [e]
            have x2 : (namesU L)[i]? = some y.name := by unfold namesU; rw [List.getElem?_map, gy]; rfl
            exact (List.getElem?_inj (List.getElem?_eq_some_iff.1 x1).1 hO.nd).1 (x1.trans x2.symm)
          rw [← this]; exact hh
        · exact fun hh => ⟨i, y, gy, rfl, hh⟩
      rw [tf_iff this]
      cases bitB face ((i : Nat) : Int) <;> simp
  rintro v g39 m39 ⟨k, rfl, hk⟩
  refine ⟨_, rfl, ?_⟩
  intro J5 hJ5
  have fin : ∀ g40, Ex g39 g40 → J5 (wantR L source face j u).op (bstr (wantR L source face j u).unit) g40 := by
    intro g40 m40
    refine hJ5 _ _ g40 (fun g41 m41 => ?_)
    have m3441 := ((m3438.trans m39).trans m40).trans m41
    refine ⟨nobody, fun _ hh => hh.elim, ⟨by omega, by omega⟩, rdX (hy34.exm (m3441.frozP fp)) j rfl hw (fun ad5 _ l0 l1 => ⟨fun hh => hh, _, _, l0.1, l1.1, ?_⟩)⟩
    refine ifT (fun e => ?_) (fun _ => ⟨i64 (by omega) (by omega), m2 - 1, by omega, j + 1, by omega, by omega, m3441⟩)
    simp at e
  refine ⟨by omega, ?_⟩
  by_cases qs : bitB source ((j : Nat) : Int) = true
  · refine ifT (fun _ g43 m43 => ?_) (fun e => by rw [show eqI _ _ = bitB source ((j : Nat) : Int) from rfl, qs] at e; cases e)
    have := fin g43 m43
    unfold wantR at this
    rw [if_pos qs] at this
    exact this
  · refine ifT (fun e => absurd e qs) (fun _ => ?_)
    rcases hk with ⟨rfl, hno⟩ | ⟨jj, s, rfl, gs, hp, hno⟩
    · refine ifLe (fun hh => by omega) (fun _ => ?_)
      have := fin g39 (Ex.refl _)
      unfold wantR at this
      rw [if_neg qs, show u.imps.find? (fun s => tf (turned L face s)) = none from by
        rw [List.find?_eq_none]
        intro s hs
        rw [tf_true]
        exact hno s hs] at this
      exact this
    · have hjj := (List.getElem?_eq_some_iff.1 gs).1
      refine ifLe (fun _ => ⟨⟨by omega, by omega⟩, rdS (((hI.imps.exm m3638)).exm m39) jj rfl gs (fun g44 m44 => ?_)⟩) (fun hh => by omega)
      have := fin g44 m44
      unfold wantR at this
      rw [if_neg qs, find_first (p := fun s => tf (turned L face s)) gs (tf_true.mpr hp) (fun x hx => tf_false.mpr (hno x hx))] at this
      exact this
end Go.Proofs.YtmkdbndniffkfaaGreatDoor
