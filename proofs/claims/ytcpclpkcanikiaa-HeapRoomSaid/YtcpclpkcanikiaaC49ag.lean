/- The heap: HeapRoom answers true. -/
import Derived.Test.YtcpclpkcanikiaaC49af
set_option linter.unusedVariables false
namespace Go.Proofs.Ytcpclpkcanikiaa
open Go Go.Vc Go.RowKit

theorem addF_cases {lim : Int} {l : List Wd} {kind n : Int} {x : List Wd} : (lim < ((l.length : Nat) : Int) + 3 + ((x.length : Nat) : Int) ∧ addF lim l kind n x = none) ∨ (¬ lim < ((l.length : Nat) : Int) + 3 + ((x.length : Nat) : Int) ∧ addF lim l kind n x = some (l ++ blkW kind n x, (true, ((l.length : Nat) : Int)))) := by
  unfold addF
  by_cases h : lim - ((l.length : Nat) : Int) < ((x.length : Nat) : Int) + 3
  · rw [if_pos h]; exact .inl ⟨by omega, rfl⟩
  · rw [if_neg h]; exact .inr ⟨by omega, rfl⟩
theorem wordP_zero (L : List Int) : wordP L (false, 0) := by unfold wordP plainP; simp
theorem wordP_num (L : List Int) {n : Int} (h1 : -1000000 ≤ n) (h2 : n ≤ 1000000) : wordP L (false, n) := by unfold wordP plainP; simp; omega
theorem wordP_ref {L : List Int} {x : Int} (h : x ∈ L) : wordP L (true, x) := by unfold wordP; simpa using h
theorem set_all {p : Wd → Prop} {l : List Wd} {j : Nat} {w : Wd} (h : ∀ x ∈ l, p x) (hw : p w) : ∀ x ∈ l.set j w, p x := by
  intro x hx
  rcases List.mem_or_eq_of_mem_set hx with hx | rfl
  · exact h x hx
  · exact hw

theorem ownE_nx {α : Type} {E : El α} {g : G} {B : Nat} {e : TypeId} {a : Option Addr} {n c : Nat} {xs : List α} (h : OwnE E g B e a n c xs) {z : Nat} (hz : blkOf a z) : ¬ g.X z := by
  obtain ⟨ad, rfl, rfl⟩ := hz
  obtain ⟨L, h1, _⟩ := h.ex
  rcases h1.row with ⟨hh, _⟩ | ⟨b, cur, hh, _, _, _, _, _, _, hx, _⟩
  · cases hh
  cases hh
  exact hx
theorem law7 (limit : Int) (hlim : 0 ≤ limit ∧ limit ≤ 65535) (ks : List UInt8) {a : Option Addr} {n c : Nat} {g : G} (hks : SlB g a n c ks) : CallsP Try.prog 7 #[.int .u16 limit, .slice a n c] g fun u _ => u = .bool true := by
  refine call7 limit a n c g _ ?_
  have hkl := hks.len
  have hm0 := Int.tmod_nonneg 700 hlim.1
  have hm1 := Int.tmod_lt_of_pos limit (show (0 : Int) < 700 by omega)
  unfold F7
  intro J hJ
  have w15 : ∀ (g1 : G), CallsP Try.prog 15 #[] g1 fun v g2 => ∃ x, v = .bool x ∧ ∀ g3, Ex g2 g3 → Value.bool x = .bool true := by
    intro g1
    refine (k15 g1).mono ?_
    rintro u g2 m2 rfl
    exact ⟨_, rfl, fun g3 _ => rfl⟩
  refine (k15 g).mono ?_
  rintro u g1 m1 rfl
  refine ⟨_, rfl, ifT (fun hh => by cases hh) (fun _ => ifLt (fun _ => w15 g1) (fun h60 => hJ g1 ⟨i64 (by omega) (by omega), by decide, ?_⟩))⟩
  refine (k17 _ g1).mono ?_
  intro u g2 m2 hnew
  rcases hnew with ⟨_, _, rfl⟩ | ⟨hh, _⟩
  rotate_left
  · exact absurd ⟨hm0, by omega⟩ hh
  refine ⟨_, _, _, _, _, _, rfl, ifNe (fun hh => absurd rfl hh) (fun _ => ?_)⟩
  generalize hlm : Int.tmod limit 700 = lim at hm0 hm1
  refine ⟨fun m used ma mn mc aa an ac v ha hn hc fr lm g' => ∃ (j : Nat) (l : List Wd) (L : List Int) (ms : List (List Wd)), v = ((j : Nat) : Int) ∧ j + m = n ∧ RoomI g.w.heap.size lim j used ma mn mc aa an ac ha hn hc fr lm g' l L ms,
    fun g4 m4 => ⟨n, 0, [], [], [], rfl, by omega, rfl, rfl, rfl, hm0, SlE.zero _, ⟨.nil, fun x hx => (by cases hx)⟩, OwnE.nil _ _ _, OwnE.nil _ _ _, rfl, fun p x hx => (by cases hx), Nat.le_refl _, ((m1.trans m2).trans m4).size⟩, ?_⟩
  rintro m used ma mn mc aa an ac v ha hn hc fr lm g5 le ⟨j, l, L, ms, rfl, hjm, hI⟩
  have hsz := hI.sz
  have hlj := hI.lj
  have hmn := hI.made.len
  have han := hI.at_.len
  rw [List.length_map] at han
  have hmsl := hI.len
  refine ifLt (fun hlt => ?_) (fun hge => ?_)
  · -- a round
    intro J1 hJ1
    have again : ∀ {used' : Int} {ma' : Option Addr} {mn' mc' : Nat} {aa' : Option Addr} {an' ac' : Nat} {ha' : Option Addr} {hn' hc' : Nat} {fr' lm' : Int} {g' : G} {l' : List Wd} {L' : List Int} {ms' : List (List Wd)}, RoomI g.w.heap.size lim (j + 1) used' ma' mn' mc' aa' an' ac' ha' hn' hc' fr' lm' g' l' L' ms' → J1 used' ma' mn' mc' aa' an' ac' ha' hn' hc' fr' lm' g' := by
      intro used' ma' mn' mc' aa' an' ac' ha' hn' hc' fr' lm' g' l' L' ms' h
      exact hJ1 _ _ _ _ _ _ _ _ _ _ _ _ g' ⟨i64 (by omega) (by omega), m - 1, by omega, j + 1, l', L', ms', by omega, by omega, h⟩
    refine ⟨⟨by omega, by omega⟩, SlB.rdN (hks.mono ((m1.trans m2).le.trans le)) j rfl (by omega) ?_⟩
    have hkb := nums_lt ks j
    generalize (ks.getD j 0).toNat = kb at hkb
    have hkm : Int.tmod ((kb : Nat) : Int) 13 = ((kb % 13 : Nat) : Int) := by
      rw [Int.tmod_eq_emod_of_nonneg (by omega)]
      omega
    rw [hkm]
    generalize hk0 : kb % 13 = k0
    have hk13 : k0 < 13 := by omega
    have hmk := make_row E22 g5.w zero41 .i64 .i64 ((k0 : Nat) : Int) ((k0 : Nat) : Int) (by omega) (by omega) (by omega) (by omega)
    rw [Int.toNat_natCast, wc_made] at hmk
    refine ⟨i64 (by omega) (by omega), by decide, _, _, _, _, hmk, g5.push (.cells ⟨wc (List.replicate k0 (false, 0))⟩ 41) false true, rfl, push_stp hsz _ _ _, ?_⟩
    have hnew := push_newD g5 41 (wc (List.replicate k0 (false, 0)))
    generalize g5.push (.cells ⟨wc (List.replicate k0 (false, 0))⟩ 41) false true = g7 at hnew
    have hm7 := hnew.mut
    have ex7 : Ex g5 g7 := hnew.ex
    generalize hbb : g5.w.heap.size = b at hm7
    refine ⟨fun m2 v2 g8 => ∃ (j2 : Nat) (cur : List Wd), v2 = ((j2 : Nat) : Int) ∧ j2 + m2 = k0 ∧ cur.length = k0 ∧ (∀ w ∈ cur, wordP L w) ∧ MutB g8 b 41 (wc cur) ∧ Ex g5 g8, ⟨k0, 0, _, rfl, by omega, List.length_replicate, ?_, hm7, ex7⟩, ?_⟩
    · intro w hw
      rw [List.eq_of_mem_replicate hw]
      exact wordP_zero L
    rintro m2 v2 g8 le8 ⟨j2, cur, rfl, hjm2, hcl, hcw, hm8, ex8⟩
    refine ifLt (fun hlt2 => ?_) (fun hge2 => ?_)
    · -- the row is written
      have store : ∀ {gx gy : G} {cx : List Wd} {q : Bool} {z : Int}, cx.length = k0 → (∀ w ∈ cx, wordP L w) → wordP L (q, z) → MutB gx b 41 (wc cx) → Ex g5 gx → StG false gx (Addr.add ⟨b, 0, none⟩ (Int.toNat ((j2 : Nat) : Int) * 2)) [.bool q, .int .i64 z] gy → (cx.set j2 (q, z)).length = k0 ∧ (∀ w ∈ cx.set j2 (q, z), wordP L w) ∧ MutB gy b 41 (wc (cx.set j2 (q, z))) ∧ Ex g5 gy := by
        intro gx gy cx q z h1 h2 h3 h4 h5 hst
        rw [Int.toNat_natCast] at hst
        obtain ⟨s1, s2⟩ := h4.st hst
        rw [wc_set] at s1
        refine ⟨by rw [List.length_set, h1], set_all h2 h3, s1, ((h5.but _).trans s2).ex (fun z hz _ e => by omega)⟩
      have okst : ∀ {gx : G} {cx : List Wd}, cx.length = k0 → MutB gx b 41 (wc cx) → stOk gx.w (Addr.add ⟨b, 0, none⟩ (Int.toNat ((j2 : Nat) : Int) * 2)) 2 := by
        intro gx cx h1 h4
        rw [Int.toNat_natCast]
        exact h4.ok (by rw [wc_len]; omega)
      have low : ∀ q, (Addr.block (Addr.add ⟨b, 0, none⟩ q)) < g.w.heap.size → nobody (Addr.block (Addr.add ⟨b, 0, none⟩ q)) := by
        intro q hq
        rw [add_block] at hq
        have hq : b < g.w.heap.size := hq
        omega
      refine ⟨i64 (by omega) (by omega), ⟨by omega, by omega⟩, okst hcl hm8, hm8.nxA _, hm8.mutA _ _, low _, fun g9 hst => ?_⟩
      obtain ⟨t1, t2, t3, t4⟩ := store hcl hcw (wordP_num L (by omega) (by omega)) hm8 ex8 hst
      intro J2 hJ2
      have plain : J2 false g9 := hJ2 _ g9 (ifT (fun hh => by cases hh) (fun _ => ⟨i64 (by omega) (by omega), m2 - 1, by omega, j2 + 1, _, by omega, by omega, t1, t2, t3, t4⟩))
      refine ifLt (fun hat => ⟨by decide, ?_⟩) (fun _ => plain)
      rcases Classical.em (Int.tmod ((j2 : Nat) : Int) 2 = 1) with hodd | hodd
      rotate_left
      · rw [eqI_false.mpr hodd]; exact plain
      rw [eqI_true.mpr hodd]
      have hz0 := Int.tmod_nonneg (((an : Nat) : Int)) (show 0 ≤ ((j : Nat) : Int) + ((j2 : Nat) : Int) by omega)
      have hz1 := Int.tmod_lt_of_pos (((j : Nat) : Int) + ((j2 : Nat) : Int)) hat
      refine hJ2 _ g9 (ifT (fun _ => ⟨i64 (by omega) (by omega), by omega, ⟨hz0, hz1⟩, ?_⟩) (fun hh => by cases hh))
      generalize Int.tmod (((j : Nat) : Int) + ((j2 : Nat) : Int)) ((an : Nat) : Int) = z at hz0 hz1
      obtain ⟨zn, rfl⟩ : ∃ zn : Nat, z = ((zn : Nat) : Int) := ⟨z.toNat, by omega⟩
      have hzl : zn < L.length := by omega
      have gz := List.getElem?_eq_getElem hzl
      have gz2 : (L.map fun x => ((true, x) : Wd))[zn]? = some (true, L[zn]) := by rw [List.getElem?_map, gz]; rfl
      refine (hI.at_.sl.exm t4).rd (i := zn) gz2 ?_
      rintro r ad rfl hr
      have h0 := (hr 0 _ rfl).1
      rw [Addr.add_zero'] at h0
      refine ⟨true, L[zn], by rw [Int.toNat_natCast]; exact h0, by rw [Int.toNat_natCast]; exact (hr 1 _ rfl).1, ⟨by omega, by omega⟩, okst t1 t3, t3.nxA _, t3.mutA _ _, low _, fun g11 hst2 => ?_⟩
      obtain ⟨u1, u2, u3, u4⟩ := store t1 t2 (wordP_ref (List.mem_of_getElem? gz)) t3 t4 hst2
      exact ⟨i64 (by omega) (by omega), m2 - 1, by omega, j2 + 1, _, by omega, by omega, u1, u2, u3, u4⟩
    -- the block is made
    subst hcl
    have hI8 := hI.ex ex8
    have hval := hI8.valid (by omega)
    have hright : rightP 3 ((j : Nat) : Int) cur := .inr (.inr (.inl ⟨rfl, by omega, by omega, by omega⟩))
    have hb8 : b < g8.w.heap.size := hm8.lt
    have hL0 : sts l = some L := sts_iff.2 hI.good.1
    refine (CallsP.thaw hb8 (k30 l cur (hI8.h.mono (froz_le g8 b)) (froz_sle hm8 (by unfold maxLen; omega)) fr lm 3 ((j : Nat) : Int) (by omega)) (Q' := fun u g' => ∃ xa xn xc f1 l1 w1 er, u = .tuple ⟨[hpV xa xn xc f1 l1, wdV w1, .int .i64 er]⟩ ∧ Ex g8 g' ∧
      ((lim < ((l.length : Nat) : Int) + 3 + ((cur.length : Nat) : Int) ∧ er = 25 ∧ xa = none ∧ xn = 0 ∧ xc = 0 ∧ f1 = 0 ∧ l1 = 0) ∨ (¬ lim < ((l.length : Nat) : Int) + 3 + ((cur.length : Nat) : Int) ∧ er = 0 ∧ w1 = (true, ((l.length : Nat) : Int)) ∧ f1 = (((l ++ blkW 3 ((j : Nat) : Int) cur).length : Nat) : Int) ∧ l1 = lim ∧ f1 ≤ lim ∧ SlE wordE g' xa xn xc (l ++ blkW 3 ((j : Nat) : Int) cur)))) ?_).mono ?_
    · intro v g1 g' hq m8' mf
      obtain ⟨r, e, ho, hcs⟩ := hq
      rcases hcs with ⟨hh, _⟩ | ⟨_, L2, hL2, ⟨hh, _⟩ | ⟨_, rfl, rfl⟩⟩
      · exact absurd hval hh
      · rw [hL0] at hL2; cases hL2
        exact absurd ⟨hright, hcw⟩ hh
      have hlm2 := hI.hlm
      subst hlm2
      rcases addF_cases (lim := lm) (l := l) (kind := 3) (n := ((j : Nat) : Int)) (x := cur) with ⟨h1, h2⟩ | ⟨h1, h2⟩
      · rw [h2] at ho
        cases ho
        exact ⟨_, _, _, _, _, (false, 0), _, rfl, m8', .inl ⟨h1, rfl, rfl, rfl, rfl, rfl, rfl⟩⟩
      · rw [h2] at ho
        obtain ⟨xa, xc, rfl, hs, hlen⟩ := ho
        refine ⟨_, _, _, _, _, _, _, rfl, m8', .inr ⟨h1, rfl, rfl, rfl, rfl, hlen, SlE.thaw hs mf (hm8.ex m8') ?_⟩⟩
        rw [List.length_append, blkW_len]
        omega
    rintro u g12 m12 ⟨xa, xn, xc, f1, lmx, w1, er, rfl, -, hcs⟩
    have hI12 := hI8.ex m12
    have hused := hI.hu
    have hule := hI.hle
    refine ⟨_, _, _, _, _, _, _, _, rfl, i64 (by omega) (by omega), i64 (by omega) (by omega), i64 (by omega) (by omega), by decide, ?_⟩
    refine ifLt (fun hfull => ?_) (fun hroom => ?_)
    · rcases hcs with ⟨_, rfl, rfl, rfl, rfl, rfl, rfl⟩ | ⟨hh, _⟩
      rotate_left
      · omega
      refine ifNe (fun hh => absurd rfl hh) (fun _ g14 m14 => (k19 [] (SlE.zero g14) 0 0).mono ?_)
      rintro u g15 m15 rfl
      exact ⟨_, rfl, ifPn (fun hh => absurd ⟨rfl, rfl, rfl⟩ hh) (fun _ => again ((hI12.ex m14).ex m15).next)⟩
    rcases hcs with ⟨hh, _⟩ | ⟨_, rfl, rfl, rfl, rfl, hfl, hx⟩
    · omega
    intro J3 hJ3
    have hnl : (l ++ blkW 3 ((j : Nat) : Int) cur).length = l.length + (cur.length + 3) := by rw [List.length_append, blkW_len]
    refine ifNe (fun hh => absurd rfl hh) (fun _ g51 m51 => ?_)
    rw [show ((true == true) && ((eqI ((l.length : Nat) : Int) used) && true)) = true by rw [eqI_true.mpr hused.symm]; rfl]
    refine ifT (fun hh => by cases hh) (fun _ => ⟨i64 (by omega) (by omega), i64 (by omega) (by omega), ifNe (fun hh => by omega) (fun _ => (k21 k94 _ (hx.exm m51) _ _).mono ?_)⟩)
    rintro u g54 m54 rfl
    refine ⟨_, rfl, ifPn (fun hh => absurd (valid_iff.2 ⟨hm0, by omega, rfl, hfl, _, hI.good.add hright hcw⟩) hh) (fun _ => hJ3 g54 ?_)⟩
    have hI54 := (hI12.ex m51).ex m54
    have hx54 := (hx.exm m51).exm m54
    have hm54 := ((hm8.ex m12).ex m51).ex m54
    intro g18 m18
    refine ⟨nobody, fun _ hh => hh.elim, fun g19 m19 => ?_⟩
    have hI19 := (hI54.ex m18).ex m19
    have hx19 := (hx54.exm m18).exm m19
    have hm19 := (hm54.ex m18).ex m19
    have hB19 := hI19.sz
    have hb19 := hm19.lt
    have hbm : ¬ blkOf ma b := fun hh => by have := hI.made.lt hh; omega
    have hba : ¬ blkOf aa b := fun hh => by have := hI.at_.lt hh; omega
    have hnx : ∀ z, z = b ∨ blkOf ma z → ¬ g19.X z := by
      rintro z (rfl | hz)
      · exact hm19.nx
      · exact ownE_nx hI19.made hz
    have lit : ∀ gy gz, Ex g19 gy → NewL gy gz 41 [.bool false, .int .i64 ((j : Nat) : Int)] → ∀ gx, Ex gz gx → ∃ xa xc w', Sem.run Try.prog (Builtin.append_ #[22, 22] 22 #[.slice (some ⟨gy.w.heap.size, 0, none⟩) 1 1, .slice (some ⟨b, 0, none⟩) cur.length cur.length]) gx.w = .ok (.slice xa (1 + cur.length) xc) w' ∧
        ∃ g', g'.w = w' ∧ Stp g.w.heap.size nobody gx g' ∧ SameBut (fun z => z = b ∨ blkOf ma z) g19 g' ∧ But (fun z => z = b) g19 g' ∧ Le g19 g' ∧ SlE wordE g' xa (1 + cur.length) xc ((false, ((j : Nat) : Int)) :: cur) := by
      intro gy gz my nz gx mx
      have o : OwnE wordE gz g19.w.heap.size 41 (some ⟨gy.w.heap.size, 0, none⟩) 1 1 [(false, ((j : Nat) : Int))] := OwnE.lit (xs := [(false, ((j : Nat) : Int))]) nz (Rws.single rfl) my.size (by unfold maxLen; simp)
      obtain ⟨xa, xc, w', h1, g', h2, h3, h4, h5, h6⟩ := stage1 (g0 := g) (by omega) hb19 hm19 (by omega) ((my.trans nz.ex).trans mx) my.size (o.exm mx)
      exact ⟨xa, xc, w', h1, g', h2, h3, fun z hz hx hp => h4.same z hz hx (fun e => hp (.inl e)), h4, h5, h6⟩
    have mk : ∀ gq, But (fun z => z = b) g19 gq → Le g19 gq → ∀ xa' xc', SlE wordE gq xa' (1 + cur.length) xc' ((false, ((j : Nat) : Int)) :: cur) → ∀ gy gz, Ex gq gy → NewL gy gz 22 [.slice xa' (1 + cur.length) xc'] → ∀ gx, Ex gz gx →
        ∃ a' c' w', Sem.run Try.prog (Builtin.append_ #[67, 67] 67 #[.slice ma mn mc, .slice (some ⟨gy.w.heap.size, 0, none⟩) 1 1]) gx.w = .ok (.slice a' (mn + 1) c') w' ∧
        ∃ g', g'.w = w' ∧ Stp g.w.heap.size nobody gx g' ∧ SameBut (fun z => z = b ∨ blkOf ma z) g19 g' ∧ But (fun z => z = b ∨ blkOf ma z) g19 g' ∧ Le g19 g' ∧ OwnE wordsE g' g.w.heap.size 22 a' (mn + 1) c' (ms ++ [(false, ((j : Nat) : Int)) :: cur]) := by
      intro gq hT hle xa' xc' hs gy gz my nz gx mx
      have mm := (my.trans nz.ex).trans mx
      have hx : SlE wordsE gx (some ⟨gy.w.heap.size, 0, none⟩) 1 1 [(false, ((j : Nat) : Int)) :: cur] := (nz.sle (E := wordsE) (xs := [(false, ((j : Nat) : Int)) :: cur]) (Rws.single ⟨_, _, _, rfl, hs.exm my⟩) (by unfold maxLen; simp)).exm mx
      obtain ⟨a', c', w', h1, g', h2, h3, h4, h5, h6⟩ := stage2 (g0 := g) hB19 (hT.trans (mm.but _)) (hle.trans mm.le) hI19.made hbm hx (by omega)
      exact ⟨a', c', w', h1, g', h2, h3, h4.same, h4, h5, h6⟩
    have last : ∀ gx, But (fun z => z = b ∨ blkOf ma z) g19 gx → Le g19 gx → ∀ r, SlE wordE gx (some ⟨r, 0, none⟩) 1 1 [(true, ((l.length : Nat) : Int))] → ∀ ma' mc', OwnE wordsE gx g.w.heap.size 22 ma' (mn + 1) mc' (ms ++ [(false, ((j : Nat) : Int)) :: cur]) →
        ∃ a' n' c' w', Sem.run Try.prog (Builtin.append_ #[22, 22] 22 #[.slice aa an ac, .slice (some ⟨r, 0, none⟩) 1 1]) gx.w = .ok (.slice a' n' c') w' ∧
        ∃ g', g'.w = w' ∧ Stp g.w.heap.size nobody gx g' ∧ J1 (((l ++ blkW 3 ((j : Nat) : Int) cur).length : Nat) : Int) ma' (mn + 1) mc' a' n' c' xa xn xc (((l ++ blkW 3 ((j : Nat) : Int) cur).length : Nat) : Int) lmx g' := by
      intro gx hT hle r hw ma' mc' hmd
      obtain ⟨a', c', w', h1, g', h2, h3, h4, h5, h6⟩ := stage3 (g0 := g) hB19 hT hle hI19.made hI19.at_ hba hw hmd (by omega)
      exact ⟨a', _, c', w', h1, g', h2, h3, again (hI19.add hright hcw (hx19.mono h4) hfl h6 h5 (Nat.le_trans hB19 h4.size))⟩
    have lw : ∀ {gy gz : G}, NewL gy gz 41 [.bool true, .int .i64 ((l.length : Nat) : Int)] → SlE wordE gz (some ⟨gy.w.heap.size, 0, none⟩) 1 1 [(true, ((l.length : Nat) : Int))] := fun nz => nz.sle (E := wordE) (xs := [(true, ((l.length : Nat) : Int))]) (Rws.single rfl) (by unfold maxLen; simp)
    refine ⟨fun z => z = b ∨ blkOf ma z, hnx, ⟨fun g20 n20 => ⟨?_, fun g33 n33 => ?_⟩, fun g38 n38 g39 n39 => ?_⟩, fun g38 n38 g39 n39 => ?_⟩
    · obtain ⟨ya, yc, w1, r1, g21, e1, s1, b1, t1, l1, hs1⟩ := lit g19 g20 (Ex.refl _) n20 g20 (Ex.refl _)
      refine ⟨ya, _, yc, w1, r1, g21, e1, s1, b1, fun g22 n22 => ⟨?_, fun g26 n26 => ?_⟩, fun g29 n29 g30 n30 => ?_⟩
      · obtain ⟨ma', mc', w2, r2, g23, e2, s2, b2, t2, l2, hmd⟩ := mk g21 t1 l1 ya yc hs1 g21 g22 (Ex.refl _) n22 g22 (Ex.refl _)
        refine ⟨ma', _, mc', w2, r2, g23, e2, s2, b2, fun g24 n24 => ?_⟩
        exact last g24 (t2.trans (n24.ex.but _)) (l2.trans n24.ex.le) _ (lw n24) _ _ (hmd.exm n24.ex)
      · obtain ⟨ma', mc', w2, r2, g23, e2, s2, b2, t2, l2, hmd⟩ := mk g21 t1 l1 ya yc hs1 g21 g22 (Ex.refl _) n22 g26 n26.ex
        refine ⟨ma', _, mc', w2, r2, g23, e2, s2, b2, ?_⟩
        exact last g23 t2 l2 _ ((lw n26).mono s2.le) _ _ hmd
      · obtain ⟨ma', mc', w2, r2, g23, e2, s2, b2, t2, l2, hmd⟩ := mk g21 t1 l1 ya yc hs1 g29 g30 n29.ex n30 g30 (Ex.refl _)
        refine ⟨ma', _, mc', w2, r2, g23, e2, s2, b2, ?_⟩
        exact last g23 t2 l2 _ (((lw n29).exm n30.ex).mono s2.le) _ _ hmd
    · obtain ⟨ya, yc, w1, r1, g21, e1, s1, b1, t1, l1, hs1⟩ := lit g19 g20 (Ex.refl _) n20 g33 n33.ex
      refine ⟨ya, _, yc, w1, r1, g21, e1, s1, b1, fun g35 n35 => ?_⟩
      obtain ⟨ma', mc', w2, r2, g23, e2, s2, b2, t2, l2, hmd⟩ := mk g21 t1 l1 ya yc hs1 g21 g35 (Ex.refl _) n35 g35 (Ex.refl _)
      refine ⟨ma', _, mc', w2, r2, g23, e2, s2, b2, ?_⟩
      exact last g23 t2 l2 _ ((((lw n33).mono s1.le).exm n35.ex).mono s2.le) _ _ hmd
    all_goals
      obtain ⟨ya, yc, w1, r1, g21, e1, s1, b1, t1, l1, hs1⟩ := lit g38 g39 n38.ex n39 g39 (Ex.refl _)
      refine ⟨ya, _, yc, w1, r1, g21, e1, s1, b1, fun g35 n35 => ?_⟩
      obtain ⟨ma', mc', w2, r2, g23, e2, s2, b2, t2, l2, hmd⟩ := mk g21 t1 l1 ya yc hs1 g21 g35 (Ex.refl _) n35 g35 (Ex.refl _)
      refine ⟨ma', _, mc', w2, r2, g23, e2, s2, b2, ?_⟩
      exact last g23 t2 l2 _ (((((lw n38).exm n39.ex).mono s1.le).exm n35.ex).mono s2.le) _ _ hmd
  · -- the end
    have hval := hI.valid (by omega)
    have hL0 : sts l = some L := sts_iff.2 hI.good.1
    refine ⟨fun m2 v2 g' => ∃ p : Nat, v2 = ((p : Nat) : Int) ∧ p + m2 = an, ⟨an, 0, rfl, by omega⟩, ?_⟩
    rintro m2 v2 g56 le2 ⟨p, rfl, hpm⟩
    have hh56 := hI.h.mono le2
    have hmd56 := hI.made.sl.mono le2
    refine ifLt (fun hlt => ⟨⟨by omega, by omega⟩, ?_⟩) (fun hge2 => ?_)
    · have hpl : p < L.length := by omega
      have gp := List.getElem?_eq_getElem hpl
      have gp2 : (L.map fun x => ((true, x) : Wd))[p]? = some (true, L[p]) := by rw [List.getElem?_map, gp]; rfl
      obtain ⟨q, hq, hhd, hk3, hms⟩ := hI.blk p _ gp
      refine (hI.at_.sl.mono le2).rd (i := p) gp2 ?_
      rintro r ad rfl hr
      have h0 := (hr 0 _ rfl).1
      rw [Addr.add_zero'] at h0
      refine ⟨true, L[p], by rw [Int.toNat_natCast]; exact h0, by rw [Int.toNat_natCast]; exact (hr 1 _ rfl).1, fun g57 m57 => (k32 l (true, L[p]) (hh56.exm m57) fr lm).mono ?_⟩
      intro u g58 m58 hb
      rcases hb with ⟨hh, _⟩ | ⟨_, L2, hL2, ⟨hh, _⟩ | ⟨q', hq', _, _, xa, xc, rfl, hx⟩⟩
      · exact absurd hval hh
      · rw [hL0] at hL2; cases hL2; exact absurd ⟨rfl, List.mem_of_getElem? gp⟩ hh
      have hqq : q = q' := by
        have := congrArg Prod.snd hq'
        simp only at this
        omega
      subst hqq
      have hmd58 := (hmd56.exm m57).exm m58
      have hcl := contW_len hhd
      refine ⟨_, _, _, _, _, _, rfl, ifNe (fun hh => absurd rfl hh) (fun _ => ifNe (fun hh => absurd hk3 hh) (fun _ => ⟨⟨by omega, by omega⟩, ?_⟩))⟩
      refine hmd58.rd (i := p) hms ?_
      rintro r5 ad5 ⟨ya, yn, yc, rfl, hy⟩ hr5
      have h5 := (hr5 0 _ rfl).1
      rw [Addr.add_zero'] at h5
      have hyl := hy.len
      rw [List.length_cons] at hyl
      refine ⟨ya, yn, yc, by rw [Int.toNat_natCast]; exact h5, ⟨by omega, by omega⟩, hy.rd (i := 0) rfl ?_⟩
      rintro r6 ad6 rfl hr6
      refine ⟨_, (hr6 1 _ rfl).1, ifNe (fun hh => absurd rfl hh) (fun _ => ⟨⟨by omega, by omega⟩, ?_⟩)⟩
      refine hmd58.rd (i := p) hms ?_
      rintro r7 ad7 ⟨za, zn, zc, rfl, hz⟩ hr7
      have h7 := (hr7 0 _ rfl).1
      rw [Addr.add_zero'] at h7
      have hzl := hz.len
      rw [List.length_cons] at hzl
      refine ⟨za, zn, zc, by rw [Int.toNat_natCast]; exact h7, ⟨by omega, by omega⟩, (k39 (contW l q) (contW l q) hx (hz.drop (lo := 1) (by omega))).mono ?_⟩
      rintro u g62 m62 rfl
      exact ⟨_, rfl, ifPn (fun hh => absurd rfl hh) (fun _ => ⟨i64 (by omega) (by omega), m2 - 1, by omega, p + 1, by omega, by omega⟩)⟩
    · refine (k34 l hh56 fr lm).mono ?_
      intro u g64 m64 hb
      rcases hb with ⟨hh, _⟩ | ⟨_, L2, oa, on, oc, hL2, rfl, ho, _⟩
      · exact absurd hval hh
      rw [hL0] at hL2
      cases hL2
      have hol := ho.len
      exact ⟨_, _, _, _, rfl, ifEq (fun _ g65 _ => congrArg Value.bool (eqI_true.mpr (by omega))) (fun hh => absurd rfl hh)⟩
theorem u16_of_wf {n : Int} (h : (Lit.int .u16 n).wf = true) : 0 ≤ n ∧ n ≤ 65535 := by
  simp only [Lit.wf, Bool.and_eq_true, IntKind.min, IntKind.max, IntKind.signed, IntKind.bits] at h
  simp at h
  omega
end Go.Proofs.Ytcpclpkcanikiaa
