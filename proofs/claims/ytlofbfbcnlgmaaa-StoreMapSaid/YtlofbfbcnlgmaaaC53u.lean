/- The store: what the law on maps says. -/
import Derived.Test.YtlofbfbcnlgmaaaC53t
import Derived.Test.YtlofbfbcnlgmaaaC53r
set_option linter.unusedVariables false
namespace Go.Proofs.Ytlofbfbcnlgmaaa
open Go Go.Vc Go.RowKit
section
open Go.Maps Go.Sort Go.Shelf
/-- slices.Sorted(maps.Keys(m)). -/
theorem k40B {g : G} {blk b nn : Nat} {fv : List UInt8 → Option Value} {es : List Ent} (hl : Live g ⟨blk, 0, none⟩ (.map (some b))) (hm : MapG Try.prog g 9 b nn fv) (hes : OkE es) (hk : ∀ s, fv s ≠ none ↔ s ∈ es.map Prod.fst) (hlen : es.length ≤ 1048576) :
    CallsP Try.prog 40 #[.func (.func 55) #[] #[.pointer (some ⟨blk, 0, none⟩)]] g fun v g' => ∃ a n c, v = .slice a n c ∧ SlE strE g' a n c (es.map Prod.fst) := by
  obtain ⟨D, hown, hsay⟩ := hm.own
  have hperm : (es.map Prod.fst).Perm (strKeys D) := by
    refine Collected.perm (left := fun _ => false) ⟨?_, fun x => ?_⟩ hown (string_keyed Try.underlying9) Try.underlying9 (fun _ => rfl)
    · exact (keys_srt hes.srt).imp fun h => klt_ne h
    · rw [← hk x]
      cases hf : fv x with
      | none => simp [(hsay x).2 hf]
      | some u => simp [((hsay x).1 u hf).1]
  have hsz : Maps.size D ≤ 1048576 := by
    obtain ⟨l, rfl⟩ := hown.isMap
    have := hperm.length_eq
    have h2 : (strKeys (DataW.map l)).length = l.length := by simp [strKeys]
    rw [h2, List.length_map] at this
    show l.length ≤ _
    omega
  have hseq : SeqGives Fence.wide 2 Try.prog 55 #[.pointer (some ⟨blk, 0, none⟩)] encStr (fun ss => ss.Perm (strKeys D)) (Maps.size D) g.w :=
    AnyZ.keys_gives (ρ := Try.keysB_ren) { Try.keysB with } Fence.wide _ trivial rfl (by omega) blk b nn D _ (cell_lt hl.1) hl.1 hown
  have cS := AnyZ.sorted_in Try.sortedA Fence.wide 5 trivial trivial trivial trivial rfl (by omega) (sortsA _) (enters_of Try.func54 (by kernel_rfl) rfl) 55 #[.pointer (some ⟨blk, 0, none⟩)] trivial (enters_of Try.func55 (by kernel_rfl) rfl) _ _ (by unfold maxLen; omega) (by omega) _ hseq
  change CallsIn _ _ Try.prog 40 _ _ _ at cS
  have hC := callsIn_wide.1 cS
  refine (calls_below (Q := fun v w' => w'.ownsRow g.w.heap.size 9 1 v es.length ((es.map Prod.fst).map encStr)) (hC.mono ?_)).mono ?_
  · rintro e w' ⟨v, ss, rfl, hS, hrow, _, hb⟩
    refine ⟨v, rfl, hb, ?_⟩
    have hp : ss.Perm (es.map Prod.fst) := hS.trans hperm.symm
    have e1 : ss.mergeSort leB = es.map Prod.fst := by
      rw [mergeSort_of_perm hp]
      refine List.mergeSort_of_pairwise ?_
      refine (keys_srt hes.srt).imp ?_
      intro x y hxy
      simp only [leB, decide_eq_true_eq]
      exact List.le_of_lt ((klt_iff x y).1 hxy)
    have e2 : ss.length = es.length := by rw [hp.length_eq, List.length_map]
    have hrow' := hrow
    rw [e2] at hrow'
    change w'.ownsRow g.w.heap.size 9 1 v es.length ((ss.mergeSort leB).map encStr) at hrow'
    rwa [e1] at hrow'
  · rintro v g' m ⟨h, hq, e⟩
    rw [e] at hq ⊢
    obtain ⟨a, c, rfl, hs⟩ := own_sl (h := h) hq
    exact ⟨a, _, c, rfl, strs_sle hs (by simp)⟩
end
theorem k41 (b : Nat) (g : G) : CallsP Try.prog 41 #[.map (some b)] g fun v g' => ∃ blk, v = .func (.func 55) #[] #[.pointer (some ⟨blk, 0, none⟩)] ∧ Live g' ⟨blk, 0, none⟩ (.map (some b)) := by
  refine call41 (some b) g _ ?_
  unfold F41
  exact fun g1 n1 g2 m2 => ⟨_, rfl, (n1.at0 rfl).ex m2⟩

/-- slices.Equal of strings. -/
theorem k39 (xs ys : List (List UInt8)) {a b : Option Addr} {n c m d : Nat} {g : G} (hx : SlE strE g a n c xs) (hy : SlE strE g b m d ys) :
    CallsP Try.prog 39 #[.slice a n c, .slice b m d] g fun v _ => v = .bool (tf (xs = ys)) := by
  refine call39 a n c b m d g _ ?_
  have hlx := hx.len
  have hly := hy.len
  have hcap := hx.cap
  have hle := hx.le
  unfold maxLen at hcap
  unfold F39
  refine ifNe (fun hne g1 m1 => vF ?_) (fun he => ?_)
  · rintro rfl; omega
  refine ⟨fun k i g' => ∃ j : Nat, i = j ∧ j + k = n ∧ xs.take j = ys.take j, ⟨n, 0, rfl, by omega, by simp⟩, ?_⟩
  rintro k i g2 le ⟨j, rfl, hjk, hj⟩
  refine ifLt (fun hlt g3 m3 => ⟨⟨by omega, by omega⟩, ?_⟩) (fun hge g7 m7 => vT ?_)
  · have hjx : j < xs.length := by omega
    have hjy : j < ys.length := by omega
    have gx := List.getElem?_eq_getElem hjx
    have gy := List.getElem?_eq_getElem hjy
    refine ((hx.mono le).exm m3).rd (i := j) gx ?_
    rintro r ad rfl hr
    refine ⟨bstr xs[j], ?_, ⟨by omega, by omega⟩, ?_⟩
    · rw [Int.toNat_natCast]
      have := (hr 0 _ rfl).1
      rwa [Addr.add_zero'] at this
    refine ((hy.mono le).exm m3).rd (i := j) gy ?_
    rintro r2 ad2 rfl hr2
    refine ⟨bstr ys[j], ?_, ifSn (fun hne g4 m4 => vF ?_) (fun hk => ⟨i64 (by omega) (by omega), k - 1, by omega, j + 1, by omega, by omega, ?_⟩)⟩
    · rw [Int.toNat_natCast]
      have := (hr2 0 _ rfl).1
      rwa [Addr.add_zero'] at this
    · rintro rfl; exact hne rfl
    · rw [List.take_add_one, List.take_add_one, gx, gy, hj, bstr_inj.1 hk]
  · have h1 : xs.take j = xs := List.take_of_length_le (by omega)
    have h2 : ys.take j = ys := List.take_of_length_le (by omega)
    rwa [h1, h2] at hj

theorem zero9 (w : World) : (zeroValue 9).run Try.prog w = .ok (.string ⟨#[]⟩) w := by kernel_rfl
/-- The map's value for what a key holds. -/
def strO (o : Option (List UInt8)) : Option Value := o.map fun d => .string (bstr d)
theorem code_two {b : List UInt8} {e : Edit} (h : ¬ okK e.key.length) : codeE b e = 2 := by unfold codeE; rw [if_pos (tf_no h)]
theorem code_eight {b : List UInt8} {e : Edit} (h : okK e.key.length) (h1 : e.del = true) (h2 : mpF (recsL b) e.key = none) : codeE b e = 8 := by unfold codeE; rw [if_neg (by rw [tf_of h]; simp), if_pos ⟨h1, h2⟩]
theorem code_nil {b : List UInt8} {e : Edit} (h : okK e.key.length) (h1 : ¬ (e.del = true ∧ mpF (recsL b) e.key = none)) : codeE b e = 0 := by unfold codeE; rw [if_neg (by rw [tf_of h]; simp), if_neg h1]
theorem next_map (b : List UInt8) (e : Edit) (hf : endR b = b.length) (hk : okK e.key.length) (hd : e.data.length ≤ 1048576) (s : List UInt8) :
    mpF (recsL (b ++ recE e)) s = if s = e.key then (if e.del = true then none else some e.data) else mpF (recsL b) s := by
  obtain ⟨n1, _, _⟩ := next_recs b e hk hd
  rw [full_take hf] at n1
  rw [n1, mp_snoc]
  unfold kindE dataE
  cases e.del <;> simp

set_option maxHeartbeats 400000 in
theorem k9 (l : List Edit) {la : Option Addr} {ll lc : Nat} {g : G} (h : SlE editE g la ll lc l) (compact : Int) (hc : 0 ≤ compact ∧ compact ≤ 255) :
    CallsP Try.prog 9 #[.slice la ll lc, .int .u8 compact] g fun v _ => v = .bool true := by
  refine call9 la ll lc compact g _ ?_
  have hll := h.len
  unfold F9
  intro J hJ
  suffices main : (l.length ≤ 30 ∧ ∀ e ∈ l, small e) → ∀ g1, Ex g g1 → J g1 by
    refine (k10 g).mono ?_
    rintro v g34 m34 rfl
    refine ⟨_, rfl, (k30 l (h.exm m34)).mono ?_⟩
    rintro v g37 m37 rfl
    refine ⟨_, rfl, ifPn (fun _ => (k10 g37).mono ?_) (fun hs => main hs _ (m34.trans m37))⟩
    rintro v g38 m38 rfl
    exact ⟨_, rfl, fun g39 m39 => rfl⟩
  rintro ⟨hlen, hsm⟩ g1 m1
  refine hJ g1 ((k22 (-1) g1).mono ?_)
  rintro v g2 m2 rfl
  refine ⟨none, 0, 0, 0, -1, 0, by rw [if_pos (by decide)]; rfl, ifNe (fun hh => absurd rfl hh) (fun _ g4 m4 g5 n5 => ?_)⟩
  have h5 := h.exm (((m1.trans m2).trans m4).trans n5.ex)
  have hg4 : g.w.heap.size ≤ g4.w.heap.size := ((m1.trans m2).trans m4).size
  have hlt5 : g4.w.heap.size < g5.w.heap.size := heap_lt n5.blk
  have mp0 : MapG Try.prog g5 9 g4.w.heap.size 0 (fun _ => none) := MapG.new n5 Try.prog 9
  refine ⟨fun m i sa sn sc s1 s2 g6 => ∃ (j k : Nat) (b : List UInt8) (fv : List UInt8 → Option Value), i = j ∧ j + m = ll ∧ endR b = b.length ∧ b.length ≤ 300 * j ∧ s1 = (b.length : Nat) ∧ s2 = -1 ∧ SlB g6 sa sn sc b ∧
      MapG Try.prog g6 9 g4.w.heap.size k fv ∧ k ≤ j ∧ (∀ s, fv s = strO (mpF (recsL b) s)) ∧ g5.w.heap.size ≤ g6.w.heap.size,
    ⟨ll, 0, 0, [], _, rfl, by omega, rfl, by simp, rfl, rfl, Sl.zero _ _, mp0, Nat.le_refl _, fun s => rfl, Nat.le_refl _⟩, ?_⟩
  rintro m i sa sn sc s1 s2 g6 le6 ⟨j, k, b, fv, rfl, hjm, hfull, hbl, rfl, rfl, hs, hmp, hkj, hfv, hsz6⟩
  have hok6 : okS b.length (b.length : Nat) (-1) := by
    unfold okS
    have : j ≤ 30 := by omega
    omega
  have hl6 := h5.mono le6
  refine ifLt (fun hlt => ⟨⟨by omega, by omega⟩, ?_⟩) (fun hge => ?_)
  · have hj : j < l.length := by omega
    have gj := List.getElem?_eq_getElem hj
    have hmem := List.mem_of_getElem? gj
    have hse := hsm _ hmem
    generalize l[j] = e at gj hmem hse
    refine hl6.rd (i := j) gj ?_
    rintro r ad ⟨ea, en, ec, rfl, hd⟩ hr
    unfold small at hse
    have hdl : e.data.length ≤ 1048576 := by omega
    rw [Int.toNat_natCast]
    refine ⟨bstr e.key, ea, en, ec, e.del, ?_, (hr 1 _ rfl).1, (hr 2 _ rfl).1, fun g7 m7 => (k31 b e (hs.ex m7) (hd.ex m7) _ _).mono ?_⟩
    · have := (hr 0 _ rfl).1
      rwa [Addr.add_zero'] at this
    rintro v g8 m8 ⟨ya, yn, yc, rfl, hy⟩
    refine ⟨_, _, _, _, _, _, rfl, fun g9 m9 => ?_⟩
    have mm := (m7.trans m8).trans m9
    have hmp9 := hmp.ex mm
    have hy9 := hy.ex m9
    have e1 := app_eq b (b.length : Nat) (-1) e hok6 hdl
    have hlk := hmp9.lookOk Try.underlying9 Try.underlying71 (zero9 g9.w) e.key (by unfold maxLen; omega)
    have hlk' : ∃ x0 : ByteArray, (Instr.lookup 71 (.map (some g4.w.heap.size)) (.string (bstr e.key)) true).run Try.prog g9.w = .ok (.tuple ⟨[.string x0, .bool (mpF (recsL b) e.key).isSome]⟩) g9.w := by
      rw [hfv e.key] at hlk
      cases hF : mpF (recsL b) e.key with
      | none => rw [hF] at hlk; exact ⟨_, hlk⟩
      | some d => rw [hF] at hlk; exact ⟨_, hlk⟩
    obtain ⟨x0, hlk'⟩ := hlk'
    refine ⟨x0, _, _, hlk', g9, rfl, Stp.refl _ _ _, ?_⟩
    have hs9 := hs.ex mm
    -- the state stays
    have stay : ∀ g17, Ex g9 g17 → ∃ m_1, m_1 < m ∧ ∃ (j' k' : Nat) (b' : List UInt8) (fv' : List UInt8 → Option Value), ((j : Nat) : Int) + 1 = (j' : Nat) ∧ j' + m_1 = ll ∧ endR b' = b'.length ∧ b'.length ≤ 300 * j' ∧ ((b.length : Nat) : Int) = (b'.length : Nat) ∧ (-1 : Int) = -1 ∧ SlB g17 sa sn sc b' ∧
        MapG Try.prog g17 9 g4.w.heap.size k' fv' ∧ k' ≤ j' ∧ (∀ s, fv' s = strO (mpF (recsL b') s)) ∧ g5.w.heap.size ≤ g17.w.heap.size := by
      intro g17 m17
      exact ⟨m - 1, by omega, j + 1, k, b, fv, by omega, by omega, hfull, by omega, rfl, rfl, hs9.ex m17, hmp9.ex m17, by omega, hfv, Nat.le_trans hsz6 (mm.trans m17).size⟩
    -- a key that is not valid
    have hksz : (bstr e.key).size = e.key.length := bstr_size _
    rw [hksz]
    by_cases hkey : okK e.key.length
    · have hkey' := hkey
      unfold okK at hkey'
      intro J1 hJ1 J2 hJ2
      refine ifLt (fun hh => by omega) (fun _ => ?_)
      rw [ltI_false.mpr (by omega)]
      refine hJ2 false g9 (ifT (fun hh => by cases hh) (fun _ => ?_))
      intro J3 hJ3
      by_cases hdn : e.del = true ∧ mpF (recsL b) e.key = none
      · have hcode := code_eight hkey hdn.1 hdn.2
        rw [hdn.2]
        refine ifT (fun _ => hJ3 true g9 (ifT (fun _ => ifNe (fun hh => ?_) (fun _ => ⟨i64 (by omega) (by omega), stay g9 (Ex.refl _)⟩)) (fun hh => by cases hh))) (fun hh => by rw [hdn.1] at hh; cases hh)
        rw [e1, hcode] at hh
        exact absurd rfl hh
      · have hcode := code_nil hkey hdn
        rw [if_pos hcode] at e1
        obtain ⟨n1, n2, n3⟩ := next_recs b e hkey hdl
        rw [full_take hfull] at n1 n2 n3
        have hnm := next_map b e hfull hkey hdl
        have hrel := recE_len e
        have hdle := dataE_le e
        have hj30 : j ≤ 30 := by omega
        have ew : writeR b (endR b) (b.length : Nat) (-1) (recE e) = ⟨b ++ recE e, ((b ++ recE e).length : Nat), -1, 0⟩ := by
          unfold writeR
          rw [full_take hfull, hfull, if_neg (by omega), if_pos (by omega), List.length_append]
        rw [ew] at e1
        have hos : okS (b ++ recE e).length ((b ++ recE e).length : Nat) (-1) := by unfold okS; rw [List.length_append]; omega
        rw [e1] at hJ1 hJ3 hy9
        have hbl2 : (b ++ recE e).length ≤ 300 * (j + 1) := by rw [List.length_append]; omega
        -- the map has the edit
        have next : ∀ (g11 : G) (k' : Nat) (fv' : List UInt8 → Option Value), Le g9 g11 → SlB g11 ya yn yc (b ++ recE e) → k' ≤ j + 1 → MapG Try.prog g11 9 g4.w.heap.size k' fv' → (∀ s, fv' s = strO (mpF (recsL (b ++ recE e)) s)) → J1 g11 := by
          intro g11 k' fv' le11 hy11 hk' hmp' hfv'
          refine hJ1 g11 ⟨by omega, i64 (by omega) (by omega), by omega, ifEq (fun _ g12 m12 => (k26 _ (hy11.ex m12) _ _).mono ?_) (fun _ => ⟨i64 (by omega) (by omega), fun g16 m16 => ⟨m - 1, by omega, j + 1, k', b ++ recE e, fv', by omega, by omega, n2, hbl2, rfl, rfl, hy11.ex m16, hmp'.ex m16, hk', hfv', ?_⟩⟩)⟩
          · rintro v g13 m13 ⟨za, zn, zc, rfl, hz⟩
            rw [comp_of hos] at hz ⊢
            obtain ⟨c1, c2, c3, c4⟩ := comp_ok hos
            have hce := cost_end (b ++ recE e)
            have hee := endR_le (b ++ recE e)
            have hcl := compB_len (enL (recsL (b ++ recE e)))
            refine ⟨_, _, _, _, _, _, rfl, ifNe (fun hh => absurd rfl hh) (fun _ => ⟨i64 (by omega) (by omega), fun g15 m15 => ⟨m - 1, by omega, j + 1, k', compB (enL (recsL (b ++ recE e))), fv', by omega, by omega, ?_, by omega, by rw [hcl], rfl, hz.ex m15, hmp'.ex ((m12.trans m13).trans m15), hk', ?_, ?_⟩⟩)⟩
            · exact end_comp _ (enL_ok _ (recs_ok _)).1 c2
            · intro s
              rw [hfv' s]
              refine congrArg strO ?_
              cases hF : mpF (recsL (b ++ recE e)) s with
              | some d =>
                rw [← en_mp, ← c4, en_mp] at hF
                exact hF.symm
              | none =>
                cases hG : mpF (recsL (compB (enL (recsL (b ++ recE e))))) s with
                | none => rfl
                | some d =>
                  rw [← en_mp, c4, en_mp, hF] at hG
                  cases hG
            · exact Nat.le_trans hsz6 (Nat.le_trans mm.size (Nat.le_trans le11.size ((m12.trans m13).trans m15).size))
          · exact Nat.le_trans hsz6 (Nat.le_trans mm.size (Nat.le_trans le11.size m16.size))
        have j3 : J3 false g9 := by
          refine hJ3 false g9 (ifT (fun hh => by cases hh) (fun _ => ifNe (fun hh => absurd rfl hh) (fun _ => ifT (fun hdel => ?_) (fun hdel => ?_))))
          · obtain ⟨w', hrun, g22, hw, hst, hmg, hb22⟩ := hmp9.del Try.underlying9 Try.underlying71 e.key (by unfold maxLen; omega) 0 (B := g.w.heap.size) hg4
            refine ⟨w', hrun, g22, hw, hst, next g22 k _ hst.le (hy9.mono hst.le) (by omega) hmg fun s => ?_⟩
            rw [hnm s]
            by_cases hsk : s = e.key
            · rw [if_pos hsk, if_pos hdel, hsk, upd_same]; rfl
            · rw [if_neg hsk, upd_other _ _ hsk, hfv s]
          · have hd9 := hd.ex mm
            obtain ⟨w', hrun, g24, hw, hst, hmg, hb24⟩ := hmp9.put Try.underlying9 Try.underlying71 (by unfold maxLen; omega) e.key (by unfold maxLen; omega) (.string (bstr e.data)) (B := g.w.heap.size) hg4
            refine ⟨_, _, SlB.str hd9 Try.underlying22 Try.underlying5 Try.underlying9, g9, rfl, Stp.refl _ _ _, w', hrun, g24, hw, hst, next g24 (k + 1) _ hst.le (hy9.mono hst.le) (by omega) hmg fun s => ?_⟩
            rw [hnm s]
            by_cases hsk : s = e.key
            · rw [if_pos hsk, if_neg (by rw [hdel]; simp), hsk, upd_same]; rfl
            · rw [if_neg hsk, upd_other _ _ hsk, hfv s]
        refine ifT (fun hdel => ?_) (fun _ => j3)
        cases hF : mpF (recsL b) e.key with
        | none => exact absurd ⟨hdel, hF⟩ hdn
        | some d => exact j3
    · have hcode := code_two (b := b) hkey
      rw [if_neg (by rw [hcode]; decide), hcode] at e1
      rw [e1]
      unfold okK at hkey
      intro J1 hJ1 J2 hJ2
      have j2 : J2 true g9 := hJ2 true g9 (ifT (fun _ => ifNe (fun hh => absurd rfl hh) (fun _ => ⟨i64 (by omega) (by omega), stay g9 (Ex.refl _)⟩)) (fun hh => by cases hh))
      refine ifLt (fun _ => j2) (fun hh => ?_)
      rw [ltI_true.mpr (by omega)]
      exact j2
  · refine (k36 b hs _ _).mono ?_
    rintro v g25 m25 (⟨hn, _⟩ | ⟨_, xa, xl, xc, rfl, hx⟩)
    · exact absurd hok6 hn
    refine ⟨_, _, _, _, rfl, ?_⟩
    intro J4 hJ4
    have hxl := hx.len
    rw [List.length_map] at hxl
    have hce := cost_end b
    have hlc := len_cost (enL (recsL b))
    have hmp25 := hmp.ex m25
    have hs25 := hs.ex m25
    have fin : ∀ g26, Ex g25 g26 → J4 g26 := by
      intro g26 m26
      have hx26 := hx.exm m26
      have hs26 := hs25.ex m26
      refine hJ4 g26 ⟨fun m i g' => ∃ q : Nat, i = q ∧ q + m = xl ∧ MapG Try.prog g' 9 g4.w.heap.size k fv, ⟨xl, 0, rfl, by omega, hmp25.ex m26⟩, ?_⟩
      rintro m2 i2 g27 le27 ⟨q, rfl, hqm, hmp27⟩
      refine ifLt (fun hlt => ⟨⟨by omega, by omega⟩, ?_⟩) (fun _ g33 m33 => rfl)
      have hq : q < (enL (recsL b)).length := by omega
      have gq := List.getElem?_eq_getElem hq
      have hmem := List.mem_of_getElem? gq
      generalize (enL (recsL b))[q] = en at gq hmem
      refine (hx26.mono le27).rd (i := q) (x := en.1) (by rw [List.getElem?_map, gq]; rfl) ?_
      rintro r ad rfl hr
      refine ⟨bstr en.1, ?_, (k35 b en.1 (hs26.mono le27) _ _).mono ?_⟩
      · rw [Int.toNat_natCast]
        have := (hr 0 _ rfl).1
        rwa [Addr.add_zero'] at this
      intro v g28 m28 hget
      have hken := (enL_ok _ (recs_ok b)).1.key en hmem
      have hsome := (en_mp (recsL b) en.1 en.2).1 hmem
      rcases hget with ⟨hh, _⟩ | ⟨_, hh, _⟩ | ⟨_, _, hh, _⟩ | ⟨_, _, y, ya, yn, yc, hy1, rfl, hy⟩
      · exact absurd hok6 hh
      · exact absurd hken hh
      · rw [hsome] at hh; cases hh
      rw [hsome] at hy1
      cases hy1
      have hlk := (hmp27.ex m28).look Try.underlying9 Try.underlying71 (zero9 g28.w) en.1 (by unfold maxLen; omega)
      rw [hfv en.1, hsome] at hlk
      refine ⟨_, _, _, _, rfl, ifNe (fun hh => absurd rfl hh) (fun _ => ⟨_, _, SlB.str hy Try.underlying22 Try.underlying5 Try.underlying9, g28, rfl, Stp.refl _ _ _, _, _, hlk, g28, rfl, Stp.refl _ _ _, ifSn (fun hh => absurd rfl hh) (fun _ => ⟨i64 (by omega) (by omega), m2 - 1, by omega, q + 1, by omega, by omega, hmp27.ex m28⟩)⟩)⟩
    refine ifNe (fun hh => absurd rfl hh) (fun _ => (k41 g4.w.heap.size g25).mono ?_)
    rintro v g35 m35 ⟨blk, rfl, hl⟩
    refine ⟨55, _, rfl, (k40B hl (hmp25.ex m35) (enL_ok _ (recs_ok b)).1 (fun s => ?_) (by omega)).mono ?_⟩
    · rw [hfv s]
      constructor
      · intro hne
        cases hF : mpF (recsL b) s with
        | none => rw [hF] at hne; exact absurd rfl hne
        | some x => exact List.mem_map.2 ⟨(s, x), (en_mp (recsL b) s x).2 hF, rfl⟩
      · intro hs
        obtain ⟨e, he, rfl⟩ := List.mem_map.1 hs
        rw [(en_mp (recsL b) e.1 e.2).1 he]
        simp [strO]
    · rintro v g36 m36 ⟨ya, yl, yc, rfl, hy⟩
      refine ⟨_, _, _, rfl, (k39 _ _ (hx.exm (m35.trans m36)) hy).mono ?_⟩
      rintro v g37 m37 rfl
      exact ⟨_, rfl, ifPn (fun hh => absurd rfl hh) (fun _ => fin g37 ((m35.trans m36).trans m37))⟩
end Go.Proofs.Ytlofbfbcnlgmaaa
