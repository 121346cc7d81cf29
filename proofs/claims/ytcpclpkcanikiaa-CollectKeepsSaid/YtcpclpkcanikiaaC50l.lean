/- The collector: the example of the chapter; CollectRoom answers true. -/
import Derived.Test.YtcpclpkcanikiaaC50G
import Derived.Test.YtcpclpkcanikiaaC49U
set_option linter.unusedVariables false
set_option maxRecDepth 10000
namespace Go.Proofs.Ytcpclpkcanikiaa
open Go Go.Vc Go.RowKit

theorem wordP_ref' {L : List Int} {x : Int} (h : x ∈ L) : wordP L (true, x) := by unfold wordP; simpa using h
def exA : List Wd := blkW 4 1 (bytesW [97])
def exB : List Wd := exA ++ blkW 4 1 (bytesW [98])
def exC : List Wd := exB ++ blkW 1 0 [(true, 4), (true, 4)]
theorem exA_good : GoodW exA [0] := by
  have h : GoodW ([] : List Wd) [] := ⟨.nil, fun x hx => by cases hx⟩
  exact h.add (bytes_right [97] (by decide)) (bytes_word [] [97])
theorem exB_good : GoodW exB [0, 4] := exA_good.add (bytes_right [98] (by decide)) (bytes_word _ [98])
theorem exC_right : rightP 1 0 [((true, 4) : Wd), (true, 4)] := .inl ⟨rfl, rfl, by decide⟩
theorem exC_wd : ∀ w ∈ [((true, 4) : Wd), (true, 4)], wordP [0, 4] w := by
  intro w hw
  simp only [List.mem_cons, List.not_mem_nil, or_false, or_self] at hw
  subst hw
  exact wordP_ref' (by simp)
theorem exC_good : GoodW exC [0, 4, 8] := exB_good.add exC_right exC_wd
theorem exC_ok : ColOk exC 13 100 [(true, 8)] [0, 4, 8] := by
  refine ⟨valid_iff.2 ⟨by omega, by omega, rfl, by omega, _, exC_good⟩, by simp, exC_good, ?_⟩
  intro w hw
  cases List.mem_singleton.1 hw
  exact wordP_ref' (by simp)
theorem exC_ord : ord exC [0, 4, 8] [(true, 8)] = [8, 4] := by decide
theorem exC_off : offN exC [8, 4] = 9 := by decide
theorem exC_mv : ([((true, 8) : Wd)]).map (mv exC [8, 4]) = [(true, 0)] := by decide
/-- example. -/
theorem k82 (g : G) : CallsP Try.prog 82 #[] g fun u g' => ∃ a c, u = .tuple ⟨[hpV a 13 c 13 100, wdV (true, 8)]⟩ ∧ SlE wordE g' a 13 c exC := by
  refine P50.call82 g _ ?_
  unfold P50.F82
  refine fun g1 m1 g2 m2 => (k25 [] [97] (SlE.zero g2) 0 100 (by simp)).mono ?_
  rintro u g3 m3 ⟨r, e, ho, ⟨hn, _⟩ | ⟨_, hh, _⟩ | ⟨_, _, rfl, rfl⟩⟩
  · exact absurd (valid0 100 (by omega)) hn
  · simp at hh
  have e1 : addF 100 [] 4 ((([97] : List UInt8).length : Nat) : Int) (bytesW [97]) = some (exA, (true, 0)) := rfl
  rw [e1] at ho
  obtain ⟨a3, c3, rfl, hs3, _⟩ := ho
  refine ⟨_, _, _, _, _, _, _, _, rfl, fun g4 m4 => (k25 exA [98] (hs3.exm m4) 4 100 (by simp)).mono ?_⟩
  rintro u g5 m5 ⟨r, e, ho, ⟨hn, _⟩ | ⟨_, hh, _⟩ | ⟨_, _, rfl, rfl⟩⟩
  · exact absurd (valid_iff.2 ⟨by omega, by omega, rfl, by omega, _, exA_good⟩) hn
  · simp at hh
  have e2 : addF 100 exA 4 ((([98] : List UInt8).length : Nat) : Int) (bytesW [98]) = some (exB, (true, 4)) := rfl
  rw [e2] at ho
  obtain ⟨a5, c5, rfl, hs5, _⟩ := ho
  refine ⟨_, _, _, _, _, _, _, _, rfl, fun g6 m6 g7 n7 => ?_⟩
  have hlit : SlE wordE g7 (some ⟨g6.w.heap.size, 0, none⟩) 2 2 [(true, 4), (true, 4)] := n7.sle (E := wordE) (wc_rws g6 [(true, 4), (true, 4)]) (by unfold maxLen; simp)
  refine (k30 exB [(true, 4), (true, 4)] ((hs5.exm m6).exm n7.ex) hlit 8 100 1 0 (by omega)).mono ?_
  rintro u g8 m8 ⟨r, e, ho, ⟨hn, _⟩ | ⟨_, L, hL, ⟨hh, _⟩ | ⟨_, rfl, rfl⟩⟩⟩
  · exact absurd (valid_iff.2 ⟨by omega, by omega, rfl, by omega, _, exB_good⟩) hn
  · rw [sts_iff.2 exB_good.1] at hL
    cases hL
    exact absurd ⟨exC_right, exC_wd⟩ hh
  have e3 : addF 100 exB 1 0 [(true, 4), (true, 4)] = some (exC, (true, 8)) := rfl
  rw [e3] at ho
  obtain ⟨a8, c8, rfl, hs8, _⟩ := ho
  exact ⟨_, _, _, _, _, _, _, _, rfl, fun g9 m9 g10 m10 => ⟨a8, c8, rfl, (hs8.exm m9).exm m10⟩⟩
theorem exC_L {L : List Int} (h : ColOk exC 13 100 [(true, 8)] L) : L = [0, 4, 8] := by
  have h1 := sts_iff.2 h.good.1
  rw [sts_iff.2 exC_good.1] at h1
  cases h1
  rfl
/-- awake. -/
theorem k41 (g : G) : CallsP Try.prog 41 #[] g fun u _ => u = .bool true := by
  refine P50.call41 g _ ?_
  unfold P50.F41
  refine (k82 g).mono ?_
  rintro u g1 m1 ⟨a, c, rfl, hs⟩
  refine ⟨_, _, _, _, _, _, _, rfl, fun g2 m2 g3 n3 => ?_⟩
  have lit : ∀ {gx gy : G}, NewL gx gy 41 [.bool true, .int .i64 8] → SlE wordE gy (some ⟨gx.w.heap.size, 0, none⟩) 1 1 [(true, 8)] := fun n => n.sle (E := wordE) (xs := [(true, 8)]) (Rws.single rfl) (by unfold maxLen; simp)
  have hwf : ∀ w ∈ [((true, 8) : Wd)], (Lit.int .i64 w.2).wf = true := by
    intro w hw
    cases List.mem_singleton.1 hw
    exact wfI (by omega) (by omega)
  have hs3 := (hs.exm m2).exm n3.ex
  refine (k43 exC [(true, 8)] hwf hs3 (lit n3) 13 100).mono ?_
  rintro u g4 m4 (⟨hf, _⟩ | ⟨L, hok, xa, xc, oa, oc, rfl, hx, ho⟩)
  · exact absurd (ok_zero exC_ok) hf
  cases exC_L hok
  rw [exC_ord] at hx ho
  rw [exC_mv] at ho
  rw [exC_off] at hx
  rw [exC_ord, exC_off]
  refine ⟨_, _, _, _, _, _, _, _, _, rfl, fun g5 m5 g6 n6 => ?_⟩
  have m36 := (m4.trans m5).trans n6.ex
  refine (k56 exC [(true, 8)] hwf (hs3.exm m36) (lit n6) 13 100).mono ?_
  rintro u g7 m7 (⟨hf, _⟩ | ⟨L, hok2, rfl⟩)
  · exact absurd (ok_zero exC_ok) hf
  cases exC_L hok2
  rw [exC_ord, exC_off]
  refine ⟨_, _, rfl, ifEq (fun _ => ifEq (fun _ => ifEq (fun _ => ⟨⟨by omega, by simp⟩, (((ho.exm m5).exm n6.ex).exm m7).rd (i := 0) rfl ?_⟩) (fun hh => absurd rfl hh)) (fun hh => absurd rfl hh)) (fun hh => absurd rfl hh)⟩
  rintro r ad rfl hr
  have h0 := (hr 0 _ rfl).1
  rw [Addr.add_zero'] at h0
  refine ⟨_, _, h0, (hr 1 _ rfl).1, ?_⟩
  rw [eqW]
  exact ifP (fun _ => ifEq (fun _ g8 _ => congrArg Value.bool (eqI_true.mpr rfl)) (fun hh => absurd rfl hh)) (fun hh => absurd rfl hh)
/-- What stands behind 'awake()' and 'great(h, roots)'. -/
theorem ColOk.same {l : List Wd} {fr lim : Int} {roots : List Wd} {L L' : List Int} (h : ColOk l fr lim roots L) (h' : ColOk l fr lim roots L') : L' = L := by
  have h1 := sts_iff.2 h.good.1
  rw [sts_iff.2 h'.good.1] at h1
  cases h1
  rfl
theorem law9 (l roots : List Wd) (hwf : ∀ w ∈ roots, (Lit.int .i64 w.2).wf = true) {ha : Option Addr} {hl hc : Nat} {ra : Option Addr} {rl rc : Nat} {g : G} (h : SlE wordE g ha hl hc l) (hr : SlE wordE g ra rl rc roots) (fr lim need : Int) :
    CallsP Try.prog 9 #[hpV ha hl hc fr lim, .slice ra rl rc, .int .i64 need] g fun u _ => u = .bool true := by
  refine P50.call9 ha hl hc fr lim ra rl rc need g _ ?_
  have hrl := hr.len
  have hll := h.len
  unfold P50.F9
  refine fun g1 m1 => (k41 g1).mono ?_
  rintro u g2 m2 rfl
  refine ⟨_, rfl, ifT (fun hh => by cases hh) (fun _ => (k42 fr lim g2).mono ?_)⟩
  rintro u g4 m4 ⟨b, rfl, hb⟩
  refine ⟨_, rfl, ?_⟩
  cases b with
  | true => exact ifT (fun _ g5 _ => rfl) (fun hh => by cases hh)
  | false =>
  obtain ⟨hb1, hb2⟩ := hb rfl
  refine ifT (fun hh => by cases hh) (fun _ => ?_)
  have m04 := (m1.trans m2).trans m4
  refine (k46 l roots hwf (h.exm m04) (hr.exm m04) fr lim need).mono ?_
  intro u g6 m6 hR
  have tr : ∀ {x y : Int}, x = y → Value.bool (eqI x y) = .bool true := fun h => congrArg Value.bool (eqI_true.mpr h)
  -- the result, written out
  have hu : ∃ xa xl xc x1 x2 oa on oc er, u = .tuple ⟨[hpV xa xl xc x1 x2, .slice oa on oc, .int .i64 er]⟩ := by
    rcases hR with ⟨_, rfl⟩ | ⟨L, _, ⟨_, rfl⟩ | ⟨_, ⟨_, a, c, oa, oc, rfl, _⟩ | ⟨_, ⟨_, rfl⟩ | ⟨_, a, c, oa, oc, rfl, _⟩⟩⟩⟩
    all_goals exact ⟨_, _, _, _, _, _, _, _, _, rfl⟩
  obtain ⟨xa, xl, xc, x1, x2, oa, on, oc, er, rfl⟩ := hu
  refine ⟨_, _, _, _, _, _, _, _, _, rfl, fun g7 m7 => ?_⟩
  have m07 := (m04.trans m6).trans m7
  refine (k47 l roots (h.exm m07) (hr.exm m07) fr lim).mono ?_
  rintro u g8 m8 rfl
  refine ⟨_, rfl, ?_⟩
  intro J hJ
  -- an error
  have bad : ∀ e : Int, e ≠ 0 → Value.tuple ⟨[hpV xa xl xc x1 x2, .slice oa on oc, .int .i64 er]⟩ = .tuple ⟨[zeroH, nilV, .int .i64 e]⟩ → J e g8 := by
    intro e he hu
    have hu : xa = none ∧ xl = 0 ∧ xc = 0 ∧ x1 = 0 ∧ x2 = 0 ∧ on = 0 ∧ er = e := by
      unfold zeroH nilV hpV at hu
      simp at hu
      simp [hu]
    obtain ⟨rfl, rfl, rfl, rfl, rfl, rfl, rfl⟩ := hu
    refine hJ _ g8 (ifNe (fun _ => ifEq (fun _ => (k44 [] (SlE.zero g8) 0 0).mono ?_) (fun hh => absurd rfl hh)) (fun hh => absurd hh he))
    rintro u g10 m10 rfl
    exact ⟨_, rfl, ifP (fun _ g11 _ => tr rfl) (fun hh => absurd ⟨rfl, rfl, rfl⟩ hh)⟩
  rcases hR with ⟨hf, hu⟩ | ⟨L, hok, hcs⟩
  · exact ifEq (fun hh => absurd hh hf) (fun _ => bad _ hf hu)
  rw [ok_zero hok]
  obtain ⟨hs1, hs2, hs3, hs4, hs5⟩ := hok.small
  have hrlen := hok.len
  have hoff := off_le hok.good (ord_spec hok.good hok.wd).1.nodup (ord_spec hok.good hok.wd).1.sub
  have m08 := m07.trans m8
  refine ifEq (fun _ => ?_) (fun hh => absurd rfl hh)
  rcases hcs with ⟨hn, hu⟩ | ⟨hn, hcs⟩
  · refine ifLt (fun _ => bad 2 (by decide) hu) (fun h1 => ifLt (fun _ => bad 2 (by decide) hu) (fun h2 => absurd ⟨by omega, by omega⟩ hn))
  refine ifLt (fun hh => by omega) (fun _ => ifLt (fun hh => by omega) (fun _ => hJ 0 g8 (ifNe (fun hh => absurd rfl hh) (fun _ => ⟨i64 (by omega) (by omega), ?_⟩))))
  rcases hcs with ⟨hroom, a, c, oa2, oc2, hu, hx, ho⟩ | ⟨hroom, hcs⟩
  · have hu : xa = a ∧ xl = l.length ∧ xc = c ∧ x1 = fr ∧ x2 = lim ∧ oa = oa2 ∧ on = roots.length ∧ oc = oc2 ∧ er = 0 := by
      unfold hpV at hu
      simp at hu
      simp [hu]
    obtain ⟨rfl, rfl, rfl, rfl, rfl, rfl, rfl, rfl, rfl⟩ := hu
    refine ifLe (fun _ => ifEq (fun _ => (k20 l l (hx.exm (m7.trans m8)) (h.exm m08) _ _ _ _).mono ?_) (fun hh => absurd rfl hh)) (fun hh => by omega)
    rintro u g14 m14 rfl
    refine ⟨_, rfl, ifP (fun _ => (k39 roots roots (ho.exm ((m7.trans m8).trans m14)) (hr.exm (m08.trans m14))).mono ?_) (fun hh => absurd ⟨rfl, rfl, rfl⟩ hh)⟩
    rintro u g15 m15 rfl
    exact ⟨_, rfl, fun g16 _ => by rw [tf_of rfl]⟩
  refine ifLe (fun hh => absurd hh hroom) (fun _ g19 m19 => (k48 hok.good hs1 (h.exm (m08.trans m19)) fr lim roots (hr.exm (m08.trans m19)) (by omega) hok.wd).mono ?_)
  rintro u g20 m20 rfl
  have m820 := m19.trans m20
  refine ⟨_, rfl, i64 (by omega) (by omega), ?_⟩
  rcases hcs with ⟨hfull, hu⟩ | ⟨hfull, a, c, oa2, oc2, hu, hx, ho⟩
  · have hu : xa = none ∧ xl = 0 ∧ xc = 0 ∧ x1 = 0 ∧ x2 = 0 ∧ on = 0 ∧ er = 25 := by
      unfold zeroH nilV hpV at hu
      simp at hu
      simp [hu]
    obtain ⟨rfl, rfl, rfl, rfl, rfl, rfl, rfl⟩ := hu
    refine ifLt (fun _ => ifEq (fun _ => (k44 [] (SlE.zero g20) 0 0).mono ?_) (fun hh => absurd rfl hh)) (fun hh => by omega)
    rintro u g21 m21 rfl
    exact ⟨_, rfl, ifP (fun _ g22 _ => tr rfl) (fun hh => absurd ⟨rfl, rfl, rfl⟩ hh)⟩
  have hu : xa = a ∧ xl = offN l (ord l L roots) ∧ xc = c ∧ x1 = ((offN l (ord l L roots) : Nat) : Int) ∧ x2 = lim ∧ oa = oa2 ∧ on = roots.length ∧ oc = oc2 ∧ er = 0 := by
    unfold hpV at hu
    simp at hu
    simp [hu]
  obtain ⟨rfl, rfl, rfl, rfl, rfl, rfl, rfl, rfl, rfl⟩ := hu
  have m720 := (m7.trans m8).trans m820
  refine ifLt (fun hh => by omega) (fun _ => (k49 hok.good hs1 (h.exm (m08.trans m820)) fr _ roots (hr.exm (m08.trans m820)) (by omega) hok.wd).mono ?_)
  rintro u g25 m25 ⟨ya, yc, pa, pc, rfl, hy, hp⟩
  refine ⟨_, _, _, _, _, _, _, _, rfl, ifEq (fun _ g26 m26 => (k20 _ _ (hx.exm ((m720.trans m25).trans m26)) (hy.exm m26) _ _ _ _).mono ?_) (fun hh => absurd rfl hh)⟩
  rintro u g27 m27 rfl
  refine ⟨_, rfl, ifP (fun _ => (k39 _ _ (ho.exm (((m720.trans m25).trans m26).trans m27)) ((hp.exm m26).exm m27)).mono ?_) (fun hh => absurd ⟨rfl, rfl, rfl⟩ hh)⟩
  rintro u g28 m28 rfl
  exact ⟨_, rfl, fun g29 _ => by rw [tf_of rfl]⟩
end Go.Proofs.Ytcpclpkcanikiaa
