/- The store: Keys, Entries, Compact. -/
import Derived.Test.YtlofbfbcnlgmaaaC53p
set_option linter.unusedVariables false
namespace Go.Proofs.Ytlofbfbcnlgmaaa
open Go Go.Vc Go.RowKit

theorem len_cost (l : List Ent) : l.length ≤ cost l := by
  induction l with
  | nil => exact Nat.zero_le _
  | cons x r ih => simp only [cost, List.map_cons, List.sum_cons, List.length_cons] at *; omega
theorem k52 (b : Nat) (g : G) : CallsP Try.prog 52 #[.map (some b)] g fun v g' => ∃ blk, v = .func (.func 65) #[] #[.pointer (some ⟨blk, 0, none⟩)] ∧ Live g' ⟨blk, 0, none⟩ (.map (some b)) := by
  refine call52 (some b) g _ ?_
  unfold F52
  exact fun g1 n1 g2 m2 => ⟨_, rfl, (n1.at0 rfl).ex m2⟩

theorem k36 (b : List UInt8) {a : Option Addr} {n c : Nat} {g : G} (h : SlB g a n c b) (d af : Int) :
    CallsP Try.prog 36 #[stV a n c d af] g fun v g' => KeysSay b d af v g' := by
  refine call36 a n c d af g _ ?_
  have hlb := SlB.length h
  have hok := (enL_ok _ (recs_ok b)).1
  have hce := cost_end b
  have hel := endR_le b
  have hlc := len_cost (enL (recsL b))
  unfold F36 KeysSay
  rw [hlb]
  refine fun g1 m1 => (k24 a n c d af g1).mono ?_
  rintro v g2 m2 rfl
  refine ⟨_, rfl, ifPn (fun hs g3 m3 => .inl ⟨hs, rfl⟩) (fun hs => ?_)⟩
  have hs' := hs
  unfold okS at hs'
  refine (k44 b (h.ex (m1.trans m2)) d af (by omega)).mono ?_
  rintro v g4 m4 ⟨mb, mk, rfl, fv, hm, hfv⟩
  refine ⟨_, _, rfl, (k52 mb g4).mono ?_⟩
  rintro v g5 m5 ⟨blk, rfl, hl⟩
  refine ⟨65, _, rfl, (k40 hl (hm.ex m5) hok (fun s => ?_) (by omega)).mono ?_⟩
  · constructor
    · intro hne
      cases hF : mpF (recsL b) s with
      | none => exact absurd ((hfv s).1 hF) hne
      | some x => exact List.mem_map.2 ⟨(s, x), (en_mp (recsL b) s x).2 hF, rfl⟩
    · intro hs
      obtain ⟨e, he, rfl⟩ := List.mem_map.1 hs
      obtain ⟨xa, xn, xc, hfk, _⟩ := (hfv e.1).2 e.2 ((en_mp (recsL b) e.1 e.2).1 he)
      rw [hfk]
      simp
  · rintro v g6 m6 ⟨xa, xl, xc, rfl, hx⟩
    exact ⟨_, _, _, rfl, fun g7 m7 => .inr ⟨hs, xa, xl, xc, rfl, hx.exm m7⟩⟩

/-- Entries. -/
theorem k27 (b : List UInt8) {a : Option Addr} {n c : Nat} {g : G} (h : SlB g a n c b) (d af : Int) :
    CallsP Try.prog 27 #[stV a n c d af] g fun v g' => EntsSay b d af v g' := by
  refine call27 a n c d af g _ ?_
  have hlb := SlB.length h
  have hok := (enL_ok _ (recs_ok b)).1
  have hce := cost_end b
  have hel := endR_le b
  have hlc := len_cost (enL (recsL b))
  have hmpf := en_mp (recsL b)
  unfold F27
  refine fun g1 m1 => (k36 b (h.ex m1) d af).mono ?_
  rintro v g2 m2 (⟨hs, rfl⟩ | ⟨hs, xa, xl, xc, rfl, hx⟩)
  · exact ⟨_, _, _, _, rfl, ifNe (fun _ g3 m3 => .inl ⟨hs, rfl⟩) (fun hh => by cases hh)⟩
  refine ⟨_, _, _, _, rfl, ifNe (fun hh => absurd rfl hh) (fun _ => ?_)⟩
  have hs' := hs
  unfold okS at hs'
  rw [hlb] at hs'
  refine (k44 b (h.ex (m1.trans m2)) d af (by omega)).mono ?_
  rintro v g4 m4 ⟨mb, mk, rfl, hmap⟩
  have hx4 := hx.exm m4
  have hxl := hx4.len
  rw [List.length_map] at hxl
  have hmlt : mb < g4.w.heap.size := by obtain ⟨fv, hm, _⟩ := hmap; exact hm.lt
  have hsz4 : g.w.heap.size ≤ g4.w.heap.size := ((m1.trans m2).trans m4).size
  generalize hes : enL (recsL b) = es at *
  refine ⟨_, _, rfl, fun m oa on oc i g5 => ∃ j : Nat, i = j ∧ j + m = xl ∧ on = j ∧ OwnE entE g5 g4.w.heap.size 67 oa on oc (es.take j) ∧ MapB g5 mb mk (mpF (recsL b)) ∧ g4.w.heap.size ≤ g5.w.heap.size,
    ⟨xl, 0, rfl, by omega, rfl, OwnE.nil _ _ _, hmap, Nat.le_refl _⟩, ?_⟩
  rintro m oa on oc i g5 le5 ⟨j, rfl, hjm, rfl, ho, hmap5, hsz5⟩
  refine ifLt (fun hlt => ⟨⟨by omega, by omega⟩, ?_⟩) (fun hge g10 m10 => .inr ⟨hs, oa, on, oc, rfl, ?_⟩)
  · have hj : on < es.length := by omega
    have gj := List.getElem?_eq_getElem hj
    have hmem := List.mem_of_getElem? gj
    have hc1 := cost_mem hmem
    have hkey := hok.key _ hmem
    refine (hx4.mono le5).rd (i := on) (x := es[on].1) (by rw [List.getElem?_map, gj]; rfl) ?_
    rintro r ad rfl hr
    refine ⟨bstr es[on].1, ?_, ?_⟩
    · rw [Int.toNat_natCast]
      have := (hr 0 _ rfl).1
      rwa [Addr.add_zero'] at this
    obtain ⟨fv, hm, hfv⟩ := hmap5
    obtain ⟨ya, yn, yc, hfk, hy⟩ := (hfv es[on].1).2 es[on].2 ((hmpf es[on].1 es[on].2).1 hmem)
    have hlk := hm.look Try.underlying9 Try.underlying79 (zero22 g5.w) es[on].1 (by unfold maxLen; omega)
    rw [hfk] at hlk
    have hyn := SlB.length hy
    refine ⟨ya, yn, yc, _, hlk, g5, rfl, Stp.refl _ _ _, (k49 _ hy (by omega)).mono ?_⟩
    rintro v g7 m7 ⟨za, zc, rfl, hz⟩
    refine ⟨_, _, _, rfl, fun g8 n8 => ?_⟩
    have hB7 : g4.w.heap.size ≤ g7.w.heap.size := Nat.le_trans hsz5 m7.size
    obtain ⟨a', c', w', hrun, g9, hw, hst, ho9, hst2, _⟩ := OwnE.app1 E36 36 (B := g4.w.heap.size) hB7 (ho.exm m7) n8 (x := es[on]) ⟨za, yn, zc, rfl, hz.sl⟩ (by omega) (by unfold maxLen; omega)
    refine ⟨a', _, c', w', hrun, g9, hw, hst.mono hsz4 (fun _ _ h => h.elim), i64 (by omega) (by omega), m - 1, by omega, on + 1, by omega, by omega, rfl, ?_, ?_, ?_⟩
    · rw [List.take_add_one, gj]
      exact ho9
    · have hmb8 : MapB g8 mb mk (mpF (recsL b)) := MapB.ex ⟨fv, hm, hfv⟩ (m7.trans n8.ex)
      exact hmb8.but (hst2.but (Nat.le_refl _)) (ho.ne hmlt) hst.le
    · exact Nat.le_trans hB7 (Nat.le_trans n8.ex.size hst.le.size)
  · have htk : es.take on = es := List.take_of_length_le (by omega)
    rw [hes, ← htk]
    exact ho.sl.exm m10

/-- Compact. -/
theorem k26 (b : List UInt8) {a : Option Addr} {n c : Nat} {g : G} (h : SlB g a n c b) (d af : Int) :
    CallsP Try.prog 26 #[stV a n c d af] g fun v g' => IsSR v g' (compR b d af) := by
  refine call26 a n c d af g _ ?_
  have hlb := SlB.length h
  have hce := cost_end b
  have hel := endR_le b
  have hlc := len_cost (enL (recsL b))
  have hok := (enL_ok _ (recs_ok b)).1
  unfold F26
  refine fun g1 m1 => (k27 b (h.ex m1) d af).mono ?_
  rintro v g2 m2 (⟨hs, rfl⟩ | ⟨hs, xa, xl, xc, rfl, hx⟩)
  · refine ⟨_, _, _, _, rfl, ifNe (fun _ g3 m3 => ?_) (fun hh => by cases hh)⟩
    unfold compR
    rw [if_pos (tf_no hs)]
    exact IsSR.zero _ _
  refine ⟨_, _, _, _, rfl, ifNe (fun hh => absurd rfl hh) (fun _ => ?_)⟩
  have hs' := hs
  unfold okS at hs'
  have hxl := hx.len
  have ec : compR b d af = ⟨compB (enL (recsL b)), (cost (enL (recsL b)) : Nat), af, 0⟩ := by unfold compR; rw [if_neg (by rw [tf_of hs]; simp)]
  rw [ec]
  generalize hes : enL (recsL b) = es at *
  refine ⟨fun m i xa xl' xc o1 o2 g4 => ∃ j : Nat, i = j ∧ j + m = xl ∧ o2 = af ∧ xl' = cost (es.take j) ∧ OwnB g4 g.size 5 xa xl' xc (compB (es.take j)) ∧ g.size ≤ g4.w.heap.size,
    fun g3 m3 => ⟨xl, 0, rfl, by omega, rfl, by simp [cost], OwnG.nil _ _ _ _, ((m1.trans m2).trans m3).size⟩, ?_⟩
  rintro m i ya yl yc o1 o2 g4 le4 ⟨j, rfl, hjm, rfl, rfl, hy, hsz⟩
  refine ifLt (fun hlt => ⟨⟨by omega, by omega⟩, ?_⟩) (fun hge g9 m9 => ?_)
  · have hj : j < es.length := by omega
    have gj := List.getElem?_eq_getElem hj
    have hmem := List.mem_of_getElem? gj
    have hc1 := cost_mem hmem
    have hkey := hok.key _ hmem
    have hs5 := hx.mono le4
    refine hs5.rd (i := j) gj ?_
    rintro r ad ⟨ea, en, ec, rfl, hd1⟩ hr
    have hen := SlB.length hd1
    refine ⟨bstr es[j].1, ea, en, ec, ?_, ?_, fun g6 m6 => (k46 1 (by omega) es[j].1 es[j].2 (hd1.ex m6) hkey.2 (by omega)).mono ?_⟩
    · rw [Int.toNat_natCast]
      have := (hr 0 _ rfl).1
      rwa [Addr.add_zero'] at this
    · rw [Int.toNat_natCast]
      exact (hr 1 _ rfl).1
    rintro v g7 m7 ⟨ra, rc, rfl, hrr⟩
    have hct := cost_take es (j + 1)
    have hcs : cost (es.take (j + 1)) = cost (es.take j) + (11 + es[j].1.length + en) := by
      rw [← compB_len, compB_take es j gj, List.length_append, compB_len, recB_len, hen]
    obtain ⟨za, zc, w1, hrun, g8, hw, hst, hz, _, _⟩ := OwnB.app E22 22 (B := g.size) (Nat.le_trans hsz (m6.trans m7).size) (hy.ex (m6.trans m7)) hrr.sl (by omega) (by unfold maxLen; omega)
    rw [← hcs] at hrun hz
    refine ⟨_, _, _, rfl, za, _, zc, w1, hrun, g8, hw, hst, i64 (by omega) (by omega), fun g9 m9 => ⟨m - 1, by omega, j + 1, by omega, by omega, rfl, rfl, ?_, ?_⟩⟩
    · rw [compB_take es j gj]
      exact hz.ex m9
    · exact Nat.le_trans hsz (Nat.le_trans (m6.trans m7).size (Nat.le_trans hst.le.size m9.size))
  · have htk : es.take j = es := List.take_of_length_le (by omega)
    rw [htk] at hy ⊢
    exact ⟨ya, _, yc, rfl, (hy.ex m9).sl⟩
end Go.Proofs.Ytlofbfbcnlgmaaa
