/- Syntax trees: a copy of a tree, in blocks of its own. -/
import Derived.Test.YtmakoecgogjemaaDoorC03q
import Derived.Test.YtmakoecgogjemaaDoorStre
set_option linter.unusedVariables false
namespace Go.Proofs.YtmakoecgogjemaaDoor
open Go Go.Vc Go.RowKit Go.Syn

theorem E23 : Elem Tryd.prog 23 25 5 80 := ⟨Tryd.underlying23, by kernel_rfl⟩
theorem rws_str {g : G} {L : List Value} {xs : List (List UInt8)} (h : Rws strE g L xs) : L = xs.map fun x => .string (bstr x) := by
  obtain ⟨rs, rfl, hh⟩ := h.ex
  clear h
  induction hh with
  | nil => rfl
  | cons h1 h2 ih =>
    cases h1
    simp [ih]
/-- slices.Clone, into a row of its own. -/
theorem k42f (L : List (List UInt8)) {a : Option Addr} {n c : Nat} {g : G} (h : SlE strE g a n c L) (hn : n ≤ 1048576) :
    CallsP Tryd.prog 42 #[.slice a n c] g fun v g' => ∃ a' c', v = .slice a' n c' ∧ RowW g'.w a' n c' 1 (L.map fun x => .string (bstr x)) g.w.heap.size g'.w.heap.size := by
  refine call42 a n c g _ ?_
  have hl := h.len
  have hc := h.le
  unfold F42
  refine ifT (fun q g1 m1 => ?_) (fun q g2 n2 => ?_)
  · obtain rfl : a = none := by simpa using q
    have h0 := h.nil rfl
    obtain rfl : n = 0 := by omega
    obtain rfl : L = [] := List.eq_nil_of_length_eq_zero hl
    exact ⟨none, 0, rfl, rfl, .inl ⟨rfl, rfl, rfl⟩⟩
  · have ho : OwnE strE g2 g.w.heap.size 9 (some ⟨g.w.heap.size, 0, none⟩) 0 0 [] := OwnE.lit n2 Rws.nil (Nat.le_refl _) (by unfold maxLen; simp)
    obtain ⟨a', c', w', hr, g3, hw, hs, ho3, _, _⟩ := ho.app E22 22 n2.ex.size (h.exm n2.ex) (by omega) (by unfold maxLen; omega)
    rw [Nat.zero_add] at hr ho3
    refine ⟨a', n, c', w', hr, g3, hw, hs, fun g4 m4 => ⟨a', c', rfl, ?_⟩⟩
    obtain ⟨L', q1, q2⟩ := (ho3.exm m4).ex
    have e := rws_str q2
    rw [List.nil_append] at e
    rw [← e]
    exact q1.rowW
theorem len_sizeL (l : List Sy) : l.length ≤ sizeL l := by
  induction l with
  | nil => exact Nat.le_refl _
  | cons x r ihr =>
    have := size_pos x
    simp only [sizeL, List.length_cons]
    omega
/-- copied. -/
theorem k47 : ∀ (t : Sy), okT t → size t ≤ 1048576 → ∀ {na : Option Addr} {nn nc : Nat} {a : Option Addr} {n c : Nat} {g : G}, SynI g t na nn nc a n c →
    CallsP Tryd.prog 47 #[synV t na nn nc a n c] g fun v g' => ∃ na' nn' nc' a' n' c', v = synV t na' nn' nc' a' n' c' ∧ sepT g'.w t [.int .i64 t.dat.op, .int .i64 t.dat.n, .string (bstr t.dat.s), .slice na' nn' nc', .slice a' n' c'] g.w.heap.size g'.w.heap.size := by
  intro t
  induction t using Tr.ind with
  | h d l ih =>
    intro hok hsz na nn nc a n c g h
    refine call47 _ _ _ _ _ _ _ _ _ g _ ?_
    obtain ⟨hokD, hokL⟩ := okT_iff.1 hok
    have hK : SlE synE g a n c l := h.kids
    have hl := hK.len
    have hcp := hK.le
    have hmx := hK.cap
    unfold maxLen at hmx
    have hse : size (.mk d l) = sizeL l + 1 := rfl
    have hll := len_sizeL l
    have hN : SlE strE g na nn nc d.names := h.names
    have hnl := hN.len
    have hok2 : d.names.length ≤ 1048576 := hokD.2
    unfold F47
    intro g1 m1
    refine CallsG.mono (k42f d.names (hN.exm m1) (by omega)) ?_
    rintro v g2 s2 ⟨xa, xc, rfl, hrow⟩
    have m2 := s2.ex
    have m02 := m1.trans m2
    have hX2 : ∀ z, g1.w.heap.size ≤ z → ¬ g2.X z := fun z hz hh => by have := g1.hX z ((s2.x z).1 hh); omega
    have sz1 := m1.size
    have sz2 := m2.size
    refine ⟨xa, nn, xc, rfl, fun m v o0 o1 o2 o3a o3l o3c o4a o4l o4c g' => ∃ (j : Nat) (L : List Value), v = ((j : Nat) : Int) ∧ o0 = d.op ∧ o1 = d.n ∧ o2 = bstr d.s ∧ o3a = xa ∧ o3l = nn ∧ o3c = xc ∧ o4l = j ∧ j + m = n ∧ OwnG g' g2.w.heap.size 25 5 o4a o4l o4c L ∧ g2.w.heap.size ≤ g'.w.heap.size ∧
        sepL g'.w (fun z => blkOf o4a z ∨ g'.X z) (l.take j) L g2.w.heap.size g'.w.heap.size ∧ RowW g'.w xa nn xc 1 (d.names.map fun x => .string (bstr x)) g1.w.heap.size g2.w.heap.size ∧ (∀ z, g1.w.heap.size ≤ z → z < g2.w.heap.size → ¬ g'.X z), ?_, ?_⟩
    · intro g3 m3
      exact ⟨n, 0, [], rfl, rfl, rfl, rfl, rfl, rfl, rfl, rfl, by omega, OwnG.nil _ _ _ _, m3.size, by simp [sepL], hrow.same (fun z e1 e2 => m3.same z e2 (hX2 z e1)), fun z e1 e2 => m3.x z e2 (hX2 z e1)⟩
    rintro m v o0 o1 o2 o3a o3l o3c o4a o4l o4c g4 le24 ⟨j, L, rfl, rfl, rfl, rfl, rfl, rfl, rfl, rfl, hj, hown, hsz4, hsep, hrow4, hX4⟩
    have le4 := m02.le.trans le24
    refine ifLt (fun hlt => ⟨⟨by omega, by omega⟩, ?_⟩) (fun hge g22 m22 => ?_)
    · have gj := List.getElem?_eq_getElem (show o4l < l.length by omega)
      generalize l[o4l] = y at gj
      have hin := List.mem_of_getElem? gj
      have hsy := size_mem hin
      refine rdT (hK.mono le4) o4l rfl gj (fun na' nn' nc' ka kn kc hy g5 m5 => ?_)
      -- what follows the copy of a part
      have cont : ∀ (g6 g7 : G) (ya : Option Addr) (yl yc : Nat) (za : Option Addr) (zl zc : Nat), Ex g5 g6 → Stp g6.size nobody g6 g7 →
          sepT g7.w y [.int .i64 y.dat.op, .int .i64 y.dat.n, .string (bstr y.dat.s), .slice ya yl yc, .slice za zl zc] g6.w.heap.size g7.w.heap.size →
          ∀ g8 : G, Ex g7 g8 → ∀ g9 : G, NewL g8 g9 25 [(.int .i64 y.dat.op), (.int .i64 y.dat.n), (.string (bstr y.dat.s)), (.slice ya yl yc), (.slice za zl zc)] →
          ∃ xa_1 : Option Addr, ∃ xl_1 : Nat, ∃ xc_1 : Nat, ∃ wo1 : World, Sem.run Tryd.prog (Builtin.append_ #[23, 23] 23 #[(.slice o4a o4l o4c), (.slice (some ⟨g8.w.heap.size, 0, none⟩) 1 1)]) g9.w = .ok (.slice xa_1 xl_1 xc_1) wo1 ∧ ∃ g10 : G, g10.w = wo1 ∧ Stp g.w.heap.size nobody g9 g10 ∧ InI64 (((o4l : Nat) : Int) + (1 : Int)) ∧ ∀ g11 : G, Ex g10 g11 →
            (∃ m_1 : Nat, m_1 < m ∧ ∃ (j : Nat) (L : List Value), ((o4l : Nat) : Int) + 1 = ((j : Nat) : Int) ∧ d.op = d.op ∧ d.n = d.n ∧ bstr d.s = bstr d.s ∧ o3a = o3a ∧ o3l = o3l ∧ o3c = o3c ∧ xl_1 = j ∧ j + m_1 = n ∧ OwnG g11 g2.w.heap.size 25 5 xa_1 xl_1 xc_1 L ∧ g2.w.heap.size ≤ g11.w.heap.size ∧
              sepL g11.w (fun z => blkOf xa_1 z ∨ g11.X z) (l.take j) L g2.w.heap.size g11.w.heap.size ∧ RowW g11.w o3a o3l o3c 1 (d.names.map fun x => .string (bstr x)) g1.w.heap.size g2.w.heap.size ∧ (∀ z, g1.w.heap.size ≤ z → z < g2.w.heap.size → ¬ g11.X z)) := by
        intro g6 g7 ya yl yc za zl zc m6 s7 hs7 g8 m8 g9 n9
        have m7 : Ex g6 g7 := s7.ex
        have m46 := m5.trans m6
        have m49 := m46.trans (m7.trans (m8.trans n9.ex))
        have z49 := m49.size
        have z46 := m46.size
        have z67 := m7.size
        have z79 := (m8.trans n9.ex).size
        have hlit : Sl g9 5 (some ⟨g8.w.heap.size, 0, none⟩) 1 1 [(.int .i64 y.dat.op), (.int .i64 y.dat.n), (.string (bstr y.dat.s)), (.slice ya yl yc), (.slice za zl zc)] := n9.sl rfl (by unfold maxLen; simp)
        obtain ⟨a', c', w', hr, g10, hw, hs, ho10, hst, hbl⟩ := OwnG.app E23 23 (B := g2.w.heap.size) (by omega) (hown.ex m49) hlit (fun u hu => by simp at hu; rcases hu with rfl | rfl | rfl | rfl | rfl <;> rfl) (by omega) (by unfold maxLen; omega)
        refine ⟨a', _, c', w', hr, g10, hw, hs.mono (by omega) (fun _ _ h => h), i64 (by omega) (by omega), fun g11 m11 => ?_⟩
        have z910 := hst.le.size
        have z1011 := m11.size
        have hX7 : ∀ z, g6.w.heap.size ≤ z → ¬ g7.X z := fun z hz hh => by have := g6.hX z ((s7.x z).1 hh); omega
        -- blocks that are the same from g9 to g11, and the private ones
        have same : ∀ z, z < g9.w.heap.size → ¬ blkOf o4a z → ¬ g9.X z → g11.w.heap[z]? = g9.w.heap[z]? := fun z e1 e2 e3 => (m11.same z (by omega) (fun hh => e3 ((hst.x z).1 hh))).trans (hst.same z e1 e2)
        have priv : ∀ z, z < g9.w.heap.size → ¬ g9.X z → ¬ g11.X z := fun z e1 e3 => m11.x z (by omega) (fun hh => e3 ((hst.x z).1 hh))
        have lt4 : ∀ z, blkOf o4a z → z < g4.w.heap.size := by
          rintro z ⟨ad, rfl, rfl⟩
          rcases hown.row with ⟨hh, _⟩ | ⟨b, cur, hh, _, h3, _⟩
          · cases hh
          · cases hh; exact heap_lt h3
        refine ⟨m - 1, by omega, o4l + 1, _, by omega, rfl, rfl, rfl, rfl, rfl, rfl, rfl, by omega, ho10.ex m11, by omega, ?_, ?_, ?_⟩
        · have e : l.take (o4l + 1) = l.take o4l ++ [y] := by rw [List.take_add_one, gj]; rfl
          rw [e]
          have old : sepL g11.w (fun z => blkOf a' z ∨ g11.X z) (l.take o4l) L g2.w.heap.size g4.w.heap.size := by
            refine sepL_to hsep (Nat.le_refl _) (fun z e1 e2 hz => ?_) (fun z e1 e2 hz => ?_)
            · rcases hz with hz | hz
              · rcases hbl z hz with q | q
                · exact .inl q
                · omega
              · refine .inr (Classical.byContradiction fun hn => ?_)
                exact priv z (by omega) (m49.x z e2 hn) hz
            · have n1 : ¬ blkOf o4a z := fun hh => hz (.inl hh)
              have n2 : ¬ g4.X z := fun hh => hz (.inr hh)
              exact (same z (by omega) n1 (m49.x z e2 n2)).trans (m49.same z e2 n2)
          have hY : sepT g11.w y [.int .i64 y.dat.op, .int .i64 y.dat.n, .string (bstr y.dat.s), .slice ya yl yc, .slice za zl zc] g6.w.heap.size g7.w.heap.size := by
            refine sepT_same y hs7 (fun z e1 e2 => ?_)
            have n1 : ¬ blkOf o4a z := fun hh => by have := lt4 z hh; omega
            have m79 := m8.trans n9.ex
            exact (same z (by omega) n1 (m79.x z e2 (hX7 z e1))).trans (m79.same z e2 (hX7 z e1))
          refine sepL_snoc old hsz4 hY (by omega) (by omega) ?_ (by omega)
          rintro z hz ⟨e1, e2⟩
          rcases hz with hz | hz
          · rcases hbl z hz with q | q
            · have := lt4 z q; omega
            · omega
          · exact priv z (by omega) ((m8.trans n9.ex).x z e2 (hX7 z e1)) hz
        · refine hrow4.same (fun z e1 e2 => ?_)
          have n1 : ¬ blkOf o4a z := by
            rintro ⟨ad, rfl, rfl⟩
            rcases hown.row with ⟨hh, _⟩ | ⟨b, cur, hh, h2, h3, _⟩
            · cases hh
            · cases hh; have e3 : b < g2.w.heap.size := e2; omega
          exact (same z (by omega) n1 (m49.x z (by omega) (hX4 z e1 e2))).trans (m49.same z (by omega) (hX4 z e1 e2))
        · exact fun z e1 e2 => priv z (by omega) (m49.x z (by omega) (hX4 z e1 e2))
      refine ⟨fun g6 m6 => ?_, fun g12 m12 => ?_⟩
      · refine CallsG.mono (ih y hin (hokL y hin) (by omega) (hy.exm (m5.trans m6))) ?_
        rintro v g7 s7 ⟨ya, yl, yc, za, zl, zc, rfl, hs⟩
        exact ⟨_, _, _, _, _, _, _, _, _, rfl, cont g6 g7 ya yl yc za zl zc m6 s7 hs⟩
      · refine CallsG.mono (ih y hin (hokL y hin) (by omega) (hy.exm (m5.trans m12))) ?_
        rintro v g13 s13 ⟨ya, yl, yc, za, zl, zc, rfl, hs⟩
        exact ⟨_, _, _, _, _, _, _, _, _, rfl, rep (cont g12 g13 ya yl yc za zl zc m12 s13 hs) _⟩
    · rw [take_all (by omega)] at hsep
      have own22 := hown.ex m22
      have z22 := m22.size
      refine ⟨_, _, _, _, _, _, rfl, sepT_eq.2 ⟨_, _, _, _, _, _, L, g2.w.heap.size, rfl, by omega, by omega, (hrow4.same (fun z e1 e2 => m22.same z (by omega) (hX4 z e1 e2))).grow (by omega) (Nat.le_refl _), own22.rowW, by show l.length = o4l; omega, ?_⟩⟩
      exact sepL_to hsep z22 (fun z _ _ hz => .inl hz) (fun z e1 e2 hz => m22.same z e2 (fun hh => hz (.inr hh)))
end Go.Proofs.YtmakoecgogjemaaDoor
