/- The store: Put, Delete, and the reference's Write and Entries. -/
import Derived.Test.YtlofbfbcnlgmaaaC53g
set_option linter.unusedVariables false
namespace Go.Proofs.Ytlofbfbcnlgmaaa
open Go Go.Vc Go.RowKit

theorem IsSR.ex {v : Value} {g g' : G} {s : SR} (h : IsSR v g s) (m : Ex g g') : IsSR v g' s := by
  obtain ⟨a, l, c, h1, h2⟩ := h
  exact ⟨a, l, c, h1, h2.ex m⟩
theorem IsSR.zero (g : G) (e : Int) : IsSR (resV none 0 0 0 0 e) g ⟨[], 0, 0, e⟩ := ⟨none, 0, 0, rfl, Sl.zero _ _⟩

noncomputable def putR (b : List UInt8) (d a : Int) (k data : List UInt8) : SR :=
  if tf (okS b.length d a) = false then ⟨[], 0, 0, 1⟩ else if tf (okK k.length) = false then ⟨[], 0, 0, 2⟩ else if 1048576 < data.length then ⟨[], 0, 0, 5⟩ else writeR b (endR b) d a (recB 1 k data)
noncomputable def delR (b : List UInt8) (d a : Int) (k : List UInt8) : SR :=
  if tf (okS b.length d a) = false then ⟨[], 0, 0, 1⟩ else if tf (okK k.length) = false then ⟨[], 0, 0, 2⟩ else if mpF (recsL b) k = none then ⟨[], 0, 0, 8⟩ else writeR b (endR b) d a (recB 2 k [])

theorem k12 (b k data : List UInt8) {a : Option Addr} {n c : Nat} {da : Option Addr} {dl dc : Nat} {g : G} (h : SlB g a n c b) (hd : SlB g da dl dc data) (d af : Int) :
    CallsP Try.prog 12 #[stV a n c d af, .string (bstr k), .slice da dl dc] g fun v g' => IsSR v g' (putR b d af k data) := by
  refine call12 a n c d af (bstr k) da dl dc g _ ?_
  have hlb := SlB.length h
  have hld := SlB.length hd
  unfold F12
  refine fun g1 m1 => (k24 a n c d af g1).mono ?_
  rintro v g2 m2 rfl
  refine ⟨_, rfl, ifPn (fun hs g3 m3 => ?_) (fun hs => ?_)⟩
  · unfold putR
    rw [if_pos (by rw [hlb]; exact tf_no hs)]
    exact IsSR.zero _ _
  refine (k43 (bstr k) g2).mono ?_
  rintro v g4 m4 rfl
  rw [bstr_size]
  have e1 : ¬ tf (okS b.length d af) = false := by rw [hlb, tf_of hs]; simp
  refine ⟨_, rfl, ifPn (fun hk g5 m5 => ?_) (fun hk => ifLt (fun hbig g6 m6 => ?_) (fun hsm => ?_))⟩
  · unfold putR
    rw [if_neg e1, if_pos (tf_no hk)]
    exact IsSR.zero _ _
  · unfold putR
    rw [if_neg e1, if_neg (by rw [tf_of hk]; simp), if_pos (by omega)]
    exact IsSR.zero _ _
  have e2 : putR b d af k data = writeR b (endR b) d af (recB 1 k data) := by
    unfold putR
    rw [if_neg e1, if_neg (by rw [tf_of hk]; simp), if_neg (by omega)]
  rw [e2]
  unfold okS at hs
  unfold okK at hk
  have hend := endR_le b
  refine (k44 b (((h.ex m1).ex m2).ex m4) d af (by omega)).mono ?_
  rintro v g7 m7 ⟨mb, mk, rfl, hmp⟩
  refine ⟨_, _, rfl, fun g8 m8 => ?_⟩
  have hd8 := ((((hd.ex m1).ex m2).ex m4).ex m7).ex m8
  have hb8 := ((((h.ex m1).ex m2).ex m4).ex m7).ex m8
  refine (k46 1 (by omega) k data hd8 (by omega) (by omega)).mono ?_
  rintro v g9 m9 ⟨ra, rc, rfl, hrec⟩
  refine ⟨_, _, _, rfl, ?_⟩
  refine (k45 b (recB 1 k data) (hb8.ex m9) hrec.sl d af (endR b) (by omega) (by omega) (by omega) (by omega) (by omega)).mono ?_
  rintro v g10 m10 ⟨xa, xl, xc, rfl, hx⟩
  exact ⟨_, _, _, _, _, _, rfl, fun g11 m11 => ⟨xa, xl, xc, rfl, hx.ex m11⟩⟩

theorem zero22 (w : World) : (zeroValue 22).run Try.prog w = .ok (.slice none 0 0) w := by kernel_rfl

theorem k13 (b k : List UInt8) {a : Option Addr} {n c : Nat} {g : G} (h : SlB g a n c b) (d af : Int) :
    CallsP Try.prog 13 #[stV a n c d af, .string (bstr k)] g fun v g' => IsSR v g' (delR b d af k) := by
  refine call13 a n c d af (bstr k) g _ ?_
  have hlb := SlB.length h
  unfold F13
  refine fun g1 m1 => (k24 a n c d af g1).mono ?_
  rintro v g2 m2 rfl
  refine ⟨_, rfl, ifPn (fun hs g3 m3 => ?_) (fun hs => ?_)⟩
  · unfold delR
    rw [if_pos (by rw [hlb]; exact tf_no hs)]
    exact IsSR.zero _ _
  refine (k43 (bstr k) g2).mono ?_
  rintro v g4 m4 rfl
  rw [bstr_size]
  have e1 : ¬ tf (okS b.length d af) = false := by rw [hlb, tf_of hs]; simp
  refine ⟨_, rfl, ifPn (fun hk g5 m5 => ?_) (fun hk => ?_)⟩
  · unfold delR
    rw [if_neg e1, if_pos (tf_no hk)]
    exact IsSR.zero _ _
  have e2 : delR b d af k = if mpF (recsL b) k = none then ⟨[], 0, 0, 8⟩ else writeR b (endR b) d af (recB 2 k []) := by
    unfold delR
    rw [if_neg e1, if_neg (by rw [tf_of hk]; simp)]
  rw [e2]
  unfold okS at hs
  unfold okK at hk
  have hend := endR_le b
  refine (k44 b (((h.ex m1).ex m2).ex m4) d af (by omega)).mono ?_
  rintro v g7 m7 ⟨mb, mk, rfl, fv, hmp, hfv⟩
  have hrun := hmp.lookOk Try.underlying9 Try.underlying79 (zero22 _) k (by unfold maxLen; omega)
  refine ⟨_, _, rfl, ?_⟩
  cases hf : mpF (recsL b) k with
  | none =>
    rw [(hfv k).1 hf] at hrun
    refine ⟨_, _, _, _, _, hrun, g7, rfl, Stp.refl _ _ _, ifF (fun _ g8 m8 => ?_) (fun hh => by cases hh)⟩
    rw [if_pos rfl]
    exact IsSR.zero _ _
  | some dd =>
    obtain ⟨xa, xl, xc, e3, _⟩ := (hfv k).2 dd hf
    rw [e3] at hrun
    refine ⟨_, _, _, _, _, hrun, g7, rfl, Stp.refl _ _ _, ifF (fun hh => by cases hh) (fun _ g9 m9 => ?_)⟩
    rw [if_neg (by simp)]
    have hb9 := ((((h.ex m1).ex m2).ex m4).ex m7).ex m9
    refine (k46 2 (by omega) k [] (Sl.zero g9 1) (by omega) (by omega)).mono ?_
    rintro v g10 m10 ⟨ra, rc, rfl, hrec⟩
    refine ⟨_, _, _, rfl, ?_⟩
    refine (k45 b (recB 2 k []) (hb9.ex m10) hrec.sl d af (endR b) (by omega) (by omega) (by omega) (by omega) (by omega)).mono ?_
    rintro v g11 m11 ⟨xa, xl, xc, rfl, hx⟩
    exact ⟨_, _, _, _, _, _, rfl, fun g12 m12 => ⟨xa, xl, xc, rfl, hx.ex m12⟩⟩

/-- The reference's Write. -/
theorem k17 (b r : List UInt8) {a : Option Addr} {n c : Nat} {ra : Option Addr} {rl rc : Nat} {g : G} (h : SlB g a n c b) (hr : SlB g ra rl rc r) (d af : Int) (hn : n ≤ 1048576) (hrl : rl ≤ 1148676) (ha : -1 ≤ af ∧ af ≤ 1048576) (hd : 0 ≤ d ∧ d ≤ n) :
    CallsP Try.prog 17 #[stV a n c d af, .slice ra rl rc] g fun v g' => IsSR v g' (writeR b (endR b) d af r) := by
  refine call17 a n c d af ra rl rc g _ ?_
  have hlb := SlB.length h
  have hlr := SlB.length hr
  have hle := h.le
  have hend := endR_le b
  unfold F17
  refine fun g1 m1 => (k29 b (h.ex m1) (by omega)).mono ?_
  rintro v g2 m2 rfl
  generalize hk : endR b = k at *
  refine ⟨_, rfl, i64 (by omega) (by omega), ifLt (fun hbig g3 m3 => ?_) (fun hsm J hJ g13 m13 => ⟨⟨by omega, by omega⟩, ?_⟩)⟩
  · unfold writeR; rw [if_pos (by omega)]; exact IsSR.zero _ _
  have main : ∀ (xa : Option Addr) (xc : Nat) (g4 : G), g.size ≤ g4.w.heap.size → OwnB g4 g.size 5 xa k xc (b.take k) → SlB g4 ra rl rc r → J xa k xc (minI d k) af g4 := by
    intro xa xc g4 hsz4 ho4 hr4
    refine hJ _ _ _ _ _ _ ?_
    refine ⟨fun m i x0a x0l x0c x1 x2 oa ol oc o1 o2 g8 => ∃ j : Nat, i = ((j : Nat) : Int) ∧ j + m = rl ∧ ol = k + j ∧ o1 = minI d k ∧ o2 = aft af j ∧ OwnB g8 g.size 5 oa (k + j) oc (b.take k ++ r.take j) ∧ (af < 0 ∨ (j : Int) ≤ af) ∧ g.size ≤ g8.w.heap.size,
      ⟨rl, 0, rfl, by omega, rfl, rfl, ?_, by simpa using ho4, by omega, hsz4⟩, ?_⟩
    · unfold aft; split <;> omega
    rintro m i x0a x0l x0c x1 x2 oa ol oc o1 o2 g5 le5 ⟨j, rfl, hjm, rfl, rfl, rfl, ho5, haj, hsz5⟩
    have hr5 := hr4.mono le5
    have haft : -1 ≤ aft af j ∧ aft af j ≤ 1048576 := by
      unfold aft
      split <;> omega
    have crash : aft af j = 0 → j ≤ rl → ∀ g6, Ex g5 g6 → IsSR (.tuple ⟨[.agg ⟨[.slice oa (k + j) oc, .int .i64 (minI d k), .int .i64 (aft af j)]⟩, .int .i64 30]⟩) g6 (writeR b k d af r) := by
      intro h0 hj g6 m6
      have hj : af = j := by unfold aft at h0; split at h0 <;> omega
      have ew : writeR b k d af r = ⟨b.take k ++ r.take j, minI d k, aft af j, 30⟩ := by
        unfold writeR
        rw [if_neg (by omega), if_neg (by omega), if_pos (by omega), h0, show af.toNat = j by omega]
      rw [ew]
      exact ⟨oa, k + j, oc, rfl, (ho5.ex m6).sl⟩
    refine ifLt (fun hlt => ifEq (fun h0 => crash h0 (by omega)) (fun h0 g7 m7 => ⟨⟨by omega, by omega⟩, SlB.rdN (hr5.ex m7) j rfl (by omega) (fun g8 n8 => ?_)⟩)) (fun hge => ifEq (fun h0 => crash h0 (by omega)) (fun h0 g12 m12 => ?_))
    · have hs8 : SlB g8 (some ⟨g7.w.heap.size, 0, none⟩) 1 1 [r.getD j 0] := n8.sl (m := 1) (n := 1) rfl (by unfold maxLen; omega)
      obtain ⟨xa', xc', w1, hrun, g9, hw, hst, ho9, _, _⟩ := OwnB.app E22 22 (Nat.le_trans hsz5 (Nat.le_trans m7.size n8.ex.size)) ((ho5.ex m7).ex n8.ex) hs8 (by omega) (by unfold maxLen; omega)
      obtain ⟨e1, e2⟩ := aft_succ af j ha.1 h0 haj
      refine ⟨xa', _, xc', w1, hrun, g9, hw, hst, i64 (by omega) (by omega), i64 (by omega) (by omega), fun g10 m10 => ⟨m - 1, by omega, j + 1, by omega, by omega, rfl, rfl, ?_, ?_, e2, Nat.le_trans (Nat.le_trans hsz5 (Nat.le_trans m7.size n8.ex.size)) (Nat.le_trans hst.le.size m10.size)⟩⟩
      · rw [← e1]
        unfold aft maxI at *
        split <;> split <;> split at h0 <;> omega
      · rw [take_snoc r j (by omega), ← List.append_assoc]
        exact ho9.ex m10
    · have hj : j = rl := by omega
      subst hj
      have et : r.take j = r := List.take_of_length_le (by omega)
      have ew : writeR b k d af r = ⟨b.take k ++ r, ((k + j : Nat) : Int), aft af j, 0⟩ := by
        unfold aft at h0
        unfold writeR aft
        rw [if_neg (by omega), hlr]
        by_cases h9 : af < 0
        · rw [if_pos h9, if_pos h9]
        · rw [if_neg h9] at h0
          rw [if_neg h9, if_neg h9, if_neg (by omega)]
      rw [et] at ho5
      rw [ew]
      exact ⟨oa, k + j, oc, rfl, (ho5.ex m12).sl⟩
  have h13 := ((h.ex m1).ex m2).ex m13
  have hr13 := ((hr.ex m1).ex m2).ex m13
  have hs13 : g.size ≤ g13.w.heap.size := Nat.le_trans (Nat.le_trans m1.size m2.size) m13.size
  have step : ∀ {gx gy gz : G}, Ex g13 gx → NewL gx gy 5 [] → Ex gy gz → ∃ xa xc w2, Sem.run Try.prog (Builtin.append_ #[22, 22] 22 #[(.slice (some ⟨gx.w.heap.size, 0, none⟩) 0 0), (.slice (slAddr a c 0 1) (k - 0) (c - 0))]) gz.w = .ok (.slice xa k xc) w2 ∧ ∃ g17, g17.w = w2 ∧ Stp g.w.heap.size nobody gz g17 ∧ SameB g13 g17 ∧ ∀ g18, Ex g17 g18 → J xa k xc (minI d k) af g18 := by
    intro gx gy gz hx ny hz
    have oy : OwnB gy gx.size 5 (some ⟨gx.w.heap.size, 0, none⟩) 0 0 [] := OwnG.lit (m := 1) ny (n := 0) (Nat.le_refl _) rfl (by unfold maxLen; omega)
    have hsx : g.size ≤ gx.size := Nat.le_trans hs13 hx.size
    have hsz : gx.size ≤ gz.w.heap.size := Nat.le_trans ny.ex.size hz.size
    obtain ⟨xa, xc, w2, hrun, g17, hw, hst, ho, hst2, _⟩ := OwnB.app E22 22 (B := gx.size) hsz (oy.ex hz) (SlB.take (((h13.ex hx).ex ny.ex).ex hz) (hi := k) (by omega)) (by omega) (by unfold maxLen; omega)
    rw [Nat.sub_zero, Nat.zero_add] at hrun ho
    refine ⟨xa, xc, w2, by rw [Nat.sub_zero]; exact hrun, g17, hw, hst.mono hsx (fun _ _ h => h.elim), ?_, fun g18 m18 => main xa xc g18 (Nat.le_trans hsx (Nat.le_trans hsz (Nat.le_trans hst.le.size m18.size))) ((ho.base hsx).ex m18) ((((hr13.ex hx).ex ny.ex).ex hz).mono (hst.le.trans m18.le))⟩
    intro x hx13 hxn
    have e := (hx.trans ny.ex).trans hz
    rw [hst.same x (Nat.lt_of_lt_of_le hx13 hx.size) (fun h => h), e.same x hx13 hxn]
  rw [Int.toNat_natCast]
  refine ⟨fun g14 n14 => ⟨?_, fun g19 m19 => ?_⟩, fun g22 m22 g23 n23 => ?_⟩
  · obtain ⟨xa, xc, w2, hrun, g15, hw, hst, hsb, hJ2⟩ := step (Ex.refl _) n14 (Ex.refl _)
    exact ⟨xa, k, xc, w2, hrun, g15, hw, hst, hsb, fun g16 m16 => hJ2 _ m16, fun g17 m17 g18 m18 => hJ2 _ (m17.trans m18)⟩
  · obtain ⟨xa, xc, w2, hrun, g15, hw, hst, hsb, hJ2⟩ := step (Ex.refl _) n14 m19
    exact ⟨xa, k, xc, w2, hrun, g15, hw, hst, hsb, hJ2⟩
  · obtain ⟨xa, xc, w2, hrun, g15, hw, hst, hsb, hJ2⟩ := step m22 n23 (Ex.refl _)
    exact ⟨xa, k, xc, w2, hrun, g15, hw, hst, hsb, hJ2⟩
end Go.Proofs.Ytlofbfbcnlgmaaa
