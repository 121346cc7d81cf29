/- The collector: CollectData answers true. -/
import Derived.Test.YtcpclpkcanikiaaC50l
import Derived.Test.YtcpclpkcanikiaaC50m
set_option linter.unusedVariables false
namespace Go.Proofs.Ytcpclpkcanikiaa
open Go Go.Vc Go.RowKit

/-- A heap and its collected heap. -/
structure Both (g : G) (l : List Wd) (L O : List Int) (a : Option Addr) (n c : Nat) (fr lim : Int) (b : Option Addr) (m c2 : Nat) : Prop where
  good : GoodW l L
  ord : OrdI l L O.length O
  v1 : validP l fr lim
  v2 : validP (colW l O) ((offN l O : Nat) : Int) lim
  h1 : SlE wordE g a n c l
  h2 : SlE wordE g b m c2 (colW l O)
theorem Both.le {g g' : G} {l : List Wd} {L O : List Int} {a : Option Addr} {n c : Nat} {fr lim : Int} {b : Option Addr} {m c2 : Nat} (h : Both g l L O a n c fr lim b m c2) (k : Le g g') : Both g' l L O a n c fr lim b m c2 := ⟨h.good, h.ord, h.v1, h.v2, h.h1.mono k, h.h2.mono k⟩
theorem col_valid {l : List Wd} {fr lim : Int} {roots : List Wd} {L : List Int} (h : ColOk l fr lim roots L) : validP (colW l (ord l L roots)) ((offN l (ord l L roots) : Nat) : Int) lim := by
  obtain ⟨hs1, hs2, hs3, hs4, hs5⟩ := h.small
  obtain ⟨hI, _⟩ := ord_spec h.good h.wd
  have hoff := off_le h.good hI.nodup hI.sub
  have hlen : (colW l (ord l L roots)).length = offN l (ord l L roots) := allW_len (fun x _ => by simp)
  exact valid_iff.2 ⟨hs3, hs4, by rw [hlen], by omega, _, col_good h.good hI⟩
theorem Both.of {g : G} {l : List Wd} {fr lim : Int} {roots : List Wd} {L : List Int} (h : ColOk l fr lim roots L) {a : Option Addr} {n c : Nat} {b : Option Addr} {m c2 : Nat} (h1 : SlE wordE g a n c l) (h2 : SlE wordE g b m c2 (colW l (Go.Proofs.Ytcpclpkcanikiaa.ord l L roots))) : Both g l L (Go.Proofs.Ytcpclpkcanikiaa.ord l L roots) a n c fr lim b m c2 :=
  ⟨h.good, (ord_spec h.good h.wd).1, h.valid, col_valid h, h1, h2⟩
theorem walk_step (d : Nat) {l : List Wd} {L O : List Int} {a : Option Addr} {n c : Nat} {fr lim : Int} {b : Option Addr} {m c2 : Nat} (ih : ∀ (d' : Nat) (g : G) (w : Wd), d = d' + 1 → Both g l L O a n c fr lim b m c2 → (w.1 = true → w.2 ∈ O) → CallsP Try.prog 45 #[hpV a n c fr lim, hpV b m c2 ((offN l O : Nat) : Int) lim, wdV w, wdV (mv l O w), .int .i64 ((d' : Nat) : Int)] g fun u _ => u = .bool true)
    (hd : d ≤ 1000) (g : G) (w : Wd) (hB : Both g l L O a n c fr lim b m c2) (hw : w.1 = true → w.2 ∈ O) : CallsP Try.prog 45 #[hpV a n c fr lim, hpV b m c2 ((offN l O : Nat) : Int) lim, wdV w, wdV (mv l O w), .int .i64 ((d : Nat) : Int)] g fun u _ => u = .bool true := by
  refine P50.call45 a n c fr lim b m c2 _ lim w.1 w.2 (mv l O w).1 (mv l O w).2 _ g _ ?_
  unfold P50.F45
  intro J hJ
  by_cases h1 : w.1 = true
  rotate_left
  · rw [mv_no h1]
    have e : w.1 = false := by cases h : w.1 with
      | false => rfl
      | true => exact absurd h h1
    rw [e]
    refine ifT (fun _ g15 _ => ?_) (fun hh => by cases hh)
    rw [eqW, tf_of rfl]
  have hin := hw h1
  obtain ⟨w1, x⟩ := w
  cases h1
  rw [mv_ref rfl]
  refine ifT (fun hh => by cases hh) (fun _ => ifT (fun hh => by cases hh) (fun _ g17 m17 => hJ g17 ?_))
  have hB17 := hB.le m17.le
  have hj := idx_get hin
  obtain ⟨c1, c3, c4, c5⟩ := col_at hB.good hB.ord hj
  have hxL := hB.ord.sub x hin
  obtain ⟨hx1, hx2⟩ := L_hdr hB.good hxL
  have hL0 := sts_iff.2 hB.good.1
  have hK0 := sts_iff.2 (col_good hB.good hB.ord).1
  have hoin : ((offN l (O.take (O.idxOf x)) : Nat) : Int) ∈ offs l O O.length := List.mem_of_getElem? (offs_get (List.idxOf_lt_length_of_mem hin))
  refine (k32 l (true, x) hB17.h1 fr lim).mono ?_
  intro u g2 m2 hb
  rcases hb with ⟨hh, _⟩ | ⟨_, L2, hL2, ⟨hh, _⟩ | ⟨q, hq, _, hqh, xa, xc, rfl, hx⟩⟩
  · exact absurd hB.v1 hh
  · rw [hL0] at hL2; cases hL2; exact absurd ⟨rfl, hxL⟩ hh
  have hqx : q = x.toNat := by
    have := congrArg Prod.snd hq
    simp only at this
    omega
  subst hqx
  have l1 := contW_len hqh
  generalize (l.getD (x.toNat + 2) zW).2.toNat = n1 at hx l1 ⊢
  refine ⟨_, _, _, _, _, _, rfl, (k32 (colW l O) (true, ((offN l (O.take (O.idxOf x)) : Nat) : Int)) (hB17.le m2.le).h2 _ lim).mono ?_⟩
  intro u g3 m3 hb
  rcases hb with ⟨hh, _⟩ | ⟨_, L2, hL2, ⟨hh, _⟩ | ⟨q2, hq2, _, hq2h, ya, yc, rfl, hy⟩⟩
  · exact absurd hB.v2 hh
  · rw [hK0] at hL2; cases hL2; exact absurd ⟨rfl, hoin⟩ hh
  have hq2x : q2 = offN l (O.take (O.idxOf x)) := by
    have := congrArg Prod.snd hq2
    simp only at this
    omega
  subst hq2x
  have l2 := contW_len hq2h
  rw [c3, List.length_map] at l2
  rw [c3] at hy
  have hcn : cn l x = contW l x.toNat := rfl
  rw [hcn] at l2 hy
  generalize ((colW l O).getD (offN l (O.take (O.idxOf x)) + 2) zW).2.toNat = n2 at hy l2 ⊢
  rw [c4, c5]
  subst l1
  subst l2
  have hxl := hx.len
  refine ⟨_, _, _, _, _, _, rfl, ?_⟩
  intro J1 hJ1
  have hcap := hx.cap
  have hle := hx.le
  have hsmall : (contW l x.toNat).length ≤ l.length := by
    have := (hdr_lt hqh).2.2
    have hlc := contW_len hqh
    unfold stepN at this
    omega
  have hl6 : l.length ≤ 65536 := by
    obtain ⟨_, v2, v3, v4, _⟩ := hB.v1
    omega
  refine ifNe (fun hh => absurd rfl hh) (fun _ => ifNe (fun hh => absurd rfl hh) (fun _ => ifNe (fun hh => absurd rfl hh) (fun _ => ifNe (fun hh => absurd rfl hh) (fun _ => ifNe (fun hh => absurd rfl hh) (fun _ => hJ1 g3 ?_)))))
  refine ⟨fun mm v g' => ∃ j : Nat, v = ((j : Nat) : Int) ∧ j + mm = (contW l x.toNat).length, ⟨(contW l x.toNat).length, 0, rfl, by omega⟩, ?_⟩
  rintro mm v g5 le5 ⟨j, rfl, hjm⟩
  refine ifLt (fun hlt g6 m6 => ?_) (fun hge g9 _ => rfl)
  have hjl : j < (contW l x.toNat).length := by omega
  have gj := List.getElem?_eq_getElem hjl
  generalize (contW l x.toNat)[j] = z at gj
  have gj2 : ((contW l x.toNat).map (mv l O))[j]? = some (mv l O z) := by rw [List.getElem?_map, gj]; rfl
  refine ifLt (fun h0 => ?_) (fun _ => ⟨i64 (by omega) (by omega), mm - 1, by omega, j + 1, by omega, by omega⟩)
  have le36 : Le g3 g6 := le5.trans m6.le
  refine ⟨⟨by omega, by omega⟩, ((hx.exm m3).mono le36).rd (i := j) gj ?_⟩
  rintro r ad rfl hr
  have r0 := (hr 0 _ rfl).1
  rw [Addr.add_zero'] at r0
  refine ⟨z.1, z.2, by rw [Int.toNat_natCast]; exact r0, by rw [Int.toNat_natCast]; exact (hr 1 _ rfl).1, ⟨by omega, by omega⟩, (hy.mono le36).rd (i := j) gj2 ?_⟩
  rintro r2 ad2 rfl hr2
  have r20 := (hr2 0 _ rfl).1
  rw [Addr.add_zero'] at r20
  obtain ⟨d', rfl⟩ : ∃ d', d = d' + 1 := ⟨d - 1, by omega⟩
  have ed : ((d' + 1 : Nat) : Int) - 1 = ((d' : Nat) : Int) := by omega
  refine ⟨(mv l O z).1, (mv l O z).2, by rw [Int.toNat_natCast]; exact r20, by rw [Int.toNat_natCast]; exact (hr2 1 _ rfl).1, i64 (by omega) (by omega), ?_⟩
  rw [ed]
  refine (ih d' g6 z rfl ((hB17.le m2.le).le (m3.le.trans le36)) (closed hB.ord hin z (List.mem_of_getElem? gj))).mono ?_
  rintro u g7 m7 rfl
  exact ⟨_, rfl, ifT (fun hh => by cases hh) (fun _ => ⟨i64 (by omega) (by omega), mm - 1, by omega, j + 1, by omega, by omega⟩)⟩
theorem k45 {l : List Wd} {L O : List Int} {a : Option Addr} {n c : Nat} {fr lim : Int} {b : Option Addr} {m c2 : Nat} : ∀ (d : Nat) (hd : d ≤ 1000) (g : G) (w : Wd), Both g l L O a n c fr lim b m c2 → (w.1 = true → w.2 ∈ O) → CallsP Try.prog 45 #[hpV a n c fr lim, hpV b m c2 ((offN l O : Nat) : Int) lim, wdV w, wdV (mv l O w), .int .i64 ((d : Nat) : Int)] g fun u _ => u = .bool true := by
  intro d
  induction d with
  | zero => exact fun hd g w => walk_step 0 (fun d' g w h => by cases h) hd g w
  | succ d ih =>
    intro hd g w
    refine walk_step (d + 1) (fun d' g w h hB => ?_) hd g w
    cases h
    exact ih (by omega) g w hB
end Go.Proofs.Ytcpclpkcanikiaa
