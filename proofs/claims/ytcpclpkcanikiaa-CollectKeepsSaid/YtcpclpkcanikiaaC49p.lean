/- The heap: starts. -/
import Derived.Test.YtcpclpkcanikiaaC49o
set_option linter.unusedVariables false
namespace Go.Proofs.Ytcpclpkcanikiaa
open Go Go.Vc Go.RowKit Go.Shelf
attribute [local go_sem] Oper.semAt_some

theorem stsF_len {l : List Wd} : ∀ (f p : Nat) (L : List Int), stsF l f p = some L → L.length ≤ f := by
  intro f
  induction f with
  | zero => intro p L h; cases h; simp
  | succ f ih =>
    intro p L h
    by_cases hp : l.length ≤ p
    · rw [stsF_end hp] at h; cases h; simp
    by_cases hh : hdrP l p
    · rw [stsF_yes (by omega) hh] at h
      cases hr : stsF l f (stepN l p) with
      | none => rw [hr] at h; cases h
      | some R => rw [hr] at h; cases h; have := ih _ _ hr; simp; omega
    · rw [stsF_no (by omega) hh] at h; cases h
theorem sts_len {l : List Wd} {L : List Int} (h : sts l = some L) : L.length ≤ l.length := stsF_len _ _ _ h
theorem wpIn_code {c c' : Code} (e : c = c') {F : Fence} {n : Nat} {P : Program} {Q : Exit → Act → World → Prop} {a : Act} {w : World} (h : c.wpIn F n P Q a w) : c'.wpIn F n P Q a w := e ▸ h
theorem V94.ex {ws : List Wd} {g : G} {a : Option Addr} {ll c : Nat} {fr lim : Int} {done : List Int} {g1 g2 : G} (h : V94 ws g a ll c fr lim done g1) (e : Ex g1 g2) : V94 ws g a ll c fr lim done g2 := by
  obtain ⟨oa, on, oc, h1, h2⟩ := h.out
  exact ⟨h.le.trans e.le, h.r1.ex e, h.r2.ex e, ⟨oa, on, oc, h1.ex e, h2.exm e⟩, h.h0.ex e, h.h1.ex e, h.h2.ex e⟩
/-- The turn of a block that is no cells. -/
theorem I94.turn {ws : List Wd} {g : G} {a : Option Addr} {ll c : Nat} {fr lim : Int} {pre : List (Rnd ws)} {W W' : World} {row : Option Nat} {B : Nat} (h : I94 ws g a ll c fr lim pre W) (hB : g.w.heap.size ≤ B) (hg : W.grownBy W' row) (hr : ∀ r, row = some r → B ≤ r ∧ ∃ o : Obj, W.heap[r]? = some o ∧ o.isCells = false) : I94 ws g a ll c fr lim pre W' := by
  obtain ⟨⟨g', rfl, V⟩, h1, h2, h3⟩ := h
  have keep : ∀ (b : Nat) (o : Obj), g'.w.heap[b]? = some o → o.isCells = true → W'.heap[b]? = some o := by
    intro b o ho hc
    refine (hg.block b (heap_lt ho) (fun e => ?_)).trans ho
    obtain ⟨_, o', ho', hc'⟩ := hr b e.symm
    rw [ho] at ho'
    cases ho'
    rw [hc] at hc'
    cases hc'
  have low : ∀ b, b < g.w.heap.size → W'.heap[b]? = g'.w.heap[b]? := by
    intro b hb
    have hlt := h3.size
    refine hg.block b (by omega) (fun e => ?_)
    have := (hr b e.symm).1
    omega
  have kcell : ∀ p v, g'.w.cell? p = some v → W'.cell? p = some v := by
    intro p v hp
    obtain ⟨o, ho, hc⟩ := cells_of_cell hp
    rw [cell_same (w := g'.w) ((keep _ o ho hc).trans ho.symm)]
    exact hp
  let g2 : G := ⟨W', g'.X, g'.D, fun b hb => Nat.lt_of_lt_of_le (g'.hX b hb) hg.size, fun b i hb => Nat.lt_of_lt_of_le (g'.hD b i hb) hg.size⟩
  have hle : Le g g2 := by
    refine ⟨Nat.le_trans V.le.size hg.size, ?_, ?_⟩
    · intro p v hp
      obtain ⟨q1, q2, q3⟩ := V.le.cell p v hp
      exact ⟨kcell p v q1, q2, q3⟩
    · intro b m n hp
      obtain ⟨q1, q2, q3⟩ := V.le.obj b m n hp
      exact ⟨(low b (heap_lt hp.1)).trans q1, q2, q3⟩
  have hmut : ∀ {b t L}, MutB g' b t L → MutB g2 b t L := fun {b t L} m => ⟨keep _ _ m.blk rfl, m.nx, m.d⟩
  have hliv : ∀ {p v}, Live g' p v → Live g2 p v := fun {p v} m => ⟨kcell p v m.1, m.2.1, m.2.2⟩
  obtain ⟨oa, on, oc, k1, ⟨L, ⟨kl, kr⟩, krw⟩, k3⟩ := V.out
  refine ⟨⟨g2, rfl, ⟨hle, hmut V.r1, hmut V.r2, ⟨oa, on, oc, hmut k1, ⟨L, ⟨kl, ?_⟩, ?_⟩, k3⟩, hliv V.h0, hliv V.h1, hliv V.h2⟩⟩, h1, Nat.le_trans h2 hg.size, h3.grown hg (by have := h3.size; omega) (fun k e => Nat.le_trans hB (hr k e).1)⟩
  · rcases kr with kr | ⟨b, cur, q1, q2, q3, q4⟩
    · exact .inl kr
    · exact .inr ⟨b, cur, q1, q2, keep _ _ q3 rfl, q4⟩
  · obtain ⟨rs, rfl, hrs⟩ := krw.ex
    exact ⟨rs, rfl, hrs.imp fun _ _ hh => hh⟩
theorem X94.turn {ws : List Wd} {g : G} {xs : List (Rnd ws)} {W W' : World} {row : Option Nat} {B : Nat} (h : X94 ws g xs W) (hB : g.w.heap.size ≤ B) (hg : W.grownBy W' row) (hr : ∀ r, row = some r → B ≤ r ∧ ∃ o : Obj, W.heap[r]? = some o ∧ o.isCells = false) : X94 ws g xs W' := by
  obtain ⟨h1, h2, h3, h4⟩ := h
  have keep : ∀ (b : Nat) (o : Obj), W.heap[b]? = some o → o.isCells = true → W'.heap[b]? = some o := by
    intro b o ho hc
    refine (hg.block b (heap_lt ho) (fun e => ?_)).trans ho
    obtain ⟨_, o', ho', hc'⟩ := hr b e.symm
    rw [ho] at ho'
    cases ho'
    rw [hc] at hc'
    cases hc'
  exact ⟨h1, keep _ _ h2 rfl, keep _ _ h3 rfl, h4.grown hg (by have := h4.size; omega) (fun k e => Nat.le_trans hB (hr k e).1)⟩

set_option maxRecDepth 100000 in
set_option maxHeartbeats 2000000 in
/-- starts, within the widest fence. -/
theorem in94 (ws : List Wd) {a : Option Addr} {ll c : Nat} {g : G} (fr lim : Int) (h : SlE wordE g a ll c ws) (hll : ll ≤ 1000000) : CallsIn Fence.wide 7 Try.prog 94 #[hpV a ll c fr lim] g.w fun e W' => 
    ((sts ws = none ∧ e = .returned (.tuple ⟨[.slice none 0 0, .bool false]⟩)) ∨ ∃ L oa on oc, sts ws = some L ∧ e = .returned (.tuple ⟨[.slice oa on oc, .bool true]⟩) ∧ (∃ g', g'.w.heap.size ≤ W'.heap.size ∧ OwnE intE g' (g.w.heap.size + 5) 3 oa on oc L ∧ ∀ b, blkOf oa b → W'.heap[b]? = g'.w.heap[b]?) ∧ on ≤ ws.length) ∧ Below g.w.heap.size g.w W' := by
  have hlen := h.len
  have hle := h.le
  have hcap := h.cap
  unfold maxLen at hcap
  refine callsIn_of_wp_marks Try.func94 rfl trivial ?_ rfl
  unfold hpV
  simp only [Try.ntmps94, List.size_toArray, List.length_cons, List.length_nil, Nat.reduceAdd, Nat.reduceSub, Array.replicate_succ, Array.replicate_zero, List.push_toArray, List.append_toArray, List.nil_append, List.cons_append]
  gi_wp2
  refine ⟨trivial, ?_⟩
  obtain ⟨w4, hw4⟩ : ∃ w4, ((((g.w.alloc (Obj.cells ⟨[Value.slice a ll c, Value.int IntKind.i64 fr, Value.int IntKind.i64 lim]⟩ 24)).alloc (Obj.cells #[Value.slice none 0 0] 55)).alloc (Obj.cells #[Value.bool false] 4)).alloc (Obj.cells #[Value.slice none 0 0] 55)) = w4 := ⟨_, rfl⟩
  have hs4 : w4.heap.size = g.w.heap.size + 4 := by rw [← hw4]; simp
  have b1 : Boxed w4 (g.w.heap.size + 1) 55 (.slice none 0 0) := by
    have := Boxed.new (g.w.alloc (Obj.cells ⟨[Value.slice a ll c, Value.int IntKind.i64 fr, Value.int IntKind.i64 lim]⟩ 24)) 55 (.slice none 0 0)
    rw [World.size_alloc] at this
    rw [← hw4]
    exact (this.alloc _).alloc _
  have b2 : Boxed w4 (g.w.heap.size + 2) 4 (.bool false) := by
    have := Boxed.new ((g.w.alloc (Obj.cells ⟨[Value.slice a ll c, Value.int IntKind.i64 fr, Value.int IntKind.i64 lim]⟩ 24)).alloc (Obj.cells #[Value.slice none 0 0] 55)) 4 (.bool false)
    simp only [World.size_alloc] at this
    rw [← hw4]
    exact this.alloc _
  have b3 : Boxed w4 (g.w.heap.size + 3) 55 (.slice none 0 0) := by
    have := Boxed.new (((g.w.alloc (Obj.cells ⟨[Value.slice a ll c, Value.int IntKind.i64 fr, Value.int IntKind.i64 lim]⟩ 24)).alloc (Obj.cells #[Value.slice none 0 0] 55)).alloc (Obj.cells #[Value.bool false] 4)) 55 (.slice none 0 0)
    simp only [World.size_alloc] at this
    rw [← hw4]
    exact this
  have b0 : w4.heap[g.w.heap.size]? = some (.cells ⟨[Value.slice a ll c, Value.int IntKind.i64 fr, Value.int IntKind.i64 lim]⟩ 24 (0, 0)) := by
    rw [← hw4]
    rw [Below.heap_alloc _ _ _ (by simp; omega), Below.heap_alloc _ _ _ (by simp; omega), Below.heap_alloc _ _ _ (by simp)]
    exact World.alloc_heap_new _ _
  have hB4 : Below g.w.heap.size g.w w4 := by
    rw [← hw4]
    exact ((((Below.refl _ g.w).alloc (Nat.le_refl _) _).alloc (by simp) _).alloc (by simp; omega) _).alloc (by simp; omega) _
  rw [hw4]
  clear hw4
  refine (callsIn_wide.2 (k110 fr lim (G.at0 w4))).mono ?_
  rintro e W5 ⟨v, g5, rfl, rfl, hs5, rfl, hbox⟩
  have hb5 := stp_below hs5
  gi_wp2
  have hn5 : w4.heap.size < g5.w.heap.size := heap_lt hbox
  have hcl : w4.heap.size = (G.at0 w4).w.heap.size := rfl
  obtain ⟨H, hH⟩ : ∃ H : List Value, H = [Value.slice a ll c, Value.int IntKind.i64 fr, Value.int IntKind.i64 lim] := ⟨_, rfl⟩
  have keep5 : ∀ {k : Nat} {o : Obj}, w4.heap[k]? = some o → g5.w.heap[k]? = some o := fun {k o} hk => (hb5.block k (heap_lt hk)).trans hk
  have hbx0 : g5.w.heap[w4.heap.size]? = some (.cells ⟨[Value.slice a ll c, Value.int IntKind.i64 fr, Value.int IntKind.i64 lim]⟩ 24 (0, 0)) := hbox
  have cellbox : ∀ {W : World} {k : Nat}, W.heap[k]? = some (.cells ⟨[Value.slice a ll c, Value.int IntKind.i64 fr, Value.int IntKind.i64 lim]⟩ 24 (0, 0)) → W.cell? ⟨k, 0, none⟩ = some (.slice a ll c) ∧ W.cell? ⟨k, 1, none⟩ = some (.int .i64 fr) ∧ W.cell? ⟨k, 2, none⟩ = some (.int .i64 lim) := by
    intro W k hk
    simp [World.cell?, hk]
  have hB5 : Below g.w.heap.size g.w g5.w := hB4.trans (hb5.mono (by show _ ≤ w4.heap.size; omega))
  have hseq : SeqStopsK Fence.wide 6 Try.prog 125 #[.pointer (some ⟨w4.heap.size, 0, none⟩)] (fun x : Rnd ws => #[Value.int .i64 ((x.1.1 : Nat) : Int), .int .i64 x.1.2]) (KpB g.w.heap.size w4.heap.size)
      (fun xs => (∃ p, Chain ws xs p ∧ ws.length ≤ p) ∨ (∃ pre x, Chain ws pre x.1.1 ∧ ¬ hdr0 ws x.1.1 ∧ xs = pre ++ [x])) (fun xs => ∃ pre x, Chain ws pre x.1.1 ∧ xs = pre ++ [x]) (ll + 1) g5.w := by
    intro l J Jx W hW hJ hJx hY h0
    refine it125 l w4.heap.size fr lim ws h hll J Jx (fun pre W W' hp hg => hJ pre W W' none hp hg (fun r e => by cases e)) hY W (hB5.trans (hW.mono (by have := hB5.size; omega))) ?_ h0
    exact (cellbox ((hW.block _ hn5).trans hbx0)).1
  refine wpIn_rangeFunc_ownF rfl (by omega) (gf := 125) (lb := #[.pointer (some ⟨w4.heap.size, 0, none⟩)]) rfl trivial (enters_of Try.func125 (by kernel_rfl) rfl)
    hseq (fun h k => ⟨h.1.trans k.1, k.2.trans h.2⟩) (fun W l o o' hl ho hc hw => ⟨belowK_b (w := g5.w) (by have := hB5.size; omega) W l o o' hl ho hc hw, World.putObj_heap_other (by omega)⟩) (Below.refl _ _) (fun _ => rfl)
    (I94 ws g a ll c fr lim) (fun cd xs W => cd = .ret ∧ X94 ws g xs W)
    (fun s W W' row hs hg hr => hs.turn (B := g5.w.heap.size) (by have := hB5.size; omega) hg hr)
    (fun cd s W W' row hs hg hr => ⟨hs.1, hs.2.turn (B := g5.w.heap.size) (by have := hB5.size; omega) hg hr⟩) ?h0
    (fun x => { tmps := #[Value.agg ⟨[Value.slice a ll c, Value.int IntKind.i64 fr, Value.int IntKind.i64 lim]⟩, Value.pointer (some ⟨g.w.heap.size, 0, none⟩), Value.pointer (some ⟨g.w.heap.size + 1, 0, none⟩), Value.pointer (some ⟨g.w.heap.size + 1 + 1, 0, none⟩), Value.pointer (some ⟨g.w.heap.size + 1 + 1 + 1, 0, none⟩),
      .int .i64 ((x.1.1 : Nat) : Int), .int .i64 x.1.2, Value.agg #[Value.slice a ll c, Value.int IntKind.i64 fr, Value.int IntKind.i64 lim], .func (.func 125) #[] #[.pointer (some ⟨w4.heap.size, 0, none⟩)], .int .i64 ((x.1.1 : Nat) : Int), .int .i64 x.1.2,
      undef, undef, undef, undef, undef, undef, undef, undef, undef, undef, undef, undef, undef, undef, undef, undef, undef, undef, undef, undef, undef, undef, undef, undef, undef, undef, undef], defers := [] }) ?assign ?body ?done ?stop
  case h0 =>
    have hs5 : g.w.heap.size + 5 ≤ g5.w.heap.size := by omega
    let gI : G := ⟨g5.w, g.X, fun b i => g.D b i ∨ (g.w.heap.size + 1 ≤ b ∧ b ≤ g.w.heap.size + 3), fun b hb => by have := g.hX b hb; omega, fun b i hb => by
      rcases hb with hb | hb
      · have := g.hD b i hb; omega
      · omega⟩
    have nX : ∀ b, g.w.heap.size ≤ b → ¬ g.X b := fun b hb hx => by have := g.hX b hx; omega
    have hle : Le g gI := by
      refine ⟨hB5.size, ?_, ?_⟩
      · rintro p v ⟨q1, q2, q3⟩
        have hlt := cell_lt q1
        refine ⟨(cell_same (hB5.block _ hlt)).trans q1, q2, ?_⟩
        rintro (hd | hd)
        · exact q3 hd
        · omega
      · rintro b m n ⟨q1, q2, q3⟩
        have hlt := heap_lt q1
        refine ⟨(hB5.block _ hlt).trans q1, q2, ?_⟩
        rintro (hd | hd)
        · exact q3 hd
        · omega
    have hbx := keep5 b0
    have cb := cellbox hbx
    have hliv : ∀ j v, g5.w.cell? (Addr.add ⟨g.w.heap.size, 0, none⟩ j) = some v → Live gI (Addr.add ⟨g.w.heap.size, 0, none⟩ j) v := by
      intro j v hv
      refine ⟨hv, ?_, ?_⟩
      · rw [add_block]; exact nX _ (Nat.le_refl _)
      · rw [add_block]
        rintro (hd | hd)
        · have := g.hD _ _ hd; simp at this
        · simp at hd; omega
    refine ⟨⟨gI, rfl, ⟨hle, ⟨keep5 b1, nX _ (by omega), fun i => .inr (by omega)⟩, ⟨keep5 b2, nX _ (by omega), fun i => .inr (by omega)⟩, ⟨none, 0, 0, ⟨keep5 b3, nX _ (by omega), fun i => .inr (by omega)⟩, OwnE.nil _ _ _⟩, ?_, hliv 1 _ cb.2.1, hliv 2 _ cb.2.2⟩⟩, by simp, hs5, hB5⟩
    have := hliv 0 _ (by rw [add_zero_row]; exact cb.1)
    rwa [add_zero_row] at this
  case assign =>
    intro l x W K hK
    gi_wp2
    exact hK
  case body =>
    rintro l pre x W ⟨⟨g', rfl, V⟩, hgood, hsz, hB⟩ hlt
    refine wpIn_code (c := c94b) (by kernel_rfl) ?_
    obtain ⟨oa, on, oc, ho1, ho2⟩ := V.out
    have hF := body94 ws fr lim h hll pre hlt x V hsz (fun b => b = g.w.heap.size + 1 ∨ b = g.w.heap.size + 2 ∨ b = g.w.heap.size + 3 ∨ ∃ oa on oc, g'.w.cell? ⟨g.w.heap.size + 3, 0, none⟩ = some (.slice oa on oc) ∧ blkOf oa b) (fun b => Iff.rfl)
    rw [← F94b_eq] at hF
    refine wpIn_mono (vcR_sound (c := cfg94b) (g0 := g') (n := 38) TTok FNSok mixed l 5 c94b an94b _ g' _ _ _ ?_ hF nd94b) ?_
    · refine ⟨⟨by simp, rfl, fun t v ht => ?_⟩, g', fun _ => 0, rfl, Exx.refl g', fun _ => rfl, Kp.refl g' _, ⟨fun t p o h => (by cases h), fun p cs h => (by cases h), fun p q cs cs' h => (by cases h)⟩⟩
      dsimp only at ht
      simp only [look_cons] at ht
      repeat' split at ht
      all_goals first
        | (subst_vars; cases ht; rfl)
        | (cases ht)
    · have post : ∀ {k : St → G → Prop} {Wr Vr : List Nat} {st : St} {a' : Act} {W' : World}, BehS g' (fun b => b = g.w.heap.size + 1 ∨ b = g.w.heap.size + 2 ∨ b = g.w.heap.size + 3 ∨ ∃ oa on oc, g'.w.cell? ⟨g.w.heap.size + 3, 0, none⟩ = some (.slice oa on oc) ∧ blkOf oa b) 38 Wr Vr st g' k a' W' →
          KeepsOthers g'.w W' ∧ KpB g.w.heap.size w4.heap.size g'.w W' ∧ ∃ st' gN gr, k st' gN ∧ gr.w = W' ∧ Ex gN gr := by
        rintro k Wr Vr st a' W' ⟨st', gN, ⟨_, gr, β, rfl, hex, _, hk, _⟩, _, _, hN⟩
        have hcel : ∀ b, (b = g.w.heap.size + 1 ∨ b = g.w.heap.size + 2 ∨ b = g.w.heap.size + 3 ∨ ∃ oa on oc, g'.w.cell? ⟨g.w.heap.size + 3, 0, none⟩ = some (.slice oa on oc) ∧ blkOf oa b) → g.w.heap.size ≤ b ∧ b ≠ w4.heap.size ∧ ∀ o, g'.w.heap[b]? = some o → o.isCells = true := by
          rintro b (rfl | rfl | rfl | ⟨xa, xn, xc, hcc, hb⟩)
          · exact ⟨by omega, by omega, fun o ho => by rw [V.r1.blk] at ho; cases ho; rfl⟩
          · exact ⟨by omega, by omega, fun o ho => by rw [V.r2.blk] at ho; cases ho; rfl⟩
          · exact ⟨by omega, by omega, fun o ho => by rw [ho1.blk] at ho; cases ho; rfl⟩
          · rw [ho1.rd0 rfl] at hcc
            cases hcc
            have hge := ho2.ge hb
            obtain ⟨L, ⟨_, kr⟩, _⟩ := ho2.ex
            refine ⟨by omega, by omega, fun o ho => ?_⟩
            obtain ⟨ad, rfl, rfl⟩ := hb
            rcases kr with ⟨hc, _⟩ | ⟨b2, cur, q1, q2, q3, _⟩
            · cases hc
            · cases q1
              rw [q3] at ho
              cases ho
              rfl
        refine ⟨⟨hk.le.size, fun b o ho hc => ?_⟩, ⟨⟨hk.os, hk.tape, hk.output, hk.le.size, fun b hb => hk.same b (by show b < g'.w.heap.size; omega) (fun hm => by have := (hcel b hm).1; omega)⟩, hk.same _ (by show w4.heap.size < g'.w.heap.size; omega) (fun hm => (hcel _ hm).2.1 rfl)⟩, st', gN, gr, hN, rfl, hex.1⟩
        exact (hk.same b (heap_lt ho) (fun hm => by rw [(hcel b hm).2.2 o ho] at hc; cases hc)).trans ho
      intro e a' W' hq
      cases e with
      | normal =>
        obtain ⟨h1, h2, _, gN, gr, ⟨hV, hhd⟩, rfl, he⟩ := post hq
        refine ⟨h1, h2, ⟨gr, rfl, hV.ex he⟩, fun y hy => ?_, Nat.le_trans hsz h1.size, hB.trans h2.1⟩
        rcases List.mem_append.1 hy with hy | hy
        · exact hgood y hy
        · cases List.mem_singleton.1 hy; exact hhd
      | ret =>
        obtain ⟨h1, h2, _, gR, gr, ⟨hno, m1, m2⟩, rfl, he⟩ := post hq
        exact ⟨h1, rfl, ⟨pre, x, rfl, hgood, hno⟩, (m1.ex he).blk, (m2.ex he).blk, hB.trans h2.1⟩
      | exit id => obtain ⟨_, _, _, _, _, h'⟩ := hq; exact h'.elim
      | goto l => exact hq.elim
      | panic ch => exact hq.elim
      | outgrown => exact hq.elim
  case done =>
    rintro D xs W hD hch ⟨⟨g', rfl, V⟩, hgood, hsz, hB⟩ hK
    obtain ⟨oa, on, oc, ho1, ho2⟩ := V.out
    have x1 : Boxed g'.w (g.w.heap.size + 1) 55 (.slice none 0 0) := V.r1.blk
    have x2 : Boxed g'.w (g.w.heap.size + 1 + 1) 4 (.bool false) := V.r2.blk
    have x3 : Boxed g'.w (g.w.heap.size + 1 + 1 + 1) 55 (.slice oa on oc) := ho1.blk
    have hc1 := x1.cell
    have hc2 := x2.cell
    have hc3 := x3.cell
    have hf1 := x1.frozen
    have hf2 := x2.frozen
    gi_wp2
    obtain ⟨W5, hW5⟩ : ∃ W5, (g'.w.setCell { block := g.w.heap.size + 1, off := 0 } (Value.slice oa on oc)).setCell { block := g.w.heap.size + 1 + 1, off := 0 } (Value.bool true) = W5 := ⟨_, rfl⟩
    rw [hW5]
    have y1 : Boxed W5 (g.w.heap.size + 1) 55 (.slice oa on oc) := by
      rw [← hW5]
      exact (x1.set _).kept (grownBy_setCell' _ _ _) (by simp)
    have y2 : Boxed W5 (g.w.heap.size + 1 + 1) 4 (.bool true) := by
      rw [← hW5]
      exact (x2.kept (grownBy_setCell' _ _ _) (by simp)).set _
    have hK' : W5.heap[D]? = some (.deferred (some [])) := by
      rw [← hW5]
      exact ((KeepsOthers.setCell _ _ _).trans (KeepsOthers.setCell _ _ _)).same D _ hK rfl
    have hkeep : ∀ b, b < g'.w.heap.size → b ≠ g.w.heap.size + 1 → b ≠ g.w.heap.size + 1 + 1 → W5.heap[b]? = g'.w.heap[b]? := by
      intro b hb n1 n2
      rw [← hW5, Below.heap_setCell _ _ _ _ n2, Below.heap_setCell _ _ _ _ n1]
    have hs5 : g'.w.heap.size ≤ W5.heap.size := by
      rw [← hW5]
      exact ((KeepsOthers.setCell _ _ _).trans (KeepsOthers.setCell _ _ _)).size
    have hB6 : Below g.w.heap.size g.w W5 := by
      rw [← hW5]
      exact (hB.setCell (p := ⟨g.w.heap.size + 1, 0, none⟩) (by simp) _).setCell (p := ⟨g.w.heap.size + 1 + 1, 0, none⟩) (by simp; omega) _
    refine ⟨by simp, .inl ⟨_, _, rfl, run_takeDeferred hK', ?_⟩⟩
    have z1 : (W5.putObj D (.deferred none)).cell? ⟨g.w.heap.size + 1, 0, none⟩ = some (.slice oa on oc) := cell_kept y1.cell (grownBy_putObj' _ D (.deferred none)) (fun r e => by cases e; exact ⟨_, hK', rfl⟩)
    have z2 : (W5.putObj D (.deferred none)).cell? ⟨g.w.heap.size + 1 + 1, 0, none⟩ = some (.bool true) := cell_kept y2.cell (grownBy_putObj' _ D (.deferred none)) (fun r e => by cases e; exact ⟨_, hK', rfl⟩)
    refine ⟨.tuple ⟨[.slice oa on oc, .bool true]⟩, ?_, ?_, hB6.trans (belowK_b (w := g.w) (Nat.le_refl _) _ D _ _ (by have := hB5.size; omega) hK' rfl rfl)⟩
    · simp [results, Try.f94, go_sem, z1, z2]
    have hst : sts ws = some (poss xs) := by
      rcases hch with ⟨p, hc, hp⟩ | ⟨pre, x, hc, hno, rfl⟩
      · exact hc.done hgood hp
      · exact absurd ((hdrP_iff _ _).1 (hgood x (by simp))).1 hno
    have hol := ho2.sl.len
    refine .inr ⟨poss xs, oa, on, oc, hst, rfl, ⟨g', by simp; omega, ho2, fun b hb => ?_⟩, ?_⟩
    · have hge := ho2.ge hb
      have hlt := ho2.lt hb
      refine (World.putObj_heap_other ?_).trans (hkeep b hlt (by omega) (by omega))
      rintro rfl
      obtain ⟨L, ⟨_, kr⟩, _⟩ := ho2.ex
      obtain ⟨ad, rfl, rfl⟩ := hb
      rcases kr with ⟨hc, _⟩ | ⟨b2, cur, q1, q2, q3, _⟩
      · cases hc
      · cases q1
        rw [q3] at hK
        cases hK
    · rw [← hol]
      exact sts_len hst
  case stop =>
    rintro D cd xs W hD hch ⟨rfl, hno, m1, m2, hB⟩ hK
    gi_wp2
    refine ⟨by simp, .inl ⟨_, _, rfl, run_takeDeferred hK, ?_⟩⟩
    have z1 : (W.putObj D (.deferred none)).cell? ⟨g.w.heap.size + 1, 0, none⟩ = some (.slice none 0 0) := cell_kept m1.cell (grownBy_putObj' _ D (.deferred none)) (fun r e => by cases e; exact ⟨_, hK, rfl⟩)
    have z2 : (W.putObj D (.deferred none)).cell? ⟨g.w.heap.size + 1 + 1, 0, none⟩ = some (.bool false) := cell_kept m2.cell (grownBy_putObj' _ D (.deferred none)) (fun r e => by cases e; exact ⟨_, hK, rfl⟩)
    refine ⟨.tuple ⟨[.slice none 0 0, .bool false]⟩, ?_, .inl ⟨?_, rfl⟩, hB.trans (belowK_b (w := g.w) (Nat.le_refl _) _ D _ _ (by have := hB5.size; omega) hK rfl rfl)⟩
    · simp [results, Try.f94, go_sem, z1, z2]
    obtain ⟨pre, x, rfl, hg2, hb2⟩ := hno
    obtain ⟨pre', x', hc, he⟩ := hch
    obtain ⟨rfl, h2⟩ := List.append_inj' he rfl
    cases h2
    exact hc.bad hg2 x.2.1 hb2

/-- heap.starts returns where the blocks begin. -/
theorem k94 : K94 := by
  intro ws a ll c g fr lim h hll
  refine Calls.mono (callsIn_wide.1 (in94 ws fr lim h hll)) ?_
  rintro e W' ⟨hr, hB⟩
  have hsz := hB.size
  let g2 : G := ⟨W', g.X, g.D, fun b hb => Nat.lt_of_lt_of_le (g.hX b hb) hsz, fun b i hb => Nat.lt_of_lt_of_le (g.hD b i hb) hsz⟩
  have hstp : Stp g.size nobody g g2 := by
    refine ⟨⟨hsz, ?_, ?_⟩, fun _ => Iff.rfl, fun b hb => hB.block b (g.hX b hb), hB.os, hB.tape, hB.output, fun b hb _ => hB.block b hb, fun _ _ _ _ => Iff.rfl⟩
    · rintro p v ⟨q1, q2, q3⟩
      exact ⟨(cell_same (hB.block _ (cell_lt q1))).trans q1, q2, q3⟩
    · rintro b m n ⟨q1, q2, q3⟩
      exact ⟨(hB.block _ (heap_lt q1)).trans q1, q2, q3⟩
  rcases hr with ⟨hn, rfl⟩ | ⟨L, oa, on, oc, hL, rfl, ⟨g', hgs, ho, hk⟩, hon⟩
  · exact ⟨_, g2, rfl, rfl, hstp, .inl ⟨hn, rfl⟩⟩
  · refine ⟨_, g2, rfl, rfl, hstp, .inr ⟨L, oa, on, oc, hL, rfl, ?_, hon⟩⟩
    obtain ⟨⟨R, hR, hrw⟩, hl⟩ := ho.sl
    refine ⟨⟨R, ⟨hR.len, hR.le, hR.cap, hR.nil, ?_⟩, ?_⟩, hl⟩
    · rintro ad rfl i v hv
      have hq := (hR.at_ ad rfl i v hv).1
      have hb : blkOf (some ad) (ad.add i).block := ⟨ad, rfl, (add_block _ _).symm⟩
      have hge := ho.ge hb
      refine ⟨(cell_same (hk _ hb)).trans hq, fun hx => ?_, fun hd => ?_⟩
      · have := g.hX _ hx; omega
      · have := g.hD _ _ hd; omega
    · obtain ⟨rs, rfl, hrs⟩ := hrw.ex
      exact ⟨rs, rfl, hrs.imp fun _ _ hh => hh⟩
end Go.Proofs.Ytcpclpkcanikiaa
