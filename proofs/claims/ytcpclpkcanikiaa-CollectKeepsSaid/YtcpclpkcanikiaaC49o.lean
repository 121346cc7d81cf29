/- The heap: one round of the loop of starts. -/
import Derived.Test.YtcpclpkcanikiaaC49M
import Derived.Test.YtcpclpkcanikiaaFb49
set_option linter.unusedVariables false
namespace Go.Proofs.Ytcpclpkcanikiaa
open Go Go.Vc Go.RowKit Go.Shelf

theorem k110 {a : Option Addr} {ll c : Nat} (fr lim : Int) (g : G) : CallsP Try.prog 110 #[hpV a ll c fr lim] g fun v g' => v = .func (.func 125) #[] #[.pointer (some ⟨g.w.heap.size, 0, none⟩)] ∧ g'.w.heap[g.w.heap.size]? = some (.cells ⟨[.slice a ll c, .int .i64 fr, .int .i64 lim]⟩ 24 (0, 0)) := by
  refine call110 a ll c fr lim g _ ?_
  unfold F110
  intro g1 n1 g2 m2
  exact ⟨rfl, (m2.same _ (heap_lt n1.blk) n1.nx).trans n1.blk⟩

/-- contents, of the head of a block. -/
theorem k80h (l : List Wd) {a : Option Addr} {ll c : Nat} {g : G} (h : SlE wordE g a ll c l) (hll : ll ≤ 1000000) (fr lim : Int) (p : Nat) (hp : hdr0 l p) :
    CallsP Try.prog 80 #[hpV a ll c fr lim, .int .i64 ((p : Nat) : Int)] g fun v g' => ∃ xa xc, v = .slice xa (l.getD (p + 2) zW).2.toNat xc ∧ SlE wordE g' xa (l.getD (p + 2) zW).2.toNat xc (contW l p) := by
  refine call80 a ll c fr lim ((p : Nat) : Int) g _ ?_
  have hl := h.len
  have hle := h.le
  have hp1 := hp.1
  have hp5 := hp.2.2.2.2.1
  have hp6 := hp.2.2.2.2.2
  unfold F80
  refine fun g1 m1 => ⟨i64 (by omega) (by omega), i64 (by omega) (by omega), i64 (by omega) (by omega), ⟨by omega, by omega⟩, ?_⟩
  refine rd1 (h.exm m1) (i := ((p : Nat) : Int) + 2) (p + 2) (by omega) (by omega) ?_
  intro ad hc
  obtain ⟨n, hnn⟩ : ∃ n : Nat, (l.getD (p + 2) zW).2 = n := ⟨(l.getD (p + 2) zW).2.toNat, by omega⟩
  unfold contW
  rw [hnn] at hc hp5 hp6 ⊢
  rw [Int.toNat_natCast] at hp6 ⊢
  have e3 : Int.toNat (((p : Nat) : Int) + 3) = p + 3 := by omega
  have e4 : Int.toNat (((p : Nat) : Int) + 3 + (n : Nat)) = p + 3 + n := by omega
  have en : (p + 3 + n) - (p + 3) = n := by omega
  refine ⟨_, hc, i64 (by omega) (by omega), ⟨by omega, by omega⟩, ⟨by omega, by omega⟩, fun g2 m2 => ?_⟩
  rw [e3, e4]
  have hsub := ((h.exm m1).exm m2).sub (lo := p + 3) (hi := p + 3 + n) (by omega) (by omega)
  rw [en] at hsub ⊢
  exact ⟨_, _, rfl, hsub⟩

def poss {ws : List Wd} (pre : List (Rnd ws)) : List Int := pre.map fun x => ((x.1.1 : Nat) : Int)
/-- The variables between two rounds. -/
structure V94 (ws : List Wd) (g : G) (a : Option Addr) (ll c : Nat) (fr lim : Int) (done : List Int) (g' : G) : Prop where
  le : Le g g'
  r1 : MutB g' (g.w.heap.size + 1) 55 [.slice none 0 0]
  r2 : MutB g' (g.w.heap.size + 2) 4 [.bool false]
  out : ∃ oa on oc, MutB g' (g.w.heap.size + 3) 55 [.slice oa on oc] ∧ OwnE intE g' (g.w.heap.size + 5) 3 oa on oc done
  h0 : Live g' ⟨g.w.heap.size, 0, none⟩ (.slice a ll c)
  h1 : Live g' (Addr.add ⟨g.w.heap.size, 0, none⟩ 1) (.int .i64 fr)
  h2 : Live g' (Addr.add ⟨g.w.heap.size, 0, none⟩ 2) (.int .i64 lim)
def I94 (ws : List Wd) (g : G) (a : Option Addr) (ll c : Nat) (fr lim : Int) (pre : List (Rnd ws)) (W : World) : Prop :=
  (∃ g', g'.w = W ∧ V94 ws g a ll c fr lim (poss pre) g') ∧ (∀ x ∈ pre, hdrP ws x.1.1) ∧ g.w.heap.size + 5 ≤ W.heap.size ∧ Below g.w.heap.size g.w W
/-- A round has found that the words are no right blocks. -/
def X94 (ws : List Wd) (g : G) (xs : List (Rnd ws)) (W : World) : Prop :=
  (∃ pre x, xs = pre ++ [x] ∧ (∀ y ∈ pre, hdrP ws y.1.1) ∧ ¬ hdrP ws x.1.1) ∧ Boxed W (g.w.heap.size + 1) 55 (.slice none 0 0) ∧ Boxed W (g.w.heap.size + 2) 4 (.bool false) ∧ Below g.w.heap.size g.w W

/-- What a round does. -/
theorem body94 (ws : List Wd) {a : Option Addr} {ll c : Nat} {g : G} (fr lim : Int) (h : SlE wordE g a ll c ws) (hll : ll ≤ 1000000) (pre : List (Rnd ws)) (hpre : pre.length < ll + 1) (x : Rnd ws) {g' : G} (V : V94 ws g a ll c fr lim (poss pre) g') (hsz : g.w.heap.size + 5 ≤ g'.w.heap.size) (M : Nat → Prop)
    (hM : ∀ b, M b ↔ (b = g.w.heap.size + 1 ∨ b = g.w.heap.size + 2 ∨ b = g.w.heap.size + 3 ∨ ∃ oa on oc, g'.w.cell? ⟨g.w.heap.size + 3, 0, none⟩ = some (.slice oa on oc) ∧ blkOf oa b)) :
    F94b g.w.heap.size (g.w.heap.size + 1) (g.w.heap.size + 2) (g.w.heap.size + 3) ((x.1.1 : Nat) : Int) x.1.2 g' M
      (fun gN => V94 ws g a ll c fr lim (poss (pre ++ [x])) gN ∧ hdrP ws x.1.1)
      (fun gR => ¬ hdrP ws x.1.1 ∧ MutB gR (g.w.heap.size + 1) 55 [.slice none 0 0] ∧ MutB gR (g.w.heap.size + 2) 4 [.bool false]) := by
  obtain ⟨le, r1, r2, ⟨oa, on, oc, r3, ho⟩, h0, h1, h2⟩ := V
  have hlen := h.len
  have hle := h.le
  have hx1 := x.2.1
  obtain ⟨q, hq⟩ : ∃ q, x.1.1 = q := ⟨_, rfl⟩
  have hM1 : M (g.w.heap.size + 1) := (hM _).2 (.inl rfl)
  have hM2 : M (g.w.heap.size + 2) := (hM _).2 (.inr (.inl rfl))
  have hM3 : M (g.w.heap.size + 3) := (hM _).2 (.inr (.inr (.inl rfl)))
  have hMb : ∀ b, blkOf oa b → M b := fun b hb => (hM b).2 (.inr (.inr (.inr ⟨oa, on, oc, r3.rd0 rfl, hb⟩)))
  -- two stores and out
  have stop : ∀ (gx : G), MutB gx (g.w.heap.size + 1) 55 [.slice none 0 0] → MutB gx (g.w.heap.size + 2) 4 [.bool false] → ¬ hdrP ws x.1.1 →
      (stOk gx.w ⟨g.w.heap.size + 1, 0, none⟩ 1 ∧ ¬ gx.X (Addr.block ⟨g.w.heap.size + 1, 0, none⟩) ∧ mutAt gx ⟨g.w.heap.size + 1, 0, none⟩ 1 ∧ ((Addr.block ⟨g.w.heap.size + 1, 0, none⟩) < g'.w.heap.size → M (Addr.block ⟨g.w.heap.size + 1, 0, none⟩)) ∧ ∀ g2 : G, StG false gx ⟨g.w.heap.size + 1, 0, none⟩ [(.slice none 0 0)] g2 →
      stOk g2.w ⟨g.w.heap.size + 2, 0, none⟩ 1 ∧ ¬ g2.X (Addr.block ⟨g.w.heap.size + 2, 0, none⟩) ∧ mutAt g2 ⟨g.w.heap.size + 2, 0, none⟩ 1 ∧ ((Addr.block ⟨g.w.heap.size + 2, 0, none⟩) < g'.w.heap.size → M (Addr.block ⟨g.w.heap.size + 2, 0, none⟩)) ∧ ∀ g3 : G, StG false g2 ⟨g.w.heap.size + 2, 0, none⟩ [(.bool false)] g3 →
      ¬ hdrP ws x.1.1 ∧ MutB g3 (g.w.heap.size + 1) 55 [.slice none 0 0] ∧ MutB g3 (g.w.heap.size + 2) 4 [.bool false]) := by
    intro gx m1 m2 hno
    refine ⟨m1.ok0 (by simp), m1.nx, m1.mut0 _, fun _ => hM1, fun g2 k2 => ?_⟩
    obtain ⟨n1, b1⟩ := m1.st0 k2
    have n2 := m2.but b1 (by omega)
    refine ⟨n2.ok0 (by simp), n2.nx, n2.mut0 _, fun _ => hM2, fun g3 k3 => ?_⟩
    obtain ⟨n3, b3⟩ := n2.st0 k3
    exact ⟨hno, n1.but b3 (by omega), n3⟩
  unfold F94b
  intro g1 e1
  refine ifLt (fun hn => stop g1 (r1.ex e1) (r2.ex e1) ?_) (fun hn => ?_)
  · rw [hdrP_iff]
    rintro ⟨hh, _⟩
    rcases x.2.2 with ⟨_, h3⟩ | ⟨h3, _⟩
    · have := hh.2.2.2.2.1; rw [h3] at hn; omega
    · exact h3 hh
  have hh : hdr0 ws x.1.1 := by
    rcases x.2.2 with ⟨h3, _⟩ | ⟨_, h3⟩
    · exact h3
    · rw [h3] at hn; omega
  have hs1 := (h.mono le).exm e1
  have hc0 := (h0.ex e1).cell
  have hc1 := (h1.ex e1).cell
  have hc2 := (h2.ex e1).cell
  have hh1 := hh.1
  refine ⟨a, ll, c, hc0, ⟨by omega, by omega⟩, rd1 hs1 x.1.1 rfl (by omega) fun ad had => ⟨_, had, a, ll, c, hc0, i64 (by omega) (by omega), ⟨by omega, by omega⟩, rd1 hs1 (i := ((x.1.1 : Nat) : Int) + 1) (x.1.1 + 1) (by omega) (by omega) fun ad2 had2 => ⟨_, had2, a, ll, c, fr, lim, hc0, hc1, hc2, ?_⟩⟩⟩
  refine (k80h ws hs1 hll fr lim x.1.1 hh).mono ?_
  rintro v g4 m4 ⟨xa, xc, rfl, hxs⟩
  refine ⟨_, _, _, rfl, (k75 _ _ (contW ws x.1.1) hxs).mono ?_⟩
  rintro v g5 m5 rfl
  have m15 := (e1.trans m4).trans m5
  have hiff := hdrP_iff ws x.1.1
  refine ⟨_, rfl, ifPn (fun hr => stop g5 (r1.ex m15) (r2.ex m15) (fun hp => hr (hiff.1 hp).2)) (fun hr => ?_)⟩
  have hhd := hiff.2 ⟨hh, hr⟩
  refine ⟨oa, on, oc, (r3.ex m15).rd0 rfl, fun g8 n8 => ?_⟩
  have m18 := m15.trans n8.ex
  have hon := ho.sl.len
  have hpl : (poss pre).length = pre.length := by unfold poss; simp
  have hs8 := m18.size
  have hB5 := m15.size
  obtain ⟨a', c', w', hrun, g9, hw, hs9, ho9, hst9, _⟩ := OwnE.app1 E55 55 (B := g.w.heap.size + 5) (by omega) (ho.exm m15) n8 (x := ((x.1.1 : Nat) : Int)) rfl (by omega) (by unfold maxLen; omega)
  have hbut : But (blkOf oa) g8 g9 := hst9.but (Nat.le_refl _)
  have hne : ∀ {b}, b < g.w.heap.size + 5 → ¬ blkOf oa b := fun hb => ho.ne hb
  have r1' := (r1.ex m18).but hbut (hne (by omega))
  have r2' := (r2.ex m18).but hbut (hne (by omega))
  have r3' := (r3.ex m18).but hbut (hne (by omega))
  refine ⟨a', _, c', w', hrun, g9, hw, hst9.mono hs8 (fun b _ hb => hMb b hb), r3'.ok0 (by simp), r3'.nx, r3'.mut0 _, fun _ => hM3, fun g10 k10 => ⟨?_, hhd⟩⟩
  obtain ⟨n3, b3⟩ := r3'.st0 k10
  have l10 : Le g9 g10 := b3.le (fun b e i => e ▸ r3'.d i)
  have l' : Le g' g10 := (m18.le.trans hst9.le).trans l10
  have ep : poss (pre ++ [x]) = poss pre ++ [((x.1.1 : Nat) : Int)] := by unfold poss; simp
  refine ⟨le.trans l', r1'.but b3 (by omega), r2'.but b3 (by omega), ⟨a', _, c', n3, ?_⟩, h0.mono l', h1.mono l', h2.mono l'⟩
  rw [ep]
  exact ho9.but b3 (fun b hb e => by have := ho9.ge hb; omega) l10
end Go.Proofs.Ytcpclpkcanikiaa
