/- Joined texts. -/
import Derived.Test.YthlcdgpemjdgnaaGreatDoorVfa
import Derived.Test.YthlcdgpemjdgnaaGreatDoorVlaw
import Derived.Test.YthlcdgpemjdgnaaGreatDoorVstr
import Derived.Lib.SmallJoins
/- From a law's arguments to the worlds of the conditions, and back. -/
set_option linter.unusedVariables false
namespace Go.Vc
open Go Go.RowKit Go.ChangeShapes Go.WideShapes Go.ChangeAt
variable {H : Type} {enc : TypeId × Value → H} {P : Program}
def G.at0 (W : World) : G := ⟨W, fun _ => False, fun _ _ => False, fun _ h => h.elim, fun _ _ h => h.elim⟩
theorem live_at0 {W : World} {a : Addr} {v : Value} (h : W.cell? a = some v) : Live (G.at0 W) a v := ⟨h, fun h => h, fun h => h⟩
theorem SlV.at0 {W : World} {a : Option Addr} {l c : Nat} {L : List Value} (h : SlV W a l L) (hc : l ≤ c) (hm : c ≤ maxLen) (hn : a = none → c = 0) : Sl (G.at0 W) 1 a l c L := by
  refine ⟨by rw [h.1]; omega, hc, hm, hn, ?_⟩
  rintro ad rfl i v hi
  rcases h.2 with h0 | ⟨ad', e, hcs⟩
  · have := h.1
    have hlt := (List.getElem?_eq_some_iff.1 hi).1
    omega
  · cases e
    exact live_at0 (hcs i v hi)
theorem CallsP.true0 {k : FuncId} {args : Array Value} {W : World} (h : CallsP P k args (G.at0 W) fun v _ => v = .bool true) : Calls P k args W fun e w' => e = .returned (.bool true) ∧ Below W.heap.size W w' := by
  refine Calls.mono h ?_
  rintro e w' ⟨v, g', rfl, rfl, hs, rfl⟩
  exact ⟨rfl, hs.os, hs.tape, hs.output, hs.le.size, fun b hb => hs.same b hb (fun h => h)⟩
variable {w : World} {base : Nat} {spare : Nat → Bool} {held : Bool}
theorem open_intC {t : TypeId} {k : IntKind} {v : Value} {fuel : Nat} {x : DataW H × List MemPlace} (ht : P.underlying t = some (.int k)) (h : DataW.trod enc P w base spare held fuel t [v] = some x) : ∃ n, v = .int k n ∧ (Lit.int k n).wf = true := by
  obtain ⟨n', h, hx, hw⟩ := DataW.trod_int ht h
  cases h
  exact ⟨n', rfl, hw⟩
end Go.Vc
/- A slice of any elements that came in as an argument. -/
set_option linter.unusedVariables false
namespace Go.Vc
open Go Go.RowKit Go.ChangeShapes Go.WideShapes Go.ChangeAt
variable {H : Type} {enc : TypeId × Value → H} {P : Program} {w : World} {base : Nat} {spare : Nat → Bool} {held : Bool}
theorem all2_snoc {α β : Type} {R : α → β → Prop} {l : List α} {m : List β} (h : All2 R l m) {a : α} {b : β} (r : R a b) : All2 R (l ++ [a]) (m ++ [b]) := h.append (.cons r .nil)
theorem add_add (a : Addr) (i j : Nat) : (a.add i).add j = a.add (i + j) := addr_add_add a i j
theorem open_strC {t : TypeId} {v : Value} {fuel : Nat} {x : DataW H × List MemPlace} (ht : P.underlying t = some .string) (h : DataW.trod enc P w base spare held fuel t [v] = some x) : ∃ s, v = .string s := by
  cases fuel with
  | zero => simp [DataW.trod] at h
  | succ n =>
    unfold DataW.trod at h
    rw [ht] at h
    split at h <;> simp_all
end Go.Vc
/- A slice that came in as an argument, of elements that are known at smaller fuels; lists of some length. -/
set_option linter.unusedVariables false
namespace Go.Vc
open Go Go.RowKit Go.ChangeShapes Go.WideShapes Go.ChangeAt
variable {H : Type} {enc : TypeId × Value → H} {P : Program} {w : World} {base : Nat} {spare : Nat → Bool} {held : Bool}
theorem open_sliceN {α : Type} (E : El α) {t e : TypeId} (ht : P.underlying t = some (.slice e)) (hc : P.cellsOf e = E.m) {v : Value} {fuel : Nat}
    (one : ∀ n, n < fuel → ∀ cs y, cs.length = E.m → DataW.trod enc P w base spare held n e cs = some y → ∃ x, E.rep (G.at0 w) cs x) {x : DataW H × List MemPlace} (h : DataW.trod enc P w base spare held fuel t [v] = some x) :
    ∃ a l c xs, v = .slice a l c ∧ SlE E (G.at0 w) a l c xs := by
  rcases DataW.trod_slice ht h with ⟨h0, _⟩ | ⟨a, len, cap, elems, rest, n, hfu, hcs, _, _, hl, hm, hlen, hel, _, _⟩
  · cases h0
    exact ⟨none, 0, 0, [], rfl, SlE.zero _⟩
  cases hcs
  rw [hc] at hel
  have key : ∀ k, k ≤ len → ∃ (rs : List (List Value)) (xs : List α), rs.length = k ∧ All2 (E.rep (G.at0 w)) rs xs ∧ ∀ i, i < k → ∃ cs, rs[i]? = some cs ∧ w.cells? base (a.add (i * E.m)) E.m = some cs := by
    intro k
    induction k with
    | zero => exact fun _ => ⟨[], [], rfl, .nil, fun i hi => by omega⟩
    | succ k ih =>
      intro hk
      obtain ⟨rs, xs, h1, h2, h3⟩ := ih (by omega)
      have he := hel k (by omega)
      rw [List.getElem?_eq_getElem (show k < elems.length by omega)] at he
      obtain ⟨cs, hcs, htr⟩ := Option.bind_eq_some_iff.1 he
      have hcl := (World.cells?_some hcs).2.1
      obtain ⟨y, hy⟩ := one n (by omega) cs _ hcl htr
      refine ⟨rs ++ [cs], xs ++ [y], by simp [h1], all2_snoc h2 hy, fun i hi => ?_⟩
      by_cases hik : i = k
      · subst hik
        exact ⟨cs, by rw [List.getElem?_append_right (by omega)]; simp [h1], hcs⟩
      · obtain ⟨cs', h4, h5⟩ := h3 i (by omega)
        exact ⟨cs', by rw [List.getElem?_append_left (by omega)]; exact h4, h5⟩
  obtain ⟨rs, xs, h1, h2, h3⟩ := key len (Nat.le_refl _)
  have hlens := Rws.lens h2
  have hfl := flat_len hlens
  refine ⟨some a, len, cap, xs, rfl, ⟨rs.flatten, ⟨by rw [hfl, h1], hl, hm, fun h => (by cases h), ?_⟩, ⟨rs, rfl, h2⟩⟩, by rw [← h2.length, h1]⟩
  rintro ad rfl2 p v hp
  cases rfl2
  have hplt := (List.getElem?_eq_some_iff.1 hp).1
  rw [hfl, h1] at hplt
  have hm0 : 0 < E.m := Nat.pos_of_ne_zero (fun h0 => by rw [h0] at hplt; omega)
  have hi : p / E.m < len := (Nat.div_lt_iff_lt_mul hm0).2 hplt
  obtain ⟨cs, h4, h5⟩ := h3 _ hi
  have hpd : p / E.m * E.m + p % E.m = p := Nat.div_add_mod' p E.m
  have hg := flat_get hlens h4 (Nat.mod_lt p hm0)
  rw [hpd, hp] at hg
  refine live_at0 ?_
  have h6 := (World.cells?_some h5).2.2 (p % E.m) (Nat.mod_lt p hm0)
  rw [add_add, hpd] at h6
  rw [h6]
  exact hg.symm
theorem list4 {α : Type} {cs : List α} (h : cs.length = 4) : ∃ a b c d, cs = [a, b, c, d] := by
  match cs, h with
  | [a, b, c, d], _ => exact ⟨a, b, c, d, rfl⟩
theorem open_cells {fs : Array Field} {r : Reach} {b0 : Nat} {t : TypeId} {v : Value} {d : DataW H} {p : List MemPlace} (hs : P.underlying t = some (.struct fs)) (hv : Value.okWide P w r b0 t v) (h : DataW.Trod enc P w base spare held t v d p) :
    ∃ cs fuel y, v = .agg ⟨cs⟩ ∧ cs.length = P.cellsOf t ∧ DataW.trod enc P w base spare held fuel t cs = some y := by
  obtain ⟨cs, rfl, hsz⟩ := okWide_struct hs hv
  obtain ⟨fuel, hf⟩ := h
  exact ⟨cs.toList, fuel, _, by simp, by simpa using hsz, by simpa [Value.cells] using hf⟩
end Go.Vc
