/- The store: the keys, sorted; Keys and Entries. -/
import Derived.Test.YtlofbfbcnlgmaaaC53n
import Derived.Test.YtlofbfbcnlgmaaaShelf53
set_option linter.unusedVariables false
namespace Go.Proofs.Ytlofbfbcnlgmaaa
open Go Go.Vc Go.RowKit Go.Maps Go.Sort Go.Shelf

theorem sortsA (m : Nat) : AnyZ.SortsIn Try.prog Try.sortedA_ren Fence.wide m :=
  ⟨fun blk off cap ss W hH hblk hsz => callsIn_wide.2 (AnyM.slices_Sort_string Try.sortA blk off cap ss W hH hblk hsz),
   fun p cap W => callsIn_wide.2 (AnyM.slices_Sort_string_none Try.sortA p cap W)⟩

/-- The world behind a call that turns nothing below. -/
def _root_.Go.Vc.G.to (g : G) (w' : World) (h : g.w.heap.size ≤ w'.heap.size) : G := ⟨w', g.X, g.D, fun b hb => Nat.lt_of_lt_of_le (g.hX b hb) h, fun b i hb => Nat.lt_of_lt_of_le (g.hD b i hb) h⟩
theorem calls_below {P : Program} {k : FuncId} {args : Array Value} {g : G} {Q : Value → World → Prop} (h : Calls P k args g.w fun e w' => ∃ v, e = .returned v ∧ Below g.w.heap.size g.w w' ∧ Q v w') :
    CallsP P k args g fun v g' => ∃ h, Q v g'.w ∧ g' = g.to g'.w h := by
  refine Calls.mono h ?_
  rintro e w' ⟨v, rfl, hb, hq⟩
  refine ⟨v, g.to w' hb.size, rfl, rfl, ⟨?_, fun b => Iff.rfl, fun b hx => hb.block b (g.hX b hx), hb.os, hb.tape, hb.output, fun b hlt _ => hb.block b hlt, fun b hlt _ i => Iff.rfl⟩, hb.size, hq, rfl⟩
  have hex : Ex g (g.to w' hb.size) := ⟨hb.size, fun b _ hx => hx, fun b hlt _ => hb.block b hlt, fun b _ _ i => Iff.rfl⟩
  exact hex.le

/-- A new row that a call returned. -/
theorem own_sl {g : G} {w' : World} {h : g.w.heap.size ≤ w'.heap.size} {e : TypeId} {v : Value} {n : Nat} {L : List Value} (ho : w'.ownsRow g.w.heap.size e 1 v n L) : ∃ a c, v = .slice a n c ∧ Sl (g.to w' h) 1 a n c L := by
  obtain ⟨hl, ⟨rfl, rfl⟩ | ⟨b, cap, cur, rfl, hb, hheap, hnc, hcm, hcs, hcur⟩⟩ := ho
  · have : L = [] := List.eq_nil_of_length_eq_zero (by omega)
    subst this
    exact ⟨none, 0, rfl, Sl.zero _ _⟩
  · refine ⟨_, cap, rfl, by omega, hnc, hcm, fun h => (by cases h), ?_⟩
    rintro ad rfl2 i u hi
    cases rfl2
    rw [add_row, Nat.zero_add]
    refine ⟨?_, fun hx => ?_, fun hd => ?_⟩
    · show w'.cell? _ = _
      unfold World.cell?
      simp only
      rw [hheap]
      simp only [Option.isSome_none, Bool.false_eq_true, if_false]
      rw [← hcur, List.getElem?_take] at hi
      split at hi
      · simpa using hi
      · cases hi
    · have := g.hX b hx; omega
    · have := g.hD b i hd; omega

theorem encStr_bstr (l : List UInt8) : encStr l = .string (bstr l) := rfl
theorem strs_sle {g : G} {a : Option Addr} {n c : Nat} {ss : List (List UInt8)} (h : Sl g 1 a n c (ss.map encStr)) (hn : ss.length = n) : SlE strE g a n c ss := by
  refine ⟨⟨_, h, ss.map fun x => [encStr x], ?_, ?_⟩, hn⟩
  · induction ss with
    | nil => rfl
    | cons x r ih => clear ih; simp only [List.map_cons, List.flatten_cons, List.singleton_append]; congr 1; clear h hn; induction r with | nil => rfl | cons y r ih => simpa using ih
  · clear h hn
    induction ss with
    | nil => exact .nil
    | cons x r ih => exact .cons rfl ih

/-- slices.Sorted(maps.Keys(m)). -/
theorem k40 {g : G} {blk b nn : Nat} {fv : List UInt8 → Option Value} {es : List Ent} (hl : Live g ⟨blk, 0, none⟩ (.map (some b))) (hm : MapG Try.prog g 9 b nn fv) (hes : OkE es) (hk : ∀ s, fv s ≠ none ↔ s ∈ es.map Prod.fst) (hlen : es.length ≤ 1048576) :
    CallsP Try.prog 40 #[.func (.func 65) #[] #[.pointer (some ⟨blk, 0, none⟩)]] g fun v g' => ∃ a n c, v = .slice a n c ∧ SlE strE g' a n c (es.map Prod.fst) := by
  obtain ⟨D, hown, hsay⟩ := hm.own
  have hperm : (es.map Prod.fst).Perm (strKeys D) := by
    refine Collected.perm (left := fun _ => false) ⟨?_, fun x => ?_⟩ hown (string_keyed Try.underlying9) Try.underlying9 (fun _ => rfl)
    · exact (keys_srt hes.srt).imp fun h => klt_ne h
    · rw [← hk x]
      cases hf : fv x with
      | none => simp [(hsay x).2 hf]
      | some u => simp [((hsay x).1 u hf).1]
  have hsz : Maps.size D ≤ 1048576 := by
    obtain ⟨l, rfl⟩ := hown.isMap
    have := hperm.length_eq
    have h2 : (strKeys (DataW.map l)).length = l.length := by simp [strKeys]
    rw [h2, List.length_map] at this
    show l.length ≤ _
    omega
  have hseq : SeqGives Fence.wide 2 Try.prog 65 #[.pointer (some ⟨blk, 0, none⟩)] encStr (fun ss => ss.Perm (strKeys D)) (Maps.size D) g.w :=
    AnyZ.keys_gives (ρ := Try.keysA_ren) { Try.keysA with } Fence.wide _ trivial rfl (by omega) blk b nn D _ (cell_lt hl.1) hl.1 hown
  have cS := AnyZ.sorted_in Try.sortedA Fence.wide 5 trivial trivial trivial trivial rfl (by omega) (sortsA _) (enters_of Try.func54 (by kernel_rfl) rfl) 65 #[.pointer (some ⟨blk, 0, none⟩)] trivial (enters_of Try.func65 (by kernel_rfl) rfl) _ _ (by unfold maxLen; omega) (by omega) _ hseq
  change CallsIn _ _ Try.prog 40 _ _ _ at cS
  have hC := callsIn_wide.1 cS
  refine (calls_below (Q := fun v w' => w'.ownsRow g.w.heap.size 9 1 v es.length ((es.map Prod.fst).map encStr)) (hC.mono ?_)).mono ?_
  · rintro e w' ⟨v, ss, rfl, hS, hrow, _, hb⟩
    refine ⟨v, rfl, hb, ?_⟩
    have hp : ss.Perm (es.map Prod.fst) := hS.trans hperm.symm
    have e1 : ss.mergeSort leB = es.map Prod.fst := by
      rw [mergeSort_of_perm hp]
      refine List.mergeSort_of_pairwise ?_
      refine (keys_srt hes.srt).imp ?_
      intro x y hxy
      simp only [leB, decide_eq_true_eq]
      exact List.le_of_lt ((klt_iff x y).1 hxy)
    have e2 : ss.length = es.length := by rw [hp.length_eq, List.length_map]
    have hrow' := hrow
    rw [e2] at hrow'
    change w'.ownsRow g.w.heap.size 9 1 v es.length ((ss.mergeSort leB).map encStr) at hrow'
    rwa [e1] at hrow'
  · rintro v g' m ⟨h, hq, e⟩
    rw [e] at hq ⊢
    obtain ⟨a, c, rfl, hs⟩ := own_sl (h := h) hq
    exact ⟨a, _, c, rfl, strs_sle hs (by simp)⟩
end Go.Proofs.Ytlofbfbcnlgmaaa
