/- The store: edits; records behind one another. -/
import Derived.Test.YtlofbfbcnlgmaaaC53M
set_option linter.unusedVariables false
namespace Go.Proofs.Ytlofbfbcnlgmaaa
open Go Go.Vc Go.RowKit

/-! ### Records behind one another -/
theorem take_app {l t : List UInt8} {n : Nat} (h : n ≤ l.length) : (l ++ t).take n = l.take n := List.take_append_of_le_length h
theorem drop_app {l t : List UInt8} {n : Nat} (h : n ≤ l.length) : (l ++ t).drop n = l.drop n ++ t := List.drop_append_of_le_length h
theorem first_app {l : List UInt8} {r : Rec} (t : List UInt8) (h : firstR l = some r) : firstR (l ++ t) = some r := by
  obtain ⟨n, c, hr, rfl⟩ := right_of h
  have hl := hr.len
  refine first_of ⟨by rw [List.length_append]; omega, hr.n4, ?_, ?_, ?_, hr.ok⟩
  · rw [take_app (by omega)]; exact hr.num
  · rw [drop_app (by omega), take_app (by rw [List.length_drop]; omega)]; exact hr.c_eq
  · rw [take_app (by omega), drop_app (by omega), take_app (by rw [List.length_drop]; omega)]; exact hr.sum
theorem recs_append (t : List UInt8) : ∀ (n : Nat) (b : List UInt8), b.length ≤ n → endR b = b.length → recsL (b ++ t) = recsL b ++ recsL t := by
  intro n
  induction n with
  | zero =>
    intro b h _
    have : b = [] := List.eq_nil_of_length_eq_zero (by omega)
    subst this
    rfl
  | succ n ih =>
    intro b h he
    cases hf : firstR b with
    | none =>
      rw [endR_none hf] at he
      have : b = [] := List.eq_nil_of_length_eq_zero (by omega)
      subst this
      rfl
    | some r =>
      have hlen := first_len hf
      rw [endR_some hf] at he
      rw [recsL_some hf, recsL_some (first_app t hf), drop_app hlen.2, List.cons_append, ih (b.drop r.len) (by rw [List.length_drop]; omega) (by rw [List.length_drop]; omega)]
theorem recs_full (b t : List UInt8) (h : endR b = b.length) : recsL (b ++ t) = recsL b ++ recsL t := recs_append t b.length b (Nat.le_refl _) h
theorem recs_take : ∀ (n : Nat) (b : List UInt8), b.length ≤ n → recsL (b.take (endR b)) = recsL b := by
  intro n
  induction n with
  | zero =>
    intro b h
    have : b = [] := List.eq_nil_of_length_eq_zero (by omega)
    subst this
    rfl
  | succ n ih =>
    intro b h
    cases hf : firstR b with
    | none => rw [endR_none hf, recsL_none hf]; rfl
    | some r =>
      have hlen := first_len hf
      have hi := ih (b.drop r.len) (by rw [List.length_drop]; omega)
      rw [endR_some hf, recsL_some hf]
      have e1 : b.take (r.len + endR (b.drop r.len)) = b.take r.len ++ (b.drop r.len).take (endR (b.drop r.len)) := by rw [List.take_add]
      have hft : firstR (b.take r.len) = some r := by
        obtain ⟨m, c, hr, rfl⟩ := right_of hf
        have hl := hr.len
        refine first_of ⟨by show m + 8 ≤ (List.take (m + 8) b).length; rw [List.length_take]; omega, hr.n4, ?_, ?_, ?_, hr.ok⟩
        · rw [List.take_take, Nat.min_eq_left (by show 4 ≤ m + 8; omega)]; exact hr.num
        · rw [List.drop_take, List.take_take, Nat.min_eq_left (by show m ≤ m + 8 - 4; omega)]; exact hr.c_eq
        · rw [List.take_take, Nat.min_eq_left (by show m + 4 ≤ m + 8; omega), List.drop_take, List.take_take, Nat.min_eq_left (by show 4 ≤ m + 8 - (m + 4); omega)]; exact hr.sum
      rw [e1, recsL_some (first_app _ hft), drop_app (by rw [List.length_take]; omega), List.drop_eq_nil_of_le (by rw [List.length_take]; omega), List.nil_append, hi]
theorem endR_recs {a b : List UInt8} (h : recsL a = recsL b) : endR a = endR b := by unfold endR; rw [h]
/-- The whole records of some bytes. -/
theorem take_full (b : List UInt8) : recsL (b.take (endR b)) = recsL b ∧ endR (b.take (endR b)) = (b.take (endR b)).length := by
  have h := recs_take b.length b (Nat.le_refl _)
  refine ⟨h, ?_⟩
  rw [endR_recs h, List.length_take, Nat.min_eq_left (endR_le b)]
theorem recs_one (kind : Nat) (key data : List UInt8) (hk : kind = 1 ∨ kind = 2 ∧ data = []) (h1 : 1 ≤ key.length ∧ key.length ≤ 100) (h2 : data.length ≤ 1048576) :
    recsL (recB kind key data) = [⟨kind, key, data, 11 + key.length + data.length⟩] := by
  have := recs_app kind key data [] hk h1 h2
  rwa [List.append_nil] at this
/-- A part of a record is none. -/
theorem first_short (kind : Nat) (key data : List UInt8) (h1 : key.length ≤ 100) (h2 : data.length ≤ 1048576) {q : Nat} (hq : q < 11 + key.length + data.length) : firstR ((recB kind key data).take q) = none := by
  have hcl := contB_len kind key data
  have hl : ((recB kind key data).take q).length = q := by rw [List.length_take, recB_len]; omega
  unfold firstR
  rw [hl]
  by_cases h8 : q < 8
  · rw [if_pos h8]
  · have e1 : recB kind key data = fourB (contB kind key data).length ++ (contB kind key data ++ fourB (sumN (fourB (contB kind key data).length ++ contB kind key data))) := by simp [recB, sumd]
    have t4 : ((recB kind key data).take q).take 4 = fourB (contB kind key data).length := by
      rw [List.take_take, Nat.min_eq_left (by omega), e1]; exact List.take_left' rfl
    rw [if_neg h8, t4, numB_four _ (by omega), hcl, if_pos (by omega)]

/-! ### Edits -/
structure Edit where
  key : List UInt8
  data : List UInt8
  del : Bool
def editE : El Edit where
  m := 3
  rep g r x := ∃ a n c, r = [.string (bstr x.key), .slice a n c, .bool x.del] ∧ SlB g a n c x.data
  len := by rintro g r x ⟨a, n, c, rfl, _⟩; rfl
  mono := by rintro g g' r x k ⟨a, n, c, rfl, h⟩; exact ⟨a, n, c, rfl, h.mono k⟩
  one := by
    rintro g r x ⟨a, n, c, rfl, _⟩ u hu
    simp only [List.mem_cons, List.not_mem_nil, or_false] at hu
    rcases hu with rfl | rfl | rfl <;> rfl
/-- What apply returns. -/
noncomputable def appR (b : List UInt8) (d a : Int) (e : Edit) : SR := if e.del = true then delR b d a e.key else putR b d a e.key e.data
theorem k31 (b : List UInt8) (e : Edit) {a : Option Addr} {n c : Nat} {da : Option Addr} {dl dc : Nat} {g : G} (h : SlB g a n c b) (hd : SlB g da dl dc e.data) (d af : Int) :
    CallsP Try.prog 31 #[stV a n c d af, .agg ⟨[.string (bstr e.key), .slice da dl dc, .bool e.del]⟩] g fun v g' => IsSR v g' (appR b d af e) := by
  refine call31 a n c d af (bstr e.key) da dl dc e.del g _ ?_
  unfold F31 appR
  refine ifT (fun hh g1 m1 => ?_) (fun hh g4 m4 => ?_)
  · rw [if_pos hh]
    refine (k13 b e.key (h.ex m1) d af).mono ?_
    rintro v g2 m2 ⟨xa, xl, xc, rfl, hx⟩
    exact ⟨_, _, _, _, _, _, rfl, fun g3 m3 => ⟨xa, xl, xc, rfl, hx.ex m3⟩⟩
  · rw [if_neg (by rw [hh]; simp)]
    refine (k12 b e.key e.data (h.ex m4) (hd.ex m4) d af).mono ?_
    rintro v g2 m2 ⟨xa, xl, xc, rfl, hx⟩
    exact ⟨_, _, _, _, _, _, rfl, fun g3 m3 => ⟨xa, xl, xc, rfl, hx.ex m3⟩⟩

/-- Edits that are short. -/
def small (e : Edit) : Prop := e.key.length ≤ 120 ∧ e.data.length ≤ 120
theorem k51 (e : Edit) (da : Option Addr) (dl dc : Nat) (g : G) (hl : e.data.length = dl) : CallsP Try.prog 51 #[.agg ⟨[.string (bstr e.key), .slice da dl dc, .bool e.del]⟩] g fun v _ => v = .bool (tf (¬ small e)) := by
  refine call51 (bstr e.key) da dl dc e.del g _ ?_
  unfold F51
  rw [bstr_size]
  refine ifLt (fun h g1 m1 => vT ?_) (fun h g2 m2 => vP ?_)
  · unfold small; omega
  · unfold small; omega
theorem enters51 : Go.Vc.Enters Try.prog 51 := ⟨_, Try.func51, by kernel_rfl, by kernel_rfl⟩
theorem k64 (l : List Edit) {a : Option Addr} {n c : Nat} {g : G} (h : SlE editE g a n c l) :
    CallsP Try.prog 64 #[.slice a n c, .func (.func 51) #[] #[]] g fun v _ => ∃ i : Int, v = .int .i64 i ∧ (0 ≤ i ↔ ∃ e ∈ l, ¬ small e) := by
  refine call64 a n c 51 #[] g _ ?_
  have hl := h.len
  have hcap := h.cap
  have hle := h.le
  unfold maxLen at hcap
  unfold F64
  refine ⟨fun m i g' => ∃ j : Nat, i = j ∧ j + m = n ∧ ∀ e ∈ l.take j, small e, ⟨n, 0, rfl, by omega, by simp⟩, ?_⟩
  rintro m i g1 le ⟨j, rfl, hjm, hj⟩
  refine ifLt (fun hlt => ⟨⟨by omega, by omega⟩, ?_⟩) (fun hge g3 m3 => ⟨-1, rfl, ⟨fun hh => by omega, ?_⟩⟩)
  · have hjl : j < l.length := by omega
    have gj := List.getElem?_eq_getElem hjl
    refine (h.mono le).rd (i := j) gj ?_
    rintro r ad ⟨ea, en, ec, rfl, hd⟩ hr
    rw [Int.toNat_natCast]
    refine ⟨bstr l[j].key, ea, en, ec, l[j].del, ?_, (hr 1 _ rfl).1, (hr 2 _ rfl).1, enters51, (k51 l[j] ea en ec g1 (SlB.length hd)).mono ?_⟩
    · have := (hr 0 _ rfl).1
      rwa [Addr.add_zero'] at this
    rintro v g2 m2 rfl
    refine ⟨_, rfl, ifP (fun hs g3 m3 => ⟨j, rfl, ⟨fun _ => ⟨_, List.mem_of_getElem? gj, hs⟩, fun _ => by omega⟩⟩) (fun hs => ⟨i64 (by omega) (by omega), m - 1, by omega, j + 1, by omega, by omega, ?_⟩)⟩
    intro e hm
    rw [List.take_add_one, gj] at hm
    simp only [Option.toList_some, List.mem_append, List.mem_singleton] at hm
    rcases hm with hm | rfl
    · exact hj e hm
    · exact Classical.not_not.1 hs
  · rintro ⟨e, he, hne⟩
    have : l.take j = l := List.take_of_length_le (by omega)
    rw [this] at hj
    exact absurd (hj e he) hne
theorem k30 (l : List Edit) {a : Option Addr} {n c : Nat} {g : G} (h : SlE editE g a n c l) :
    CallsP Try.prog 30 #[.slice a n c] g fun v _ => v = .bool (tf (l.length ≤ 30 ∧ ∀ e ∈ l, small e)) := by
  refine call30 a n c g _ ?_
  have hl := h.len
  unfold F30
  refine ifLe (fun h1 => ?_) (fun h1 g3 m3 => vF (by omega))
  have k50 : CallsP Try.prog 50 #[.slice a n c, .func (.func 51) #[] #[]] g fun v _ => v = .bool (tf (∃ e ∈ l, ¬ small e)) := by
    refine call50 a n c 51 #[] g _ ?_
    unfold F50
    refine (k64 l h).mono ?_
    rintro v g1 m1 ⟨i, rfl, hi⟩
    refine ⟨i, rfl, fun g2 m2 => ?_⟩
    rw [tf_le]
    exact congrArg Value.bool (by unfold tf; rw [decide_eq_decide]; exact hi)
  refine k50.mono ?_
  rintro v g1 m1 rfl
  refine ⟨_, rfl, fun g2 m2 => ?_⟩
  rw [tf_not]
  refine congrArg Value.bool ?_
  unfold tf
  rw [decide_eq_decide]
  constructor
  · intro hh
    exact ⟨by omega, fun e he => Classical.byContradiction fun hn => hh ⟨e, he, hn⟩⟩
  · rintro ⟨_, hh⟩ ⟨e, he, hn⟩
    exact hn (hh e he)
end Go.Proofs.Ytlofbfbcnlgmaaa
