/- The store: all records; the map that is read. -/
import Derived.Test.YtlofbfbcnlgmaaaC53e
set_option linter.unusedVariables false
namespace Go.Proofs.Ytlofbfbcnlgmaaa
open Go Go.Vc Go.RowKit

def recs : Nat → List UInt8 → List Rec
  | 0, _ => []
  | f + 1, l => match firstR l with
    | none => []
    | some r => r :: recs f (l.drop r.len)
def recsL (l : List UInt8) : List Rec := recs l.length l
def endR (l : List UInt8) : Nat := ((recsL l).map Rec.len).sum
theorem first_len {l : List UInt8} {r : Rec} (h : firstR l = some r) : 12 ≤ r.len ∧ r.len ≤ l.length := by
  obtain ⟨n, c, hr, rfl⟩ := right_of h
  have := hr.len
  have := hr.n4
  exact ⟨by show 12 ≤ n + 8; omega, by show n + 8 ≤ _; omega⟩
theorem recs_fuel : ∀ (f f' : Nat) (l : List UInt8), l.length ≤ f → l.length ≤ f' → recs f l = recs f' l
  | 0, f', l, h, h' => by
    have : l = [] := List.eq_nil_of_length_eq_zero (by omega)
    subst this
    cases f' with
    | zero => rfl
    | succ f' => rfl
  | f + 1, 0, l, h, h' => by
    have : l = [] := List.eq_nil_of_length_eq_zero (by omega)
    subst this
    rfl
  | f + 1, f' + 1, l, h, h' => by
    unfold recs
    cases hf : firstR l with
    | none => rfl
    | some r =>
      have := first_len hf
      simp only
      rw [recs_fuel f f' _ (by rw [List.length_drop]; omega) (by rw [List.length_drop]; omega)]
theorem recsL_none {l : List UInt8} (h : firstR l = none) : recsL l = [] := by
  unfold recsL
  cases hl : l.length with
  | zero => rfl
  | succ n => unfold recs; rw [h]
theorem recsL_some {l : List UInt8} {r : Rec} (h : firstR l = some r) : recsL l = r :: recsL (l.drop r.len) := by
  have hlen := first_len h
  unfold recsL
  cases hl : l.length with
  | zero => omega
  | succ n =>
    have e : recs (n + 1) l = match firstR l with | none => [] | some r => r :: recs n (l.drop r.len) := rfl
    rw [e, h]
    simp only
    rw [recs_fuel n _ _ (by rw [List.length_drop]; omega) (Nat.le_refl _)]
theorem endR_none {l : List UInt8} (h : firstR l = none) : endR l = 0 := by unfold endR; rw [recsL_none h]; rfl
theorem endR_some {l : List UInt8} {r : Rec} (h : firstR l = some r) : endR l = r.len + endR (l.drop r.len) := by unfold endR; rw [recsL_some h]; simp
theorem endR_le (l : List UInt8) : endR l ≤ l.length := by
  have key : ∀ (f : Nat) (l : List UInt8), l.length ≤ f → endR l ≤ l.length := by
    intro f
    induction f with
    | zero =>
      intro l h
      have : l = [] := List.eq_nil_of_length_eq_zero (by omega)
      subst this
      exact Nat.le_refl _
    | succ f ih =>
      intro l h
      cases hf : firstR l with
      | none => rw [endR_none hf]; omega
      | some r =>
        have := first_len hf
        have := ih (l.drop r.len) (by rw [List.length_drop]; omega)
        rw [List.length_drop] at this
        rw [endR_some hf]
        omega
  exact key _ l (Nat.le_refl _)

/-- The entries that records leave. -/
def stepF (f : List UInt8 → Option (List UInt8)) (r : Rec) : List UInt8 → Option (List UInt8) := fun x => if x = r.key then (if r.kind = 1 then some r.data else none) else f x
def mpF (rs : List Rec) : List UInt8 → Option (List UInt8) := rs.foldl stepF fun _ => none

/-- A map from keys to slices of bytes. -/
def MapB (g : G) (b n : Nat) (F : List UInt8 → Option (List UInt8)) : Prop :=
  ∃ fv, MapG Try.prog g 9 b n fv ∧ ∀ s, (F s = none → fv s = none) ∧ ∀ d, F s = some d → ∃ a m c, fv s = some (.slice a m c) ∧ SlB g a m c d
theorem MapB.but {g g' : G} {b n : Nat} {F : List UInt8 → Option (List UInt8)} (h : MapB g b n F) {p : Nat → Prop} (m : But p g g') (hp : ¬ p b) (hl : Le g g') : MapB g' b n F := by
  obtain ⟨fv, h1, h2⟩ := h
  exact ⟨fv, h1.but m hp, fun s => ⟨(h2 s).1, fun d hd => by obtain ⟨a, k, c, e1, e2⟩ := (h2 s).2 d hd; exact ⟨a, k, c, e1, e2.mono hl⟩⟩⟩
theorem MapB.ex {g g' : G} {b n : Nat} {F : List UInt8 → Option (List UInt8)} (h : MapB g b n F) (m : Ex g g') : MapB g' b n F := h.but (m.but nobody) (fun h => h) m.le

theorem numB_two {c : List UInt8} (h : 3 ≤ c.length) : numB ((c.drop 1).take (3 - 1)) = keyLen c := numB2 c h

theorem k44 (l : List UInt8) {a : Option Addr} {n c : Nat} {g : G} (h : SlB g a n c l) (s1 s2 : Int) (hn : n ≤ 1048576) :
    CallsP Try.prog 44 #[stV a n c s1 s2] g fun v g' => ∃ b k, v = .tuple ⟨[.map (some b), .int .i64 ((endR l : Nat) : Int)]⟩ ∧ MapB g' b k (mpF (recsL l)) := by
  refine call44 a n c s1 s2 g _ ?_
  have hll := SlB.length h
  unfold F44
  intro g1 m1 g2 n2 g3 n3
  have h3 := ((h.ex m1).ex n2.ex).ex n3.ex
  have mp3 := (MapG.new n2 Try.prog 9).ex n3.ex
  have hbD : g1.w.heap.size < g2.w.heap.size := heap_lt n2.blk
  have hgb : g.w.heap.size ≤ g1.w.heap.size := m1.size
  refine ⟨fun m g4 => ∃ p done xa xc k, p + m = n ∧ recsL l = done ++ recsL (l.drop p) ∧ p = (done.map Rec.len).sum ∧ MutB g4 g2.w.heap.size 95 [.slice xa m xc, .int .i64 (p : Int)] ∧ SlB g4 xa m xc (l.drop p) ∧ MapB g4 g1.w.heap.size k (mpF done) ∧ k ≤ p,
    ⟨n, 0, [], a, c, 0, by omega, by simp, rfl, n3.mut, by simpa using h3, ⟨_, mp3, fun s => ⟨fun _ => rfl, fun d hd => by cases hd⟩⟩, Nat.le_refl _⟩, ?_⟩
  rintro m g4 le4 ⟨p, done, xa, xc, k, hpm, hrec, hps, hmut, hsl, hmap, hkp⟩
  refine ⟨fun b => b = g2.w.heap.size, fun b hb hb2 => by omega, (k56 (l.drop p) hmut hsl (by omega) ⟨by omega, by omega⟩).mono ?_⟩
  rintro v g5 st5 hv
  have but5 := st5.but (Nat.le_refl _)
  have map5 := hmap.but but5 (show ¬ g1.w.heap.size = g2.w.heap.size by omega) st5.le
  rcases hv with ⟨hnone, rfl, hmut5⟩ | ⟨q, cc, ca, cap, xa', xc', hr, rfl, hcc, hmut5, hsl5⟩
  · refine ⟨_, _, _, _, rfl, ifF (fun _ => ?_) (fun hh => by cases hh)⟩
    intro g6 m6
    refine ⟨p, (hmut5.ex m6).rd rfl, fun g7 m7 => ⟨g1.w.heap.size, k, ?_, ?_⟩⟩
    · rw [hps, endR, hrec, recsL_none hnone, List.append_nil]
    · rw [hrec, recsL_none hnone, List.append_nil]
      exact (map5.ex m6).ex m7
  · refine ⟨_, _, _, _, rfl, ifF (fun hh => by cases hh) (fun _ => ?_)⟩
    have hcl := SlB.length hcc
    have hcle := hcc.le
    have hccap := hcc.cap
    unfold maxLen at hccap
    have hok := hr.ok
    have hq := hr.n4
    have hqlen := hr.len
    rw [List.length_drop] at hqlen
    have hkl : keyLen cc = (cc.getD 1 0).toNat * 256 + (cc.getD 2 0).toNat := rfl
    unfold badR at hok
    have e3 : Int.toNat (3 : Int) = 3 := rfl
    have e1 : Int.toNat (1 : Int) = 1 := rfl
    rw [e3, e1]
    refine ⟨⟨by omega, by omega⟩, ⟨by omega, by omega⟩, (k57 _ (SlB.sub hcc (lo := 1) (hi := 3) (by omega) (by omega)) (by omega)).mono ?_⟩
    rintro v g8 m8 rfl
    rw [numB_two (by omega)]
    have ek : Int.toNat ((3 : Int) + ((keyLen cc : Nat) : Int)) = 3 + keyLen cc := by omega
    have hc8 := hcc.ex m8
    have sk := SlB.sub hc8 (lo := 3) (hi := 3 + keyLen cc) (by omega) (by omega)
    refine ⟨_, rfl, ?_⟩
    rw [ek]
    refine ⟨i64 (by omega) (by omega), ⟨by omega, by omega⟩, ⟨by omega, by omega⟩, _, _, SlB.str sk Try.underlying22 Try.underlying5 Try.underlying9, g8, rfl, Stp.refl _ _ _, ⟨by omega, by omega⟩, SlB.rdN hc8 0 rfl (by omega) ?_⟩
    rw [show 3 + keyLen cc - 3 = keyLen cc by omega]
    have hmut8 := hmut5.ex m8
    have hsl8 := hsl5.ex m8
    obtain ⟨fv, hmp, hfv⟩ := map5.ex m8
    have hfirst := first_of hr
    have hrec2 : recsL l = (done ++ [⟨(cc.getD 0 0).toNat, (cc.drop 3).take (keyLen cc), cc.drop (3 + keyLen cc), q + 8⟩]) ++ recsL (l.drop (p + (q + 8))) := by
      rw [hrec, recsL_some hfirst, List.drop_drop, List.append_assoc]
      rfl
    have hklen : ((cc.drop 3).take (keyLen cc)).length ≤ maxLen := by
      rw [List.length_take, List.length_drop]
      unfold maxLen
      omega
    have hmp' : ∀ s, mpF (done ++ [⟨(cc.getD 0 0).toNat, (cc.drop 3).take (keyLen cc), cc.drop (3 + keyLen cc), q + 8⟩]) s = if s = (cc.drop 3).take (keyLen cc) then (if (cc.getD 0 0).toNat = 1 then some (cc.drop (3 + keyLen cc)) else none) else mpF done s := by
      intro s
      unfold mpF
      rw [List.foldl_append]
      rfl
    have next : ∀ (g9 : G) (fv' : List UInt8 → Option Value) (k' : Nat), k' ≤ k + 1 → But (fun x => x = g1.w.heap.size) g8 g9 → Le g8 g9 → MapG Try.prog g9 9 g1.w.heap.size k' fv' →
        (∀ s, (mpF (done ++ [⟨(cc.getD 0 0).toNat, (cc.drop 3).take (keyLen cc), cc.drop (3 + keyLen cc), q + 8⟩]) s = none → fv' s = none) ∧ ∀ d, mpF (done ++ [⟨(cc.getD 0 0).toNat, (cc.drop 3).take (keyLen cc), cc.drop (3 + keyLen cc), q + 8⟩]) s = some d → ∃ a m c, fv' s = some (.slice a m c) ∧ SlB g9 a m c d) →
        ∃ m_1, m_1 < m ∧ ∃ p done xa xc k, p + m_1 = n ∧ recsL l = done ++ recsL (l.drop p) ∧ p = (done.map Rec.len).sum ∧ MutB g9 g2.w.heap.size 95 [.slice xa m_1 xc, .int .i64 (p : Int)] ∧ SlB g9 xa m_1 xc (l.drop p) ∧ MapB g9 g1.w.heap.size k (mpF done) ∧ k ≤ p := by
      intro g9 fv' k' hk' hbut hle hmg hf
      refine ⟨m - (q + 8), by omega, p + (q + 8), _, xa', xc', k', by omega, hrec2, by simp [hps], ?_, ?_, ⟨fv', hmg, hf⟩, by omega⟩
      · have := hmut8.but hbut (show ¬ g2.w.heap.size = g1.w.heap.size by omega)
        rwa [show (p : Int) + ((q + 8 : Nat) : Int) = ((p + (q + 8) : Nat) : Int) by omega] at this
      · have := hsl8.mono hle
        rwa [List.drop_drop] at this
    refine ifEq (fun hput => ⟨i64 (by omega) (by omega), ⟨by omega, by omega⟩, ?_⟩) (fun hdel => ?_)
    · obtain ⟨w', hrun, g9, hw, hs9, hmg, hb9⟩ := hmp.put Try.underlying9 Try.underlying79 (by unfold maxLen; omega) _ hklen (.slice (slAddr ca cap (3 + keyLen cc) 1) (q - (3 + keyLen cc)) (cap - (3 + keyLen cc))) (B := g.w.heap.size) hgb
      refine ⟨w', hrun, g9, hw, hs9, next g9 _ (k + 1) (Nat.le_refl _) hb9 hs9.le hmg fun s => ?_⟩
      rw [hmp' s, if_pos (show (cc.getD 0 0).toNat = 1 by omega)]
      by_cases hsk : s = (cc.drop 3).take (keyLen cc)
      · subst hsk
        rw [if_pos rfl, upd_same]
        exact ⟨fun hh => (by cases hh), fun d hd => by cases hd; exact ⟨_, _, _, rfl, (SlB.drop hc8 (lo := 3 + keyLen cc) (by omega)).mono hs9.le⟩⟩
      · rw [if_neg hsk, upd_other _ _ hsk]
        exact ⟨(hfv s).1, fun d hd => by obtain ⟨a, m, c, e1, e2⟩ := (hfv s).2 d hd; exact ⟨a, m, c, e1, e2.mono hs9.le⟩⟩
    · obtain ⟨w', hrun, g9, hw, hs9, hmg, hb9⟩ := hmp.del Try.underlying9 Try.underlying79 _ hklen 0 (B := g.w.heap.size) hgb
      refine ⟨w', hrun, g9, hw, hs9, next g9 _ k (Nat.le_succ _) hb9 hs9.le hmg fun s => ?_⟩
      rw [hmp' s, if_neg (show ¬ (cc.getD 0 0).toNat = 1 by omega)]
      by_cases hsk : s = (cc.drop 3).take (keyLen cc)
      · subst hsk
        rw [if_pos rfl, upd_same]
        exact ⟨fun _ => rfl, fun d hd => by cases hd⟩
      · rw [if_neg hsk, upd_other _ _ hsk]
        exact ⟨(hfv s).1, fun d hd => by obtain ⟨a, m, c, e1, e2⟩ := (hfv s).2 d hd; exact ⟨a, m, c, e1, e2.mono hs9.le⟩⟩

theorem k29 (l : List UInt8) {a : Option Addr} {n c : Nat} {g : G} (h : SlB g a n c l) (hn : n ≤ 1148676) : CallsP Try.prog 29 #[.slice a n c] g fun v _ => v = .int .i64 ((endR l : Nat) : Int) := by
  refine call29 a n c g _ ?_
  have hll := SlB.length h
  unfold F29
  refine ⟨fun m p g4 => ∃ q : Nat, p = q ∧ q + m = n ∧ endR l = q + endR (l.drop q), ⟨n, 0, rfl, by omega, by simp⟩, ?_⟩
  rintro m p g1 le1 ⟨q, rfl, hqm, hend⟩
  refine ifLt (fun hlt => ⟨⟨by omega, by omega⟩, ?_⟩) (fun hge g5 m5 => ?_)
  · rw [Int.toNat_natCast]
    refine (k48 _ (SlB.drop (h.mono le1) (lo := q) (by omega)) (by omega)).mono ?_
    rintro v g2 m2 ⟨da, dl, dc, rfl, hd⟩
    refine ⟨_, _, _, _, _, _, rfl, ?_⟩
    unfold recOf
    cases hf : firstR (l.drop q) with
    | none =>
      refine ifEq (fun _ g3 m3 => ?_) (fun hh => absurd rfl hh)
      rw [hend, endR_none hf]
      rfl
    | some r =>
      have hlen := first_len hf
      rw [List.length_drop] at hlen
      simp only [Option.getD_some]
      refine ifEq (fun hh => by omega) (fun _ => ⟨i64 (by omega) (by omega), fun g4 m4 => ⟨m - r.len, by omega, q + r.len, by omega, by omega, ?_⟩⟩)
      rw [hend, endR_some hf, List.drop_drop]
      omega
  · have : l.drop q = [] := List.drop_eq_nil_of_le (by omega)
    rw [hend, this, endR_none (by rfl)]
    rfl
end Go.Proofs.Ytlofbfbcnlgmaaa
