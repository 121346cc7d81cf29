/- Branches; slices of bytes. -/
import Derived.Test.YtlofbfbcnlgmaaaVf1
set_option linter.unusedVariables false
namespace Go.Vc
open Go Go.RowKit

section
variable {A B : Prop} {a b : Int} {c : Bool}
theorem ifT (h1 : c = true → A) (h2 : c = false → B) : ifB c A B := ifB_iff.2 ⟨h1, h2⟩
theorem ifF (h1 : c = false → A) (h2 : c = true → B) : ifB (!c) A B := ifB_iff.2 ⟨fun h => h1 (by simpa using h), fun h => h2 (by simpa using h)⟩
theorem ifLt (h1 : a < b → A) (h2 : b ≤ a → B) : ifB (ltI a b) A B := ifB_iff.2 ⟨fun h => h1 (ltI_true ▸ h), fun h => h2 (ltI_false ▸ h)⟩
theorem ifLe (h1 : a ≤ b → A) (h2 : b < a → B) : ifB (leI a b) A B := ifB_iff.2 ⟨fun h => h1 (leI_true ▸ h), fun h => h2 (leI_false ▸ h)⟩
theorem ifEq (h1 : a = b → A) (h2 : a ≠ b → B) : ifB (eqI a b) A B := ifB_iff.2 ⟨fun h => h1 (eqI_true ▸ h), fun h => h2 (eqI_false ▸ h)⟩
theorem ifNe (h1 : a ≠ b → A) (h2 : a = b → B) : ifB (!eqI a b) A B := ifF (fun h => h1 (eqI_false ▸ h)) (fun h => h2 (eqI_true ▸ h))
theorem ifS {x y : ByteArray} (h1 : x = y → A) (h2 : x ≠ y → B) : ifB (strEq x y) A B := ifB_iff.2 ⟨fun h => h1 (strEq_true ▸ h), fun h => h2 (strEq_false ▸ h)⟩
theorem ifSn {x y : ByteArray} (h1 : x ≠ y → A) (h2 : x = y → B) : ifB (!strEq x y) A B := ifF (fun h => h1 (strEq_false ▸ h)) (fun h => h2 (strEq_true ▸ h))
/-- The truth of a sentence. -/
noncomputable def tf (p : Prop) : Bool := @decide p (Classical.propDecidable p)
@[simp] theorem tf_true {p : Prop} : (tf p = true) = p := by simp [tf]
@[simp] theorem tf_false {p : Prop} : (tf p = false) = ¬ p := by simp [tf]
theorem tf_iff {p q : Prop} (h : p ↔ q) : tf p = tf q := by rw [propext h]
theorem tf_of {p : Prop} (h : p) : tf p = true := tf_true.mpr h
theorem tf_no {p : Prop} (h : ¬ p) : tf p = false := tf_false.mpr h
theorem tf_bool (b : Bool) : tf (b = true) = b := by cases b <;> simp [tf]
theorem tf_le (a b : Int) : leI a b = tf (a ≤ b) := rfl
theorem tf_lt (a b : Int) : ltI a b = tf (a < b) := rfl
theorem tf_eq (a b : Int) : eqI a b = tf (a = b) := rfl
theorem tf_str (a b : ByteArray) : strEq a b = tf (a = b) := rfl
theorem tf_not (p : Prop) : (!tf p) = tf (¬ p) := by by_cases h : p <;> simp [tf, h]
theorem tf_and (p q : Prop) : (tf p && tf q) = tf (p ∧ q) := by by_cases h : p <;> by_cases k : q <;> simp [tf, h, k]
theorem tf_or (p q : Prop) : (tf p || tf q) = tf (p ∨ q) := by by_cases h : p <;> by_cases k : q <;> simp [tf, h, k]
theorem ifP {p : Prop} (h1 : p → A) (h2 : ¬ p → B) : ifB (tf p) A B := ifB_iff.2 ⟨fun h => h1 (tf_true.mp h), fun h => h2 (tf_false.mp h)⟩
theorem ifPn {p : Prop} (h1 : ¬ p → A) (h2 : p → B) : ifB (!tf p) A B := ifF (fun h => h1 (tf_false.mp h)) (fun h => h2 (tf_true.mp h))
theorem vT {p : Prop} (h : p) : Value.bool true = .bool (tf p) := by rw [tf_of h]
theorem vF {p : Prop} (h : ¬ p) : Value.bool false = .bool (tf p) := by rw [tf_no h]
theorem vP {p q : Prop} (h : p ↔ q) : Value.bool (tf p) = .bool (tf q) := by rw [tf_iff h]
theorem i64 {z : Int} (h1 : -9223372036854775808 ≤ z) (h2 : z ≤ 9223372036854775807) : InI64 z := ⟨h1, h2⟩
end

/-- A slice of bytes. -/
abbrev SlB (g : G) (a : Option Addr) (n c : Nat) (l : List UInt8) : Prop := Sl g 1 a n c (vs .u8 (nums l))
theorem nums_at (l : List UInt8) (i : Nat) (h : i < l.length) : (vs .u8 (nums l))[i]? = some (.int .u8 (((l.getD i 0).toNat : Nat) : Int)) := by
  rw [vs_get (by simpa using h)]
  simp [nums, List.getD_eq_getElem?_getD, h]
theorem nums_append (a b : List UInt8) : vs .u8 (nums (a ++ b)) = vs .u8 (nums a) ++ vs .u8 (nums b) := by simp [vs, nums]
theorem nums_take (a : List UInt8) (n : Nat) : vs .u8 (nums (a.take n)) = (vs .u8 (nums a)).take n := by simp [vs, nums, List.map_take]
theorem nums_drop (a : List UInt8) (n : Nat) : vs .u8 (nums (a.drop n)) = (vs .u8 (nums a)).drop n := by simp [vs, nums, List.map_drop]
theorem nums_lt (l : List UInt8) (i : Nat) : (((l.getD i 0).toNat : Nat) : Int) < 256 := by
  have := (l.getD i 0).toNat_lt
  omega
theorem SlB.length {g : G} {a : Option Addr} {n c : Nat} {l : List UInt8} (h : SlB g a n c l) : l.length = n := by have := h.len; simpa using this
theorem SlB.rd {g : G} {a : Option Addr} {n c : Nat} {l : List UInt8} (h : SlB g a n c l) {i : Int} (h0 : 0 ≤ i) (h1 : i < n) {K : Int → Prop} (hk : K (((l.getD i.toNat 0).toNat : Nat) : Int)) :
    derefP a fun ad => ∃ x : Int, g.w.cell? (Addr.add ad (Int.toNat i * 1)) = some (.int .u8 x) ∧ K x := by
  have hl := SlB.length h
  refine Sl.rd h (nums_at l i.toNat (by omega)) fun ad _ hc => ⟨_, ?_, hk⟩
  rw [Nat.mul_one]
  exact hc.1
/-- .. at a place that is a number. -/
theorem SlB.rdN {g : G} {a : Option Addr} {n c : Nat} {l : List UInt8} (h : SlB g a n c l) (k : Nat) {i : Int} (hi : i = (k : Int)) (h1 : k < n) {K : Int → Prop} (hk : K (((l.getD k 0).toNat : Nat) : Int)) :
    derefP a fun ad => ∃ x : Int, g.w.cell? (Addr.add ad (Int.toNat i * 1)) = some (.int .u8 x) ∧ K x := by
  subst hi
  exact SlB.rd h (by omega) (by omega) hk
theorem SlB.sub {g : G} {a : Option Addr} {n c : Nat} {l : List UInt8} (h : SlB g a n c l) {lo hi : Nat} (h1 : lo ≤ hi) (h2 : hi ≤ n) : SlB g (slAddr a c lo 1) (hi - lo) (c - lo) ((l.drop lo).take (hi - lo)) := by
  have := Sl.sub h h1 h2
  rw [Nat.mul_one, Nat.mul_one, ← nums_drop, ← nums_take] at this
  exact this
theorem SlB.take {g : G} {a : Option Addr} {n c : Nat} {l : List UInt8} (h : SlB g a n c l) {hi : Nat} (h2 : hi ≤ n) : SlB g (slAddr a c 0 1) (hi - 0) (c - 0) (l.take hi) := by
  have := SlB.sub h (Nat.zero_le hi) h2
  simpa using this
theorem SlB.drop {g : G} {a : Option Addr} {n c : Nat} {l : List UInt8} (h : SlB g a n c l) {lo : Nat} (h1 : lo ≤ n) : SlB g (slAddr a c lo 1) (n - lo) (c - lo) (l.drop lo) := by
  have := SlB.sub h h1 (Nat.le_refl n)
  rwa [List.take_of_length_le (by rw [List.length_drop, SlB.length h]; omega)] at this
/-- An own row of bytes. -/
abbrev OwnB (g : G) (B e : Nat) (a : Option Addr) (l c : Nat) (s : List UInt8) : Prop := OwnG g B e 1 a l c (vs .u8 (nums s))
theorem u8_one (l : List UInt8) : ∀ u ∈ vs .u8 (nums l), u.oneCell' = true := vs_one _ _
theorem OwnB.app {P : Program} {g : G} {B e : Nat} {a : Option Addr} {l c : Nat} {s : List UInt8} {t : TypeId} (E : Elem P t e 1 1) (ty : TypeId) (hB : B ≤ g.w.heap.size) (h : OwnB g B e a l c s) {na : Option Addr} {n cn : Nat} {r : List UInt8} (hN : SlB g na n cn r)
    (hb : l + n ≤ 140737488355328) (hm : l + n ≤ maxLen) : OwnG.Appd P g B e 1 a (l + n) (vs .u8 (nums (s ++ r))) (Builtin.append_ #[t, t] ty #[.slice a l c, .slice na n cn]) := by
  rw [nums_append]
  exact OwnG.app E ty hB h hN (u8_one r) (by omega) hm

/-- string(b). -/
theorem SlB.str {P : Program} {g : G} {a : Option Addr} {n c : Nat} {l : List UInt8} (h : SlB g a n c l) {src dst e : TypeId} (hs : P.underlying src = some (.slice e)) (he : P.underlying e = some (.int .u8)) (hd : P.underlying dst = some .string) :
    (convert src dst (.slice a n c)).run P g.w = .ok (.string ⟨l.toArray⟩) g.w := string_of hs he hd (Sl.slv h)

/-- A new row that is not to be written: whatever its frozen range. -/
theorem new_live {g : G} {w' : World} {B : Nat} (hB : B ≤ g.w.heap.size) (hs : g.w.heap.size < w'.heap.size) (ho : w'.os = g.w.os ∧ w'.tape = g.w.tape ∧ w'.output = g.w.output) (h : ∀ b, b < g.w.heap.size → w'.heap[b]? = g.w.heap[b]?) :
    ∃ g' : G, g'.w = w' ∧ Stp B nobody g g' ∧ Ex g g' ∧ ¬ g'.X g.w.heap.size ∧ (∀ i, ¬ g'.D g.w.heap.size i) ∧ (∀ b, g'.X b ↔ g.X b) ∧ (∀ b i, g'.D b i ↔ g.D b i) := by
  let g' : G := ⟨w', g.X, g.D, fun b hb => Nat.lt_trans (g.hX b hb) hs, fun b i hb => Nat.lt_trans (g.hD b i hb) hs⟩
  have hex : Ex g g' := ⟨Nat.le_of_lt hs, fun b _ hx => hx, fun b hb _ => h b hb, fun b _ _ i => Iff.rfl⟩
  exact ⟨g', rfl, ⟨hex.le, fun _ => Iff.rfl, fun b hb => h b (g.hX b hb), ho.1, ho.2.1, ho.2.2, fun b hb _ => h b (by omega), fun _ _ _ _ => Iff.rfl⟩, hex, fun hx => absurd (g.hX _ hx) (by simp), fun i hd => absurd (g.hD _ _ hd) (by simp), fun _ => Iff.rfl, fun _ _ => Iff.rfl⟩

/-- []byte(s). -/
theorem bytesG {P : Program} {g : G} {B : Nat} {src dst e : TypeId} (s : ByteArray) (hs : P.underlying src = some .string) (hd : P.underlying dst = some (.slice e)) (he : P.underlying e = some (.int .u8)) (hB : B ≤ g.w.heap.size) (hl : s.size ≤ maxLen) :
    ∃ a c w', (convert src dst (.string s)).run P g.w = .ok (.slice a s.size c) w' ∧ ∃ g', g'.w = w' ∧ Stp B nobody g g' ∧ SlB g' a s.size c s.data.toList ∧ Ex g g' := by
  have hr := run_bytes_of_string (P := P) g.w src dst e s hs hd he
  have hge := grownCap_ge g.w s.size 0 e
  have hcm := grownCap_le_maxLen g.w s.size 0 e hl
  have hat := bytesRow_at s (grownCap g.w s.size 0 e)
  generalize hC : bytesRow s (grownCap g.w s.size 0 e) = C at *
  refine ⟨_, _, _, hr, ?_⟩
  obtain ⟨g', h1, h2, h3, h4, h5, _, _⟩ := new_live (g := g) (w' := g.w.drew.alloc (.cells C e (C.size, C.size + 1))) hB (by simp) ⟨rfl, rfl, rfl⟩ (fun b hb => Below.heap_alloc g.w.drew _ b hb)
  refine ⟨g', h1, h2, ⟨by simp, hge, hcm, fun h => (by cases h), ?_⟩, h3⟩
  rintro ad had i v hi
  cases had
  rw [add_row, Nat.zero_add]
  refine ⟨?_, h4, h5 i⟩
  have hlt : i < s.data.size := by
    have := (List.getElem?_eq_some_iff.1 hi).1
    simpa using this
  have hv : v = .int .u8 ((s.data[i].toNat : Nat) : Int) := by
    rw [nums_at _ _ (by simpa using hlt)] at hi
    cases hi
    simp only [List.getD_eq_getElem?_getD, Array.getElem?_toList]
    rw [Array.getElem?_eq_getElem hlt]
    rfl
  subst hv
  rw [h1]
  unfold World.cell?
  show (match (g.w.heap.push (.cells C e (C.size, C.size + 1)))[g.w.heap.size]? with | some (.cells c _ _) => _ | _ => _) = _
  simp [hat i hlt]

/-- Results that are written out. -/
theorem CallsP.fin {P : Program} {f : FuncId} {args : Array Value} {g : G} {v : Value} {Q : G → Prop} (h : CallsP P f args g fun u g' => u = v ∧ Q g') : CallsP P f args g fun u g' => u = v ∧ Q g' := h
end Go.Vc
