/- PLAIN DATA AND THE EVALUATOR's VALUES: what the specifications of the functions lean on. -/
import Derived.Test.YtfjnpgbjcgjecaaPevNums
import Derived.Test.YtfjnpgbjcgjecaaPevNum
import Derived.Test.YtfjnpgbjcgjecaaPevTabs2
namespace Go.PevTab
open Go.Pev Go.Num

/-- The bounds of an int. -/
abbrev I64 (x : Int) : Prop := -9223372036854775808 ≤ x ∧ x ≤ 9223372036854775807

theorem w64_id {x : Int} (h1 : -9223372036854775808 ≤ x) (h2 : x ≤ 9223372036854775807) : w64 x = x := by
  unfold w64 IntKind.wrap
  simp only [IntKind.bits, IntKind.signed, Bool.true_and, decide_eq_true_eq, Nat.reduceSub, Int.reducePow, ge_iff_le]
  split <;> omega

/-- Not by 'rfl' for the simplifier: else the kernel would carry calls out to compare them. -/
theorem obind {α β : Type} (x : α) (f : α → Option β) : (some x).bind f = f x := id rfl
theorem nth_zero (x : PV) (l : List PV) : nth (x :: l) 0 = x := id rfl
theorem nth_one (x y : PV) (l : List PV) : nth (x :: y :: l) 1 = y := id rfl
theorem nth_two (x y z : PV) (l : List PV) : nth (x :: y :: z :: l) 2 = z := id rfl
theorem nth_three (x y z u : PV) (l : List PV) : nth (x :: y :: z :: u :: l) 3 = u := id rfl
theorem asI_int (k : IntKind) (n : Int) : asI (.int k n) = n := id rfl
theorem asB_bool (b : Bool) : asB (.bool b) = b := id rfl
theorem asL_sl (tag : Option (Nat × Nat)) (ls : List LK) (xs : List (List PV)) : asL (.sl tag ls xs) = xs := id rfl
theorem asA_agg (cs : List PV) : asA (.agg cs) = cs := id rfl
theorem asT_tup (vs : List PV) : asT (.tup vs) = vs := id rfl
theorem cond_dec {α : Type} (p : Prop) [Decidable p] (a b : α) : cond (decide p) a b = if p then a else b := by
  by_cases h : p <;> simp [h]
theorem cond_ndec {α : Type} (p : Prop) [Decidable p] (a b : α) : cond (!decide p) a b = if p then b else a := by
  by_cases h : p <;> simp [h]
theorem ite_max (a b : Int) : (if a > b then a else b) = max a b := by
  by_cases h : a > b <;> simp [h] <;> omega
theorem ite_min (a b : Int) : (if a < b then a else b) = min a b := by
  by_cases h : a < b <;> simp [h] <;> omega
theorem cond_t {α : Type} (a b : α) : cond true a b = a := id rfl
theorem cond_f {α : Type} (a b : α) : cond false a b = b := id rfl
theorem cond_n {α : Type} (c : Bool) (a b : α) : cond (!c) a b = cond c b a := by cases c <;> rfl
theorem cond_if {α : Type} (c : Bool) (a b : α) : cond c a b = if c = true then a else b := by cases c <;> rfl

theorem nths_map {α : Type} (c : α → List PV) (l : List α) (i : Nat) (h : i < l.length) : nths (l.map c) i = c l[i] := by
  simp [nths, h]

theorem leafI {α : Type} (c : α → List PV) (g : α → Int) (j : Nat) (d : α) (hc : ∀ a, asI (nth (c a) j) = g a) (hd : g d = 0) (l : List α) (i : Nat) : asI (nth (nths (l.map c) i) j) = g (l.getD i d) := by
  by_cases h : i < l.length
  · rw [nths_map c l i h, hc, List.getD_eq_getElem?_getD, List.getElem?_eq_getElem h]
    rfl
  · have : nths (l.map c) i = [] := by
      unfold nths
      rw [List.getD_eq_getElem?_getD, List.getElem?_eq_none (by simpa using h)]
      rfl
    rw [this, List.getD_eq_getElem?_getD, List.getElem?_eq_none (by omega)]
    simp [nth, asI, hd]

/-! Rows of plain data. -/
def cI (n : Int) : List PV := [.int .i64 n]
def cD (d : Nat) : List PV := [.int .i64 (d : Int)]
def cK (k : Knot) : List PV := [.int .i64 k.l, .int .i64 k.v]
theorem leaf_cI (l : List Int) (i : Nat) : asI (nth (nths (l.map cI) i) 0) = l.getD i 0 := leafI cI id 0 0 (fun _ => rfl) rfl l i
theorem leaf_cD (l : List Nat) (i : Nat) : asI (nth (nths (l.map cD) i) 0) = (l.getD i 0 : Nat) := leafI cD (fun n => (n : Int)) 0 0 (fun _ => rfl) rfl l i
theorem leaf_cKl (l : Tab) (i : Nat) : asI (nth (nths (l.map cK) i) 0) = (kn l i).l := leafI cK Knot.l 0 ⟨0, 0⟩ (fun _ => rfl) rfl l i
theorem leaf_cKv (l : Tab) (i : Nat) : asI (nth (nths (l.map cK) i) 1) = (kn l i).v := leafI cK Knot.v 1 ⟨0, 0⟩ (fun _ => rfl) rfl l i

/-- A table's value. -/
abbrev vTab (t : Tab) : PV := .agg [.sl none [.int .i64, .int .i64] (t.map cK)]
abbrev vRng (r : Int × Int) : PV := .agg [.int .i64 r.1, .int .i64 r.2]

end Go.PevTab
