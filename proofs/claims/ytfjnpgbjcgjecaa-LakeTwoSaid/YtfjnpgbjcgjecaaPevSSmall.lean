/- SMALL FUNCTIONS: what they give. -/
import Derived.Test.YtfjnpgbjcgjecaaPevSRat
namespace Go.PevTab
open Go.Pev Go.Num

section
variable {N k : Nat}

theorem base_Within (n lo hi : Int) : ev (envF N) (k + 1) F_base_Within [.int .i64 n, .int .i64 lo, .int .i64 hi] = some (.bool (decide (lo ≤ n ∧ n ≤ hi))) := by
  rw [E_base_Within, cond_dec]
  by_cases h : lo ≤ n <;> simp [h]
theorem lake_within (n lo hi : Int) : ev (envF N) (k + 1) F_lake_within [.int .i64 n, .int .i64 lo, .int .i64 hi] = some (.bool (decide (lo ≤ n ∧ n ≤ hi))) := by
  rw [E_lake_within, cond_dec]
  by_cases h : lo ≤ n <;> simp [h]
theorem lake_unless (b : Bool) (e : Int) : ev (envF N) (k + 1) F_lake_unless [.bool b, .int .i64 e] = some (.int .i64 (if b = true then 0 else e)) := by
  rw [E_lake_unless, cond_if]
  cases b <;> rfl

/-- The first number that is not 0. -/
def firstNz : List Int → Int
  | [] => 0
  | e :: l => if e = 0 then firstNz l else e

theorem lake_first_loop (l : List Int) : ∀ (d n i : Nat), i + d = l.length → l.length ≤ 100000 → d < n → L_lake_first_2 N k n (l.map cI) (l.length : Int) (i : Int) = some (.int .i64 (firstNz (l.drop i)))
  | 0, n + 1, i, h, hl, hn => by
    rw [L_lake_first_2_eq, cond_dec, if_neg (by omega), List.drop_eq_nil_of_le (by omega)]
    rfl
  | d + 1, n + 1, i, h, hl, hn => by
    have c1 : (i : Int) < (l.length : Int) := by omega
    have c2 : (0 : Int) ≤ (i : Int) := by omega
    have e1 : w64 ((i : Int) + 1) = ((i + 1 : Nat) : Int) := by rw [w64_id] <;> omega
    rw [L_lake_first_2_eq]
    simp only [cond_dec, cond_ndec, c1, c2, List.length_map, if_true, Int.toNat_natCast, leaf_cI, e1]
    rw [List.drop_eq_getElem_cons (by omega), firstNz, List.getD_eq_getElem?_getD, List.getElem?_eq_getElem (by omega), Option.getD_some]
    by_cases h0 : l[i] = 0
    · rw [if_pos h0, if_pos h0]
      exact lake_first_loop l d n (i + 1) (by omega) hl (by omega)
    · rw [if_neg h0, if_neg h0]

theorem lake_first (hN : 1000000 ≤ N) (l : List Int) (hl : l.length ≤ 100000) : ev (envF N) (k + 1) F_lake_first [.sl none [.int .i64] (l.map cI)] = some (.int .i64 (firstNz l)) := by
  rw [E_lake_first, List.length_map]
  exact lake_first_loop l l.length N 0 (by omega) hl (by omega)
theorem lake_first2 (hN : 1000000 ≤ N) (a b : Int) : ev (envF N) (k + 1) F_lake_first [.sl none [.int .i64] [[.int .i64 a], [.int .i64 b]]] = some (.int .i64 (if a = 0 then b else a)) := by
  have := lake_first (N := N) (k := k) hN [a, b] (by simp)
  refine this.trans ?_
  simp only [firstNz]
  by_cases h : a = 0 <;> by_cases h' : b = 0 <;> simp [h, h']
theorem lake_first3 (hN : 1000000 ≤ N) (a b c : Int) : ev (envF N) (k + 1) F_lake_first [.sl none [.int .i64] [[.int .i64 a], [.int .i64 b], [.int .i64 c]]] = some (.int .i64 (if a = 0 then if b = 0 then c else b else a)) := by
  have := lake_first (N := N) (k := k) hN [a, b, c] (by simp)
  refine this.trans ?_
  simp only [firstNz]
  by_cases h : a = 0 <;> by_cases h' : b = 0 <;> by_cases h'' : c = 0 <;> simp [h, h', h'']

end
end Go.PevTab
