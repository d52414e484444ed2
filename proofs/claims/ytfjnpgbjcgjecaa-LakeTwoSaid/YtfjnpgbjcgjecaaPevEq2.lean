/- EQUATIONS OF FUNCTIONS, by the kernel's own reckoning; written by a program. -/
import Derived.Test.YtfjnpgbjcgjecaaPevNums
namespace Go.PevTab
open Go.Pev Go
set_option maxRecDepth 100000
set_option linter.unusedVariables false

theorem E_lake_ceil (N k : Nat) (x0 : Int) (x1 : Int) : ev (envF N) (k + 1) F_lake_ceil [(.int .i64 x0), (.int .i64 x1)] =
 ((ev (envF N) k F_lake_floor [(.int .i64 (w64 ((0 : Int) - x0))), (.int .i64 x1)]).bind fun r1 =>
 some (.int .i64 (w64 ((0 : Int) - (asI r1))))) := by kernel_rfl

theorem E_lake_table_byVolume_c1 (N k : Nat) (x0 : Int) (x1 : Int) (x2 : Int) : ev (envF N) (k + 1) F_lake_table_byVolume_c1 [(.agg [(.int .i64 x0), (.int .i64 x1)]), (.rp [(.int .i64 x2)] 0)] =
 (some (.bool (decide (x2 ≤ x1)))) := by kernel_rfl

theorem E_base_WideCmp (N k : Nat) (x0 : Int) (x1 : List (List PV)) (x2 : Int) (x3 : List (List PV)) : ev (envF N) (k + 1) F_base_WideCmp [(.agg [(.int .i64 x0), (.sl none [.int .i64] x1)]), (.agg [(.int .i64 x2), (.sl none [.int .i64] x3)])] =
 ((ev (envF N) k F_base_WideSub [(.agg [(.int .i64 x0), (.sl none [.int .i64] x1)]), (.agg [(.int .i64 x2), (.sl none [.int .i64] x3)])]).bind fun r1 =>
 some (.int .i64 (asI (nth (asA r1) 0)))) := by kernel_rfl

/-- Loop 3 of base_WideMul. -/
noncomputable def L_base_WideMul_3 (N k n3  : Nat) (x0 : Int) (x1 : Int) (x2 : List (List PV)) (x3 : Int) (x4 : List (List PV)) (x5 : Int) (x6 : List (List PV)) (x7 : List (List PV)) : Option PV := loopAt (envF N) (ev (envF N) k) F_base_WideMul Go.Proofs.Try.f155 [.r, .r, .l, .r, .b] n3 { slots := (und 2 ((.ptr 2 0) :: (.ptr 3 0) :: (.ptr 4 0) :: (.row 18) :: (.int .i64 x0) :: und 79 [])), boxes := (nos 2 ((some (.cells [(.int .i64 x1), (.sl none [.int .i64] x2)] false)) :: (some (.cells [(.int .i64 x3), (.sl none [.int .i64] x4)] false)) :: (some (.cells [(.int .i64 x5), (.sl none [.int .i64] x6)] false)) :: nos 13 ((some (.row [.int .i64] x7 false)) :: nos 67 []))), vers := List.replicate 86 0 }
/-- Loop 7 of base_WideMul. -/
noncomputable def L_base_WideMul_7 (N k n7 n3 : Nat) (x0 : Int) (x1 : Int) (x2 : Int) (x3 : Int) (x4 : List (List PV)) (x5 : Int) (x6 : List (List PV)) (x7 : Int) (x8 : List (List PV)) (x9 : List (List PV)) : Option PV := loopAt (envF N) (ev (envF N) k) F_base_WideMul Go.Proofs.Try.f155 [.r, .r, .l, .r, .b, .p n3, .r, .l, .b, .r, .l, .r, .b] n7 { slots := (und 2 ((.ptr 2 0) :: (.ptr 3 0) :: (.ptr 4 0) :: (.row 18) :: (.int .i64 x0) :: (.int .i64 x1) :: (.int .i64 x2) :: und 77 [])), boxes := (nos 2 ((some (.cells [(.int .i64 x3), (.sl none [.int .i64] x4)] false)) :: (some (.cells [(.int .i64 x5), (.sl none [.int .i64] x6)] false)) :: (some (.cells [(.int .i64 x7), (.sl none [.int .i64] x8)] false)) :: nos 13 ((some (.row [.int .i64] x9 false)) :: nos 67 []))), vers := List.replicate 86 0 }
theorem L_base_WideMul_3_eq (N k n3  : Nat) (x0 : Int) (x1 : Int) (x2 : List (List PV)) (x3 : Int) (x4 : List (List PV)) (x5 : Int) (x6 : List (List PV)) (x7 : List (List PV)) : L_base_WideMul_3 N k (n3 + 1)  x0 x1 x2 x3 x4 x5 x6 x7 =
 (cond (decide (x0 < ((List.length x2) : Int)))
 (L_base_WideMul_7 N k N n3 x0 (0 : Int) (0 : Int) x1 x2 x3 x4 x5 x6 x7)
 ((ev (envF N) k F_base_wideOf [(.int .i64 (w64 (x1 * x3))), (.sl none [.int .i64] x7)]).bind fun r2 =>
  some (.agg [(.int .i64 (asI (nth (asA r2) 0))), (.sl none [.int .i64] (asL (nth (asA r2) 1)))]))) := by kernel_rfl
theorem L_base_WideMul_7_eq (N k n7 n3 : Nat) (x0 : Int) (x1 : Int) (x2 : Int) (x3 : Int) (x4 : List (List PV)) (x5 : Int) (x6 : List (List PV)) (x7 : Int) (x8 : List (List PV)) (x9 : List (List PV)) : L_base_WideMul_7 N k (n7 + 1) n3 x0 x1 x2 x3 x4 x5 x6 x7 x8 x9 =
 (cond (decide (x2 < ((List.length x6) : Int)))
 (cond (decide ((0 : Int) ≤ (w64 (x0 + x2))))
  (cond (decide ((w64 (x0 + x2)) < ((List.length x9) : Int)))
   (cond (decide ((0 : Int) ≤ x0))
    (cond (decide (x0 < ((List.length x4) : Int)))
     (cond (decide ((0 : Int) ≤ x2))
      (cond (decide (x2 < ((List.length x6) : Int)))
       (cond (decide ((0 : Int) ≤ (w64 (x0 + x2))))
        (cond (decide ((w64 (x0 + x2)) < ((List.length x9) : Int)))
         (L_base_WideMul_7 N k n7 n3 x0 (w64 (Int.tdiv (w64 ((w64 ((asI (nth (nths x9 (Int.toNat (w64 (x0 + x2)))) 0)) + (w64 ((asI (nth (nths x4 (Int.toNat x0)) 0)) * (asI (nth (nths x6 (Int.toNat x2)) 0)))))) + x1)) (1000000000 : Int))) (w64 (x2 + (1 : Int))) x3 x4 x5 x6 x7 x8 (List.set x9 (Int.toNat (w64 (x0 + x2))) (List.set (nths x9 (Int.toNat (w64 (x0 + x2)))) 0 (.int .i64 (Int.tmod (w64 ((w64 ((asI (nth (nths x9 (Int.toNat (w64 (x0 + x2)))) 0)) + (w64 ((asI (nth (nths x4 (Int.toNat x0)) 0)) * (asI (nth (nths x6 (Int.toNat x2)) 0)))))) + x1)) (1000000000 : Int))))))
         (none))
        (none))
       (none))
      (none))
     (none))
    (none))
   (none))
  (none))
 (cond (decide ((0 : Int) ≤ (w64 (x0 + ((List.length x6) : Int)))))
  (cond (decide ((w64 (x0 + ((List.length x6) : Int))) < ((List.length x9) : Int)))
   (cond (decide ((0 : Int) ≤ (w64 (x0 + ((List.length x6) : Int)))))
    (cond (decide ((w64 (x0 + ((List.length x6) : Int))) < ((List.length x9) : Int)))
     (L_base_WideMul_3 N k n3  (w64 (x0 + (1 : Int))) x3 x4 x5 x6 x7 x8 (List.set x9 (Int.toNat (w64 (x0 + (x6.length : Int)))) (List.set (nths x9 (Int.toNat (w64 (x0 + (x6.length : Int))))) 0 (.int .i64 (w64 ((asI (nth (nths x9 (Int.toNat (w64 (x0 + (x6.length : Int))))) 0)) + x1))))))
     (none))
    (none))
   (none))
  (none))) := by kernel_rfl
theorem E_base_WideMul (N k : Nat) (x0 : Int) (x1 : List (List PV)) (x2 : Int) (x3 : List (List PV)) : ev (envF N) (k + 1) F_base_WideMul [(.agg [(.int .i64 x0), (.sl none [.int .i64] x1)]), (.agg [(.int .i64 x2), (.sl none [.int .i64] x3)])] =
 (cond (decide ((w64 ((w64 (((List.length x1) : Int) + ((List.length x3) : Int))) + (1 : Int))) = (w64 ((w64 (((List.length x1) : Int) + ((List.length x3) : Int))) + (1 : Int)))))
 (cond (decide ((0 : Int) ≤ (w64 ((w64 (((List.length x1) : Int) + ((List.length x3) : Int))) + (1 : Int)))))
  (cond (decide (((w64 ((w64 (((List.length x1) : Int) + ((List.length x3) : Int))) + (1 : Int))) * (8 : Int)) ≤ (140737488355328 : Int)))
   (L_base_WideMul_3 N k N  (0 : Int) x0 x1 x2 x3 (0 : Int) [] (List.replicate (Int.toNat (w64 (w64 ((x1.length : Int) + (x3.length : Int)) + (1 : Int)))) ([.int .i64 0])))
   (none))
  (none))
 (none)) := by kernel_rfl

theorem E_base_RatioOf (N k : Nat) (x0 : Int) (x1 : Int) : ev (envF N) (k + 1) F_base_RatioOf [(.int .i64 x0), (.int .i64 x1)] =
 ((ev (envF N) k F_base_WideOf [(.int .i64 x0)]).bind fun r1 =>
 (ev (envF N) k F_base_WideOf [(.int .i64 x1)]).bind fun r2 =>
  (ev (envF N) k F_base_RatioMake [(.agg [(.int .i64 (asI (nth (asA r1) 0))), (.sl none [.int .i64] (asL (nth (asA r1) 1)))]), (.agg [(.int .i64 (asI (nth (asA r2) 0))), (.sl none [.int .i64] (asL (nth (asA r2) 1)))])]).bind fun r3 =>
   some (.agg [(.int .i64 (asI (nth (asA r3) 0))), (.sl none [.int .i64] (asL (nth (asA r3) 1))), (.int .i64 (asI (nth (asA r3) 2))), (.sl none [.int .i64] (asL (nth (asA r3) 3)))])) := by kernel_rfl

/-- Loop 5 of base_WideInt. -/
noncomputable def L_base_WideInt_5 (N k n5  : Nat) (x0 : Int) (x1 : Int) (x2 : Int) (x3 : List (List PV)) : Option PV := loopAt (envF N) (ev (envF N) k) F_base_WideInt Go.Proofs.Try.f157 [.r, .r, .r, .l, .r, .b] n5 { slots := (und 1 ((.ptr 1 0) :: und 2 ((.int .i64 x0) :: (.int .i64 x1) :: und 24 []))), boxes := (nos 1 ((some (.cells [(.int .i64 x2), (.sl none [.int .i64] x3)] false)) :: nos 28 [])), vers := List.replicate 30 0 }
theorem L_base_WideInt_5_eq (N k n5  : Nat) (x0 : Int) (x1 : Int) (x2 : Int) (x3 : List (List PV)) : L_base_WideInt_5 N k (n5 + 1)  x0 x1 x2 x3 =
 (cond (decide ((0 : Int) ≤ x1))
 (cond (decide ((0 : Int) ≤ x1))
  (cond (decide (x1 < ((List.length x3) : Int)))
   (L_base_WideInt_5 N k n5  (w64 ((w64 (x0 * (1000000000 : Int))) + (asI (nth (nths x3 (Int.toNat x1)) 0)))) (w64 (x1 - (1 : Int))) x2 x3)
   (none))
  (none))
 (some (.tup [(.int .i64 (w64 (x2 * x0))), (.bool (true))]))) := by kernel_rfl
theorem E_base_WideInt (N k : Nat) (x0 : Int) (x1 : List (List PV)) : ev (envF N) (k + 1) F_base_WideInt [(.agg [(.int .i64 x0), (.sl none [.int .i64] x1)])] =
 (cond (decide ((2 : Int) < ((List.length x1) : Int)))
 (some (.tup [(.int .i64 (0 : Int)), (.bool (false))]))
 (L_base_WideInt_5 N k N  (0 : Int) (w64 (((List.length x1) : Int) - (1 : Int))) x0 x1)) := by kernel_rfl

theorem E_base_RatioFloor (N k : Nat) (x0 : Int) (x1 : List (List PV)) (x2 : Int) (x3 : List (List PV)) : ev (envF N) (k + 1) F_base_RatioFloor [(.agg [(.int .i64 x0), (.sl none [.int .i64] x1), (.int .i64 x2), (.sl none [.int .i64] x3)])] =
 ((ev (envF N) k F_base_WideFloor [(.agg [(.int .i64 x0), (.sl none [.int .i64] x1)]), (.agg [(.int .i64 x2), (.sl none [.int .i64] x3)])]).bind fun r1 =>
 some (.agg [(.int .i64 (asI (nth (asA r1) 0))), (.sl none [.int .i64] (asL (nth (asA r1) 1)))])) := by kernel_rfl

theorem E_base_RatioCeil (N k : Nat) (x0 : Int) (x1 : List (List PV)) (x2 : Int) (x3 : List (List PV)) : ev (envF N) (k + 1) F_base_RatioCeil [(.agg [(.int .i64 x0), (.sl none [.int .i64] x1), (.int .i64 x2), (.sl none [.int .i64] x3)])] =
 ((ev (envF N) k F_base_WideNeg [(.agg [(.int .i64 x0), (.sl none [.int .i64] x1)])]).bind fun r1 =>
 (ev (envF N) k F_base_WideFloor [(.agg [(.int .i64 (asI (nth (asA r1) 0))), (.sl none [.int .i64] (asL (nth (asA r1) 1)))]), (.agg [(.int .i64 x2), (.sl none [.int .i64] x3)])]).bind fun r2 =>
  (ev (envF N) k F_base_WideNeg [(.agg [(.int .i64 (asI (nth (asA r2) 0))), (.sl none [.int .i64] (asL (nth (asA r2) 1)))])]).bind fun r3 =>
   some (.agg [(.int .i64 (asI (nth (asA r3) 0))), (.sl none [.int .i64] (asL (nth (asA r3) 1)))])) := by kernel_rfl

theorem E_base_RatioAdd (N k : Nat) (x0 : Int) (x1 : List (List PV)) (x2 : Int) (x3 : List (List PV)) (x4 : Int) (x5 : List (List PV)) (x6 : Int) (x7 : List (List PV)) : ev (envF N) (k + 1) F_base_RatioAdd [(.agg [(.int .i64 x0), (.sl none [.int .i64] x1), (.int .i64 x2), (.sl none [.int .i64] x3)]), (.agg [(.int .i64 x4), (.sl none [.int .i64] x5), (.int .i64 x6), (.sl none [.int .i64] x7)])] =
 ((ev (envF N) k F_base_WideMul [(.agg [(.int .i64 x0), (.sl none [.int .i64] x1)]), (.agg [(.int .i64 x6), (.sl none [.int .i64] x7)])]).bind fun r1 =>
 (ev (envF N) k F_base_WideMul [(.agg [(.int .i64 x4), (.sl none [.int .i64] x5)]), (.agg [(.int .i64 x2), (.sl none [.int .i64] x3)])]).bind fun r2 =>
  (ev (envF N) k F_base_WideAdd [(.agg [(.int .i64 (asI (nth (asA r1) 0))), (.sl none [.int .i64] (asL (nth (asA r1) 1)))]), (.agg [(.int .i64 (asI (nth (asA r2) 0))), (.sl none [.int .i64] (asL (nth (asA r2) 1)))])]).bind fun r3 =>
   (ev (envF N) k F_base_WideMul [(.agg [(.int .i64 x2), (.sl none [.int .i64] x3)]), (.agg [(.int .i64 x6), (.sl none [.int .i64] x7)])]).bind fun r4 =>
    (ev (envF N) k F_base_RatioMake [(.agg [(.int .i64 (asI (nth (asA r3) 0))), (.sl none [.int .i64] (asL (nth (asA r3) 1)))]), (.agg [(.int .i64 (asI (nth (asA r4) 0))), (.sl none [.int .i64] (asL (nth (asA r4) 1)))])]).bind fun r5 =>
     some (.agg [(.int .i64 (asI (nth (asA r5) 0))), (.sl none [.int .i64] (asL (nth (asA r5) 1))), (.int .i64 (asI (nth (asA r5) 2))), (.sl none [.int .i64] (asL (nth (asA r5) 3)))])) := by kernel_rfl

/-- Loop 1 of base_Gcd. -/
noncomputable def L_base_Gcd_1 (N k n1  : Nat) (x0 : Int) (x1 : Int) : Option PV := loopAt (envF N) (ev (envF N) k) F_base_Gcd Go.Proofs.Try.f161 [.r, .l, .b] n1 { slots := ((.int .i64 x0) :: (.int .i64 x1) :: und 11 []), boxes := (nos 13 []), vers := List.replicate 13 0 }
theorem L_base_Gcd_1_eq (N k n1  : Nat) (x0 : Int) (x1 : Int) : L_base_Gcd_1 N k (n1 + 1)  x0 x1 =
 (cond (!(decide (x1 = (0 : Int))))
 (cond (!(decide (x1 = (0 : Int))))
  (L_base_Gcd_1 N k n1  x1 (Int.tmod x0 x1))
  (none))
 ((ev (envF N) k F_base_Size [(.int .i64 x0)]).bind fun r2 =>
  some (.int .i64 (asI r2)))) := by kernel_rfl
theorem E_base_Gcd (N k : Nat) (x0 : Int) (x1 : Int) : ev (envF N) (k + 1) F_base_Gcd [(.int .i64 x0), (.int .i64 x1)] =
 (L_base_Gcd_1 N k N  x0 x1) := by kernel_rfl

theorem E_slices_ContainsFunc_int (N k : Nat) (x0 : List (List PV)) : ev (envF N) (k + 1) F_slices_ContainsFunc_int [(.sl none [.int .i64] x0), (.fn F_lake_netErr_c1 [])] =
 ((ev (envF N) k F_slices_IndexFunc_int [(.sl none [.int .i64] x0), (.fn F_lake_netErr_c1 [])]).bind fun r1 =>
 some (.bool (decide ((0 : Int) ≤ (asI r1))))) := by kernel_rfl

theorem E_base_RatioMake (N k : Nat) (x0 : Int) (x1 : List (List PV)) (x2 : Int) (x3 : List (List PV)) : ev (envF N) (k + 1) F_base_RatioMake [(.agg [(.int .i64 x0), (.sl none [.int .i64] x1)]), (.agg [(.int .i64 x2), (.sl none [.int .i64] x3)])] =
 ((ev (envF N) k F_base_WideSign [(.agg [(.int .i64 x2), (.sl none [.int .i64] x3)])]).bind fun r1 =>
 cond (decide ((asI r1) < (0 : Int)))
  ((ev (envF N) k F_base_WideNeg [(.agg [(.int .i64 x0), (.sl none [.int .i64] x1)])]).bind fun r3 =>
   (ev (envF N) k F_base_WideNeg [(.agg [(.int .i64 x2), (.sl none [.int .i64] x3)])]).bind fun r4 =>
    (ev (envF N) k F_base_wideGcd [(.agg [(.int .i64 (asI (nth (asA r3) 0))), (.sl none [.int .i64] (asL (nth (asA r3) 1)))]), (.agg [(.int .i64 (asI (nth (asA r4) 0))), (.sl none [.int .i64] (asL (nth (asA r4) 1)))])]).bind fun r5 =>
     (ev (envF N) k F_base_WideOf [(.int .i64 (1 : Int))]).bind fun r6 =>
      (ev (envF N) k F_base_WideCmp [(.agg [(.int .i64 (asI (nth (asA r5) 0))), (.sl none [.int .i64] (asL (nth (asA r5) 1)))]), (.agg [(.int .i64 (asI (nth (asA r6) 0))), (.sl none [.int .i64] (asL (nth (asA r6) 1)))])]).bind fun r7 =>
       cond (decide ((asI r7) = (0 : Int)))
        (some (.agg [(.int .i64 (asI (nth (asA r3) 0))), (.sl none [.int .i64] (asL (nth (asA r3) 1))), (.int .i64 (asI (nth (asA r4) 0))), (.sl none [.int .i64] (asL (nth (asA r4) 1)))]))
        ((ev (envF N) k F_base_WideFloor [(.agg [(.int .i64 (asI (nth (asA r3) 0))), (.sl none [.int .i64] (asL (nth (asA r3) 1)))]), (.agg [(.int .i64 (asI (nth (asA r5) 0))), (.sl none [.int .i64] (asL (nth (asA r5) 1)))])]).bind fun r9 =>
         (ev (envF N) k F_base_WideFloor [(.agg [(.int .i64 (asI (nth (asA r4) 0))), (.sl none [.int .i64] (asL (nth (asA r4) 1)))]), (.agg [(.int .i64 (asI (nth (asA r5) 0))), (.sl none [.int .i64] (asL (nth (asA r5) 1)))])]).bind fun r10 =>
          some (.agg [(.int .i64 (asI (nth (asA r9) 0))), (.sl none [.int .i64] (asL (nth (asA r9) 1))), (.int .i64 (asI (nth (asA r10) 0))), (.sl none [.int .i64] (asL (nth (asA r10) 1)))])))
  ((ev (envF N) k F_base_wideGcd [(.agg [(.int .i64 x0), (.sl none [.int .i64] x1)]), (.agg [(.int .i64 x2), (.sl none [.int .i64] x3)])]).bind fun r3 =>
   (ev (envF N) k F_base_WideOf [(.int .i64 (1 : Int))]).bind fun r4 =>
    (ev (envF N) k F_base_WideCmp [(.agg [(.int .i64 (asI (nth (asA r3) 0))), (.sl none [.int .i64] (asL (nth (asA r3) 1)))]), (.agg [(.int .i64 (asI (nth (asA r4) 0))), (.sl none [.int .i64] (asL (nth (asA r4) 1)))])]).bind fun r5 =>
     cond (decide ((asI r5) = (0 : Int)))
      (some (.agg [(.int .i64 x0), (.sl none [.int .i64] x1), (.int .i64 x2), (.sl none [.int .i64] x3)]))
      ((ev (envF N) k F_base_WideFloor [(.agg [(.int .i64 x0), (.sl none [.int .i64] x1)]), (.agg [(.int .i64 (asI (nth (asA r3) 0))), (.sl none [.int .i64] (asL (nth (asA r3) 1)))])]).bind fun r7 =>
       (ev (envF N) k F_base_WideFloor [(.agg [(.int .i64 x2), (.sl none [.int .i64] x3)]), (.agg [(.int .i64 (asI (nth (asA r3) 0))), (.sl none [.int .i64] (asL (nth (asA r3) 1)))])]).bind fun r8 =>
        some (.agg [(.int .i64 (asI (nth (asA r7) 0))), (.sl none [.int .i64] (asL (nth (asA r7) 1))), (.int .i64 (asI (nth (asA r8) 0))), (.sl none [.int .i64] (asL (nth (asA r8) 1)))])))) := by kernel_rfl

/-- Loop 5 of base_WideOf. -/
noncomputable def L_base_WideOf_5 (N k n5  : Nat) (x0 : Int) (x1 : Int) (x2 : List (List PV)) (x3 : Int) (x4 : List (List PV)) : Option PV := loopAt (envF N) (ev (envF N) k) F_base_WideOf Go.Proofs.Try.f176 [.r, .r, .r, .r, .l, .b] n5 { slots := ((.int .i64 x0) :: und 1 ((.ptr 2 0) :: (.int .i64 x1) :: (.sl (some (4, 0)) [.int .i64] x2) :: und 15 [])), boxes := (nos 2 ((some (.cells [(.int .i64 x3), (.sl none [.int .i64] x4)] false)) :: nos 17 [])), vers := List.replicate 20 0 }
theorem L_base_WideOf_5_eq (N k n5  : Nat) (x0 : Int) (x1 : Int) (x2 : List (List PV)) (x3 : Int) (x4 : List (List PV)) : L_base_WideOf_5 N k (n5 + 1)  x0 x1 x2 x3 x4 =
 (cond (!(decide (x0 = (0 : Int))))
 ((ev (envF N) k F_base_Size [(.int .i64 (Int.tmod x0 (1000000000 : Int)))]).bind fun r2 =>
  cond (room x2 [[(.int .i64 (asI r2))]] 8)
   (L_base_WideOf_5 N k n5  (w64 (Int.tdiv x0 (1000000000 : Int))) x1 (x2 ++ [[(.int .i64 (asI r2))]]) x3 x4)
   (none))
 ((ev (envF N) k F_base_wideOf [(.int .i64 x1), (.sl none [.int .i64] x2)]).bind fun r2 =>
  some (.agg [(.int .i64 (asI (nth (asA r2) 0))), (.sl none [.int .i64] (asL (nth (asA r2) 1)))]))) := by kernel_rfl
theorem E_base_WideOf (N k : Nat) (x0 : Int) : ev (envF N) (k + 1) F_base_WideOf [(.int .i64 x0)] =
 (cond (decide (x0 < (0 : Int)))
 (L_base_WideOf_5 N k N  x0 (-1 : Int) [] (0 : Int) [])
 (L_base_WideOf_5 N k N  x0 (1 : Int) [] (0 : Int) [])) := by kernel_rfl

theorem E_lake_netErr_c1 (N k : Nat) (x0 : Int) : ev (envF N) (k + 1) F_lake_netErr_c1 [(.int .i64 x0)] =
 ((ev (envF N) k F_lake_within [(.int .i64 x0), (.int .i64 (-10000000 : Int)), (.int .i64 (10000000 : Int))]).bind fun r1 =>
 some (.bool (!(asB r1)))) := by kernel_rfl

theorem E_lake_table_readingsErr_c1 (N k : Nat) (x0 : Int) (x1 : List (List PV)) : ev (envF N) (k + 1) F_lake_table_readingsErr_c1 [(.int .i64 x0), (.rp [(.sl none [.int .i64, .int .i64] x1)] 0)] =
 ((ev (envF N) k F_lake_table_bottom [(.agg [(.sl none [.int .i64, .int .i64] x1)])]).bind fun r1 =>
 (ev (envF N) k F_lake_table_top [(.agg [(.sl none [.int .i64, .int .i64] x1)])]).bind fun r2 =>
  (ev (envF N) k F_lake_within [(.int .i64 x0), (.int .i64 (asI (nth (asA r1) 0))), (.int .i64 (asI (nth (asA r2) 0)))]).bind fun r3 =>
   some (.bool (asB r3))) := by kernel_rfl

/-- Loop 2 of slices_IndexFunc_LakeKnot. -/
noncomputable def L_slices_IndexFunc_LakeKnot_2 (N k n2  : Nat) (x0 : List (List PV)) (x1 : Int) (x2 : Int) (x3 : Int) : Option PV := loopAt (envF N) (ev (envF N) k) F_slices_IndexFunc_LakeKnot Go.Proofs.Try.f183 [.r, .l, .r, .b] n2 { slots := ((.sl none [.int .i64, .int .i64] x0) :: (.fn F_lake_table_byVolume_c1 [(.rp [(.int .i64 x1)] 0)]) :: und 5 ((.int .i64 x2) :: (.int .i64 x3) :: und 10 [])), boxes := (nos 19 []), vers := List.replicate 19 0 }
theorem L_slices_IndexFunc_LakeKnot_2_eq (N k n2  : Nat) (x0 : List (List PV)) (x1 : Int) (x2 : Int) (x3 : Int) : L_slices_IndexFunc_LakeKnot_2 N k (n2 + 1)  x0 x1 x2 x3 =
 (cond (decide (x3 < x2))
 (cond (decide ((0 : Int) ≤ x3))
  (cond (decide (x3 < ((List.length x0) : Int)))
   ((ev (envF N) k F_lake_table_byVolume_c1 [(.agg [(.int .i64 (asI (nth (nths x0 (Int.toNat x3)) 0))), (.int .i64 (asI (nth (nths x0 (Int.toNat x3)) 1)))]), (.rp [(.int .i64 x1)] 0)]).bind fun r4 =>
    cond (asB r4)
     (some (.int .i64 x3))
     (L_slices_IndexFunc_LakeKnot_2 N k n2  x0 x1 x2 (w64 (x3 + (1 : Int)))))
   (none))
  (none))
 (some (.int .i64 (-1 : Int)))) := by kernel_rfl
theorem E_slices_IndexFunc_LakeKnot (N k : Nat) (x0 : List (List PV)) (x1 : Int) : ev (envF N) (k + 1) F_slices_IndexFunc_LakeKnot [(.sl none [.int .i64, .int .i64] x0), (.fn F_lake_table_byVolume_c1 [(.rp [(.int .i64 x1)] 0)])] =
 (L_slices_IndexFunc_LakeKnot_2 N k N  x0 x1 ((List.length x0) : Int) (0 : Int)) := by kernel_rfl

/-- Loop 2 of slices_IndexFunc_LakeKnot. -/
noncomputable def L_slices_IndexFunc_LakeKnot_v1_2 (N k n2  : Nat) (x0 : List (List PV)) (x1 : Int) (x2 : Int) (x3 : Int) : Option PV := loopAt (envF N) (ev (envF N) k) F_slices_IndexFunc_LakeKnot Go.Proofs.Try.f183 [.r, .l, .r, .b] n2 { slots := ((.sl none [.int .i64, .int .i64] x0) :: (.fn F_lake_table_volumeAt_c1 [(.rp [(.int .i64 x1)] 0)]) :: und 5 ((.int .i64 x2) :: (.int .i64 x3) :: und 10 [])), boxes := (nos 19 []), vers := List.replicate 19 0 }
theorem L_slices_IndexFunc_LakeKnot_v1_2_eq (N k n2  : Nat) (x0 : List (List PV)) (x1 : Int) (x2 : Int) (x3 : Int) : L_slices_IndexFunc_LakeKnot_v1_2 N k (n2 + 1)  x0 x1 x2 x3 =
 (cond (decide (x3 < x2))
 (cond (decide ((0 : Int) ≤ x3))
  (cond (decide (x3 < ((List.length x0) : Int)))
   ((ev (envF N) k F_lake_table_volumeAt_c1 [(.agg [(.int .i64 (asI (nth (nths x0 (Int.toNat x3)) 0))), (.int .i64 (asI (nth (nths x0 (Int.toNat x3)) 1)))]), (.rp [(.int .i64 x1)] 0)]).bind fun r4 =>
    cond (asB r4)
     (some (.int .i64 x3))
     (L_slices_IndexFunc_LakeKnot_v1_2 N k n2  x0 x1 x2 (w64 (x3 + (1 : Int)))))
   (none))
  (none))
 (some (.int .i64 (-1 : Int)))) := by kernel_rfl
theorem E_slices_IndexFunc_LakeKnot_v1 (N k : Nat) (x0 : List (List PV)) (x1 : Int) : ev (envF N) (k + 1) F_slices_IndexFunc_LakeKnot [(.sl none [.int .i64, .int .i64] x0), (.fn F_lake_table_volumeAt_c1 [(.rp [(.int .i64 x1)] 0)])] =
 (L_slices_IndexFunc_LakeKnot_v1_2 N k N  x0 x1 ((List.length x0) : Int) (0 : Int)) := by kernel_rfl

theorem E_base_WideSub (N k : Nat) (x0 : Int) (x1 : List (List PV)) (x2 : Int) (x3 : List (List PV)) : ev (envF N) (k + 1) F_base_WideSub [(.agg [(.int .i64 x0), (.sl none [.int .i64] x1)]), (.agg [(.int .i64 x2), (.sl none [.int .i64] x3)])] =
 ((ev (envF N) k F_base_WideNeg [(.agg [(.int .i64 x2), (.sl none [.int .i64] x3)])]).bind fun r1 =>
 (ev (envF N) k F_base_WideAdd [(.agg [(.int .i64 x0), (.sl none [.int .i64] x1)]), (.agg [(.int .i64 (asI (nth (asA r1) 0))), (.sl none [.int .i64] (asL (nth (asA r1) 1)))])]).bind fun r2 =>
  some (.agg [(.int .i64 (asI (nth (asA r2) 0))), (.sl none [.int .i64] (asL (nth (asA r2) 1)))])) := by kernel_rfl

theorem E_base_wideOf (N k : Nat) (x0 : Int) (x1 : List (List PV)) : ev (envF N) (k + 1) F_base_wideOf [(.int .i64 x0), (.sl none [.int .i64] x1)] =
 ((ev (envF N) k F_base_trimmed [(.sl none [.int .i64] x1)]).bind fun r1 =>
 cond (decide (((List.length (asL r1)) : Int) = (0 : Int)))
  (some (.agg [(.int .i64 (0 : Int)), (.sl none [.int .i64] (asL r1))]))
  (some (.agg [(.int .i64 x0), (.sl none [.int .i64] (asL r1))]))) := by kernel_rfl

/-- Loop 5 of base_WideFloor. -/
noncomputable def L_base_WideFloor_5 (N k n5  : Nat) (x0 : List (List PV)) (x1 : Int) (x2 : Int) (x3 : List (List PV)) (x4 : Int) (x5 : List (List PV)) (x6 : Int) (x7 : List (List PV)) (x8 : List (List PV)) : Option PV := loopAt (envF N) (ev (envF N) k) F_base_WideFloor Go.Proofs.Try.f186 [.r, .r, .r, .l, .r, .b] n5 { slots := (und 2 ((.ptr 2 0) :: (.ptr 3 0) :: (.ptr 4 0) :: (.row 19) :: (.sl none [.int .i64] x0) :: (.int .i64 x1) :: und 80 [])), boxes := (nos 2 ((some (.cells [(.int .i64 x2), (.sl none [.int .i64] x3)] false)) :: (some (.cells [(.int .i64 x4), (.sl none [.int .i64] x5)] false)) :: (some (.cells [(.int .i64 x6), (.sl none [.int .i64] x7)] false)) :: nos 14 ((some (.row [.int .i64] x8 false)) :: nos 68 []))), vers := List.replicate 88 0 }
/-- Loop 9 of base_WideFloor. -/
noncomputable def L_base_WideFloor_9 (N k n9 n5 : Nat) (x0 : List (List PV)) (x1 : Int) (x2 : Int) (x3 : Int) (x4 : Int) (x5 : List (List PV)) (x6 : Int) (x7 : List (List PV)) (x8 : Int) (x9 : List (List PV)) (x10 : List (List PV)) : Option PV := loopAt (envF N) (ev (envF N) k) F_base_WideFloor Go.Proofs.Try.f186 [.r, .r, .r, .l, .r, .b, .p n5, .r, .l, .b, .r, .r, .l, .b] n9 { slots := (und 2 ((.ptr 2 0) :: (.ptr 3 0) :: (.ptr 4 0) :: (.row 19) :: (.sl none [.int .i64] x0) :: (.int .i64 x1) :: (.int .i64 x2) :: (.int .i64 x3) :: und 78 [])), boxes := (nos 2 ((some (.cells [(.int .i64 x4), (.sl none [.int .i64] x5)] false)) :: (some (.cells [(.int .i64 x6), (.sl none [.int .i64] x7)] false)) :: (some (.cells [(.int .i64 x8), (.sl none [.int .i64] x9)] false)) :: nos 14 ((some (.row [.int .i64] x10 false)) :: nos 68 []))), vers := List.replicate 88 0 }
theorem L_base_WideFloor_5_eq (N k n5  : Nat) (x0 : List (List PV)) (x1 : Int) (x2 : Int) (x3 : List (List PV)) (x4 : Int) (x5 : List (List PV)) (x6 : Int) (x7 : List (List PV)) (x8 : List (List PV)) : L_base_WideFloor_5 N k (n5 + 1)  x0 x1 x2 x3 x4 x5 x6 x7 x8 =
 (cond (decide ((0 : Int) ≤ x1))
 (cond (decide ((0 : Int) ≤ x1))
  (cond (decide (x1 < ((List.length x3) : Int)))
   (cond (room [[(.int .i64 (asI (nth (nths x3 (Int.toNat x1)) 0)))]] x0 8)
    ((ev (envF N) k F_base_trimmed [(.sl none [.int .i64] ([[(.int .i64 (asI (nth (nths x3 (Int.toNat x1)) 0)))]] ++ x0))]).bind fun r5 =>
     L_base_WideFloor_9 N k N n5 (asL r5) x1 (0 : Int) (999999999 : Int) x2 x3 x4 x5 x6 x7 x8)
    (none))
   (none))
  (none))
 ((ev (envF N) k F_base_wideOf [(.int .i64 x2), (.sl none [.int .i64] x8)]).bind fun r2 =>
  cond (decide (x2 < (0 : Int)))
   (cond (decide ((0 : Int) < ((List.length x0) : Int)))
    ((ev (envF N) k F_base_WideOf [(.int .i64 (1 : Int))]).bind fun r5 =>
     (ev (envF N) k F_base_WideSub [(.agg [(.int .i64 (asI (nth (asA r2) 0))), (.sl none [.int .i64] (asL (nth (asA r2) 1)))]), (.agg [(.int .i64 (asI (nth (asA r5) 0))), (.sl none [.int .i64] (asL (nth (asA r5) 1)))])]).bind fun r6 =>
      some (.agg [(.int .i64 (asI (nth (asA r6) 0))), (.sl none [.int .i64] (asL (nth (asA r6) 1)))]))
    (some (.agg [(.int .i64 (asI (nth (asA r2) 0))), (.sl none [.int .i64] (asL (nth (asA r2) 1)))])))
   (some (.agg [(.int .i64 (asI (nth (asA r2) 0))), (.sl none [.int .i64] (asL (nth (asA r2) 1)))])))) := by kernel_rfl
theorem L_base_WideFloor_9_eq (N k n9 n5 : Nat) (x0 : List (List PV)) (x1 : Int) (x2 : Int) (x3 : Int) (x4 : Int) (x5 : List (List PV)) (x6 : Int) (x7 : List (List PV)) (x8 : Int) (x9 : List (List PV)) (x10 : List (List PV)) : L_base_WideFloor_9 N k (n9 + 1) n5 x0 x1 x2 x3 x4 x5 x6 x7 x8 x9 x10 =
 (cond (decide (x2 < x3))
 ((ev (envF N) k F_base_wideOf [(.int .i64 (1 : Int)), (.sl none [.int .i64] x7)]).bind fun r2 =>
  (ev (envF N) k F_base_WideOf [(.int .i64 (w64 (Int.tdiv (w64 ((w64 (x2 + x3)) + (1 : Int))) (2 : Int))))]).bind fun r3 =>
   (ev (envF N) k F_base_WideMul [(.agg [(.int .i64 (asI (nth (asA r2) 0))), (.sl none [.int .i64] (asL (nth (asA r2) 1)))]), (.agg [(.int .i64 (asI (nth (asA r3) 0))), (.sl none [.int .i64] (asL (nth (asA r3) 1)))])]).bind fun r4 =>
    (ev (envF N) k F_base_cmpDigits [(.sl none [.int .i64] (asL (nth (asA r4) 1))), (.sl none [.int .i64] x0)]).bind fun r5 =>
     cond (decide ((asI r5) ≤ (0 : Int)))
      (L_base_WideFloor_9 N k n9 n5 x0 x1 (w64 (Int.tdiv (w64 ((w64 (x2 + x3)) + (1 : Int))) (2 : Int))) x3 x4 x5 x6 x7 x8 x9 x10)
      (L_base_WideFloor_9 N k n9 n5 x0 x1 x2 (w64 ((w64 (Int.tdiv (w64 ((w64 (x2 + x3)) + (1 : Int))) (2 : Int))) - (1 : Int))) x4 x5 x6 x7 x8 x9 x10))
 (cond (decide ((0 : Int) ≤ x1))
  (cond (decide (x1 < ((List.length x10) : Int)))
   ((ev (envF N) k F_base_wideOf [(.int .i64 (1 : Int)), (.sl none [.int .i64] x7)]).bind fun r4 =>
    (ev (envF N) k F_base_WideOf [(.int .i64 x2)]).bind fun r5 =>
     (ev (envF N) k F_base_WideMul [(.agg [(.int .i64 (asI (nth (asA r4) 0))), (.sl none [.int .i64] (asL (nth (asA r4) 1)))]), (.agg [(.int .i64 (asI (nth (asA r5) 0))), (.sl none [.int .i64] (asL (nth (asA r5) 1)))])]).bind fun r6 =>
      (ev (envF N) k F_base_subDigits [(.sl none [.int .i64] x0), (.sl none [.int .i64] (asL (nth (asA r6) 1)))]).bind fun r7 =>
       L_base_WideFloor_5 N k n5  (asL r7) (w64 (x1 - (1 : Int))) x4 x5 x6 x7 x8 x9 (List.set x10 (Int.toNat x1) (List.set (nths x10 (Int.toNat x1)) 0 (.int .i64 x2))))
   (none))
  (none))) := by kernel_rfl
theorem E_base_WideFloor (N k : Nat) (x0 : Int) (x1 : List (List PV)) (x2 : Int) (x3 : List (List PV)) : ev (envF N) (k + 1) F_base_WideFloor [(.agg [(.int .i64 x0), (.sl none [.int .i64] x1)]), (.agg [(.int .i64 x2), (.sl none [.int .i64] x3)])] =
 (cond (decide (x0 = (0 : Int)))
 (some (.agg [(.int .i64 (0 : Int)), (.sl none [.int .i64] [])]))
 (cond (decide (((List.length x1) : Int) = ((List.length x1) : Int)))
  (cond (decide ((((List.length x1) : Int) * (8 : Int)) ≤ (140737488355328 : Int)))
   (L_base_WideFloor_5 N k N  [] (w64 (((List.length x1) : Int) - (1 : Int))) x0 x1 x2 x3 (0 : Int) [] (List.replicate (Int.toNat (x1.length : Int)) ([.int .i64 0])))
   (none))
  (none))) := by kernel_rfl

theorem E_base_WideNeg (N k : Nat) (x0 : Int) (x1 : List (List PV)) : ev (envF N) (k + 1) F_base_WideNeg [(.agg [(.int .i64 x0), (.sl none [.int .i64] x1)])] =
 (some (.agg [(.int .i64 (w64 ((0 : Int) - x0))), (.sl none [.int .i64] x1)])) := by kernel_rfl

theorem E_base_WideAdd (N k : Nat) (x0 : Int) (x1 : List (List PV)) (x2 : Int) (x3 : List (List PV)) : ev (envF N) (k + 1) F_base_WideAdd [(.agg [(.int .i64 x0), (.sl none [.int .i64] x1)]), (.agg [(.int .i64 x2), (.sl none [.int .i64] x3)])] =
 (cond (decide (x0 = (0 : Int)))
 (some (.agg [(.int .i64 x2), (.sl none [.int .i64] x3)]))
 (cond (decide (x2 = (0 : Int)))
  (some (.agg [(.int .i64 x0), (.sl none [.int .i64] x1)]))
  (cond (decide (x0 = x2))
   ((ev (envF N) k F_base_addDigits [(.sl none [.int .i64] x1), (.sl none [.int .i64] x3)]).bind fun r4 =>
    (ev (envF N) k F_base_wideOf [(.int .i64 x0), (.sl none [.int .i64] (asL r4))]).bind fun r5 =>
     some (.agg [(.int .i64 (asI (nth (asA r5) 0))), (.sl none [.int .i64] (asL (nth (asA r5) 1)))]))
   ((ev (envF N) k F_base_cmpDigits [(.sl none [.int .i64] x1), (.sl none [.int .i64] x3)]).bind fun r4 =>
    cond (decide ((asI r4) = (0 : Int)))
     (some (.agg [(.int .i64 (0 : Int)), (.sl none [.int .i64] [])]))
     (cond (decide ((0 : Int) < (asI r4)))
      ((ev (envF N) k F_base_subDigits [(.sl none [.int .i64] x1), (.sl none [.int .i64] x3)]).bind fun r7 =>
       (ev (envF N) k F_base_wideOf [(.int .i64 x0), (.sl none [.int .i64] (asL r7))]).bind fun r8 =>
        some (.agg [(.int .i64 (asI (nth (asA r8) 0))), (.sl none [.int .i64] (asL (nth (asA r8) 1)))]))
      ((ev (envF N) k F_base_subDigits [(.sl none [.int .i64] x3), (.sl none [.int .i64] x1)]).bind fun r7 =>
       (ev (envF N) k F_base_wideOf [(.int .i64 x2), (.sl none [.int .i64] (asL r7))]).bind fun r8 =>
        some (.agg [(.int .i64 (asI (nth (asA r8) 0))), (.sl none [.int .i64] (asL (nth (asA r8) 1)))]))))))) := by kernel_rfl

/-- Loop 2 of slices_IndexFunc_int. -/
noncomputable def L_slices_IndexFunc_int_2 (N k n2  : Nat) (x0 : List (List PV)) (x1 : Int) (x2 : Int) : Option PV := loopAt (envF N) (ev (envF N) k) F_slices_IndexFunc_int Go.Proofs.Try.f197 [.r, .l, .r, .b] n2 { slots := ((.sl none [.int .i64] x0) :: (.fn F_lake_netErr_c1 []) :: und 5 ((.int .i64 x1) :: (.int .i64 x2) :: und 10 [])), boxes := (nos 19 []), vers := List.replicate 19 0 }
theorem L_slices_IndexFunc_int_2_eq (N k n2  : Nat) (x0 : List (List PV)) (x1 : Int) (x2 : Int) : L_slices_IndexFunc_int_2 N k (n2 + 1)  x0 x1 x2 =
 (cond (decide (x2 < x1))
 (cond (decide ((0 : Int) ≤ x2))
  (cond (decide (x2 < ((List.length x0) : Int)))
   ((ev (envF N) k F_lake_netErr_c1 [(.int .i64 (asI (nth (nths x0 (Int.toNat x2)) 0)))]).bind fun r4 =>
    cond (asB r4)
     (some (.int .i64 x2))
     (L_slices_IndexFunc_int_2 N k n2  x0 x1 (w64 (x2 + (1 : Int)))))
   (none))
  (none))
 (some (.int .i64 (-1 : Int)))) := by kernel_rfl
theorem E_slices_IndexFunc_int (N k : Nat) (x0 : List (List PV)) : ev (envF N) (k + 1) F_slices_IndexFunc_int [(.sl none [.int .i64] x0), (.fn F_lake_netErr_c1 [])] =
 (L_slices_IndexFunc_int_2 N k N  x0 ((List.length x0) : Int) (0 : Int)) := by kernel_rfl

theorem E_base_WideSign (N k : Nat) (x0 : Int) (x1 : List (List PV)) : ev (envF N) (k + 1) F_base_WideSign [(.agg [(.int .i64 x0), (.sl none [.int .i64] x1)])] =
 (some (.int .i64 x0)) := by kernel_rfl

/-- Loop 2 of base_wideGcd. -/
noncomputable def L_base_wideGcd_2 (N k n2  : Nat) (x0 : Int) (x1 : List (List PV)) (x2 : Int) (x3 : List (List PV)) (x4 : Int) (x5 : List (List PV)) : Option PV := loopAt (envF N) (ev (envF N) k) F_base_wideGcd Go.Proofs.Try.f199 [.r, .r, .l, .b] n2 { slots := (und 2 ((.ptr 2 0) :: (.ptr 3 0) :: (.ptr 4 0) :: und 18 [])), boxes := (nos 2 ((some (.cells [(.int .i64 x0), (.sl none [.int .i64] x1)] false)) :: (some (.cells [(.int .i64 x2), (.sl none [.int .i64] x3)] false)) :: (some (.cells [(.int .i64 x4), (.sl none [.int .i64] x5)] false)) :: nos 18 [])), vers := List.replicate 23 0 }
theorem L_base_wideGcd_2_eq (N k n2  : Nat) (x0 : Int) (x1 : List (List PV)) (x2 : Int) (x3 : List (List PV)) (x4 : Int) (x5 : List (List PV)) : L_base_wideGcd_2 N k (n2 + 1)  x0 x1 x2 x3 x4 x5 =
 ((ev (envF N) k F_base_WideSign [(.agg [(.int .i64 x2), (.sl none [.int .i64] x3)])]).bind fun r1 =>
 cond (!(decide ((asI r1) = (0 : Int))))
  ((ev (envF N) k F_base_WideFloor [(.agg [(.int .i64 x0), (.sl none [.int .i64] x1)]), (.agg [(.int .i64 x2), (.sl none [.int .i64] x3)])]).bind fun r3 =>
   (ev (envF N) k F_base_WideMul [(.agg [(.int .i64 (asI (nth (asA r3) 0))), (.sl none [.int .i64] (asL (nth (asA r3) 1)))]), (.agg [(.int .i64 x2), (.sl none [.int .i64] x3)])]).bind fun r4 =>
    (ev (envF N) k F_base_WideSub [(.agg [(.int .i64 x0), (.sl none [.int .i64] x1)]), (.agg [(.int .i64 (asI (nth (asA r4) 0))), (.sl none [.int .i64] (asL (nth (asA r4) 1)))])]).bind fun r5 =>
     L_base_wideGcd_2 N k n2  x2 x3 (asI (nth (asA r5) 0)) (asL (nth (asA r5) 1)) x4 x5)
  (some (.agg [(.int .i64 x0), (.sl none [.int .i64] x1)]))) := by kernel_rfl
theorem E_base_wideGcd (N k : Nat) (x0 : Int) (x1 : List (List PV)) (x2 : Int) (x3 : List (List PV)) : ev (envF N) (k + 1) F_base_wideGcd [(.agg [(.int .i64 x0), (.sl none [.int .i64] x1)]), (.agg [(.int .i64 x2), (.sl none [.int .i64] x3)])] =
 ((ev (envF N) k F_base_wideSize [(.agg [(.int .i64 x0), (.sl none [.int .i64] x1)])]).bind fun r1 =>
 (ev (envF N) k F_base_wideSize [(.agg [(.int .i64 x2), (.sl none [.int .i64] x3)])]).bind fun r2 =>
  L_base_wideGcd_2 N k N  (asI (nth (asA r1) 0)) (asL (nth (asA r1) 1)) (asI (nth (asA r2) 0)) (asL (nth (asA r2) 1)) (0 : Int) []) := by kernel_rfl

/-- Loop 2 of base_trimmed. -/
noncomputable def L_base_trimmed_2 (N k n2  : Nat) (x0 : List (List PV)) (x1 : Int) : Option PV := loopAt (envF N) (ev (envF N) k) F_base_trimmed Go.Proofs.Try.f202 [.r, .r, .l, .b] n2 { slots := ((.sl none [.int .i64] x0) :: und 2 ((.int .i64 x1) :: und 17 [])), boxes := (nos 21 []), vers := List.replicate 21 0 }
theorem L_base_trimmed_2_eq (N k n2  : Nat) (x0 : List (List PV)) (x1 : Int) : L_base_trimmed_2 N k (n2 + 1)  x0 x1 =
 (cond (decide ((0 : Int) < x1))
 (cond (decide ((0 : Int) ≤ (w64 (x1 - (1 : Int)))))
  (cond (decide ((w64 (x1 - (1 : Int))) < ((List.length x0) : Int)))
   (cond (decide ((asI (nth (nths x0 (Int.toNat (w64 (x1 - (1 : Int))))) 0)) = (0 : Int)))
    (L_base_trimmed_2 N k n2  x0 (w64 (x1 - (1 : Int))))
    (cond (decide ((0 : Int) ≤ x1))
     (cond (decide (x1 ≤ ((List.length x0) : Int)))
      (some (.sl none [.int .i64] (List.drop 0 (List.take (Int.toNat x1) x0))))
      (none))
     (none)))
   (none))
  (none))
 (cond (decide ((0 : Int) ≤ x1))
  (cond (decide (x1 ≤ ((List.length x0) : Int)))
   (some (.sl none [.int .i64] (List.drop 0 (List.take (Int.toNat x1) x0))))
   (none))
  (none))) := by kernel_rfl
theorem E_base_trimmed (N k : Nat) (x0 : List (List PV)) : ev (envF N) (k + 1) F_base_trimmed [(.sl none [.int .i64] x0)] =
 (L_base_trimmed_2 N k N  x0 ((List.length x0) : Int)) := by kernel_rfl

/-- Loop 6 of base_cmpDigits. -/
noncomputable def L_base_cmpDigits_6 (N k n6  : Nat) (x0 : List (List PV)) (x1 : List (List PV)) (x2 : Int) : Option PV := loopAt (envF N) (ev (envF N) k) F_base_cmpDigits Go.Proofs.Try.f203 [.r, .r, .l, .r, .b] n6 { slots := ((.sl none [.int .i64] x0) :: (.sl none [.int .i64] x1) :: und 3 ((.int .i64 x2) :: und 35 [])), boxes := (nos 41 []), vers := List.replicate 41 0 }
theorem L_base_cmpDigits_6_eq (N k n6  : Nat) (x0 : List (List PV)) (x1 : List (List PV)) (x2 : Int) : L_base_cmpDigits_6 N k (n6 + 1)  x0 x1 x2 =
 (cond (decide ((0 : Int) ≤ x2))
 (cond (decide ((0 : Int) ≤ x2))
  (cond (decide (x2 < ((List.length x0) : Int)))
   (cond (decide ((0 : Int) ≤ x2))
    (cond (decide (x2 < ((List.length x1) : Int)))
     (cond (decide ((asI (nth (nths x0 (Int.toNat x2)) 0)) < (asI (nth (nths x1 (Int.toNat x2)) 0))))
      (some (.int .i64 (-1 : Int)))
      (cond (decide ((0 : Int) ≤ x2))
       (cond (decide (x2 < ((List.length x0) : Int)))
        (cond (decide ((0 : Int) ≤ x2))
         (cond (decide (x2 < ((List.length x1) : Int)))
          (cond (decide ((asI (nth (nths x1 (Int.toNat x2)) 0)) < (asI (nth (nths x0 (Int.toNat x2)) 0))))
           (some (.int .i64 (1 : Int)))
           (L_base_cmpDigits_6 N k n6  x0 x1 (w64 (x2 - (1 : Int)))))
          (none))
         (none))
        (none))
       (none)))
     (none))
    (none))
   (none))
  (none))
 (some (.int .i64 (0 : Int)))) := by kernel_rfl
theorem E_base_cmpDigits (N k : Nat) (x0 : List (List PV)) (x1 : List (List PV)) : ev (envF N) (k + 1) F_base_cmpDigits [(.sl none [.int .i64] x0), (.sl none [.int .i64] x1)] =
 (cond (!(decide (((List.length x0) : Int) = ((List.length x1) : Int))))
 (cond (decide (((List.length x0) : Int) < ((List.length x1) : Int)))
  (some (.int .i64 (-1 : Int)))
  (some (.int .i64 (1 : Int))))
 (L_base_cmpDigits_6 N k N  x0 x1 (w64 (((List.length x0) : Int) - (1 : Int))))) := by kernel_rfl

/-- Loop 4 of base_subDigits. -/
noncomputable def L_base_subDigits_4 (N k n4  : Nat) (x0 : List (List PV)) (x1 : List (List PV)) (x2 : List (List PV)) (x3 : Int) (x4 : Int) : Option PV := loopAt (envF N) (ev (envF N) k) F_base_subDigits Go.Proofs.Try.f204 [.r, .r, .r, .l, .r, .b] n4 { slots := ((.sl none [.int .i64] x0) :: (.sl none [.int .i64] x1) :: und 3 ((.sl (some (5, 0)) [.int .i64] x2) :: (.int .i64 x3) :: (.int .i64 x4) :: und 27 [])), boxes := (nos 35 []), vers := List.replicate 35 0 }
theorem L_base_subDigits_4_eq (N k n4  : Nat) (x0 : List (List PV)) (x1 : List (List PV)) (x2 : List (List PV)) (x3 : Int) (x4 : Int) : L_base_subDigits_4 N k (n4 + 1)  x0 x1 x2 x3 x4 =
 (cond (decide (x4 < ((List.length x0) : Int)))
 (cond (decide ((0 : Int) ≤ x4))
  (cond (decide (x4 < ((List.length x0) : Int)))
   ((ev (envF N) k F_base_digit [(.sl none [.int .i64] x1), (.int .i64 x4)]).bind fun r4 =>
    cond (decide ((w64 ((w64 ((asI (nth (nths x0 (Int.toNat x4)) 0)) - (asI r4))) - x3)) < (0 : Int)))
     (cond (room x2 [[(.int .i64 (w64 ((w64 ((w64 ((asI (nth (nths x0 (Int.toNat x4)) 0)) - (asI r4))) - x3)) + (1000000000 : Int))))]] 8)
      (L_base_subDigits_4 N k n4  x0 x1 (x2 ++ [[(.int .i64 (w64 ((w64 ((w64 ((asI (nth (nths x0 (Int.toNat x4)) 0)) - (asI r4))) - x3)) + (1000000000 : Int))))]]) (1 : Int) (w64 (x4 + (1 : Int))))
      (none))
     (cond (room x2 [[(.int .i64 (w64 ((w64 ((asI (nth (nths x0 (Int.toNat x4)) 0)) - (asI r4))) - x3)))]] 8)
      (L_base_subDigits_4 N k n4  x0 x1 (x2 ++ [[(.int .i64 (w64 ((w64 ((asI (nth (nths x0 (Int.toNat x4)) 0)) - (asI r4))) - x3)))]]) (0 : Int) (w64 (x4 + (1 : Int))))
      (none)))
   (none))
  (none))
 ((ev (envF N) k F_base_trimmed [(.sl none [.int .i64] x2)]).bind fun r2 =>
  some (.sl none [.int .i64] (asL r2)))) := by kernel_rfl
theorem E_base_subDigits (N k : Nat) (x0 : List (List PV)) (x1 : List (List PV)) : ev (envF N) (k + 1) F_base_subDigits [(.sl none [.int .i64] x0), (.sl none [.int .i64] x1)] =
 (L_base_subDigits_4 N k N  x0 x1 [] (0 : Int) (0 : Int)) := by kernel_rfl

/-- Loop 4 of base_addDigits. -/
noncomputable def L_base_addDigits_4 (N k n4  : Nat) (x0 : List (List PV)) (x1 : List (List PV)) (x2 : List (List PV)) (x3 : Int) (x4 : Int) : Option PV := loopAt (envF N) (ev (envF N) k) F_base_addDigits Go.Proofs.Try.f205 [.r, .r, .r, .l, .r, .b] n4 { slots := ((.sl none [.int .i64] x0) :: (.sl none [.int .i64] x1) :: und 3 ((.sl (some (5, 0)) [.int .i64] x2) :: (.int .i64 x3) :: (.int .i64 x4) :: und 34 [])), boxes := (nos 42 []), vers := List.replicate 42 0 }
theorem L_base_addDigits_4_eq (N k n4  : Nat) (x0 : List (List PV)) (x1 : List (List PV)) (x2 : List (List PV)) (x3 : Int) (x4 : Int) : L_base_addDigits_4 N k (n4 + 1)  x0 x1 x2 x3 x4 =
 (cond (decide (x4 < ((List.length x0) : Int)))
 ((ev (envF N) k F_base_digit [(.sl none [.int .i64] x0), (.int .i64 x4)]).bind fun r2 =>
  (ev (envF N) k F_base_digit [(.sl none [.int .i64] x1), (.int .i64 x4)]).bind fun r3 =>
   cond (room x2 [[(.int .i64 (Int.tmod (w64 ((w64 ((asI r2) + (asI r3))) + x3)) (1000000000 : Int)))]] 8)
    (L_base_addDigits_4 N k n4  x0 x1 (x2 ++ [[(.int .i64 (Int.tmod (w64 ((w64 ((asI r2) + (asI r3))) + x3)) (1000000000 : Int)))]]) (w64 (Int.tdiv (w64 ((w64 ((asI r2) + (asI r3))) + x3)) (1000000000 : Int))) (w64 (x4 + (1 : Int))))
    (none))
 (cond (decide (x4 < ((List.length x1) : Int)))
  ((ev (envF N) k F_base_digit [(.sl none [.int .i64] x0), (.int .i64 x4)]).bind fun r3 =>
   (ev (envF N) k F_base_digit [(.sl none [.int .i64] x1), (.int .i64 x4)]).bind fun r4 =>
    cond (room x2 [[(.int .i64 (Int.tmod (w64 ((w64 ((asI r3) + (asI r4))) + x3)) (1000000000 : Int)))]] 8)
     (L_base_addDigits_4 N k n4  x0 x1 (x2 ++ [[(.int .i64 (Int.tmod (w64 ((w64 ((asI r3) + (asI r4))) + x3)) (1000000000 : Int)))]]) (w64 (Int.tdiv (w64 ((w64 ((asI r3) + (asI r4))) + x3)) (1000000000 : Int))) (w64 (x4 + (1 : Int))))
     (none))
  (cond (decide ((0 : Int) < x3))
   ((ev (envF N) k F_base_digit [(.sl none [.int .i64] x0), (.int .i64 x4)]).bind fun r4 =>
    (ev (envF N) k F_base_digit [(.sl none [.int .i64] x1), (.int .i64 x4)]).bind fun r5 =>
     cond (room x2 [[(.int .i64 (Int.tmod (w64 ((w64 ((asI r4) + (asI r5))) + x3)) (1000000000 : Int)))]] 8)
      (L_base_addDigits_4 N k n4  x0 x1 (x2 ++ [[(.int .i64 (Int.tmod (w64 ((w64 ((asI r4) + (asI r5))) + x3)) (1000000000 : Int)))]]) (w64 (Int.tdiv (w64 ((w64 ((asI r4) + (asI r5))) + x3)) (1000000000 : Int))) (w64 (x4 + (1 : Int))))
      (none))
   (some (.sl none [.int .i64] x2))))) := by kernel_rfl
theorem E_base_addDigits (N k : Nat) (x0 : List (List PV)) (x1 : List (List PV)) : ev (envF N) (k + 1) F_base_addDigits [(.sl none [.int .i64] x0), (.sl none [.int .i64] x1)] =
 (L_base_addDigits_4 N k N  x0 x1 [] (0 : Int) (0 : Int)) := by kernel_rfl

theorem E_base_wideSize (N k : Nat) (x0 : Int) (x1 : List (List PV)) : ev (envF N) (k + 1) F_base_wideSize [(.agg [(.int .i64 x0), (.sl none [.int .i64] x1)])] =
 (cond (decide (x0 < (0 : Int)))
 ((ev (envF N) k F_base_WideNeg [(.agg [(.int .i64 x0), (.sl none [.int .i64] x1)])]).bind fun r2 =>
  some (.agg [(.int .i64 (asI (nth (asA r2) 0))), (.sl none [.int .i64] (asL (nth (asA r2) 1)))]))
 (some (.agg [(.int .i64 x0), (.sl none [.int .i64] x1)]))) := by kernel_rfl

theorem E_base_digit (N k : Nat) (x0 : List (List PV)) (x1 : Int) : ev (envF N) (k + 1) F_base_digit [(.sl none [.int .i64] x0), (.int .i64 x1)] =
 (cond (decide (x1 < ((List.length x0) : Int)))
 (cond (decide ((0 : Int) ≤ x1))
  (cond (decide (x1 < ((List.length x0) : Int)))
   (some (.int .i64 (asI (nth (nths x0 (Int.toNat x1)) 0))))
   (none))
  (none))
 (some (.int .i64 (0 : Int)))) := by kernel_rfl

end Go.PevTab
