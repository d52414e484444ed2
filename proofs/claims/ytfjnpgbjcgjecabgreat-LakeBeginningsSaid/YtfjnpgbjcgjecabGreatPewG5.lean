/- EQUATIONS OF FUNCTIONS, by the kernel's own reckoning; written by a program. -/
/- EQUATIONS OF ITERATORS AND OF LOOPS OVER THEM, by the kernel's own reckoning. -/
/- WHOLE NUMBERS OF ANY SIZE: what the functions on digits give. -/
/- WHOLE NUMBERS OF ANY SIZE: sums, differences and products. -/
/- WHOLE NUMBERS OF ANY SIZE: products. -/
/- WHOLE NUMBERS OF ANY SIZE: quotients, greatest common divisors. -/
/- FRACTIONS OF ANY SIZE: what the functions on them give. -/
/- SMALL FUNCTIONS: what they give. -/
/- TABLES in the program: checked, and levels and volumes in them. -/
/- LEVELS, VOLUMES AND AREAS in the program. -/
/- PAIRS OF LAKES in the program: states, steps and runs. -/
import Derived.Test.YtfjnpgbjcgjecabGreatPewG3
import Derived.Test.YtfjnpgbjcgjecabGreatPewG4

namespace Go.PewTab
set_option linter.unusedSimpArgs false
set_option linter.unusedVariables false
open Go.Pew Go
set_option maxRecDepth 100000
set_option linter.unusedVariables false

theorem E_base_RatioNeg (N k : Nat) (x0 : Int) (x1 : List (List PV)) (x2 : Int) (x3 : List (List PV)) : ev (envF N) (k + 1) F_base_RatioNeg [(.agg [(.int .i64 x0), (.sl none [.int .i64] x1), (.int .i64 x2), (.sl none [.int .i64] x3)])] =
 ((ev (envF N) k F_base_WideNeg [(.agg [(.int .i64 x0), (.sl none [.int .i64] x1)])]).bind fun r1 =>
 some (.agg [(.int .i64 (asI (nth (asA r1) 0))), (.sl none [.int .i64] (asL (nth (asA r1) 1))), (.int .i64 x2), (.sl none [.int .i64] x3)])) := by kernel_rfl

/-- Loop 5 of lake_CheckTable. -/
noncomputable def L_lake_CheckTable_5 (N k n5  : Nat) (x0 : List (List PV)) (x1 : Int) (x2 : Int) (x3 : List (List PV)) : Option PV := loopAt (envF N) (ev (envF N) k) (evI (envF N) k) F_lake_CheckTable Go.Proofs.Tryz.f103 [.r, .r, .l, .r, .b] n5 { slots := (und 1 ((.ptr 1 0) :: und 22 ((.sl none [.int .i64, .int .i64] x0) :: (.int .i64 x1) :: (.int .i64 x2) :: und 55 []))), boxes := (nos 1 ((some (.cells [(.sl none [.int .i64, .int .i64] x3)] false)) :: nos 80 [])), vers := List.replicate 82 0 }
theorem L_lake_CheckTable_5_eq (N k n5  : Nat) (x0 : List (List PV)) (x1 : Int) (x2 : Int) (x3 : List (List PV)) : L_lake_CheckTable_5 N k (n5 + 1)  x0 x1 x2 x3 =
 (cond (decide (x2 < x1))
 (cond (decide ((0 : Int) ≤ x2))
  (cond (decide (x2 < ((List.length x0) : Int)))
   ((ev (envF N) k F_lake_within [(.int .i64 (asI (nth (nths x0 (Int.toNat x2)) 0))), (.int .i64 (0 : Int)), (.int .i64 (1000000 : Int))]).bind fun r4 =>
    cond (!(asB r4))
     (some (.tup [(.int .i64 x2), (.int .i64 (2 : Int))]))
     ((ev (envF N) k F_lake_within [(.int .i64 (asI (nth (nths x0 (Int.toNat x2)) 1))), (.int .i64 (0 : Int)), (.int .i64 (1000000000 : Int))]).bind fun r6 =>
      cond (!(asB r6))
       (some (.tup [(.int .i64 x2), (.int .i64 (2 : Int))]))
       (cond (decide (x2 = (0 : Int)))
        (L_lake_CheckTable_5 N k n5  x0 x1 (w64 (x2 + (1 : Int))) x3)
        (cond (decide ((0 : Int) ≤ (w64 (x2 - (1 : Int)))))
         (cond (decide ((w64 (x2 - (1 : Int))) < ((List.length x3) : Int)))
          ((ev (envF N) k F_lake_piece_height [(.agg [(.int .i64 (asI (nth (nths x3 (Int.toNat (w64 (x2 - (1 : Int))))) 0))), (.int .i64 (asI (nth (nths x3 (Int.toNat (w64 (x2 - (1 : Int))))) 1))), (.int .i64 (asI (nth (nths x0 (Int.toNat x2)) 0))), (.int .i64 (asI (nth (nths x0 (Int.toNat x2)) 1)))])]).bind fun r11 =>
           cond (decide ((asI r11) ≤ (0 : Int)))
            (some (.tup [(.int .i64 x2), (.int .i64 (9 : Int))]))
            ((ev (envF N) k F_lake_piece_volume [(.agg [(.int .i64 (asI (nth (nths x3 (Int.toNat (w64 (x2 - (1 : Int))))) 0))), (.int .i64 (asI (nth (nths x3 (Int.toNat (w64 (x2 - (1 : Int))))) 1))), (.int .i64 (asI (nth (nths x0 (Int.toNat x2)) 0))), (.int .i64 (asI (nth (nths x0 (Int.toNat x2)) 1)))])]).bind fun r13 =>
             cond (decide ((asI r13) ≤ (0 : Int)))
              (some (.tup [(.int .i64 x2), (.int .i64 (9 : Int))]))
              (cond (decide ((1 : Int) < x2))
               (cond (decide ((0 : Int) ≤ (w64 (x2 - (2 : Int)))))
                (cond (decide ((w64 (x2 - (2 : Int))) < ((List.length x3) : Int)))
                 (cond (decide ((0 : Int) ≤ (w64 (x2 - (1 : Int)))))
                  (cond (decide ((w64 (x2 - (1 : Int))) < ((List.length x3) : Int)))
                   ((ev (envF N) k F_lake_piece_narrower [(.agg [(.int .i64 (asI (nth (nths x3 (Int.toNat (w64 (x2 - (1 : Int))))) 0))), (.int .i64 (asI (nth (nths x3 (Int.toNat (w64 (x2 - (1 : Int))))) 1))), (.int .i64 (asI (nth (nths x0 (Int.toNat x2)) 0))), (.int .i64 (asI (nth (nths x0 (Int.toNat x2)) 1)))]), (.agg [(.int .i64 (asI (nth (nths x3 (Int.toNat (w64 (x2 - (2 : Int))))) 0))), (.int .i64 (asI (nth (nths x3 (Int.toNat (w64 (x2 - (2 : Int))))) 1))), (.int .i64 (asI (nth (nths x3 (Int.toNat (w64 (x2 - (1 : Int))))) 0))), (.int .i64 (asI (nth (nths x3 (Int.toNat (w64 (x2 - (1 : Int))))) 1)))])]).bind fun r20 =>
                    cond (asB r20)
                     (some (.tup [(.int .i64 x2), (.int .i64 (22 : Int))]))
                     (L_lake_CheckTable_5 N k n5  x0 x1 (w64 (x2 + (1 : Int))) x3))
                   (none))
                  (none))
                 (none))
                (none))
               (L_lake_CheckTable_5 N k n5  x0 x1 (w64 (x2 + (1 : Int))) x3))))
          (none))
         (none)))))
   (none))
  (none))
 (some (.tup [(.int .i64 (0 : Int)), (.int .i64 (0 : Int))]))) := by kernel_rfl
theorem E_lake_CheckTable (N k : Nat) (x0 : List (List PV)) : ev (envF N) (k + 1) F_lake_CheckTable [(.agg [(.sl none [.int .i64, .int .i64] x0)])] =
 ((ev (envF N) k F_lake_unless [(.bool (decide ((1 : Int) < ((List.length x0) : Int)))), (.int .i64 (10 : Int))]).bind fun r1 =>
 (ev (envF N) k F_lake_unless [(.bool (decide (((List.length x0) : Int) ≤ (10 : Int)))), (.int .i64 (8 : Int))]).bind fun r2 =>
  (ev (envF N) k F_lake_first [(.sl none [.int .i64] [[(.int .i64 (asI r1))], [(.int .i64 (asI r2))]])]).bind fun r3 =>
   cond (!(decide ((asI r3) = (0 : Int))))
    (some (.tup [(.int .i64 (0 : Int)), (.int .i64 (asI r3))]))
    (L_lake_CheckTable_5 N k N  x0 ((List.length x0) : Int) (0 : Int) x0)) := by kernel_rfl

theorem E_lake_table_pieceTo (N k : Nat) (x0 : List (List PV)) (x1 : Int) : ev (envF N) (k + 1) F_lake_table_pieceTo [(.agg [(.sl none [.int .i64, .int .i64] x0)]), (.fn F_lake_table_byVolume_c1 [(.rp [(.int .i64 x1)] 0)])] =
 (cond (decide ((1 : Int) ≤ ((List.length x0) : Int)))
 ((ev (envF N) k F_slices_IndexFunc_LakeKnot [(.sl none [.int .i64, .int .i64] (List.drop (Int.toNat (1 : Int)) (List.take (List.length x0) x0))), (.fn F_lake_table_byVolume_c1 [(.rp [(.int .i64 x1)] 0)])]).bind fun r2 =>
  cond (decide ((0 : Int) ≤ (w64 ((w64 ((1 : Int) + (asI r2))) - (1 : Int)))))
   (cond (decide ((w64 ((w64 ((1 : Int) + (asI r2))) - (1 : Int))) < ((List.length x0) : Int)))
    (cond (decide ((0 : Int) ≤ (w64 ((1 : Int) + (asI r2)))))
     (cond (decide ((w64 ((1 : Int) + (asI r2))) < ((List.length x0) : Int)))
      (some (.agg [(.int .i64 (asI (nth (nths x0 (Int.toNat (w64 (w64 ((1 : Int) + asI r2) - (1 : Int))))) 0))), (.int .i64 (asI (nth (nths x0 (Int.toNat (w64 (w64 ((1 : Int) + asI r2) - (1 : Int))))) 1))), (.int .i64 (asI (nth (nths x0 (Int.toNat (w64 ((1 : Int) + asI r2)))) 0))), (.int .i64 (asI (nth (nths x0 (Int.toNat (w64 ((1 : Int) + asI r2)))) 1)))]))
      (none))
     (none))
    (none))
   (none))
 (none)) := by kernel_rfl

theorem E_lake_table_byVolume_c1 (N k : Nat) (x0 : Int) (x1 : Int) (x2 : Int) : ev (envF N) (k + 1) F_lake_table_byVolume_c1 [(.agg [(.int .i64 x0), (.int .i64 x1)]), (.rp [(.int .i64 x2)] 0)] =
 (some (.bool (decide (x2 ≤ x1)))) := by kernel_rfl

theorem E_base_RatioOf (N k : Nat) (x0 : Int) (x1 : Int) : ev (envF N) (k + 1) F_base_RatioOf [(.int .i64 x0), (.int .i64 x1)] =
 ((ev (envF N) k F_base_WideOf [(.int .i64 x0)]).bind fun r1 =>
 (ev (envF N) k F_base_WideOf [(.int .i64 x1)]).bind fun r2 =>
  (ev (envF N) k F_base_RatioMake [(.agg [(.int .i64 (asI (nth (asA r1) 0))), (.sl none [.int .i64] (asL (nth (asA r1) 1)))]), (.agg [(.int .i64 (asI (nth (asA r2) 0))), (.sl none [.int .i64] (asL (nth (asA r2) 1)))])]).bind fun r3 =>
   some (.agg [(.int .i64 (asI (nth (asA r3) 0))), (.sl none [.int .i64] (asL (nth (asA r3) 1))), (.int .i64 (asI (nth (asA r3) 2))), (.sl none [.int .i64] (asL (nth (asA r3) 3)))])) := by kernel_rfl

theorem E_ref01_rounded (N k : Nat) (x0 : Int) (x1 : List (List PV)) (x2 : Int) (x3 : List (List PV)) : ev (envF N) (k + 1) F_ref01_rounded [(.agg [(.int .i64 x0), (.sl none [.int .i64] x1), (.int .i64 x2), (.sl none [.int .i64] x3)])] =
 ((ev (envF N) k F_base_RatioFloor [(.agg [(.int .i64 x0), (.sl none [.int .i64] x1), (.int .i64 x2), (.sl none [.int .i64] x3)])]).bind fun r1 =>
 (ev (envF N) k F_base_WideInt [(.agg [(.int .i64 (asI (nth (asA r1) 0))), (.sl none [.int .i64] (asL (nth (asA r1) 1)))])]).bind fun r2 =>
  (ev (envF N) k F_base_RatioCeil [(.agg [(.int .i64 x0), (.sl none [.int .i64] x1), (.int .i64 x2), (.sl none [.int .i64] x3)])]).bind fun r3 =>
   (ev (envF N) k F_base_WideInt [(.agg [(.int .i64 (asI (nth (asA r3) 0))), (.sl none [.int .i64] (asL (nth (asA r3) 1)))])]).bind fun r4 =>
    some (.agg [(.int .i64 (asI (nth (asT r2) 0))), (.int .i64 (asI (nth (asT r4) 0)))])) := by kernel_rfl

theorem E_base_RatioMul (N k : Nat) (x0 : Int) (x1 : List (List PV)) (x2 : Int) (x3 : List (List PV)) (x4 : Int) (x5 : List (List PV)) (x6 : Int) (x7 : List (List PV)) : ev (envF N) (k + 1) F_base_RatioMul [(.agg [(.int .i64 x0), (.sl none [.int .i64] x1), (.int .i64 x2), (.sl none [.int .i64] x3)]), (.agg [(.int .i64 x4), (.sl none [.int .i64] x5), (.int .i64 x6), (.sl none [.int .i64] x7)])] =
 ((ev (envF N) k F_base_WideMul [(.agg [(.int .i64 x0), (.sl none [.int .i64] x1)]), (.agg [(.int .i64 x4), (.sl none [.int .i64] x5)])]).bind fun r1 =>
 (ev (envF N) k F_base_WideMul [(.agg [(.int .i64 x2), (.sl none [.int .i64] x3)]), (.agg [(.int .i64 x6), (.sl none [.int .i64] x7)])]).bind fun r2 =>
  (ev (envF N) k F_base_RatioMake [(.agg [(.int .i64 (asI (nth (asA r1) 0))), (.sl none [.int .i64] (asL (nth (asA r1) 1)))]), (.agg [(.int .i64 (asI (nth (asA r2) 0))), (.sl none [.int .i64] (asL (nth (asA r2) 1)))])]).bind fun r3 =>
   some (.agg [(.int .i64 (asI (nth (asA r3) 0))), (.sl none [.int .i64] (asL (nth (asA r3) 1))), (.int .i64 (asI (nth (asA r3) 2))), (.sl none [.int .i64] (asL (nth (asA r3) 3)))])) := by kernel_rfl

theorem E_base_RatioMake (N k : Nat) (x0 : Int) (x1 : List (List PV)) (x2 : Int) (x3 : List (List PV)) : ev (envF N) (k + 1) F_base_RatioMake [(.agg [(.int .i64 x0), (.sl none [.int .i64] x1)]), (.agg [(.int .i64 x2), (.sl none [.int .i64] x3)])] =
 ((ev (envF N) k F_base_WideSign [(.agg [(.int .i64 x2), (.sl none [.int .i64] x3)])]).bind fun r1 =>
 cond (decide ((asI r1) < (0 : Int)))
  ((ev (envF N) k F_base_WideNeg [(.agg [(.int .i64 x0), (.sl none [.int .i64] x1)])]).bind fun r3 =>
   (ev (envF N) k F_base_WideNeg [(.agg [(.int .i64 x2), (.sl none [.int .i64] x3)])]).bind fun r4 =>
    (ev (envF N) k F_base_wideGcd [(.agg [(.int .i64 (asI (nth (asA r3) 0))), (.sl none [.int .i64] (asL (nth (asA r3) 1)))]), (.agg [(.int .i64 (asI (nth (asA r4) 0))), (.sl none [.int .i64] (asL (nth (asA r4) 1)))])]).bind fun r5 =>
     (ev (envF N) k F_base_WideOf [(.int .i64 (1 : Int))]).bind fun r6 =>
      (ev (envF N) k F_base_WideCmp [(.agg [(.int .i64 (asI (nth (asA r5) 0))), (.sl none [.int .i64] (asL (nth (asA r5) 1)))]), (.agg [(.int .i64 (asI (nth (asA r6) 0))), (.sl none [.int .i64] (asL (nth (asA r6) 1)))])]).bind fun r7 =>
       cond (decide ((asI r7) = (0 : Int)))
        (some (.agg [(.int .i64 (asI (nth (asA r3) 0))), (.sl none [.int .i64] (asL (nth (asA r3) 1))), (.int .i64 (asI (nth (asA r4) 0))), (.sl none [.int .i64] (asL (nth (asA r4) 1)))]))
        ((ev (envF N) k F_base_WideFloor [(.agg [(.int .i64 (asI (nth (asA r3) 0))), (.sl none [.int .i64] (asL (nth (asA r3) 1)))]), (.agg [(.int .i64 (asI (nth (asA r5) 0))), (.sl none [.int .i64] (asL (nth (asA r5) 1)))])]).bind fun r9 =>
         (ev (envF N) k F_base_WideFloor [(.agg [(.int .i64 (asI (nth (asA r4) 0))), (.sl none [.int .i64] (asL (nth (asA r4) 1)))]), (.agg [(.int .i64 (asI (nth (asA r5) 0))), (.sl none [.int .i64] (asL (nth (asA r5) 1)))])]).bind fun r10 =>
          some (.agg [(.int .i64 (asI (nth (asA r9) 0))), (.sl none [.int .i64] (asL (nth (asA r9) 1))), (.int .i64 (asI (nth (asA r10) 0))), (.sl none [.int .i64] (asL (nth (asA r10) 1)))])))
  ((ev (envF N) k F_base_wideGcd [(.agg [(.int .i64 x0), (.sl none [.int .i64] x1)]), (.agg [(.int .i64 x2), (.sl none [.int .i64] x3)])]).bind fun r3 =>
   (ev (envF N) k F_base_WideOf [(.int .i64 (1 : Int))]).bind fun r4 =>
    (ev (envF N) k F_base_WideCmp [(.agg [(.int .i64 (asI (nth (asA r3) 0))), (.sl none [.int .i64] (asL (nth (asA r3) 1)))]), (.agg [(.int .i64 (asI (nth (asA r4) 0))), (.sl none [.int .i64] (asL (nth (asA r4) 1)))])]).bind fun r5 =>
     cond (decide ((asI r5) = (0 : Int)))
      (some (.agg [(.int .i64 x0), (.sl none [.int .i64] x1), (.int .i64 x2), (.sl none [.int .i64] x3)]))
      ((ev (envF N) k F_base_WideFloor [(.agg [(.int .i64 x0), (.sl none [.int .i64] x1)]), (.agg [(.int .i64 (asI (nth (asA r3) 0))), (.sl none [.int .i64] (asL (nth (asA r3) 1)))])]).bind fun r7 =>
       (ev (envF N) k F_base_WideFloor [(.agg [(.int .i64 x2), (.sl none [.int .i64] x3)]), (.agg [(.int .i64 (asI (nth (asA r3) 0))), (.sl none [.int .i64] (asL (nth (asA r3) 1)))])]).bind fun r8 =>
        some (.agg [(.int .i64 (asI (nth (asA r7) 0))), (.sl none [.int .i64] (asL (nth (asA r7) 1))), (.int .i64 (asI (nth (asA r8) 0))), (.sl none [.int .i64] (asL (nth (asA r8) 1)))])))) := by kernel_rfl

theorem E_base_WideAdd (N k : Nat) (x0 : Int) (x1 : List (List PV)) (x2 : Int) (x3 : List (List PV)) : ev (envF N) (k + 1) F_base_WideAdd [(.agg [(.int .i64 x0), (.sl none [.int .i64] x1)]), (.agg [(.int .i64 x2), (.sl none [.int .i64] x3)])] =
 (cond (decide (x0 = (0 : Int)))
 (some (.agg [(.int .i64 x2), (.sl none [.int .i64] x3)]))
 (cond (decide (x2 = (0 : Int)))
  (some (.agg [(.int .i64 x0), (.sl none [.int .i64] x1)]))
  (cond (decide (x0 = x2))
   ((ev (envF N) k F_base_addDigits [(.sl none [.int .i64] x1), (.sl none [.int .i64] x3)]).bind fun r4 =>
    (ev (envF N) k F_base_wideOf [(.int .i64 x0), (.sl none [.int .i64] (asL r4))]).bind fun r5 =>
     some (.agg [(.int .i64 (asI (nth (asA r5) 0))), (.sl none [.int .i64] (asL (nth (asA r5) 1)))]))
   ((ev (envF N) k F_base_cmpDigits [(.sl none [.int .i64] x1), (.sl none [.int .i64] x3)]).bind fun r4 =>
    cond (decide ((asI r4) = (0 : Int)))
     (some (.agg [(.int .i64 (0 : Int)), (.sl none [.int .i64] [])]))
     (cond (decide ((0 : Int) < (asI r4)))
      ((ev (envF N) k F_base_subDigits [(.sl none [.int .i64] x1), (.sl none [.int .i64] x3)]).bind fun r7 =>
       (ev (envF N) k F_base_wideOf [(.int .i64 x0), (.sl none [.int .i64] (asL r7))]).bind fun r8 =>
        some (.agg [(.int .i64 (asI (nth (asA r8) 0))), (.sl none [.int .i64] (asL (nth (asA r8) 1)))]))
      ((ev (envF N) k F_base_subDigits [(.sl none [.int .i64] x3), (.sl none [.int .i64] x1)]).bind fun r7 =>
       (ev (envF N) k F_base_wideOf [(.int .i64 x2), (.sl none [.int .i64] (asL r7))]).bind fun r8 =>
        some (.agg [(.int .i64 (asI (nth (asA r8) 0))), (.sl none [.int .i64] (asL (nth (asA r8) 1)))]))))))) := by kernel_rfl

theorem E_base_WideSub (N k : Nat) (x0 : Int) (x1 : List (List PV)) (x2 : Int) (x3 : List (List PV)) : ev (envF N) (k + 1) F_base_WideSub [(.agg [(.int .i64 x0), (.sl none [.int .i64] x1)]), (.agg [(.int .i64 x2), (.sl none [.int .i64] x3)])] =
 ((ev (envF N) k F_base_WideNeg [(.agg [(.int .i64 x2), (.sl none [.int .i64] x3)])]).bind fun r1 =>
 (ev (envF N) k F_base_WideAdd [(.agg [(.int .i64 x0), (.sl none [.int .i64] x1)]), (.agg [(.int .i64 (asI (nth (asA r1) 0))), (.sl none [.int .i64] (asL (nth (asA r1) 1)))])]).bind fun r2 =>
  some (.agg [(.int .i64 (asI (nth (asA r2) 0))), (.sl none [.int .i64] (asL (nth (asA r2) 1)))])) := by kernel_rfl

theorem E_base_wideOf (N k : Nat) (x0 : Int) (x1 : List (List PV)) : ev (envF N) (k + 1) F_base_wideOf [(.int .i64 x0), (.sl none [.int .i64] x1)] =
 ((ev (envF N) k F_base_trimmed [(.sl none [.int .i64] x1)]).bind fun r1 =>
 cond (decide (((List.length (asL r1)) : Int) = (0 : Int)))
  (some (.agg [(.int .i64 (0 : Int)), (.sl none [.int .i64] (asL r1))]))
  (some (.agg [(.int .i64 x0), (.sl none [.int .i64] (asL r1))]))) := by kernel_rfl

theorem E_base_Size (N k : Nat) (x0 : Int) : ev (envF N) (k + 1) F_base_Size [(.int .i64 x0)] =
 (some (.int .i64 (imax x0 (w64 ((0 : Int) - x0))))) := by kernel_rfl

theorem E_base_WideNeg (N k : Nat) (x0 : Int) (x1 : List (List PV)) : ev (envF N) (k + 1) F_base_WideNeg [(.agg [(.int .i64 x0), (.sl none [.int .i64] x1)])] =
 (some (.agg [(.int .i64 (w64 ((0 : Int) - x0))), (.sl none [.int .i64] x1)])) := by kernel_rfl

theorem E_lake_piece_narrower (N k : Nat) (x0 : Int) (x1 : Int) (x2 : Int) (x3 : Int) (x4 : Int) (x5 : Int) (x6 : Int) (x7 : Int) : ev (envF N) (k + 1) F_lake_piece_narrower [(.agg [(.int .i64 x0), (.int .i64 x1), (.int .i64 x2), (.int .i64 x3)]), (.agg [(.int .i64 x4), (.int .i64 x5), (.int .i64 x6), (.int .i64 x7)])] =
 ((ev (envF N) k F_lake_piece_volume [(.agg [(.int .i64 x0), (.int .i64 x1), (.int .i64 x2), (.int .i64 x3)])]).bind fun r1 =>
 (ev (envF N) k F_lake_piece_height [(.agg [(.int .i64 x4), (.int .i64 x5), (.int .i64 x6), (.int .i64 x7)])]).bind fun r2 =>
  (ev (envF N) k F_lake_piece_volume [(.agg [(.int .i64 x4), (.int .i64 x5), (.int .i64 x6), (.int .i64 x7)])]).bind fun r3 =>
   (ev (envF N) k F_lake_piece_height [(.agg [(.int .i64 x0), (.int .i64 x1), (.int .i64 x2), (.int .i64 x3)])]).bind fun r4 =>
    some (.bool (decide ((w64 ((asI r1) * (asI r2))) < (w64 ((asI r3) * (asI r4))))))) := by kernel_rfl

/-- Loop 2 of slices_IndexFunc_LakeKnot. -/
noncomputable def L_slices_IndexFunc_LakeKnot_2 (N k n2  : Nat) (x0 : List (List PV)) (x1 : Int) (x2 : Int) (x3 : Int) : Option PV := loopAt (envF N) (ev (envF N) k) (evI (envF N) k) F_slices_IndexFunc_LakeKnot Go.Proofs.Tryz.f122 [.r, .l, .r, .b] n2 { slots := ((.sl none [.int .i64, .int .i64] x0) :: (.fn F_lake_table_byVolume_c1 [(.rp [(.int .i64 x1)] 0)]) :: und 5 ((.int .i64 x2) :: (.int .i64 x3) :: und 10 [])), boxes := (nos 19 []), vers := List.replicate 19 0 }
theorem L_slices_IndexFunc_LakeKnot_2_eq (N k n2  : Nat) (x0 : List (List PV)) (x1 : Int) (x2 : Int) (x3 : Int) : L_slices_IndexFunc_LakeKnot_2 N k (n2 + 1)  x0 x1 x2 x3 =
 (cond (decide (x3 < x2))
 (cond (decide ((0 : Int) ≤ x3))
  (cond (decide (x3 < ((List.length x0) : Int)))
   ((ev (envF N) k F_lake_table_byVolume_c1 [(.agg [(.int .i64 (asI (nth (nths x0 (Int.toNat x3)) 0))), (.int .i64 (asI (nth (nths x0 (Int.toNat x3)) 1)))]), (.rp [(.int .i64 x1)] 0)]).bind fun r4 =>
    cond (asB r4)
     (some (.int .i64 x3))
     (L_slices_IndexFunc_LakeKnot_2 N k n2  x0 x1 x2 (w64 (x3 + (1 : Int)))))
   (none))
  (none))
 (some (.int .i64 (-1 : Int)))) := by kernel_rfl
theorem E_slices_IndexFunc_LakeKnot (N k : Nat) (x0 : List (List PV)) (x1 : Int) : ev (envF N) (k + 1) F_slices_IndexFunc_LakeKnot [(.sl none [.int .i64, .int .i64] x0), (.fn F_lake_table_byVolume_c1 [(.rp [(.int .i64 x1)] 0)])] =
 (L_slices_IndexFunc_LakeKnot_2 N k N  x0 x1 ((List.length x0) : Int) (0 : Int)) := by kernel_rfl

/-- Loop 5 of base_WideInt. -/
noncomputable def L_base_WideInt_5 (N k n5  : Nat) (x0 : Int) (x1 : Int) (x2 : Int) (x3 : List (List PV)) : Option PV := loopAt (envF N) (ev (envF N) k) (evI (envF N) k) F_base_WideInt Go.Proofs.Tryz.f124 [.r, .r, .r, .l, .r, .b] n5 { slots := (und 1 ((.ptr 1 0) :: und 2 ((.int .i64 x0) :: (.int .i64 x1) :: und 24 []))), boxes := (nos 1 ((some (.cells [(.int .i64 x2), (.sl none [.int .i64] x3)] false)) :: nos 28 [])), vers := List.replicate 30 0 }
theorem L_base_WideInt_5_eq (N k n5  : Nat) (x0 : Int) (x1 : Int) (x2 : Int) (x3 : List (List PV)) : L_base_WideInt_5 N k (n5 + 1)  x0 x1 x2 x3 =
 (cond (decide ((0 : Int) ≤ x1))
 (cond (decide ((0 : Int) ≤ x1))
  (cond (decide (x1 < ((List.length x3) : Int)))
   (L_base_WideInt_5 N k n5  (w64 ((w64 (x0 * (1000000000 : Int))) + (asI (nth (nths x3 (Int.toNat x1)) 0)))) (w64 (x1 - (1 : Int))) x2 x3)
   (none))
  (none))
 (some (.tup [(.int .i64 (w64 (x2 * x0))), (.bool (true))]))) := by kernel_rfl
theorem E_base_WideInt (N k : Nat) (x0 : Int) (x1 : List (List PV)) : ev (envF N) (k + 1) F_base_WideInt [(.agg [(.int .i64 x0), (.sl none [.int .i64] x1)])] =
 (cond (decide ((2 : Int) < ((List.length x1) : Int)))
 (some (.tup [(.int .i64 (0 : Int)), (.bool (false))]))
 (L_base_WideInt_5 N k N  (0 : Int) (w64 (((List.length x1) : Int) - (1 : Int))) x0 x1)) := by kernel_rfl

theorem E_base_RatioFloor (N k : Nat) (x0 : Int) (x1 : List (List PV)) (x2 : Int) (x3 : List (List PV)) : ev (envF N) (k + 1) F_base_RatioFloor [(.agg [(.int .i64 x0), (.sl none [.int .i64] x1), (.int .i64 x2), (.sl none [.int .i64] x3)])] =
 ((ev (envF N) k F_base_WideFloor [(.agg [(.int .i64 x0), (.sl none [.int .i64] x1)]), (.agg [(.int .i64 x2), (.sl none [.int .i64] x3)])]).bind fun r1 =>
 some (.agg [(.int .i64 (asI (nth (asA r1) 0))), (.sl none [.int .i64] (asL (nth (asA r1) 1)))])) := by kernel_rfl

theorem E_base_RatioCeil (N k : Nat) (x0 : Int) (x1 : List (List PV)) (x2 : Int) (x3 : List (List PV)) : ev (envF N) (k + 1) F_base_RatioCeil [(.agg [(.int .i64 x0), (.sl none [.int .i64] x1), (.int .i64 x2), (.sl none [.int .i64] x3)])] =
 ((ev (envF N) k F_base_WideNeg [(.agg [(.int .i64 x0), (.sl none [.int .i64] x1)])]).bind fun r1 =>
 (ev (envF N) k F_base_WideFloor [(.agg [(.int .i64 (asI (nth (asA r1) 0))), (.sl none [.int .i64] (asL (nth (asA r1) 1)))]), (.agg [(.int .i64 x2), (.sl none [.int .i64] x3)])]).bind fun r2 =>
  (ev (envF N) k F_base_WideNeg [(.agg [(.int .i64 (asI (nth (asA r2) 0))), (.sl none [.int .i64] (asL (nth (asA r2) 1)))])]).bind fun r3 =>
   some (.agg [(.int .i64 (asI (nth (asA r3) 0))), (.sl none [.int .i64] (asL (nth (asA r3) 1)))])) := by kernel_rfl

theorem E_base_WideSign (N k : Nat) (x0 : Int) (x1 : List (List PV)) : ev (envF N) (k + 1) F_base_WideSign [(.agg [(.int .i64 x0), (.sl none [.int .i64] x1)])] =
 (some (.int .i64 x0)) := by kernel_rfl

/-- Loop 2 of base_wideGcd. -/
noncomputable def L_base_wideGcd_2 (N k n2  : Nat) (x0 : Int) (x1 : List (List PV)) (x2 : Int) (x3 : List (List PV)) (x4 : Int) (x5 : List (List PV)) : Option PV := loopAt (envF N) (ev (envF N) k) (evI (envF N) k) F_base_wideGcd Go.Proofs.Tryz.f128 [.r, .r, .l, .b] n2 { slots := (und 2 ((.ptr 2 0) :: (.ptr 3 0) :: (.ptr 4 0) :: und 18 [])), boxes := (nos 2 ((some (.cells [(.int .i64 x0), (.sl none [.int .i64] x1)] false)) :: (some (.cells [(.int .i64 x2), (.sl none [.int .i64] x3)] false)) :: (some (.cells [(.int .i64 x4), (.sl none [.int .i64] x5)] false)) :: nos 18 [])), vers := List.replicate 23 0 }
theorem L_base_wideGcd_2_eq (N k n2  : Nat) (x0 : Int) (x1 : List (List PV)) (x2 : Int) (x3 : List (List PV)) (x4 : Int) (x5 : List (List PV)) : L_base_wideGcd_2 N k (n2 + 1)  x0 x1 x2 x3 x4 x5 =
 ((ev (envF N) k F_base_WideSign [(.agg [(.int .i64 x2), (.sl none [.int .i64] x3)])]).bind fun r1 =>
 cond (!(decide ((asI r1) = (0 : Int))))
  ((ev (envF N) k F_base_WideFloor [(.agg [(.int .i64 x0), (.sl none [.int .i64] x1)]), (.agg [(.int .i64 x2), (.sl none [.int .i64] x3)])]).bind fun r3 =>
   (ev (envF N) k F_base_WideMul [(.agg [(.int .i64 (asI (nth (asA r3) 0))), (.sl none [.int .i64] (asL (nth (asA r3) 1)))]), (.agg [(.int .i64 x2), (.sl none [.int .i64] x3)])]).bind fun r4 =>
    (ev (envF N) k F_base_WideSub [(.agg [(.int .i64 x0), (.sl none [.int .i64] x1)]), (.agg [(.int .i64 (asI (nth (asA r4) 0))), (.sl none [.int .i64] (asL (nth (asA r4) 1)))])]).bind fun r5 =>
     L_base_wideGcd_2 N k n2  x2 x3 (asI (nth (asA r5) 0)) (asL (nth (asA r5) 1)) x4 x5)
  (some (.agg [(.int .i64 x0), (.sl none [.int .i64] x1)]))) := by kernel_rfl
theorem E_base_wideGcd (N k : Nat) (x0 : Int) (x1 : List (List PV)) (x2 : Int) (x3 : List (List PV)) : ev (envF N) (k + 1) F_base_wideGcd [(.agg [(.int .i64 x0), (.sl none [.int .i64] x1)]), (.agg [(.int .i64 x2), (.sl none [.int .i64] x3)])] =
 ((ev (envF N) k F_base_wideSize [(.agg [(.int .i64 x0), (.sl none [.int .i64] x1)])]).bind fun r1 =>
 (ev (envF N) k F_base_wideSize [(.agg [(.int .i64 x2), (.sl none [.int .i64] x3)])]).bind fun r2 =>
  L_base_wideGcd_2 N k N  (asI (nth (asA r1) 0)) (asL (nth (asA r1) 1)) (asI (nth (asA r2) 0)) (asL (nth (asA r2) 1)) (0 : Int) []) := by kernel_rfl

/-- Loop 5 of base_WideFloor. -/
noncomputable def L_base_WideFloor_5 (N k n5  : Nat) (x0 : List (List PV)) (x1 : Int) (x2 : Int) (x3 : List (List PV)) (x4 : Int) (x5 : List (List PV)) (x6 : Int) (x7 : List (List PV)) (x8 : List (List PV)) : Option PV := loopAt (envF N) (ev (envF N) k) (evI (envF N) k) F_base_WideFloor Go.Proofs.Tryz.f129 [.r, .r, .r, .l, .r, .b] n5 { slots := (und 2 ((.ptr 2 0) :: (.ptr 3 0) :: (.ptr 4 0) :: (.row 19) :: (.sl none [.int .i64] x0) :: (.int .i64 x1) :: und 80 [])), boxes := (nos 2 ((some (.cells [(.int .i64 x2), (.sl none [.int .i64] x3)] false)) :: (some (.cells [(.int .i64 x4), (.sl none [.int .i64] x5)] false)) :: (some (.cells [(.int .i64 x6), (.sl none [.int .i64] x7)] false)) :: nos 14 ((some (.row [.int .i64] x8 false)) :: nos 68 []))), vers := List.replicate 88 0 }
/-- Loop 9 of base_WideFloor. -/
noncomputable def L_base_WideFloor_9 (N k n9 n5 : Nat) (x0 : List (List PV)) (x1 : Int) (x2 : Int) (x3 : Int) (x4 : Int) (x5 : List (List PV)) (x6 : Int) (x7 : List (List PV)) (x8 : Int) (x9 : List (List PV)) (x10 : List (List PV)) : Option PV := loopAt (envF N) (ev (envF N) k) (evI (envF N) k) F_base_WideFloor Go.Proofs.Tryz.f129 [.r, .r, .r, .l, .r, .b, .p n5, .r, .l, .b, .r, .r, .l, .b] n9 { slots := (und 2 ((.ptr 2 0) :: (.ptr 3 0) :: (.ptr 4 0) :: (.row 19) :: (.sl none [.int .i64] x0) :: (.int .i64 x1) :: (.int .i64 x2) :: (.int .i64 x3) :: und 78 [])), boxes := (nos 2 ((some (.cells [(.int .i64 x4), (.sl none [.int .i64] x5)] false)) :: (some (.cells [(.int .i64 x6), (.sl none [.int .i64] x7)] false)) :: (some (.cells [(.int .i64 x8), (.sl none [.int .i64] x9)] false)) :: nos 14 ((some (.row [.int .i64] x10 false)) :: nos 68 []))), vers := List.replicate 88 0 }
theorem L_base_WideFloor_5_eq (N k n5  : Nat) (x0 : List (List PV)) (x1 : Int) (x2 : Int) (x3 : List (List PV)) (x4 : Int) (x5 : List (List PV)) (x6 : Int) (x7 : List (List PV)) (x8 : List (List PV)) : L_base_WideFloor_5 N k (n5 + 1)  x0 x1 x2 x3 x4 x5 x6 x7 x8 =
 (cond (decide ((0 : Int) ≤ x1))
 (cond (decide ((0 : Int) ≤ x1))
  (cond (decide (x1 < ((List.length x3) : Int)))
   (cond (room [[(.int .i64 (asI (nth (nths x3 (Int.toNat x1)) 0)))]] x0 8)
    ((ev (envF N) k F_base_trimmed [(.sl none [.int .i64] ([[(.int .i64 (asI (nth (nths x3 (Int.toNat x1)) 0)))]] ++ x0))]).bind fun r5 =>
     L_base_WideFloor_9 N k N n5 (asL r5) x1 (0 : Int) (999999999 : Int) x2 x3 x4 x5 x6 x7 x8)
    (none))
   (none))
  (none))
 ((ev (envF N) k F_base_wideOf [(.int .i64 x2), (.sl none [.int .i64] x8)]).bind fun r2 =>
  cond (decide (x2 < (0 : Int)))
   (cond (decide ((0 : Int) < ((List.length x0) : Int)))
    ((ev (envF N) k F_base_WideOf [(.int .i64 (1 : Int))]).bind fun r5 =>
     (ev (envF N) k F_base_WideSub [(.agg [(.int .i64 (asI (nth (asA r2) 0))), (.sl none [.int .i64] (asL (nth (asA r2) 1)))]), (.agg [(.int .i64 (asI (nth (asA r5) 0))), (.sl none [.int .i64] (asL (nth (asA r5) 1)))])]).bind fun r6 =>
      some (.agg [(.int .i64 (asI (nth (asA r6) 0))), (.sl none [.int .i64] (asL (nth (asA r6) 1)))]))
    (some (.agg [(.int .i64 (asI (nth (asA r2) 0))), (.sl none [.int .i64] (asL (nth (asA r2) 1)))])))
   (some (.agg [(.int .i64 (asI (nth (asA r2) 0))), (.sl none [.int .i64] (asL (nth (asA r2) 1)))])))) := by kernel_rfl
theorem L_base_WideFloor_9_eq (N k n9 n5 : Nat) (x0 : List (List PV)) (x1 : Int) (x2 : Int) (x3 : Int) (x4 : Int) (x5 : List (List PV)) (x6 : Int) (x7 : List (List PV)) (x8 : Int) (x9 : List (List PV)) (x10 : List (List PV)) : L_base_WideFloor_9 N k (n9 + 1) n5 x0 x1 x2 x3 x4 x5 x6 x7 x8 x9 x10 =
 (cond (decide (x2 < x3))
 ((ev (envF N) k F_base_wideOf [(.int .i64 (1 : Int)), (.sl none [.int .i64] x7)]).bind fun r2 =>
  (ev (envF N) k F_base_WideOf [(.int .i64 (w64 (Int.tdiv (w64 ((w64 (x2 + x3)) + (1 : Int))) (2 : Int))))]).bind fun r3 =>
   (ev (envF N) k F_base_WideMul [(.agg [(.int .i64 (asI (nth (asA r2) 0))), (.sl none [.int .i64] (asL (nth (asA r2) 1)))]), (.agg [(.int .i64 (asI (nth (asA r3) 0))), (.sl none [.int .i64] (asL (nth (asA r3) 1)))])]).bind fun r4 =>
    (ev (envF N) k F_base_cmpDigits [(.sl none [.int .i64] (asL (nth (asA r4) 1))), (.sl none [.int .i64] x0)]).bind fun r5 =>
     cond (decide ((asI r5) ≤ (0 : Int)))
      (L_base_WideFloor_9 N k n9 n5 x0 x1 (w64 (Int.tdiv (w64 ((w64 (x2 + x3)) + (1 : Int))) (2 : Int))) x3 x4 x5 x6 x7 x8 x9 x10)
      (L_base_WideFloor_9 N k n9 n5 x0 x1 x2 (w64 ((w64 (Int.tdiv (w64 ((w64 (x2 + x3)) + (1 : Int))) (2 : Int))) - (1 : Int))) x4 x5 x6 x7 x8 x9 x10))
 (cond (decide ((0 : Int) ≤ x1))
  (cond (decide (x1 < ((List.length x10) : Int)))
   ((ev (envF N) k F_base_wideOf [(.int .i64 (1 : Int)), (.sl none [.int .i64] x7)]).bind fun r4 =>
    (ev (envF N) k F_base_WideOf [(.int .i64 x2)]).bind fun r5 =>
     (ev (envF N) k F_base_WideMul [(.agg [(.int .i64 (asI (nth (asA r4) 0))), (.sl none [.int .i64] (asL (nth (asA r4) 1)))]), (.agg [(.int .i64 (asI (nth (asA r5) 0))), (.sl none [.int .i64] (asL (nth (asA r5) 1)))])]).bind fun r6 =>
      (ev (envF N) k F_base_subDigits [(.sl none [.int .i64] x0), (.sl none [.int .i64] (asL (nth (asA r6) 1)))]).bind fun r7 =>
       L_base_WideFloor_5 N k n5  (asL r7) (w64 (x1 - (1 : Int))) x4 x5 x6 x7 x8 x9 (List.set x10 (Int.toNat x1) (List.set (nths x10 (Int.toNat x1)) 0 (.int .i64 x2))))
   (none))
  (none))) := by kernel_rfl
theorem E_base_WideFloor (N k : Nat) (x0 : Int) (x1 : List (List PV)) (x2 : Int) (x3 : List (List PV)) : ev (envF N) (k + 1) F_base_WideFloor [(.agg [(.int .i64 x0), (.sl none [.int .i64] x1)]), (.agg [(.int .i64 x2), (.sl none [.int .i64] x3)])] =
 (cond (decide (x0 = (0 : Int)))
 (some (.agg [(.int .i64 (0 : Int)), (.sl none [.int .i64] [])]))
 (cond (decide (((List.length x1) : Int) = ((List.length x1) : Int)))
  (cond (decide ((((List.length x1) : Int) * (8 : Int)) ≤ (140737488355328 : Int)))
   (L_base_WideFloor_5 N k N  [] (w64 (((List.length x1) : Int) - (1 : Int))) x0 x1 x2 x3 (0 : Int) [] (List.replicate (Int.toNat (x1.length : Int)) ([.int .i64 0])))
   (none))
  (none))) := by kernel_rfl

/-- Loop 4 of base_addDigits. -/
noncomputable def L_base_addDigits_4 (N k n4  : Nat) (x0 : List (List PV)) (x1 : List (List PV)) (x2 : List (List PV)) (x3 : Int) (x4 : Int) : Option PV := loopAt (envF N) (ev (envF N) k) (evI (envF N) k) F_base_addDigits Go.Proofs.Tryz.f130 [.r, .r, .r, .l, .r, .b] n4 { slots := ((.sl none [.int .i64] x0) :: (.sl none [.int .i64] x1) :: und 3 ((.sl (some (5, 0)) [.int .i64] x2) :: (.int .i64 x3) :: (.int .i64 x4) :: und 34 [])), boxes := (nos 42 []), vers := List.replicate 42 0 }
theorem L_base_addDigits_4_eq (N k n4  : Nat) (x0 : List (List PV)) (x1 : List (List PV)) (x2 : List (List PV)) (x3 : Int) (x4 : Int) : L_base_addDigits_4 N k (n4 + 1)  x0 x1 x2 x3 x4 =
 (cond (decide (x4 < ((List.length x0) : Int)))
 ((ev (envF N) k F_base_digit [(.sl none [.int .i64] x0), (.int .i64 x4)]).bind fun r2 =>
  (ev (envF N) k F_base_digit [(.sl none [.int .i64] x1), (.int .i64 x4)]).bind fun r3 =>
   cond (room x2 [[(.int .i64 (Int.tmod (w64 ((w64 ((asI r2) + (asI r3))) + x3)) (1000000000 : Int)))]] 8)
    (L_base_addDigits_4 N k n4  x0 x1 (x2 ++ [[(.int .i64 (Int.tmod (w64 ((w64 ((asI r2) + (asI r3))) + x3)) (1000000000 : Int)))]]) (w64 (Int.tdiv (w64 ((w64 ((asI r2) + (asI r3))) + x3)) (1000000000 : Int))) (w64 (x4 + (1 : Int))))
    (none))
 (cond (decide (x4 < ((List.length x1) : Int)))
  ((ev (envF N) k F_base_digit [(.sl none [.int .i64] x0), (.int .i64 x4)]).bind fun r3 =>
   (ev (envF N) k F_base_digit [(.sl none [.int .i64] x1), (.int .i64 x4)]).bind fun r4 =>
    cond (room x2 [[(.int .i64 (Int.tmod (w64 ((w64 ((asI r3) + (asI r4))) + x3)) (1000000000 : Int)))]] 8)
     (L_base_addDigits_4 N k n4  x0 x1 (x2 ++ [[(.int .i64 (Int.tmod (w64 ((w64 ((asI r3) + (asI r4))) + x3)) (1000000000 : Int)))]]) (w64 (Int.tdiv (w64 ((w64 ((asI r3) + (asI r4))) + x3)) (1000000000 : Int))) (w64 (x4 + (1 : Int))))
     (none))
  (cond (decide ((0 : Int) < x3))
   ((ev (envF N) k F_base_digit [(.sl none [.int .i64] x0), (.int .i64 x4)]).bind fun r4 =>
    (ev (envF N) k F_base_digit [(.sl none [.int .i64] x1), (.int .i64 x4)]).bind fun r5 =>
     cond (room x2 [[(.int .i64 (Int.tmod (w64 ((w64 ((asI r4) + (asI r5))) + x3)) (1000000000 : Int)))]] 8)
      (L_base_addDigits_4 N k n4  x0 x1 (x2 ++ [[(.int .i64 (Int.tmod (w64 ((w64 ((asI r4) + (asI r5))) + x3)) (1000000000 : Int)))]]) (w64 (Int.tdiv (w64 ((w64 ((asI r4) + (asI r5))) + x3)) (1000000000 : Int))) (w64 (x4 + (1 : Int))))
      (none))
   (some (.sl none [.int .i64] x2))))) := by kernel_rfl
theorem E_base_addDigits (N k : Nat) (x0 : List (List PV)) (x1 : List (List PV)) : ev (envF N) (k + 1) F_base_addDigits [(.sl none [.int .i64] x0), (.sl none [.int .i64] x1)] =
 (L_base_addDigits_4 N k N  x0 x1 [] (0 : Int) (0 : Int)) := by kernel_rfl

/-- Loop 6 of base_cmpDigits. -/
noncomputable def L_base_cmpDigits_6 (N k n6  : Nat) (x0 : List (List PV)) (x1 : List (List PV)) (x2 : Int) : Option PV := loopAt (envF N) (ev (envF N) k) (evI (envF N) k) F_base_cmpDigits Go.Proofs.Tryz.f131 [.r, .r, .l, .r, .b] n6 { slots := ((.sl none [.int .i64] x0) :: (.sl none [.int .i64] x1) :: und 3 ((.int .i64 x2) :: und 35 [])), boxes := (nos 41 []), vers := List.replicate 41 0 }
theorem L_base_cmpDigits_6_eq (N k n6  : Nat) (x0 : List (List PV)) (x1 : List (List PV)) (x2 : Int) : L_base_cmpDigits_6 N k (n6 + 1)  x0 x1 x2 =
 (cond (decide ((0 : Int) ≤ x2))
 (cond (decide ((0 : Int) ≤ x2))
  (cond (decide (x2 < ((List.length x0) : Int)))
   (cond (decide ((0 : Int) ≤ x2))
    (cond (decide (x2 < ((List.length x1) : Int)))
     (cond (decide ((asI (nth (nths x0 (Int.toNat x2)) 0)) < (asI (nth (nths x1 (Int.toNat x2)) 0))))
      (some (.int .i64 (-1 : Int)))
      (cond (decide ((0 : Int) ≤ x2))
       (cond (decide (x2 < ((List.length x0) : Int)))
        (cond (decide ((0 : Int) ≤ x2))
         (cond (decide (x2 < ((List.length x1) : Int)))
          (cond (decide ((asI (nth (nths x1 (Int.toNat x2)) 0)) < (asI (nth (nths x0 (Int.toNat x2)) 0))))
           (some (.int .i64 (1 : Int)))
           (L_base_cmpDigits_6 N k n6  x0 x1 (w64 (x2 - (1 : Int)))))
          (none))
         (none))
        (none))
       (none)))
     (none))
    (none))
   (none))
  (none))
 (some (.int .i64 (0 : Int)))) := by kernel_rfl
theorem E_base_cmpDigits (N k : Nat) (x0 : List (List PV)) (x1 : List (List PV)) : ev (envF N) (k + 1) F_base_cmpDigits [(.sl none [.int .i64] x0), (.sl none [.int .i64] x1)] =
 (cond (!(decide (((List.length x0) : Int) = ((List.length x1) : Int))))
 (cond (decide (((List.length x0) : Int) < ((List.length x1) : Int)))
  (some (.int .i64 (-1 : Int)))
  (some (.int .i64 (1 : Int))))
 (L_base_cmpDigits_6 N k N  x0 x1 (w64 (((List.length x0) : Int) - (1 : Int))))) := by kernel_rfl

/-- Loop 4 of base_subDigits. -/
noncomputable def L_base_subDigits_4 (N k n4  : Nat) (x0 : List (List PV)) (x1 : List (List PV)) (x2 : List (List PV)) (x3 : Int) (x4 : Int) : Option PV := loopAt (envF N) (ev (envF N) k) (evI (envF N) k) F_base_subDigits Go.Proofs.Tryz.f132 [.r, .r, .r, .l, .r, .b] n4 { slots := ((.sl none [.int .i64] x0) :: (.sl none [.int .i64] x1) :: und 3 ((.sl (some (5, 0)) [.int .i64] x2) :: (.int .i64 x3) :: (.int .i64 x4) :: und 27 [])), boxes := (nos 35 []), vers := List.replicate 35 0 }
theorem L_base_subDigits_4_eq (N k n4  : Nat) (x0 : List (List PV)) (x1 : List (List PV)) (x2 : List (List PV)) (x3 : Int) (x4 : Int) : L_base_subDigits_4 N k (n4 + 1)  x0 x1 x2 x3 x4 =
 (cond (decide (x4 < ((List.length x0) : Int)))
 (cond (decide ((0 : Int) ≤ x4))
  (cond (decide (x4 < ((List.length x0) : Int)))
   ((ev (envF N) k F_base_digit [(.sl none [.int .i64] x1), (.int .i64 x4)]).bind fun r4 =>
    cond (decide ((w64 ((w64 ((asI (nth (nths x0 (Int.toNat x4)) 0)) - (asI r4))) - x3)) < (0 : Int)))
     (cond (room x2 [[(.int .i64 (w64 ((w64 ((w64 ((asI (nth (nths x0 (Int.toNat x4)) 0)) - (asI r4))) - x3)) + (1000000000 : Int))))]] 8)
      (L_base_subDigits_4 N k n4  x0 x1 (x2 ++ [[(.int .i64 (w64 ((w64 ((w64 ((asI (nth (nths x0 (Int.toNat x4)) 0)) - (asI r4))) - x3)) + (1000000000 : Int))))]]) (1 : Int) (w64 (x4 + (1 : Int))))
      (none))
     (cond (room x2 [[(.int .i64 (w64 ((w64 ((asI (nth (nths x0 (Int.toNat x4)) 0)) - (asI r4))) - x3)))]] 8)
      (L_base_subDigits_4 N k n4  x0 x1 (x2 ++ [[(.int .i64 (w64 ((w64 ((asI (nth (nths x0 (Int.toNat x4)) 0)) - (asI r4))) - x3)))]]) (0 : Int) (w64 (x4 + (1 : Int))))
      (none)))
   (none))
  (none))
 ((ev (envF N) k F_base_trimmed [(.sl none [.int .i64] x2)]).bind fun r2 =>
  some (.sl none [.int .i64] (asL r2)))) := by kernel_rfl
theorem E_base_subDigits (N k : Nat) (x0 : List (List PV)) (x1 : List (List PV)) : ev (envF N) (k + 1) F_base_subDigits [(.sl none [.int .i64] x0), (.sl none [.int .i64] x1)] =
 (L_base_subDigits_4 N k N  x0 x1 [] (0 : Int) (0 : Int)) := by kernel_rfl

/-- Loop 2 of base_trimmed. -/
noncomputable def L_base_trimmed_2 (N k n2  : Nat) (x0 : List (List PV)) (x1 : Int) : Option PV := loopAt (envF N) (ev (envF N) k) (evI (envF N) k) F_base_trimmed Go.Proofs.Tryz.f133 [.r, .r, .l, .b] n2 { slots := ((.sl none [.int .i64] x0) :: und 2 ((.int .i64 x1) :: und 17 [])), boxes := (nos 21 []), vers := List.replicate 21 0 }
theorem L_base_trimmed_2_eq (N k n2  : Nat) (x0 : List (List PV)) (x1 : Int) : L_base_trimmed_2 N k (n2 + 1)  x0 x1 =
 (cond (decide ((0 : Int) < x1))
 (cond (decide ((0 : Int) ≤ (w64 (x1 - (1 : Int)))))
  (cond (decide ((w64 (x1 - (1 : Int))) < ((List.length x0) : Int)))
   (cond (decide ((asI (nth (nths x0 (Int.toNat (w64 (x1 - (1 : Int))))) 0)) = (0 : Int)))
    (L_base_trimmed_2 N k n2  x0 (w64 (x1 - (1 : Int))))
    (cond (decide ((0 : Int) ≤ x1))
     (cond (decide (x1 ≤ ((List.length x0) : Int)))
      (some (.sl none [.int .i64] (List.drop 0 (List.take (Int.toNat x1) x0))))
      (none))
     (none)))
   (none))
  (none))
 (cond (decide ((0 : Int) ≤ x1))
  (cond (decide (x1 ≤ ((List.length x0) : Int)))
   (some (.sl none [.int .i64] (List.drop 0 (List.take (Int.toNat x1) x0))))
   (none))
  (none))) := by kernel_rfl
theorem E_base_trimmed (N k : Nat) (x0 : List (List PV)) : ev (envF N) (k + 1) F_base_trimmed [(.sl none [.int .i64] x0)] =
 (L_base_trimmed_2 N k N  x0 ((List.length x0) : Int)) := by kernel_rfl

theorem E_base_wideSize (N k : Nat) (x0 : Int) (x1 : List (List PV)) : ev (envF N) (k + 1) F_base_wideSize [(.agg [(.int .i64 x0), (.sl none [.int .i64] x1)])] =
 (cond (decide (x0 < (0 : Int)))
 ((ev (envF N) k F_base_WideNeg [(.agg [(.int .i64 x0), (.sl none [.int .i64] x1)])]).bind fun r2 =>
  some (.agg [(.int .i64 (asI (nth (asA r2) 0))), (.sl none [.int .i64] (asL (nth (asA r2) 1)))]))
 (some (.agg [(.int .i64 x0), (.sl none [.int .i64] x1)]))) := by kernel_rfl

theorem E_base_digit (N k : Nat) (x0 : List (List PV)) (x1 : Int) : ev (envF N) (k + 1) F_base_digit [(.sl none [.int .i64] x0), (.int .i64 x1)] =
 (cond (decide (x1 < ((List.length x0) : Int)))
 (cond (decide ((0 : Int) ≤ x1))
  (cond (decide (x1 < ((List.length x0) : Int)))
   (some (.int .i64 (asI (nth (nths x0 (Int.toNat x1)) 0))))
   (none))
  (none))
 (some (.int .i64 (0 : Int)))) := by kernel_rfl

end Go.PewTab

namespace Go.PewTab
set_option linter.unusedSimpArgs false
set_option linter.unusedVariables false
open Go.Pew Go
set_option maxRecDepth 100000
set_option linter.unusedVariables false

/-- slices.Values over flows. -/
noncomputable def I_Values (N k n : Nat) (xs : List (List PV)) (m i : Int) : Option (List (List PV)) :=
  loopAtI (envF N) (ev (envF N) k) (evI (envF N) k) 59 Go.Proofs.Tryz.f59 [.r, .b] n
    { slots := .yld :: und 4 (.sl none [.int .i64, .int .i64, .int .i64] xs :: .int .i64 m :: .int .i64 i :: und 8 []), boxes := nos 16 [], vers := List.replicate 16 0 }

theorem I_Values_eq (N k n : Nat) (xs : List (List PV)) (m i : Int) : I_Values N k (n + 1) xs m i =
  cond (decide (i < m))
   (cond (decide ((0 : Int) ≤ i))
    (cond (decide (i < ((List.length xs) : Int)))
     (emitI [.agg [.int .i64 (asI (nth (nths xs (Int.toNat i)) 0)), .int .i64 (asI (nth (nths xs (Int.toNat i)) 1)), .int .i64 (asI (nth (nths xs (Int.toNat i)) 2))]] (I_Values N k n xs m (w64 (i + (1 : Int)))) (some []))
     none)
    none)
   (some []) := by kernel_rfl

theorem E_Values (N k : Nat) (xs : List (List PV)) : evI (envF N) (k + 1) F_slices_Values_LakeFlows_c1 [.rp [.sl none [.int .i64, .int .i64, .int .i64] xs] 0] none [] =
  I_Values N k N xs ((List.length xs) : Int) (0 : Int) := by kernel_rfl

end Go.PewTab

namespace Go.PewTab
set_option linter.unusedSimpArgs false
set_option linter.unusedVariables false
open Go.Pew Go.Num

section
variable {N k : Nat}

theorem imax_eq (a b : Int) : imax a b = max a b := by unfold imax; split <;> omega
theorem imin_eq (a b : Int) : imin a b = min a b := by unfold imin; split <;> omega

theorem room_one (xs : List (List PV)) (y : List PV) (h : xs.length ≤ 1000000) : room xs [y] 8 = true := by
  unfold room
  rw [decide_eq_true_eq]
  simp only [List.length_cons, List.length_nil]
  omega

/-- The digits' value. -/
abbrev vD (l : List Nat) : PV := .sl none [.int .i64] (l.map cD)
/-- A whole number's value. -/
abbrev vW (z : Int) : PV := .agg [.int .i64 z.sign, .sl none [.int .i64] ((digs z.natAbs).map cD)]

theorem trimmed_loop (l : List Nat) (hl : Dig l) (hlen : l.length ≤ 1000000) : ∀ (m n : Nat), m ≤ l.length → val (l.take m) = val l → m < n →
    L_base_trimmed_2 N k n (l.map cD) (m : Int) = some (vD (digs (val l)))
  | 0, n + 1, _, hv, _ => by
    rw [L_base_trimmed_2_eq]
    have h1 : ¬ ((0 : Int) < ((0 : Nat) : Int)) := by omega
    have h2 : ((0 : Int) ≤ ((0 : Nat) : Int)) := by omega
    have h3 : (((0 : Nat) : Int) ≤ ((List.map cD l).length : Int)) := by omega
    simp only [cond_dec, h1, h2, h3, if_true, if_false]
    rw [← hv]
    simp [val, digs_zero]
  | m + 1, n + 1, hm, hv, hn => by
    rw [L_base_trimmed_2_eq]
    have h1 : ((0 : Int) < ((m + 1 : Nat) : Int)) := by omega
    have e : w64 (((m + 1 : Nat) : Int) - 1) = (m : Int) := by rw [w64_id] <;> omega
    have h2 : ((0 : Int) ≤ (m : Int)) := by omega
    have h3 : ((m : Int) < (l.length : Int)) := by omega
    have h4 : ((0 : Int) ≤ ((m + 1 : Nat) : Int)) := by omega
    have h5 : (((m + 1 : Nat) : Int) ≤ (l.length : Int)) := by omega
    simp only [cond_dec, List.length_map, h1, e, h2, h3, h4, h5, if_true, Int.toNat_natCast, leaf_cD]
    have hs := val_take_succ l m
    by_cases h0 : l.getD m 0 = 0
    · rw [if_pos (by omega)]
      refine trimmed_loop l hl hlen m n (by omega) ?_ (by omega)
      rw [h0] at hs
      omega
    · rw [if_neg (by omega), List.drop_zero, ← List.map_take, ← hv]
      congr 4
      refine eq_digs (hl.take _) fun _ => ?_
      rw [List.length_take, Nat.min_eq_left hm, Nat.add_sub_cancel, List.getD_eq_getElem?_getD, List.getElem?_take_of_lt (by omega), ← List.getD_eq_getElem?_getD]
      exact h0

theorem trimmed_spec (hN : 1000000 ≤ N) {l : List Nat} (hl : Dig l) (hlen : l.length ≤ 10000) : ev (envF N) (k + 1) F_base_trimmed [vD l] = some (vD (digs (val l))) := by
  rw [E_base_trimmed, List.length_map]
  exact trimmed_loop l hl (by omega) _ N (Nat.le_refl _) (by rw [List.take_length]) (by omega)

theorem wideOf_spec (hN : 1000000 ≤ N) {l : List Nat} (hl : Dig l) (hlen : l.length ≤ 10000) (s : Int) : ev (envF N) (k + 2) F_base_wideOf [.int .i64 s, vD l] = some (.agg [.int .i64 (if val l = 0 then 0 else s), vD (digs (val l))]) := by
  rw [E_base_wideOf, trimmed_spec hN hl hlen]
  simp only [obind, asL_sl, List.length_map, cond_dec]
  by_cases h : val l = 0
  · simp [h, digs_zero]
  · rw [if_neg h, digs_pos h, if_neg (by rw [List.length_cons]; omega)]

/-- A sign and digits that tell a number. -/
theorem vW_of {z : Int} {m : Nat} {s : Int} (h1 : z.natAbs = m) (h2 : z.sign = if m = 0 then 0 else s) : PV.agg [.int .i64 (if m = 0 then 0 else s), vD (digs m)] = vW z := by
  rw [← h2, ← h1]

theorem Size_spec {x : Int} (h : -9223372036854775807 ≤ x ∧ x ≤ 9223372036854775807) : ev (envF N) (k + 1) F_base_Size [.int .i64 x] = some (.int .i64 (x.natAbs : Int)) := by
  rw [E_base_Size, imax_eq, w64_id (by omega) (by omega)]
  congr 2
  omega

theorem tmod_natAbs (x : Int) : (x.tmod 1000000000).natAbs = x.natAbs % 1000000000 := by
  rw [Int.natAbs_tmod]; rfl
theorem tdiv_natAbs (x : Int) : (x.tdiv 1000000000).natAbs = x.natAbs / 1000000000 := by
  rw [Int.natAbs_tdiv]; rfl

theorem WideOf_loop (hN : 1000000 ≤ N) (s : Int) : ∀ (d : Nat) (n : Nat) (x : Int) (l : List Nat) (x3 : Int) (x4 : List (List PV)), x.natAbs < 1000000000 ^ d → d < n → I64 x → Dig l → l.length + d ≤ 10000 → (x = 0 → l ≠ [] → l.getD (l.length - 1) 0 ≠ 0) →
    L_base_WideOf_5 N (k + 2) n x s (l.map cD) x3 x4 = some (.agg [.int .i64 (if val l + 1000000000 ^ l.length * x.natAbs = 0 then 0 else s), vD (digs (val l + 1000000000 ^ l.length * x.natAbs))])
  | 0, n + 1, x, l, x3, x4, hx, hn, hi, hl, hlen, hz => by
    have : x = 0 := by simp at hx; exact hx
    subst this
    rw [L_base_WideOf_5_eq]
    simp only [Int.natAbs_zero, Nat.mul_zero, Nat.add_zero]
    have h1 : ¬ (¬ (0 : Int) = 0) := by simp
    simp only [cond_ndec, if_true, wideOf_spec (k := k) hN hl (by omega) s, obind, asA_agg, nth_zero, nth_one, asI_int, asL_sl]
  | d + 1, n + 1, x, l, x3, x4, hx, hn, hi, hl, hlen, hz => by
    rw [L_base_WideOf_5_eq]
    by_cases h0 : x = 0
    · subst h0
      simp only [Int.natAbs_zero, Nat.mul_zero, Nat.add_zero]
      simp only [cond_ndec, if_true, wideOf_spec (k := k) hN hl (by omega) s, obind, asA_agg, nth_zero, nth_one, asI_int, asL_sl]
    · have hm : -9223372036854775807 ≤ x.tmod 1000000000 ∧ x.tmod 1000000000 ≤ 9223372036854775807 := by
        have := tmod_natAbs x
        have := Nat.mod_lt x.natAbs (show 0 < 1000000000 by decide)
        omega
      have hd : w64 (x.tdiv 1000000000) = x.tdiv 1000000000 := by
        have := tdiv_natAbs x
        have := Nat.div_le_self x.natAbs 1000000000
        rw [w64_id] <;> omega
      have e2 : (l.map cD ++ [[PV.int .i64 ((x.tmod 1000000000).natAbs : Int)]]) = (l ++ [x.natAbs % 1000000000]).map cD := by
        rw [List.map_append, tmod_natAbs]; rfl
      simp only [cond_ndec, h0, if_false, Size_spec hm, obind, asI_int, room_one _ _ (show (l.map cD).length ≤ 1000000 by rw [List.length_map]; omega), cond_t, hd, e2]
      have hdig : Dig (l ++ [x.natAbs % 1000000000]) := hl.append fun y hy => by
        rw [List.mem_singleton.1 hy]; exact Nat.mod_lt _ (by decide)
      have hlt : (x.tdiv 1000000000).natAbs < 1000000000 ^ d := by
        rw [tdiv_natAbs, Nat.div_lt_iff_lt_mul (by decide), ← Nat.pow_succ]
        exact hx
      have hle := tdiv_natAbs x
      rw [WideOf_loop hN s d n _ _ x3 x4 hlt (by omega) (by omega) hdig (by simp; omega) (fun hq _ => ?_)]
      · have key : val (l ++ [x.natAbs % 1000000000]) + 1000000000 ^ (l ++ [x.natAbs % 1000000000]).length * (x.tdiv 1000000000).natAbs = val l + 1000000000 ^ l.length * x.natAbs := by
          rw [val_append, List.length_append, List.length_singleton, Nat.pow_succ, tdiv_natAbs, Nat.mul_assoc, Nat.add_assoc, ← Nat.mul_add]
          congr 2
          simp only [val]
          omega
        rw [key]
      · simp only [List.length_append, List.length_singleton, Nat.add_sub_cancel]
        have h3 := tdiv_natAbs x
        rw [hq, Int.natAbs_zero] at h3
        rw [List.getD_eq_getElem?_getD, List.getElem?_append_right (Nat.le_refl _)]
        simp
        omega

theorem WideOf_spec (hN : 1000000 ≤ N) {x : Int} (h : I64 x) : ev (envF N) (k + 3) F_base_WideOf [.int .i64 x] = some (vW x) := by
  have hlt : x.natAbs < 1000000000 ^ 3 := by have : (1000000000 : Nat) ^ 3 = 1000000000000000000000000000 := by decide
                                             omega
  have key (s : Int) (hs : x.sign = if x.natAbs = 0 then 0 else s) : L_base_WideOf_5 N (k + 2) N x s [] 0 [] = some (vW x) := by
    have := WideOf_loop (k := k) hN s 3 N x [] 0 [] hlt (by omega) h (by intro y hy; cases hy) (by simp) (fun _ h => absurd rfl h)
    simp only [List.map_nil] at this
    rw [this]
    simp only [val, List.length_nil, Nat.pow_zero, Nat.one_mul, Nat.zero_add]
    rw [vW_of rfl hs]
  rw [E_base_WideOf, cond_dec]
  by_cases h0 : x < 0
  · rw [if_pos h0]
    exact key _ (by rw [Int.sign_eq_neg_one_of_neg h0, if_neg (by omega)])
  · rw [if_neg h0]
    refine key _ ?_
    by_cases h1 : x = 0
    · simp [h1]
    · rw [Int.sign_eq_one_of_pos (by omega), if_neg (by omega)]

theorem cmpDigits_loop (l m : List Nat) (hl : Dig l) (hm : Dig m) (he : l.length = m.length) (hlen : l.length ≤ 10000) : ∀ (d n : Nat), d ≤ l.length → (∀ i, d ≤ i → l.getD i 0 = m.getD i 0) → d < n →
    L_base_cmpDigits_6 N k n (l.map cD) (m.map cD) ((d : Int) - 1) = some (.int .i64 (if val l < val m then -1 else if val m < val l then 1 else 0))
  | 0, n + 1, _, hs, _ => by
    rw [L_base_cmpDigits_6_eq]
    have h1 : ¬ ((0 : Int) ≤ ((0 : Nat) : Int) - 1) := by omega
    simp only [cond_dec, h1, if_false]
    have : l = m := List.ext_getElem he fun i h1 h2 => by
      have := hs i (by omega)
      simpa [List.getD_eq_getElem?_getD, h1, h2] using this
    subst this
    simp
  | d + 1, n + 1, hd, hs, hn => by
    rw [L_base_cmpDigits_6_eq]
    have e0 : ((d + 1 : Nat) : Int) - 1 = (d : Int) := by omega
    have h1 : ((0 : Int) ≤ (d : Int)) := by omega
    have h2 : ((d : Int) < (l.length : Int)) := by omega
    have h3 : ((d : Int) < (m.length : Int)) := by omega
    have e1 : w64 ((d : Int) - 1) = (d : Int) - 1 := by rw [w64_id] <;> omega
    simp only [e0, cond_dec, List.length_map, h1, h2, h3, if_true, Int.toNat_natCast, leaf_cD, e1]
    by_cases c1 : l.getD d 0 < m.getD d 0
    · have := val_lt_of hl hm he (n := d) (by omega) c1 (fun i hi => hs i (by omega))
      rw [if_pos (by omega), if_pos this]
    · by_cases c2 : m.getD d 0 < l.getD d 0
      · have := val_lt_of hm hl he.symm (n := d) (by omega) c2 (fun i hi => (hs i (by omega)).symm)
        rw [if_neg (by omega), if_pos (by omega), if_neg (by omega), if_pos this]
      · rw [if_neg (by omega), if_neg (by omega)]
        exact cmpDigits_loop l m hl hm he hlen d n (by omega) (fun i hi => by
          by_cases hh : i = d
          · subst hh; omega
          · exact hs i (by omega)) (by omega)

theorem cmpDigits_spec (hN : 1000000 ≤ N) (a b : Nat) (ha : (digs a).length ≤ 10000) (hb : (digs b).length ≤ 10000) : ev (envF N) (k + 1) F_base_cmpDigits [vD (digs a), vD (digs b)] = some (.int .i64 (if a < b then -1 else if b < a then 1 else 0)) := by
  rw [E_base_cmpDigits, List.length_map, List.length_map]
  by_cases h : (digs a).length = (digs b).length
  · have e : w64 (((digs a).length : Int) - 1) = ((digs a).length : Int) - 1 := by rw [w64_id] <;> omega
    rw [cond_ndec, if_pos (by omega), e, cmpDigits_loop _ _ (dig_digs a) (dig_digs b) h ha _ N (Nat.le_refl _) (fun i hi => ?_) (by omega), val_digs, val_digs]
    rw [List.getD_eq_getElem?_getD, List.getElem?_eq_none hi, List.getD_eq_getElem?_getD, List.getElem?_eq_none (by omega)]
  · rw [cond_ndec, if_neg (by omega), cond_dec]
    by_cases h1 : (digs a).length < (digs b).length
    · rw [if_pos (by omega), if_pos (digs_len_lt h1)]
    · have := digs_len_lt (a := b) (b := a) (by omega)
      rw [if_neg (by omega), if_neg (by omega), if_pos this]

theorem digit_spec (l : List Nat) (i : Nat) (hlen : l.length ≤ 10000) : ev (envF N) (k + 1) F_base_digit [vD l, .int .i64 (i : Int)] = some (.int .i64 (l.getD i 0 : Nat)) := by
  rw [E_base_digit]
  have h2 : ((0 : Int) ≤ (i : Int)) := by omega
  simp only [cond_dec, List.length_map, h2, if_true, Int.toNat_natCast, leaf_cD]
  by_cases h : i < l.length
  · rw [if_pos (by omega), if_pos (by omega)]
  · rw [if_neg (by omega), List.getD_eq_getElem?_getD, List.getElem?_eq_none (by omega)]
    rfl

end
end Go.PewTab

namespace Go.PewTab
set_option linter.unusedSimpArgs false
set_option linter.unusedVariables false
open Go.Pew Go.Num

section
variable {N k : Nat}

theorem tmod_nat (s : Nat) : Int.tmod (s : Int) 1000000000 = ((s % 1000000000 : Nat) : Int) := rfl
theorem tdiv_nat (s : Nat) : Int.tdiv (s : Int) 1000000000 = ((s / 1000000000 : Nat) : Int) := rfl

theorem addDigits_loop (a b : List Nat) (ha : Dig a) (hb : Dig b) (hla : a.length ≤ 10000) (hlb : b.length ≤ 10000) : ∀ (d n : Nat) (out : List Nat) (c i : Nat), max a.length b.length + 1 ≤ i + d → i ≤ max a.length b.length + 1 → c ≤ 1 → (c = 1 → i ≤ max a.length b.length) → out.length + d ≤ 100000 → d < n →
    ∃ r, Dig r ∧ r.length ≤ d ∧ val r = val (a.drop i) + val (b.drop i) + c ∧ L_base_addDigits_4 N (k + 1) n (a.map cD) (b.map cD) (out.map cD) (c : Int) (i : Int) = some (vD (out ++ r))
  | d, n + 1, out, c, i, h1, h1', h2, h3, h4, h5 => by
    rw [L_base_addDigits_4_eq]
    by_cases he : max a.length b.length ≤ i ∧ c = 0
    · obtain ⟨he, rfl⟩ := he
      refine ⟨[], (by intro x hx; cases hx), by simp, ?_, ?_⟩
      · rw [List.drop_eq_nil_of_le (by omega), List.drop_eq_nil_of_le (by omega)]; rfl
      · simp only [cond_dec, List.length_map]
        rw [if_neg (by omega), if_neg (by omega), if_neg (by omega), List.append_nil]
    · obtain ⟨d, rfl⟩ : ∃ m, d = m + 1 := ⟨d - 1, by omega⟩
      have hai := ha.getD i
      have hbi := hb.getD i
      obtain ⟨s, hs⟩ : ∃ s, a.getD i 0 + b.getD i 0 + c = s := ⟨_, rfl⟩
      have hlt : s < 2000000000 := by omega
      have hw : w64 (w64 (((a.getD i 0 : Nat) : Int) + ((b.getD i 0 : Nat) : Int)) + (c : Int)) = (s : Int) := by
        rw [w64_id (x := ((a.getD i 0 : Nat) : Int) + ((b.getD i 0 : Nat) : Int)) (by omega) (by omega), w64_id (by omega) (by omega)]
        omega
      have hq : w64 ((s / 1000000000 : Nat) : Int) = ((s / 1000000000 : Nat) : Int) := by
        rw [w64_id] <;> omega
      have hi : w64 ((i : Int) + 1) = ((i + 1 : Nat) : Int) := by rw [w64_id] <;> omega
      have hr : room (out.map cD) [[.int .i64 ((s % 1000000000 : Nat) : Int)]] 8 = true := room_one _ _ (by rw [List.length_map]; omega)
      have hdig : Dig (out ++ [s % 1000000000]) ∨ True := .inr trivial
      have eo : (out.map cD ++ [[PV.int .i64 ((s % 1000000000 : Nat) : Int)]]) = (out ++ [s % 1000000000]).map cD := by rw [List.map_append]; rfl
      obtain ⟨r, r1, r2, r3, r4⟩ := addDigits_loop a b ha hb hla hlb d n (out ++ [s % 1000000000]) (s / 1000000000) (i + 1) (by omega) (by omega) (by omega) (fun h => by
        by_cases hh : i < max a.length b.length
        · omega
        · have e1 : a.getD i 0 = 0 := by rw [List.getD_eq_getElem?_getD, List.getElem?_eq_none (by omega)]; rfl
          have e2 : b.getD i 0 = 0 := by rw [List.getD_eq_getElem?_getD, List.getElem?_eq_none (by omega)]; rfl
          omega) (by simp; omega) (by omega)
      refine ⟨s % 1000000000 :: r, ?_, by simp; omega, ?_, ?_⟩
      · intro x hx
        rcases List.mem_cons.1 hx with rfl | hx
        · exact Nat.mod_lt _ (by decide)
        · exact r1 x hx
      · rw [val, r3, val_drop a i, val_drop b i]
        omega
      · have body : (((ev (envF N) (k + 1) F_base_digit [vD a, .int .i64 (i : Int)]).bind fun r2 => (ev (envF N) (k + 1) F_base_digit [vD b, .int .i64 (i : Int)]).bind fun r3 =>
            cond (room (out.map cD) [[(.int .i64 (Int.tmod (w64 ((w64 ((asI r2) + (asI r3))) + (c : Int))) (1000000000 : Int)))]] 8)
              (L_base_addDigits_4 N (k + 1) n (a.map cD) (b.map cD) (out.map cD ++ [[(.int .i64 (Int.tmod (w64 ((w64 ((asI r2) + (asI r3))) + (c : Int))) (1000000000 : Int)))]]) (w64 (Int.tdiv (w64 ((w64 ((asI r2) + (asI r3))) + (c : Int))) (1000000000 : Int))) (w64 ((i : Int) + (1 : Int))))
              none)) = some (vD (out ++ s % 1000000000 :: r)) := by
          rw [digit_spec a i hla, digit_spec b i hlb]
          simp only [obind, asI_int, hw, tmod_nat, tdiv_nat, hq, hi, hr, cond_t, eo]
          rw [r4, List.append_assoc]
          rfl
        simp only [cond_dec, List.length_map]
        by_cases c1 : i < a.length
        · rw [if_pos (by omega)]; exact body
        · by_cases c2 : i < b.length
          · rw [if_neg (by omega), if_pos (by omega)]; exact body
          · rw [if_neg (by omega), if_neg (by omega), if_pos (by omega)]; exact body

theorem addDigits_spec (hN : 1000000 ≤ N) {a b : List Nat} (ha : Dig a) (hb : Dig b) (hla : a.length ≤ 5000) (hlb : b.length ≤ 5000) :
    ∃ r, Dig r ∧ r.length ≤ max a.length b.length + 1 ∧ val r = val a + val b ∧ ev (envF N) (k + 2) F_base_addDigits [vD a, vD b] = some (vD r) := by
  obtain ⟨r, h1, h2, h3, h4⟩ := addDigits_loop (N := N) (k := k) a b ha hb (by omega) (by omega) (max a.length b.length + 1) N [] 0 0 (by omega) (by omega) (by omega) (by omega) (by simp; omega) (by omega)
  refine ⟨r, h1, h2, by simpa using h3, ?_⟩
  rw [E_base_addDigits]
  exact h4

theorem subDigits_loop (hN : 1000000 ≤ N) (a b : List Nat) (ha : Dig a) (hb : Dig b) (hla : a.length ≤ 5000) (hlb : b.length ≤ 5000) : ∀ (d n : Nat) (out : List Nat) (c i : Nat), i + d = a.length → Dig out → out.length = i → c ≤ 1 → val (b.drop i) + c ≤ val (a.drop i) → d < n →
    ∃ r, L_base_subDigits_4 N (k + 1) n (a.map cD) (b.map cD) (out.map cD) (c : Int) (i : Int) = some (vD (digs (val out + 1000000000 ^ i * r))) ∧ r + (val (b.drop i) + c) = val (a.drop i)
  | 0, n + 1, out, c, i, h1, h2, h3, h4, h5, h6 => by
    have e1 : val (a.drop i) = 0 := by rw [List.drop_eq_nil_of_le (by omega)]; rfl
    refine ⟨0, ?_, by omega⟩
    rw [L_base_subDigits_4_eq, cond_dec, List.length_map, if_neg (by omega), trimmed_spec hN h2 (by omega)]
    simp only [obind, asL_sl, Nat.mul_zero, Nat.add_zero]
  | d + 1, n + 1, out, c, i, h1, h2, h3, h4, h5, h6 => by
    have hai := ha.getD i
    have hbi := hb.getD i
    have va := val_drop a i
    have vb := val_drop b i
    have hi : w64 ((i : Int) + 1) = ((i + 1 : Nat) : Int) := by rw [w64_id] <;> omega
    have hw : w64 (w64 (((a.getD i 0 : Nat) : Int) - ((b.getD i 0 : Nat) : Int)) - (c : Int)) = ((a.getD i 0 : Nat) : Int) - ((b.getD i 0 : Nat) : Int) - (c : Int) := by
      rw [w64_id (x := ((a.getD i 0 : Nat) : Int) - ((b.getD i 0 : Nat) : Int)) (by omega) (by omega), w64_id (by omega) (by omega)]
    have hlt : (i : Int) < (a.length : Int) := by omega
    have h0 : (0 : Int) ≤ (i : Int) := by omega
    have step : ∀ (x c' : Nat), x < 1000000000 → c' ≤ 1 → (x : Int) = ((a.getD i 0 : Nat) : Int) - ((b.getD i 0 : Nat) : Int) - (c : Int) + 1000000000 * c' →
        ∃ r, L_base_subDigits_4 N (k + 1) n (a.map cD) (b.map cD) ((out ++ [x]).map cD) (c' : Int) ((i + 1 : Nat) : Int) = some (vD (digs (val out + 1000000000 ^ i * r))) ∧ r + (val (b.drop i) + c) = val (a.drop i) := by
      intro x c' hx hc hxe
      obtain ⟨r, r1, r2⟩ := subDigits_loop hN a b ha hb hla hlb d n (out ++ [x]) c' (i + 1) (by omega) (h2.append fun y hy => by rw [List.mem_singleton.1 hy]; exact hx) (by simp; omega) hc (by omega) (by omega)
      refine ⟨x + 1000000000 * r, ?_, by omega⟩
      rw [r1, val_append, h3, Nat.pow_succ, Nat.mul_add, Nat.mul_assoc, Nat.add_assoc]
      simp [val]
    rw [L_base_subDigits_4_eq]
    simp only [cond_dec, List.length_map, hlt, h0, if_true, Int.toNat_natCast, leaf_cD, digit_spec b i (show b.length ≤ 10000 by omega), obind, asI_int, hw, hi]
    by_cases cn : ((a.getD i 0 : Nat) : Int) - ((b.getD i 0 : Nat) : Int) - (c : Int) < 0
    · obtain ⟨x, hx⟩ : ∃ x : Nat, (x : Int) = ((a.getD i 0 : Nat) : Int) - ((b.getD i 0 : Nat) : Int) - (c : Int) + 1000000000 := ⟨(((a.getD i 0 : Nat) : Int) - ((b.getD i 0 : Nat) : Int) - (c : Int) + 1000000000).toNat, by omega⟩
      have hw2 : w64 (((a.getD i 0 : Nat) : Int) - ((b.getD i 0 : Nat) : Int) - (c : Int) + 1000000000) = (x : Int) := by rw [w64_id, ← hx] <;> omega
      rw [if_pos cn, hw2, room_one _ _ (by rw [List.length_map]; omega), cond_t]
      have := step x 1 (by omega) (by omega) (by omega)
      rwa [List.map_append] at this
    · obtain ⟨x, hx⟩ : ∃ x : Nat, (x : Int) = ((a.getD i 0 : Nat) : Int) - ((b.getD i 0 : Nat) : Int) - (c : Int) := ⟨(((a.getD i 0 : Nat) : Int) - ((b.getD i 0 : Nat) : Int) - (c : Int)).toNat, by omega⟩
      rw [if_neg cn, ← hx, room_one _ _ (by rw [List.length_map]; omega), cond_t]
      have := step x 0 (by omega) (by omega) (by omega)
      rwa [List.map_append] at this

theorem subDigits_spec (hN : 1000000 ≤ N) {a b : Nat} (hab : b ≤ a) (hla : (digs a).length ≤ 5000) (hlb : (digs b).length ≤ 5000) : ev (envF N) (k + 2) F_base_subDigits [vD (digs a), vD (digs b)] = some (vD (digs (a - b))) := by
  obtain ⟨r, h1, h2⟩ := subDigits_loop (k := k) hN (digs a) (digs b) (dig_digs a) (dig_digs b) hla hlb (digs a).length N [] 0 0 (by omega) (by intro x hx; cases hx) rfl (by omega) (by simpa [val_digs] using hab) (by omega)
  rw [E_base_subDigits]
  refine h1.trans ?_
  simp only [List.drop_zero, val_digs] at h2
  simp only [val, Nat.pow_zero, Nat.one_mul, Nat.zero_add]
  rw [show r = a - b by omega]

/-- A number of at most m digits. -/
def Sz (m : Nat) (z : Int) : Prop := z.natAbs < 1000000000 ^ m
theorem Sz.len {m : Nat} {z : Int} (h : Sz m z) : (digs z.natAbs).length ≤ m := digs_len _ _ h
theorem Sz.neg {m : Nat} {z : Int} (h : Sz m z) : Sz m (-z) := by unfold Sz at *; rwa [Int.natAbs_neg]
theorem Sz.mono {m n : Nat} {z : Int} (h : Sz m z) (hmn : m ≤ n) : Sz n z := Nat.lt_of_lt_of_le h (Nat.pow_le_pow_right (by decide) hmn)
theorem Sz.le {m : Nat} {y z : Int} (h : Sz m z) (hy : y.natAbs ≤ z.natAbs) : Sz m y := Nat.lt_of_le_of_lt hy h
theorem Sz.mul {m n : Nat} {y z : Int} (hy : Sz m y) (hz : Sz n z) : Sz (m + n) (y * z) := by
  unfold Sz at *
  rw [Int.natAbs_mul, Nat.pow_add]
  exact Nat.mul_lt_mul_of_lt_of_le hy (Nat.le_of_lt hz) (Nat.pow_pos (by decide))
theorem Sz.add {m : Nat} {y z : Int} (hy : Sz m y) (hz : Sz m z) : Sz (m + 1) (y + z) := by
  unfold Sz at *
  rw [Nat.pow_succ]
  have := Int.natAbs_add_le y z
  omega
theorem sz_int {x : Int} (h : I64 x) : Sz 3 x := by
  unfold Sz
  have : (1000000000 : Nat) ^ 3 = 1000000000000000000000000000 := by decide
  omega

theorem WideNeg_spec (z : Int) : ev (envF N) (k + 1) F_base_WideNeg [vW z] = some (vW (-z)) := by
  rw [E_base_WideNeg]
  have e : w64 (0 - z.sign) = (-z).sign := by
    rw [Int.sign_neg, w64_id]
    · omega
    · rcases Int.sign_trichotomy z with h | h | h <;> omega
    · rcases Int.sign_trichotomy z with h | h | h <;> omega
  rw [e]
  simp only [vW, Int.natAbs_neg]

theorem eta_vW (z : Int) : PV.agg [.int .i64 (asI (nth (asA (vW z)) 0)), .sl none [.int .i64] (asL (nth (asA (vW z)) 1))] = vW z := rfl

theorem WideAdd_spec (hN : 1000000 ≤ N) {y z : Int} (hy : Sz 4000 y) (hz : Sz 4000 z) : ev (envF N) (k + 3) F_base_WideAdd [vW y, vW z] = some (vW (y + z)) := by
  have ly := hy.len
  have lz := hz.len
  rw [E_base_WideAdd]
  simp only [cond_dec, Int.sign_eq_zero_iff_zero]
  by_cases h1 : y = 0
  · subst h1
    rw [if_pos rfl, Int.zero_add]
  · rw [if_neg h1]
    by_cases h2 : z = 0
    · subst h2
      rw [if_pos rfl, Int.add_zero]
    · rw [if_neg h2]
      by_cases h3 : y.sign = z.sign
      · rw [if_pos h3]
        obtain ⟨r, r1, r2, r3, r4⟩ := addDigits_spec (N := N) (k := k) hN (dig_digs y.natAbs) (dig_digs z.natAbs) (by omega) (by omega)
        rw [r4]
        simp only [obind, asL_sl, wideOf_spec (k := k) hN r1 (by omega) y.sign]
        rw [val_digs, val_digs] at r3
        have e1 : (y + z).natAbs = val r := by
          rw [r3]
          rcases Int.lt_or_le y 0 with a | a
          · have : z.sign = -1 := by rw [← h3]; exact Int.sign_eq_neg_one_of_neg a
            have := Int.sign_eq_neg_one_iff_neg.1 this
            omega
          · have : z.sign = 1 := by rw [← h3]; exact Int.sign_eq_one_of_pos (by omega)
            have := Int.sign_eq_one_iff_pos.1 this
            omega
        rw [vW_of (s := y.sign) e1 ?sgn]
        case sgn =>
         rw [if_neg (by omega)]
         rcases Int.lt_or_le y 0 with a | a
         · have : z.sign = -1 := by rw [← h3]; exact Int.sign_eq_neg_one_of_neg a
           have := Int.sign_eq_neg_one_iff_neg.1 this
           rw [Int.sign_eq_neg_one_of_neg a, Int.sign_eq_neg_one_of_neg (by omega)]
         · have : z.sign = 1 := by rw [← h3]; exact Int.sign_eq_one_of_pos (by omega)
           have := Int.sign_eq_one_iff_pos.1 this
           rw [Int.sign_eq_one_of_pos (by omega), Int.sign_eq_one_of_pos (by omega)]
        rfl
      · rw [if_neg h3, cmpDigits_spec (k := k + 1) hN _ _ (by omega) (by omega)]
        simp only [obind, asI_int]
        have opp : (y < 0 ∧ 0 < z) ∨ (0 < y ∧ z < 0) := by
          rcases Int.lt_or_le y 0 with a | a
          · rcases Int.lt_or_le z 0 with b | b
            · exact absurd (by rw [Int.sign_eq_neg_one_of_neg a, Int.sign_eq_neg_one_of_neg b]) h3
            · omega
          · rcases Int.lt_or_le z 0 with b | b
            · omega
            · exact absurd (by rw [Int.sign_eq_one_of_pos (by omega), Int.sign_eq_one_of_pos (by omega)]) h3
        by_cases c1 : y.natAbs < z.natAbs
        · rw [if_pos c1, if_neg (show ¬ ((-1 : Int) = 0) by decide), if_neg (show ¬ ((0 : Int) < -1) by decide), subDigits_spec (k := k) hN (by omega) (by omega) (by omega)]
          have := digs_len (z.natAbs - y.natAbs) 4000 (Nat.lt_of_le_of_lt (Nat.sub_le _ _) hz)
          simp only [obind, asL_sl, wideOf_spec (k := k) hN (dig_digs _) (show (digs (z.natAbs - y.natAbs)).length ≤ 10000 by omega) z.sign, val_digs]
          have e1 : (y + z).natAbs = z.natAbs - y.natAbs := by omega
          rw [vW_of (s := z.sign) e1 ?sgn]
          case sgn =>
            rw [if_neg (by omega)]
            rcases opp with ⟨a, b⟩ | ⟨a, b⟩
            · rw [Int.sign_eq_one_of_pos b, Int.sign_eq_one_of_pos (by omega)]
            · rw [Int.sign_eq_neg_one_of_neg b, Int.sign_eq_neg_one_of_neg (by omega)]
          rfl
        · rw [if_neg c1]
          by_cases c2 : z.natAbs < y.natAbs
          · rw [if_pos c2, if_neg (show ¬ ((1 : Int) = 0) by decide), if_pos (show (0 : Int) < 1 by decide), subDigits_spec (k := k) hN (by omega) (by omega) (by omega)]
            have := digs_len (y.natAbs - z.natAbs) 4000 (Nat.lt_of_le_of_lt (Nat.sub_le _ _) hy)
            simp only [obind, asL_sl, wideOf_spec (k := k) hN (dig_digs _) (show (digs (y.natAbs - z.natAbs)).length ≤ 10000 by omega) y.sign, val_digs]
            have e1 : (y + z).natAbs = y.natAbs - z.natAbs := by omega
            rw [vW_of (s := y.sign) e1 ?sgn]
            case sgn =>
              rw [if_neg (by omega)]
              rcases opp with ⟨a, b⟩ | ⟨a, b⟩
              · rw [Int.sign_eq_neg_one_of_neg a, Int.sign_eq_neg_one_of_neg (by omega)]
              · rw [Int.sign_eq_one_of_pos a, Int.sign_eq_one_of_pos (by omega)]
            rfl
          · have e : y + z = 0 := by omega
            rw [if_neg c2, if_pos rfl, e]
            simp [digs_zero]

theorem WideSub_spec (hN : 1000000 ≤ N) {y z : Int} (hy : Sz 4000 y) (hz : Sz 4000 z) : ev (envF N) (k + 4) F_base_WideSub [vW y, vW z] = some (vW (y - z)) := by
  rw [E_base_WideSub, WideNeg_spec (k := k + 2)]
  simp only [obind, eta_vW]
  have := WideAdd_spec (N := N) (k := k) hN hy hz.neg
  rw [this]
  simp only [obind, Int.sub_eq_add_neg, eta_vW]

theorem WideCmp_spec (hN : 1000000 ≤ N) {y z : Int} (hy : Sz 4000 y) (hz : Sz 4000 z) : ev (envF N) (k + 5) F_base_WideCmp [vW y, vW z] = some (.int .i64 (y - z).sign) := by
  rw [E_base_WideCmp, WideSub_spec (k := k) hN hy hz]
  rfl

theorem WideSign_spec (z : Int) : ev (envF N) (k + 1) F_base_WideSign [vW z] = some (.int .i64 z.sign) := by
  rw [E_base_WideSign]

end
end Go.PewTab

namespace Go.PewTab
set_option linter.unusedSimpArgs false
set_option linter.unusedVariables false
open Go.Pew Go.Num

section
variable {N k : Nat}

theorem set_cD (l : List Nat) (j x : Nat) (h : j < l.length) : List.set (l.map cD) j (List.set (nths (l.map cD) j) 0 (.int .i64 (x : Int))) = (l.set j x).map cD := by
  rw [nths_map cD l j h, List.map_set]
  rfl

theorem getD_set (l : List Nat) (j x i : Nat) (h : i ≠ j) : (l.set j x).getD i 0 = l.getD i 0 := by
  rw [List.getD_eq_getElem?_getD, List.getElem?_set_ne (Ne.symm h), ← List.getD_eq_getElem?_getD]

theorem WideMul_inner (a b : List Nat) (ha : Dig a) (hb : Dig b) (hla : a.length ≤ 5000) (hlb : b.length ≤ 5000) (sa sb : Int) (x7 : Int) (x8 : List (List PV)) (n3 i : Nat) (hi : i < a.length) : ∀ (d n kk c : Nat) (out : List Nat), kk + d = b.length → Dig out → out.length = a.length + b.length + 1 → c < 1000000000 → (∀ j, i + b.length ≤ j → out.getD j 0 = 0) → d < n →
    ∃ out', L_base_WideMul_7 N k n n3 (i : Int) (c : Int) (kk : Int) sa (a.map cD) sb (b.map cD) x7 x8 (out.map cD) = L_base_WideMul_3 N k n3 ((i + 1 : Nat) : Int) sa (a.map cD) sb (b.map cD) x7 x8 (out'.map cD) ∧
      Dig out' ∧ out'.length = a.length + b.length + 1 ∧ (∀ j, i + 1 + b.length ≤ j → out'.getD j 0 = 0) ∧ val out' = val out + 1000000000 ^ (i + kk) * (c + a.getD i 0 * val (b.drop kk))
  | 0, n + 1, kk, c, out, h1, h2, h3, h4, h5, h6 => by
    have hk : kk = b.length := by omega
    subst hk
    rw [L_base_WideMul_7_eq]
    have e1 : w64 ((i : Int) + ((b.length : Nat) : Int)) = ((i + b.length : Nat) : Int) := by rw [w64_id] <;> omega
    have e2 : w64 ((i : Int) + 1) = ((i + 1 : Nat) : Int) := by rw [w64_id] <;> omega
    have e3 : w64 (((out.getD (i + b.length) 0 : Nat) : Int) + (c : Int)) = (c : Int) := by rw [h5 _ (Nat.le_refl _), w64_id] <;> omega
    have c1 : ¬ ((b.length : Int) < (b.length : Int)) := by omega
    have c2 : (0 : Int) ≤ ((i + b.length : Nat) : Int) := by omega
    have c3 : ((i + b.length : Nat) : Int) < (out.length : Int) := by omega
    have hs : List.set (out.map cD) (i + b.length) (List.set (nths (out.map cD) (i + b.length)) 0 (.int .i64 (c : Int))) = (out.set (i + b.length) c).map cD := set_cD _ _ _ (by omega)
    refine ⟨out.set (i + b.length) c, ?_, h2.set _ h4, by simpa using h3, ?_, ?_⟩
    · simp only [cond_dec, List.length_map, e1, e2, c1, c2, c3, if_true, if_false, Int.toNat_natCast, leaf_cD, e3, hs]
    · intro j hj
      rw [getD_set _ _ _ _ (by omega)]
      exact h5 j (by omega)
    · have := val_set out (i + b.length) c (by omega)
      rw [h5 _ (Nat.le_refl _), Nat.mul_zero, Nat.add_zero] at this
      rw [this, List.drop_length]
      simp [val]
  | d + 1, n + 1, kk, c, out, h1, h2, h3, h4, h5, h6 => by
    have hai := ha.getD i
    have hbi := hb.getD kk
    have hoi := h2.getD (i + kk)
    obtain ⟨p, hp⟩ : ∃ p, a.getD i 0 * b.getD kk 0 = p := ⟨_, rfl⟩
    have hple : p ≤ 999999999 * 999999999 := by rw [← hp]; exact Nat.mul_le_mul (by omega) (by omega)
    obtain ⟨s, hs⟩ : ∃ s, out.getD (i + kk) 0 + p + c = s := ⟨_, rfl⟩
    have hslt : s / 1000000000 < 1000000000 := by omega
    have e1 : w64 ((i : Int) + (kk : Int)) = ((i + kk : Nat) : Int) := by rw [w64_id] <;> omega
    have e2 : w64 ((kk : Int) + 1) = ((kk + 1 : Nat) : Int) := by rw [w64_id] <;> omega
    have ep : ((a.getD i 0 : Nat) : Int) * ((b.getD kk 0 : Nat) : Int) = (p : Int) := by rw [← hp, Int.natCast_mul]
    have e3 : w64 (w64 (((out.getD (i + kk) 0 : Nat) : Int) + w64 (((a.getD i 0 : Nat) : Int) * ((b.getD kk 0 : Nat) : Int))) + (c : Int)) = (s : Int) := by
      rw [ep, w64_id (x := (p : Int)) (by omega) (by omega), w64_id (x := ((out.getD (i + kk) 0 : Nat) : Int) + (p : Int)) (by omega) (by omega), w64_id (by omega) (by omega)]
      omega
    have e4 : w64 ((s / 1000000000 : Nat) : Int) = ((s / 1000000000 : Nat) : Int) := by rw [w64_id] <;> omega
    have c1 : ((kk : Int) < (b.length : Int)) := by omega
    have c2 : (0 : Int) ≤ ((i + kk : Nat) : Int) := by omega
    have c3 : ((i + kk : Nat) : Int) < (out.length : Int) := by omega
    have c4 : (0 : Int) ≤ (i : Int) := by omega
    have c5 : (i : Int) < (a.length : Int) := by omega
    have c6 : (0 : Int) ≤ (kk : Int) := by omega
    have hset : List.set (out.map cD) (i + kk) (List.set (nths (out.map cD) (i + kk)) 0 (.int .i64 ((s % 1000000000 : Nat) : Int))) = (out.set (i + kk) (s % 1000000000)).map cD := set_cD _ _ _ (by omega)
    have hm : s % 1000000000 < 1000000000 := Nat.mod_lt _ (by decide)
    obtain ⟨out', r1, r2, r3, r4, r5⟩ := WideMul_inner a b ha hb hla hlb sa sb x7 x8 n3 i hi d n (kk + 1) (s / 1000000000) (out.set (i + kk) (s % 1000000000)) (by omega) (h2.set _ hm) (by simpa using h3) hslt (fun j hj => by
      rw [getD_set _ _ _ _ (by omega)]
      exact h5 j hj) (by omega)
    refine ⟨out', ?_, r2, r3, r4, ?_⟩
    · rw [L_base_WideMul_7_eq]
      simp only [cond_dec, List.length_map, e1, e2, c1, c2, c3, c4, c5, c6, if_true, Int.toNat_natCast, leaf_cD, e3, tmod_nat, tdiv_nat, e4, hset]
      exact r1
    · have hv := val_set out (i + kk) (s % 1000000000) (by omega)
      have hd := val_drop b kk
      rw [r5, hd]
      have key : 1000000000 ^ (i + (kk + 1)) = 1000000000 ^ (i + kk) * 1000000000 := by rw [← Nat.add_assoc, Nat.pow_succ]
      rw [key, Nat.mul_assoc]
      have split1 : 1000000000 * (s / 1000000000 + a.getD i 0 * val (b.drop (kk + 1))) + s % 1000000000 = out.getD (i + kk) 0 + (c + a.getD i 0 * (b.getD kk 0 + 1000000000 * val (b.drop (kk + 1)))) := by
        have : a.getD i 0 * (b.getD kk 0 + 1000000000 * val (b.drop (kk + 1))) = p + 1000000000 * (a.getD i 0 * val (b.drop (kk + 1))) := by
          rw [Nat.mul_add, hp, Nat.mul_left_comm]
        rw [this]
        omega
      have e5 := congrArg (1000000000 ^ (i + kk) * ·) split1
      rw [Nat.mul_add, Nat.mul_add (1000000000 ^ (i + kk)) (out.getD (i + kk) 0)] at e5
      omega

theorem WideMul_outer (hN : 1000000 ≤ N) (a b : List Nat) (ha : Dig a) (hb : Dig b) (hla : a.length ≤ 4000) (hlb : b.length ≤ 4000) (sa sb : Int) (x5 : Int) (x6 : List (List PV)) : ∀ (d n i : Nat) (out : List Nat), i + d = a.length → Dig out → out.length = a.length + b.length + 1 → (∀ j, i + b.length ≤ j → out.getD j 0 = 0) → val out = val (a.take i) * val b → d < n →
    L_base_WideMul_3 N (k + 2) n (i : Int) sa (a.map cD) sb (b.map cD) x5 x6 (out.map cD) = some (.agg [.int .i64 (if val a * val b = 0 then 0 else w64 (sa * sb)), vD (digs (val a * val b))])
  | 0, n + 1, i, out, h1, h2, h3, h4, h5, h6 => by
    have hi : i = a.length := by omega
    subst hi
    rw [List.take_length] at h5
    rw [L_base_WideMul_3_eq, cond_dec, List.length_map, if_neg (by omega), wideOf_spec hN h2 (by omega)]
    simp only [obind, asA_agg, nth_zero, nth_one, asI_int, asL_sl, h5]
  | d + 1, n + 1, i, out, h1, h2, h3, h4, h5, h6 => by
    obtain ⟨out', r1, r2, r3, r4, r5⟩ := WideMul_inner (N := N) (k := k + 2) a b ha hb (by omega) (by omega) sa sb x5 x6 n i (by omega) b.length N 0 0 out (by omega) h2 h3 (by decide) h4 (by omega)
    rw [L_base_WideMul_3_eq, cond_dec, List.length_map, if_pos (by omega)]
    refine r1.trans (WideMul_outer hN a b ha hb hla hlb sa sb x5 x6 d n (i + 1) out' (by omega) r2 r3 r4 ?_ (by omega))
    rw [r5, h5, val_take_succ, List.drop_zero, Nat.zero_add, Nat.add_zero, Nat.add_mul, Nat.mul_assoc]

theorem WideMul_spec (hN : 1000000 ≤ N) {y z : Int} (hy : Sz 2000 y) (hz : Sz 2000 z) : ev (envF N) (k + 3) F_base_WideMul [vW y, vW z] = some (vW (y * z)) := by
  have ly := hy.len
  have lz := hz.len
  rw [E_base_WideMul]
  have e1 : w64 (w64 (((digs y.natAbs).length : Int) + ((digs z.natAbs).length : Int)) + 1) = (((digs y.natAbs).length + (digs z.natAbs).length + 1 : Nat) : Int) := by
    rw [w64_id (x := ((digs y.natAbs).length : Int) + ((digs z.natAbs).length : Int)) (by omega) (by omega), w64_id (by omega) (by omega)]
    omega
  have c1 : (0 : Int) ≤ (((digs y.natAbs).length + (digs z.natAbs).length + 1 : Nat) : Int) := by omega
  have c2 : (((digs y.natAbs).length + (digs z.natAbs).length + 1 : Nat) : Int) * 8 ≤ 140737488355328 := by omega
  have er (m : Nat) : List.replicate m [PV.int .i64 0] = (List.replicate m 0).map cD := by rw [List.map_replicate]; rfl
  simp only [cond_dec, List.length_map, e1, c1, c2, if_true, Int.toNat_natCast, er]
  have := WideMul_outer (k := k) hN (digs y.natAbs) (digs z.natAbs) (dig_digs _) (dig_digs _) (by omega) (by omega) y.sign z.sign 0 [] (digs y.natAbs).length N 0 (List.replicate ((digs y.natAbs).length + (digs z.natAbs).length + 1) 0) (by omega) (dig_replicate _) (by simp) (fun j _ => by
    rw [List.getD_eq_getElem?_getD, List.getElem?_replicate]; split <;> rfl) (by rw [val_replicate]; simp [val]) (by omega)
  refine this.trans ?_
  rw [val_digs, val_digs]
  refine congrArg some (vW_of (by rw [Int.natAbs_mul]) ?_)
  rw [Int.sign_mul, w64_id]
  · by_cases h1 : y = 0
    · simp [h1]
    · by_cases h2 : z = 0
      · simp [h2]
      · have : y.natAbs * z.natAbs ≠ 0 := by
          intro h
          rcases Nat.mul_eq_zero.1 h with h | h <;> omega
        rw [if_neg this]
  · rcases Int.sign_trichotomy y with h | h | h <;> rcases Int.sign_trichotomy z with h' | h' | h' <;> rw [h, h'] <;> decide
  · rcases Int.sign_trichotomy y with h | h | h <;> rcases Int.sign_trichotomy z with h' | h' | h' <;> rw [h, h'] <;> decide

end
end Go.PewTab

namespace Go.PewTab
set_option linter.unusedSimpArgs false
set_option linter.unusedVariables false
open Go.Pew Go.Num

section
variable {N k : Nat}

theorem wideOf_one (hN : 1000000 ≤ N) {D : Nat} (hD : 0 < D) (hl : (digs D).length ≤ 10000) : ev (envF N) (k + 2) F_base_wideOf [.int .i64 1, vD (digs D)] = some (vW (D : Int)) := by
  rw [wideOf_spec hN (dig_digs D) hl, val_digs]
  refine congrArg some (vW_of (by simp) ?_)
  rw [Int.sign_eq_one_of_pos (by omega), if_neg (by omega)]

theorem tdiv2_nat (s : Nat) : Int.tdiv (s : Int) 2 = ((s / 2 : Nat) : Int) := rfl

theorem WideFloor_inner (hN : 1000000 ≤ N) {D left : Nat} (hD : 0 < D) (hDs : Sz 900 (D : Int)) (hls : Sz 902 (left : Int)) (n5 j : Nat) (x4 : Int) (x5 : List (List PV)) (x6 : Int) (x8 : Int) (x9 : List (List PV)) (q : List Nat) (hj : j < q.length) (hq : q.length ≤ 1000) :
    ∀ (e n lo hi : Nat), lo ≤ hi → hi < 1000000000 → D * lo ≤ left → left < D * (hi + 1) → hi - lo < 2 ^ e → e < n →
    L_base_WideFloor_9 N (k + 3) n n5 ((digs left).map cD) (j : Int) (lo : Int) (hi : Int) x4 x5 x6 ((digs D).map cD) x8 x9 (q.map cD) = L_base_WideFloor_5 N (k + 3) n5 ((digs (left % D)).map cD) ((j : Int) - 1) x4 x5 x6 ((digs D).map cD) x8 x9 ((q.set j (left / D)).map cD)
  | e, n + 1, lo, hi, h1, h2, h3, h4, h5, h6 => by
    have lD : (digs D).length ≤ 900 := by have := hDs.len; simpa using this
    have ll : (digs left).length ≤ 902 := by have := hls.len; simpa using this
    rw [L_base_WideFloor_9_eq]
    by_cases hlt : lo < hi
    · obtain ⟨e, rfl⟩ : ∃ m, e = m + 1 := ⟨e - 1, by
        cases e with
        | zero => simp at h5; omega
        | succ e => rfl⟩
      obtain ⟨m, hm⟩ : ∃ m, (lo + hi + 1) / 2 = m := ⟨_, rfl⟩
      have e1 : w64 ((lo : Int) + (hi : Int)) = ((lo + hi : Nat) : Int) := by rw [w64_id] <;> omega
      have e2 : w64 (((lo + hi : Nat) : Int) + 1) = ((lo + hi + 1 : Nat) : Int) := by rw [w64_id] <;> omega
      have e3 : w64 ((m : Nat) : Int) = (m : Int) := by rw [w64_id] <;> omega
      have e4 : w64 ((m : Int) - 1) = ((m - 1 : Nat) : Int) := by rw [w64_id] <;> omega
      have c1 : (lo : Int) < (hi : Int) := by omega
      have hms : Sz 3 (m : Int) := sz_int (by omega)
      have hmul := WideMul_spec (k := k) hN (hDs.mono (n := 2000) (by omega)) (hms.mono (n := 2000) (by omega))
      have lm : (digs (D * m)).length ≤ 903 := by
        have := (hDs.mul hms).len
        rwa [Int.natAbs_mul] at this
      simp only [cond_dec, c1, if_true, wideOf_one (k := k + 1) hN hD (show (digs D).length ≤ 10000 by omega), e1, e2, tdiv2_nat, hm, e3, WideOf_spec (k := k) hN (show I64 (m : Int) by constructor <;> omega), obind, hmul, asA_agg, nth_zero, nth_one, asI_int, asL_sl]
      have hc := cmpDigits_spec (k := k + 2) hN (D * m) left (by omega) (by omega)
      rw [show ((D : Int) * (m : Int)).natAbs = D * m by rw [Int.natAbs_mul]; rfl, hc]
      simp only [obind, asI_int, e4]
      have hp : (2 : Nat) ^ (e + 1) = 2 * 2 ^ e := by rw [Nat.pow_succ]; omega
      by_cases hle : D * m ≤ left
      · rw [if_pos (by split <;> first | omega | (split <;> omega))]
        exact WideFloor_inner hN hD hDs hls n5 j x4 x5 x6 x8 x9 q hj hq e n m hi (by omega) h2 hle h4 (by omega) (by omega)
      · rw [if_neg (by rw [if_neg (by omega), if_pos (by omega)]; decide)]
        refine WideFloor_inner hN hD hDs hls n5 j x4 x5 x6 x8 x9 q hj hq e n lo (m - 1) (by omega) (by omega) h3 ?_ (by omega) (by omega)
        rw [show m - 1 + 1 = m by omega]
        omega
    · have hh : hi = lo := by omega
      subst hh
      have hq' : left / D = hi := by
        rw [Nat.div_eq_iff hD]
        rw [Nat.mul_add, Nat.mul_one] at h4
        rw [Nat.mul_comm hi]
        omega
      have hr : left - D * hi = left % D := by
        have := Nat.div_add_mod left D
        rw [hq'] at this
        omega
      have hms : Sz 3 (hi : Int) := sz_int (by omega)
      have hmul := WideMul_spec (k := k) hN (hDs.mono (n := 2000) (by omega)) (hms.mono (n := 2000) (by omega))
      have lm : (digs (D * hi)).length ≤ 903 := by
        have := (hDs.mul hms).len
        rwa [Int.natAbs_mul] at this
      have c1 : ¬ ((hi : Int) < (hi : Int)) := by omega
      have c2 : (0 : Int) ≤ (j : Int) := by omega
      have c3 : (j : Int) < (q.length : Int) := by omega
      have e1 : w64 ((j : Int) - 1) = (j : Int) - 1 := by rw [w64_id] <;> omega
      simp only [cond_dec, c1, c2, c3, if_true, if_false, List.length_map, wideOf_one (k := k + 1) hN hD (show (digs D).length ≤ 10000 by omega), WideOf_spec (k := k) hN (show I64 (hi : Int) by constructor <;> omega), obind, hmul, asA_agg, nth_zero, nth_one, asI_int, asL_sl, e1, Int.toNat_natCast]
      have hsub := subDigits_spec (k := k + 1) hN h3 (show (digs left).length ≤ 5000 by omega) (show (digs (D * hi)).length ≤ 5000 by omega)
      rw [show ((D : Int) * (hi : Int)).natAbs = D * hi by rw [Int.natAbs_mul]; rfl, hsub]
      simp only [obind, asL_sl, hr, set_cD q j hi hj, hq']

/-- The last lines: the quotient's sign, and rounding down. -/
theorem floor_eq {y : Int} {D : Nat} (hD : 0 < D) : y / (D : Int) = if y < 0 ∧ y.natAbs % D ≠ 0 then y.sign * ((y.natAbs / D : Nat) : Int) - 1 else y.sign * ((y.natAbs / D : Nat) : Int) := by
  have h1 := Nat.div_add_mod y.natAbs D
  have h2 := Nat.mod_lt y.natAbs hD
  rcases Int.lt_or_le y 0 with h | h
  · rw [Int.sign_eq_neg_one_of_neg h]
    have hy : y = -(y.natAbs : Int) := by omega
    obtain ⟨Q, hQ⟩ : ∃ Q, y.natAbs / D = Q := ⟨_, rfl⟩
    obtain ⟨R, hR⟩ : ∃ R, y.natAbs % D = R := ⟨_, rfl⟩
    rw [hQ, hR] at h1
    rw [hR] at h2
    rw [hQ, hR]
    have h3 : ((D * Q : Nat) : Int) = (D : Int) * (Q : Int) := Int.natCast_mul _ _
    by_cases h0 : R = 0
    · rw [if_neg (by omega)]
      have : y = (-(Q : Int)) * (D : Int) := by rw [Int.neg_mul, Int.mul_comm]; omega
      rw [this, Int.mul_ediv_cancel _ (by omega)]
      omega
    · rw [if_pos ⟨h, h0⟩]
      have e : y = ((D : Int) - R) + (-(Q : Int) - 1) * (D : Int) := by rw [Int.sub_mul, Int.neg_mul, Int.one_mul, Int.mul_comm]; omega
      rw [e, Int.add_mul_ediv_right _ _ (by omega), Int.ediv_eq_zero_of_lt (by omega) (by omega)]
      omega
  · rw [if_neg (by omega)]
    by_cases h0 : y = 0
    · subst h0; simp
    · rw [Int.sign_eq_one_of_pos (by omega), Int.one_mul, Int.natCast_ediv]
      congr 1
      omega

theorem sz_nat {m n : Nat} (h : Sz m (n : Int)) : n < 1000000000 ^ m := h
theorem sz_next {m left : Nat} (h : left < 1000000000 ^ m) : Sz (m + 1) ((1000000000 * left + 999999999 : Nat) : Int) := by
  unfold Sz
  rw [Nat.pow_succ, Int.natAbs_natCast]
  omega
theorem sz_step {m D left : Nat} (h : left < D) (hD : Sz m (D : Int)) : Sz (m + 1) ((1000000000 * left + 999999999 : Nat) : Int) := sz_next (Nat.lt_trans h (sz_nat hD))
theorem len_lt {m D left : Nat} (h : left < D) (hD : Sz m (D : Int)) : (digs left).length ≤ m := digs_len _ _ (Nat.lt_trans h (sz_nat hD))
theorem pow_two_le (n : Nat) : 1000000000 ^ n ≤ 2 ^ (30 * n) := by
  rw [Nat.pow_mul]
  exact Nat.pow_le_pow_left (by decide) n

theorem WideFloor_outer (hN : 1000000 ≤ N) {y : Int} {D : Nat} (hD : 0 < D) (hDs : Sz 900 (D : Int)) (hy : Sz 900 y) (x4 : Int) (x6 : Int) (x7 : List (List PV)) : ∀ (r n left : Nat) (q : List Nat), r ≤ (digs y.natAbs).length → q.length = (digs y.natAbs).length → Dig q → left < D →
    val ((digs y.natAbs).drop r) = D * val (q.drop r) + left → r < n →
    L_base_WideFloor_5 N (k + 4) n ((digs left).map cD) ((r : Int) - 1) y.sign ((digs y.natAbs).map cD) x4 ((digs D).map cD) x6 x7 (q.map cD) = some (vW (y / (D : Int)))
  | 0, n + 1, left, q, h1, h2, h3, h4, h5, h6 => by
    have ly := hy.len
    rw [List.drop_zero, List.drop_zero, val_digs] at h5
    have hq : val q = y.natAbs / D := by
      rw [h5, Nat.mul_add_div hD, Nat.div_eq_of_lt h4, Nat.add_zero]
    have hr : left = y.natAbs % D := by
      rw [h5, Nat.mul_add_mod, Nat.mod_eq_of_lt h4]
    rw [L_base_WideFloor_5_eq]
    have c1 : ¬ ((0 : Int) ≤ ((0 : Nat) : Int) - 1) := by omega
    have hw : PV.agg [.int .i64 (if y.natAbs / D = 0 then 0 else y.sign), vD (digs (y.natAbs / D))] = vW (y.sign * ((y.natAbs / D : Nat) : Int)) := by
      refine vW_of ?_ ?_
      · rw [Int.natAbs_mul, Int.natAbs_natCast]
        rcases Int.lt_or_le y 0 with h | h
        · rw [Int.sign_eq_neg_one_of_neg h]; simp
        · by_cases h0 : y = 0
          · subst h0; simp
          · rw [Int.sign_eq_one_of_pos (by omega)]; simp
      · rw [Int.sign_mul, Int.sign_sign]
        by_cases h0 : y.natAbs / D = 0
        · rw [if_pos h0, h0]; simp
        · rw [if_neg h0, Int.sign_eq_one_of_pos (a := ((y.natAbs / D : Nat) : Int)) (by omega), Int.mul_one]
    have hsz : Sz 900 (y.sign * ((y.natAbs / D : Nat) : Int)) := by
      refine hy.le ?_
      rw [Int.natAbs_mul, Int.natAbs_natCast]
      have h7 := Nat.div_le_self y.natAbs D
      have h8 : y.sign.natAbs ≤ 1 := by rcases Int.sign_trichotomy y with h | h | h <;> rw [h] <;> decide
      calc y.sign.natAbs * (y.natAbs / D) ≤ 1 * (y.natAbs / D) := Nat.mul_le_mul_right _ h8
        _ ≤ y.natAbs := by omega
    have hsub := WideSub_spec (k := k) hN (hsz.mono (n := 4000) (by omega)) ((sz_int (x := 1) (by decide)).mono (n := 4000) (by omega))
    simp only [cond_dec, c1, if_false, wideOf_spec (k := k + 2) hN h3 (show q.length ≤ 10000 by omega), hq, obind, hw, asA_agg, nth_zero, nth_one, asI_int, asL_sl, WideOf_spec (k := k + 1) hN (show I64 1 by decide), hsub, List.length_map]
    rw [floor_eq hD, ← hr]
    by_cases hn : y < 0
    · rw [if_pos (by rw [Int.sign_eq_neg_one_of_neg hn]; decide)]
      by_cases h0 : left = 0
      · rw [h0, digs_zero, if_neg (by simp), if_neg (by omega)]
      · rw [digs_pos h0, if_pos (by rw [List.length_cons]; omega), if_pos ⟨hn, h0⟩]
    · have : ¬ y.sign < 0 := by
        rcases Int.sign_trichotomy y with h' | h' | h'
        · rw [h']; decide
        · rw [h']; decide
        · exact absurd (Int.sign_eq_neg_one_iff_neg.1 h') hn
      rw [if_neg this, if_neg (by omega)]
  | r + 1, n + 1, left, q, h1, h2, h3, h4, h5, h6 => by
    have ly := hy.len
    have lD : Sz 901 ((1000000000 * left + 999999999 : Nat) : Int) := sz_step h4 hDs
    have ll : (digs left).length ≤ 900 := len_lt h4 hDs
    have hai := (dig_digs y.natAbs).getD r
    obtain ⟨lf, hlf⟩ : ∃ lf, (digs y.natAbs).getD r 0 + 1000000000 * left = lf := ⟨_, rfl⟩
    have hlfs : Sz 902 (lf : Int) := (lD.mono (by omega)).le (by simp only [Int.natAbs_natCast]; omega)
    have e0 : ((r + 1 : Nat) : Int) - 1 = (r : Int) := by omega
    have c1 : (0 : Int) ≤ (r : Int) := by omega
    have c2 : (r : Int) < ((digs y.natAbs).length : Int) := by omega
    have hroom : room [[PV.int .i64 (((digs y.natAbs).getD r 0 : Nat) : Int)]] ((digs left).map cD) 8 = true := by
      unfold room
      rw [decide_eq_true_eq]
      simp only [List.length_cons, List.length_nil, List.length_map]
      omega
    have et : ([[PV.int .i64 (((digs y.natAbs).getD r 0 : Nat) : Int)]] ++ (digs left).map cD) = ((digs y.natAbs).getD r 0 :: digs left).map cD := rfl
    have htr := trimmed_spec (k := k + 3) hN (l := (digs y.natAbs).getD r 0 :: digs left) (fun x hx => by
      rcases List.mem_cons.1 hx with rfl | hx
      · exact hai
      · exact dig_digs left x hx) (by simp; omega)
    rw [val, val_digs, hlf] at htr
    have hb : lf < D * (999999999 + 1) := by
      have : 1000000000 * left + 1000000000 ≤ D * 1000000000 := by rw [Nat.mul_comm D]; omega
      omega
    have hin := WideFloor_inner (k := k + 1) hN hD hDs hlfs n r y.sign ((digs y.natAbs).map cD) x4 x6 x7 q (by omega) (by omega) 30 N 0 999999999 (by omega) (by omega) (by omega) hb (by decide) (by omega)
    have hqd : lf / D < 1000000000 := by
      rw [Nat.div_lt_iff_lt_mul hD, Nat.mul_comm]
      exact hb
    have ih := WideFloor_outer hN hD hDs hy x4 x6 x7 r n (lf % D) (q.set r (lf / D)) (by omega) (by simpa using h2) (h3.set _ hqd) (Nat.mod_lt _ hD) (by
      rw [val_drop, h5, val_drop (q.set r (lf / D)), List.drop_set_of_lt (by omega), List.getD_eq_getElem?_getD (l := q.set r (lf / D)), List.getElem?_set_self (by omega), Option.getD_some]
      have := Nat.div_add_mod lf D
      have e1 : D * (lf / D + 1000000000 * val (q.drop (r + 1))) = D * (lf / D) + 1000000000 * (D * val (q.drop (r + 1))) := by rw [Nat.mul_add, Nat.mul_left_comm]
      rw [e1]
      omega) (by omega)
    rw [L_base_WideFloor_5_eq]
    simp only [e0, cond_dec, c1, c2, List.length_map, if_true, Int.toNat_natCast, leaf_cD, hroom, cond_t, et, htr, obind, asL_sl]
    exact hin.trans ih

theorem WideFloor_spec (hN : 1000000 ≤ N) {y : Int} {D : Nat} (hD : 0 < D) (hDs : Sz 900 (D : Int)) (hy : Sz 900 y) : ev (envF N) (k + 5) F_base_WideFloor [vW y, vW (D : Int)] = some (vW (y / (D : Int))) := by
  have ly := hy.len
  rw [E_base_WideFloor]
  by_cases h0 : y = 0
  · subst h0
    simp [digs_zero]
  · have c1 : ¬ (y.sign = 0) := by rw [Int.sign_eq_zero_iff_zero]; exact h0
    have c2 : ((digs y.natAbs).length : Int) * 8 ≤ 140737488355328 := by omega
    have e1 : w64 (((digs y.natAbs).length : Int) - 1) = ((digs y.natAbs).length : Int) - 1 := by rw [w64_id] <;> omega
    have er (m : Nat) : List.replicate m [PV.int .i64 0] = (List.replicate m 0).map cD := by rw [List.map_replicate]; rfl
    simp only [cond_dec, c1, c2, if_false, if_true, List.length_map, e1, Int.toNat_natCast, er]
    have := WideFloor_outer (k := k) hN hD hDs hy (D : Int).sign 0 [] (digs y.natAbs).length N 0 (List.replicate (digs y.natAbs).length 0) (Nat.le_refl _) (by simp) (dig_replicate _) hD (by
      rw [List.drop_eq_nil_of_le (Nat.le_refl _), List.drop_eq_nil_of_le (by simp)]; simp [val]) (by omega)
    rw [digs_zero] at this
    exact this

theorem wideSize_spec (z : Int) : ev (envF N) (k + 2) F_base_wideSize [vW z] = some (vW (z.natAbs : Int)) := by
  rw [E_base_wideSize, cond_dec]
  by_cases h : z < 0
  · rw [if_pos (by rw [Int.sign_eq_neg_one_of_neg h]; decide), WideNeg_spec]
    simp only [obind, eta_vW]
    rw [show -z = (z.natAbs : Int) by omega]
  · have hs : ¬ z.sign < 0 := by
      rcases Int.sign_trichotomy z with h' | h' | h'
      · rw [h']; decide
      · rw [h']; decide
      · exact absurd (Int.sign_eq_neg_one_iff_neg.1 h') h
    rw [if_neg hs]
    have : (z.natAbs : Int) = z := by omega
    simp only [this]

theorem wideGcd_loop (hN : 1000000 ≤ N) (x4 : Int) (x5 : List (List PV)) : ∀ (e n a b : Nat), Sz 900 (a : Int) → Sz 900 (b : Int) → b < 2 ^ e → 2 * e + 1 ≤ n →
    L_base_wideGcd_2 N (k + 5) n (a : Int).sign ((digs a).map cD) (b : Int).sign ((digs b).map cD) x4 x5 = some (vW (Nat.gcd a b : Int)) := by
  have done : ∀ (n a : Nat), 1 ≤ n → L_base_wideGcd_2 N (k + 5) n (a : Int).sign ((digs a).map cD) ((0 : Nat) : Int).sign ((digs 0).map cD) x4 x5 = some (vW (Nat.gcd a 0 : Int)) := by
    intro n a hn
    obtain ⟨n, rfl⟩ : ∃ m, n = m + 1 := ⟨n - 1, by omega⟩
    have := WideSign_spec (N := N) (k := k + 4) ((0 : Nat) : Int)
    rw [L_base_wideGcd_2_eq]
    rw [show PV.agg [.int .i64 ((0 : Nat) : Int).sign, .sl none [.int .i64] ((digs 0).map cD)] = vW ((0 : Nat) : Int) from rfl, this]
    simp only [obind, asI_int, cond_ndec, show ((0 : Nat) : Int).sign = 0 from rfl, if_true, Nat.gcd_zero_right]
    rfl
  have step : ∀ (n a b : Nat), Sz 900 (a : Int) → Sz 900 (b : Int) → b ≠ 0 → L_base_wideGcd_2 N (k + 5) (n + 1) (a : Int).sign ((digs a).map cD) (b : Int).sign ((digs b).map cD) x4 x5 =
      L_base_wideGcd_2 N (k + 5) n (b : Int).sign ((digs b).map cD) ((a % b : Nat) : Int).sign ((digs (a % b)).map cD) x4 x5 := by
    intro n a b ha hb h0
    have f1 := WideSign_spec (N := N) (k := k + 4) (b : Int)
    have f2 := WideFloor_spec (k := k) hN (Nat.pos_of_ne_zero h0) hb ha
    have hq : Sz 900 ((a : Int) / (b : Int)) := ha.le (by rw [← Int.natCast_ediv, Int.natAbs_natCast, Int.natAbs_natCast]; exact Nat.div_le_self _ _)
    have f3 := WideMul_spec (k := k + 2) hN (hq.mono (n := 2000) (by omega)) (hb.mono (n := 2000) (by omega))
    have f4 := WideSub_spec (k := k + 1) hN (ha.mono (n := 4000) (by omega)) ((hq.mul hb).mono (n := 4000) (by omega))
    have e : (a : Int) - (a : Int) / (b : Int) * (b : Int) = ((a % b : Nat) : Int) := by
      have := Int.mul_ediv_add_emod (a : Int) (b : Int)
      rw [Int.mul_comm] at this
      rw [Int.natCast_emod]
      omega
    have c1 : ¬ ((b : Int).sign = 0) := by rw [Int.sign_eq_zero_iff_zero]; omega
    have g1 : PV.agg [.int .i64 (a : Int).sign, .sl none [.int .i64] ((digs a).map cD)] = vW (a : Int) := rfl
    have g2 : PV.agg [.int .i64 (b : Int).sign, .sl none [.int .i64] ((digs b).map cD)] = vW (b : Int) := rfl
    rw [L_base_wideGcd_2_eq]
    rw [g1, g2, f1]
    simp only [obind, asI_int, cond_ndec, c1, if_false, f2, asA_agg, nth_zero, nth_one, asL_sl, f3, f4, e]
    rfl
  intro e
  induction e with
  | zero =>
    intro n a b ha hb h1 h2
    have : b = 0 := by simpa using h1
    subst this
    exact done n a (by omega)
  | succ e ih =>
    intro n a b ha hb h1 h2
    by_cases h0 : b = 0
    · subst h0; exact done n a (by omega)
    · obtain ⟨n, rfl⟩ : ∃ m, n = m + 1 := ⟨n - 1, by omega⟩
      have hr : a % b < b := Nat.mod_lt _ (Nat.pos_of_ne_zero h0)
      have hrs : Sz 900 ((a % b : Nat) : Int) := hb.le (by simp only [Int.natAbs_natCast]; omega)
      have g : Nat.gcd a b = Nat.gcd b (a % b) := by rw [Nat.gcd_comm, Nat.gcd_rec, Nat.gcd_comm]
      rw [step n a b ha hb h0, g]
      by_cases h3 : a % b = 0
      · rw [h3]; exact done n b (by omega)
      · obtain ⟨n, rfl⟩ : ∃ m, n = m + 1 := ⟨n - 1, by omega⟩
        have hp : (2 : Nat) ^ (e + 1) = 2 * 2 ^ e := by rw [Nat.pow_succ]; omega
        have h4 : b % (a % b) < a % b := Nat.mod_lt _ (Nat.pos_of_ne_zero h3)
        have h5 := Nat.div_add_mod b (a % b)
        have h6 : 1 ≤ b / (a % b) := (Nat.one_le_div_iff (Nat.pos_of_ne_zero h3)).2 (Nat.le_of_lt hr)
        have h7 : a % b * 1 ≤ a % b * (b / (a % b)) := Nat.mul_le_mul_left _ h6
        have g2 : Nat.gcd b (a % b) = Nat.gcd (a % b) (b % (a % b)) := by rw [Nat.gcd_comm, Nat.gcd_rec, Nat.gcd_comm]
        rw [step n b (a % b) hb hrs h3, g2]
        exact ih n (a % b) (b % (a % b)) hrs (hrs.le (by simp only [Int.natAbs_natCast]; omega)) (by omega) (by omega)

theorem wideGcd_spec (hN : 1000000 ≤ N) {y z : Int} (hy : Sz 900 y) (hz : Sz 900 z) : ev (envF N) (k + 6) F_base_wideGcd [vW y, vW z] = some (vW (Int.gcd y z : Int)) := by
  rw [E_base_wideGcd]
  have g1 := wideSize_spec (N := N) (k := k + 3) y
  have g2 := wideSize_spec (N := N) (k := k + 3) z
  rw [g1, g2]
  simp only [obind, asA_agg, nth_zero, nth_one, asI_int, asL_sl, Int.natAbs_natCast]
  have hy' : Sz 900 (y.natAbs : Int) := hy.le (by simp)
  have hz' : Sz 900 (z.natAbs : Int) := hz.le (by simp)
  exact wideGcd_loop hN 0 [] (30 * 900) N y.natAbs z.natAbs hy' hz' (Nat.lt_of_lt_of_le hz (pow_two_le 900)) (by omega)

end
end Go.PewTab

namespace Go.PewTab
set_option linter.unusedSimpArgs false
set_option linter.unusedVariables false
open Go.Pew Go.Num

section
variable {N k : Nat}

/-- A fraction's value. -/
abbrev vR (r : Rat) : PV := .agg [.int .i64 r.num.sign, .sl none [.int .i64] ((digs r.num.natAbs).map cD), .int .i64 (r.den : Int).sign, .sl none [.int .i64] ((digs (r.den : Int).natAbs).map cD)]

/-- A fraction whose parts have at most m digits. -/
structure SzR (m : Nat) (r : Rat) : Prop where
  num : Sz m r.num
  den : Sz m (r.den : Int)

theorem SzR.mono {m n : Nat} {r : Rat} (h : SzR m r) (hmn : m ≤ n) : SzR n r := ⟨h.num.mono hmn, h.den.mono hmn⟩

theorem divInt_pos {n d : Int} (hd : 0 < d) : (Rat.divInt n d).num = n / (Int.gcd n d : Int) ∧ ((Rat.divInt n d).den : Int) = d / (Int.gcd n d : Int) := by
  obtain ⟨e, rfl⟩ : ∃ e : Nat, d = (e : Int) := ⟨d.toNat, by omega⟩
  have he : e ≠ 0 := by omega
  rw [Rat.divInt_ofNat, Rat.mkRat_def, dif_neg he]
  refine ⟨Rat.num_normalize he, ?_⟩
  rw [Rat.den_normalize he]
  exact Int.natCast_ediv _ _

theorem szR_divInt {m : Nat} {n d : Int} (hd : d ≠ 0) (hn : Sz m n) (hds : Sz m d) : SzR m (Rat.divInt n d) := by
  have main : ∀ {n d : Int}, 0 < d → Sz m n → Sz m d → SzR m (Rat.divInt n d) := by
    intro n d hd hn hds
    obtain ⟨h1, h2⟩ := divInt_pos (n := n) hd
    refine ⟨?_, ?_⟩
    · rw [h1]
      refine hn.le ?_
      rw [Int.natAbs_ediv_of_dvd (Int.gcd_dvd_left ..)]
      exact Nat.div_le_self _ _
    · rw [h2]
      refine hds.le ?_
      rw [Int.natAbs_ediv_of_dvd (Int.gcd_dvd_right ..)]
      exact Nat.div_le_self _ _
  rcases Int.lt_or_le 0 d with h | h
  · exact main h hn hds
  · rw [← Rat.neg_divInt_neg]
    exact main (by omega) hn.neg hds.neg

theorem RatioMake_pos (hN : 1000000 ≤ N) {n d : Int} (hd : 0 < d) (hn : Sz 900 n) (hds : Sz 900 d) : 
    ((ev (envF N) (k + 8) F_base_wideGcd [vW n, vW d]).bind fun r3 =>
   (ev (envF N) (k + 8) F_base_WideOf [.int .i64 1]).bind fun r4 =>
    (ev (envF N) (k + 8) F_base_WideCmp [(.agg [(.int .i64 (asI (nth (asA r3) 0))), (.sl none [.int .i64] (asL (nth (asA r3) 1)))]), (.agg [(.int .i64 (asI (nth (asA r4) 0))), (.sl none [.int .i64] (asL (nth (asA r4) 1)))])]).bind fun r5 =>
     cond (decide ((asI r5) = (0 : Int)))
      (some (.agg [(.int .i64 n.sign), (.sl none [.int .i64] ((digs n.natAbs).map cD)), (.int .i64 d.sign), (.sl none [.int .i64] ((digs d.natAbs).map cD))]))
      ((ev (envF N) (k + 8) F_base_WideFloor [vW n, (.agg [(.int .i64 (asI (nth (asA r3) 0))), (.sl none [.int .i64] (asL (nth (asA r3) 1)))])]).bind fun r7 =>
       (ev (envF N) (k + 8) F_base_WideFloor [vW d, (.agg [(.int .i64 (asI (nth (asA r3) 0))), (.sl none [.int .i64] (asL (nth (asA r3) 1)))])]).bind fun r8 =>
        some (.agg [(.int .i64 (asI (nth (asA r7) 0))), (.sl none [.int .i64] (asL (nth (asA r7) 1))), (.int .i64 (asI (nth (asA r8) 0))), (.sl none [.int .i64] (asL (nth (asA r8) 1)))]))) = some (vR (Rat.divInt n d)) := by
  obtain ⟨h1, h2⟩ := divInt_pos (n := n) hd
  have hg : 0 < Int.gcd n d := Int.gcd_pos_of_ne_zero_right _ (by omega)
  have hgs : Sz 900 (Int.gcd n d : Int) := hds.le (by
    have := Int.gcd_le_right (a := n) (b := d) hd
    omega)
  have f1 := wideGcd_spec (k := k + 2) hN hn hds
  have f2 := WideOf_spec (k := k + 5) hN (x := 1) (by decide)
  have f3 := WideCmp_spec (k := k + 3) hN (hgs.mono (n := 4000) (by omega)) ((sz_int (x := 1) (by decide)).mono (n := 4000) (by omega))
  have f4 := WideFloor_spec (k := k + 3) hN hg hgs hn
  have f5 := WideFloor_spec (k := k + 3) hN hg hgs hds
  rw [f1, f2]
  simp only [obind, asA_agg, nth_zero, nth_one, asI_int, asL_sl, f3, cond_dec]
  have hs : ((Rat.divInt n d).den : Int).natAbs = (Rat.divInt n d).den := Int.natAbs_natCast _
  by_cases hc : Int.gcd n d = 1
  · rw [if_pos (by rw [hc]; decide)]
    rw [hc] at h1 h2
    have h1 : (Rat.divInt n d).num = n := by rw [h1]; exact Int.ediv_one _
    have h2 : ((Rat.divInt n d).den : Int) = d := by rw [h2]; exact Int.ediv_one _
    simp only [vR]
    rw [h1, h2]
  · rw [if_neg (by rw [Int.sign_eq_zero_iff_zero]; omega), f4, f5]
    simp only [obind, asA_agg, nth_zero, nth_one, asI_int, asL_sl]
    simp only [vR]
    rw [h1, h2]

theorem RatioMake_spec (hN : 1000000 ≤ N) {n d : Int} (hd : d ≠ 0) (hn : Sz 900 n) (hds : Sz 900 d) : ev (envF N) (k + 9) F_base_RatioMake [vW n, vW d] = some (vR (Rat.divInt n d)) := by
  rw [E_base_RatioMake]
  have f0 := WideSign_spec (N := N) (k := k + 7) d
  rw [f0]
  simp only [obind, asI_int]
  rw [cond_dec]
  by_cases h : d < 0
  · rw [if_pos (by rw [Int.sign_eq_neg_one_of_neg h]; decide)]
    have f1 := WideNeg_spec (N := N) (k := k + 7) n
    have f2 := WideNeg_spec (N := N) (k := k + 7) d
    rw [f1, f2]
    simp only [obind, asA_agg, nth_zero, nth_one, asI_int, asL_sl]
    rw [← Rat.neg_divInt_neg n d]
    exact RatioMake_pos (k := k) hN (by omega) hn.neg hds.neg
  · have : ¬ d.sign < 0 := by
      rcases Int.sign_trichotomy d with h' | h' | h'
      · rw [h']; decide
      · rw [h']; decide
      · exact absurd (Int.sign_eq_neg_one_iff_neg.1 h') h
    rw [if_neg this]
    exact RatioMake_pos (k := k) hN (by omega) hn hds

theorem den_sz {r : Rat} : (r.den : Int) ≠ 0 := by have := r.den_nz; omega

theorem RatioOf_spec (hN : 1000000 ≤ N) {n d : Int} (hd : d ≠ 0) (hn : I64 n) (hds : I64 d) : ev (envF N) (k + 10) F_base_RatioOf [.int .i64 n, .int .i64 d] = some (vR (Rat.divInt n d)) := by
  rw [E_base_RatioOf, WideOf_spec (k := k + 6) hN hn, WideOf_spec (k := k + 6) hN hds]
  have f := RatioMake_spec (k := k) hN hd ((sz_int hn).mono (n := 900) (by omega)) ((sz_int hds).mono (n := 900) (by omega))
  simp only [obind, asA_agg, nth_zero, nth_one, asI_int, asL_sl, f, nth_two, nth_three]

theorem RatioInt_spec (hN : 1000000 ≤ N) {n : Int} (hn : I64 n) : ev (envF N) (k + 4) F_base_RatioInt [.int .i64 n] = some (vR (n : Rat)) := by
  rw [E_base_RatioInt, WideOf_spec (k := k) hN hn, WideOf_spec (k := k) hN (x := 1) (by decide)]
  simp only [obind, asA_agg, nth_zero, nth_one, asI_int, asL_sl]
  rfl

theorem RatioAdd_spec (hN : 1000000 ≤ N) {a b : Rat} (ha : SzR 400 a) (hb : SzR 400 b) : ev (envF N) (k + 10) F_base_RatioAdd [vR a, vR b] = some (vR (a + b)) := by
  rw [E_base_RatioAdd]
  have m (x : Int) {j : Nat} (h : Sz 400 x) (hj : 400 ≤ j) : Sz j x := h.mono hj
  have f1 := WideMul_spec (k := k + 6) hN (m _ ha.num (show 400 ≤ 2000 by omega)) (m _ hb.den (show 400 ≤ 2000 by omega))
  have f2 := WideMul_spec (k := k + 6) hN (m _ hb.num (show 400 ≤ 2000 by omega)) (m _ ha.den (show 400 ≤ 2000 by omega))
  have f4 := WideMul_spec (k := k + 6) hN (m _ ha.den (show 400 ≤ 2000 by omega)) (m _ hb.den (show 400 ≤ 2000 by omega))
  have f3 := WideAdd_spec (k := k + 6) hN ((ha.num.mul hb.den).mono (n := 4000) (by omega)) ((hb.num.mul ha.den).mono (n := 4000) (by omega))
  have hd : (a.den : Int) * (b.den : Int) ≠ 0 := Int.mul_ne_zero den_sz den_sz
  have f5 := RatioMake_spec (k := k) hN hd (((ha.num.mul hb.den).add (hb.num.mul ha.den)).mono (n := 900) (by omega)) ((ha.den.mul hb.den).mono (n := 900) (by omega))
  simp only [f1, f2, f3, f4, f5, obind, asA_agg, nth_zero, nth_one, asI_int, asL_sl, nth_two, nth_three]
  rw [Rat.add_def' a b, ← Rat.divInt_ofNat, Int.natCast_mul]

theorem RatioMul_spec (hN : 1000000 ≤ N) {a b : Rat} (ha : SzR 400 a) (hb : SzR 400 b) : ev (envF N) (k + 10) F_base_RatioMul [vR a, vR b] = some (vR (a * b)) := by
  rw [E_base_RatioMul]
  have m (x : Int) {j : Nat} (h : Sz 400 x) (hj : 400 ≤ j) : Sz j x := h.mono hj
  have f1 := WideMul_spec (k := k + 6) hN (m _ ha.num (show 400 ≤ 2000 by omega)) (m _ hb.num (show 400 ≤ 2000 by omega))
  have f4 := WideMul_spec (k := k + 6) hN (m _ ha.den (show 400 ≤ 2000 by omega)) (m _ hb.den (show 400 ≤ 2000 by omega))
  have hd : (a.den : Int) * (b.den : Int) ≠ 0 := Int.mul_ne_zero den_sz den_sz
  have f5 := RatioMake_spec (k := k) hN hd ((ha.num.mul hb.num).mono (n := 900) (by omega)) ((ha.den.mul hb.den).mono (n := 900) (by omega))
  simp only [f1, f4, f5, obind, asA_agg, nth_zero, nth_one, asI_int, asL_sl, nth_two, nth_three]
  rw [Rat.mul_def' a b, ← Rat.divInt_ofNat, Int.natCast_mul]

theorem div_eq (a b : Rat) : a / b = Rat.divInt (a.num * b.den) (a.den * b.num) := by
  rw [Rat.div_def, Rat.inv_def, ← Rat.num_divInt_den a, Rat.divInt_mul_divInt, Rat.num_divInt_den]

theorem RatioDiv_spec (hN : 1000000 ≤ N) {a b : Rat} (ha : SzR 400 a) (hb : SzR 400 b) (h0 : b ≠ 0) : ev (envF N) (k + 10) F_base_RatioDiv [vR a, vR b] = some (vR (a / b)) := by
  rw [E_base_RatioDiv]
  have m (x : Int) {j : Nat} (h : Sz 400 x) (hj : 400 ≤ j) : Sz j x := h.mono hj
  have f1 := WideMul_spec (k := k + 6) hN (m _ ha.num (show 400 ≤ 2000 by omega)) (m _ hb.den (show 400 ≤ 2000 by omega))
  have f4 := WideMul_spec (k := k + 6) hN (m _ ha.den (show 400 ≤ 2000 by omega)) (m _ hb.num (show 400 ≤ 2000 by omega))
  have hd : (a.den : Int) * b.num ≠ 0 := Int.mul_ne_zero den_sz (fun h => h0 (Rat.num_eq_zero.1 h))
  have f5 := RatioMake_spec (k := k) hN hd ((ha.num.mul hb.den).mono (n := 900) (by omega)) ((ha.den.mul hb.num).mono (n := 900) (by omega))
  simp only [f1, f4, f5, obind, asA_agg, nth_zero, nth_one, asI_int, asL_sl, nth_two, nth_three]
  rw [div_eq]

theorem RatioCmp_spec (hN : 1000000 ≤ N) {a b : Rat} (ha : SzR 400 a) (hb : SzR 400 b) : ev (envF N) (k + 6) F_base_RatioCmp [vR a, vR b] = some (.int .i64 (a.num * b.den - b.num * a.den).sign) := by
  rw [E_base_RatioCmp]
  have m (x : Int) {j : Nat} (h : Sz 400 x) (hj : 400 ≤ j) : Sz j x := h.mono hj
  have f1 := WideMul_spec (k := k + 2) hN (m _ ha.num (show 400 ≤ 2000 by omega)) (m _ hb.den (show 400 ≤ 2000 by omega))
  have f2 := WideMul_spec (k := k + 2) hN (m _ hb.num (show 400 ≤ 2000 by omega)) (m _ ha.den (show 400 ≤ 2000 by omega))
  have f3 := WideCmp_spec (k := k) hN ((ha.num.mul hb.den).mono (n := 4000) (by omega)) ((hb.num.mul ha.den).mono (n := 4000) (by omega))
  simp only [f1, f2, f3, obind, asA_agg, nth_zero, nth_one, asI_int, asL_sl]

theorem sign_lt (x : Int) : x.sign < 0 ↔ x < 0 := by
  rcases Int.lt_or_le x 0 with h | h
  · rw [Int.sign_eq_neg_one_of_neg h]; omega
  · by_cases h0 : x = 0
    · subst h0; simp
    · rw [Int.sign_eq_one_of_pos (by omega)]; omega
theorem sign_gt (x : Int) : 0 < x.sign ↔ 0 < x := by
  rcases Int.lt_or_le x 0 with h | h
  · rw [Int.sign_eq_neg_one_of_neg h]; omega
  · by_cases h0 : x = 0
    · subst h0; simp
    · rw [Int.sign_eq_one_of_pos (by omega)]; omega
theorem cmp_lt (a b : Rat) : (a.num * b.den - b.num * a.den).sign < 0 ↔ a < b := by
  rw [sign_lt, Rat.lt_iff]; omega
theorem cmp_gt (a b : Rat) : 0 < (a.num * b.den - b.num * a.den).sign ↔ b < a := by
  rw [sign_gt, Rat.lt_iff]; omega

theorem RatioFloor_spec (hN : 1000000 ≤ N) {a : Rat} (ha : SzR 400 a) : ev (envF N) (k + 6) F_base_RatioFloor [vR a] = some (vW a.floor) := by
  rw [E_base_RatioFloor]
  have f := WideFloor_spec (k := k) hN a.den_pos (ha.den.mono (n := 900) (by omega)) (ha.num.mono (n := 900) (by omega))
  simp only [f, obind, asA_agg, nth_zero, nth_one, asI_int, asL_sl]
  rw [Rat.floor_def]

theorem RatioCeil_spec (hN : 1000000 ≤ N) {a : Rat} (ha : SzR 400 a) : ev (envF N) (k + 6) F_base_RatioCeil [vR a] = some (vW a.ceil) := by
  rw [E_base_RatioCeil]
  have f0 := WideNeg_spec (N := N) (k := k + 4) a.num
  have f := WideFloor_spec (k := k) hN a.den_pos (ha.den.mono (n := 900) (by omega)) (ha.num.neg.mono (n := 900) (by omega))
  have f2 := WideNeg_spec (N := N) (k := k + 4) (-a.num / (a.den : Int))
  simp only [f0, f, f2, obind, asA_agg, nth_zero, nth_one, asI_int, asL_sl]
  rw [Rat.ceil_eq_neg_floor_neg, Rat.floor_def, Rat.neg_num, Rat.neg_den]

theorem WideInt_loop (hN : 1000000 ≤ N) (s : Int) (l : List Nat) (hl : Dig l) (h2 : l.length ≤ 2) : ∀ (r n m : Nat), r ≤ l.length → m < 1000000000 ^ (2 - r) → r < n →
    L_base_WideInt_5 N k n (m : Int) ((r : Int) - 1) s (l.map cD) = some (.tup [.int .i64 (w64 (s * ((m * 1000000000 ^ r + val (l.take r) : Nat) : Int))), .bool true])
  | 0, n + 1, m, h1, h3, h4 => by
    rw [L_base_WideInt_5_eq]
    have c1 : ¬ ((0 : Int) ≤ ((0 : Nat) : Int) - 1) := by omega
    simp only [cond_dec, c1, if_false]
    simp [val]
  | r + 1, n + 1, m, h1, h3, h4 => by
    have hd := hl.getD r
    have e0 : ((r + 1 : Nat) : Int) - 1 = (r : Int) := by omega
    have c1 : (0 : Int) ≤ (r : Int) := by omega
    have c2 : (r : Int) < (l.length : Int) := by omega
    have hm : m < 1000000000 := by
      have : (1000000000 : Nat) ^ (2 - (r + 1)) ≤ 1000000000 ^ 1 := Nat.pow_le_pow_right (by decide) (by omega)
      omega
    have e1 : w64 (w64 ((m : Int) * 1000000000) + ((l.getD r 0 : Nat) : Int)) = ((m * 1000000000 + l.getD r 0 : Nat) : Int) := by
      rw [w64_id (x := (m : Int) * 1000000000) (by omega) (by omega), w64_id (by omega) (by omega)]
      omega
    have e2 : w64 ((r : Int) - 1) = (r : Int) - 1 := by rw [w64_id] <;> omega
    rw [L_base_WideInt_5_eq]
    simp only [e0, cond_dec, c1, c2, List.length_map, if_true, Int.toNat_natCast, leaf_cD, e1, e2]
    rw [WideInt_loop hN s l hl h2 r n _ (by omega) (by
      rw [show 2 - r = (2 - (r + 1)) + 1 by omega, Nat.pow_succ]
      omega) (by omega), val_take_succ, Nat.add_mul, Nat.pow_succ, Nat.mul_assoc, Nat.mul_comm 1000000000 (1000000000 ^ r), Nat.mul_comm (l.getD r 0)]
    rw [show m * (1000000000 ^ r * 1000000000) + 1000000000 ^ r * l.getD r 0 + val (l.take r) = m * (1000000000 ^ r * 1000000000) + (val (l.take r) + 1000000000 ^ r * l.getD r 0) by omega]

theorem WideInt_spec (hN : 1000000 ≤ N) {z : Int} (hz : Sz 2 z) : ev (envF N) (k + 1) F_base_WideInt [vW z] = some (.tup [.int .i64 z, .bool true]) := by
  have hl := hz.len
  have e : w64 (((digs z.natAbs).length : Int) - 1) = ((digs z.natAbs).length : Int) - 1 := by rw [w64_id] <;> omega
  rw [E_base_WideInt, List.length_map, cond_dec, if_neg (by omega), e]
  have := WideInt_loop (N := N) (k := k) hN z.sign (digs z.natAbs) (dig_digs _) hl (digs z.natAbs).length N 0 (Nat.le_refl _) (Nat.pow_pos (by decide)) (by omega)
  rw [List.take_length, val_digs, Nat.zero_mul, Nat.zero_add, Int.sign_mul_natAbs] at this
  refine this.trans ?_
  have : z.natAbs < 1000000000 ^ 2 := hz
  have e2 : (1000000000 : Nat) ^ 2 = 1000000000000000000 := by decide
  rw [w64_id] <;> omega

end
end Go.PewTab

namespace Go.PewTab
set_option linter.unusedSimpArgs false
set_option linter.unusedVariables false
open Go.Pew Go.Num

section
variable {N k : Nat}

theorem base_Within (n lo hi : Int) : ev (envF N) (k + 1) F_base_Within [.int .i64 n, .int .i64 lo, .int .i64 hi] = some (.bool (decide (lo ≤ n ∧ n ≤ hi))) := by
  rw [E_base_Within, cond_dec]
  by_cases h : lo ≤ n <;> simp [h]
theorem lake_within (n lo hi : Int) : ev (envF N) (k + 1) F_lake_within [.int .i64 n, .int .i64 lo, .int .i64 hi] = some (.bool (decide (lo ≤ n ∧ n ≤ hi))) := by
  rw [E_lake_within, cond_dec]
  by_cases h : lo ≤ n <;> simp [h]
theorem lake_unless (b : Bool) (e : Int) : ev (envF N) (k + 1) F_lake_unless [.bool b, .int .i64 e] = some (.int .i64 (if b = true then 0 else e)) := by
  rw [E_lake_unless, cond_if]
  cases b <;> rfl

/-- The first number that is not 0. -/
def firstNz : List Int → Int
  | [] => 0
  | e :: l => if e = 0 then firstNz l else e

theorem lake_first_loop (l : List Int) : ∀ (d n i : Nat), i + d = l.length → l.length ≤ 100000 → d < n → L_lake_first_2 N k n (l.map cI) (l.length : Int) (i : Int) = some (.int .i64 (firstNz (l.drop i)))
  | 0, n + 1, i, h, hl, hn => by
    rw [L_lake_first_2_eq, cond_dec, if_neg (by omega), List.drop_eq_nil_of_le (by omega)]
    rfl
  | d + 1, n + 1, i, h, hl, hn => by
    have c1 : (i : Int) < (l.length : Int) := by omega
    have c2 : (0 : Int) ≤ (i : Int) := by omega
    have e1 : w64 ((i : Int) + 1) = ((i + 1 : Nat) : Int) := by rw [w64_id] <;> omega
    rw [L_lake_first_2_eq]
    simp only [cond_dec, cond_ndec, c1, c2, List.length_map, if_true, Int.toNat_natCast, leaf_cI, e1]
    rw [List.drop_eq_getElem_cons (by omega), firstNz, List.getD_eq_getElem?_getD, List.getElem?_eq_getElem (by omega), Option.getD_some]
    by_cases h0 : l[i] = 0
    · rw [if_pos h0, if_pos h0]
      exact lake_first_loop l d n (i + 1) (by omega) hl (by omega)
    · rw [if_neg h0, if_neg h0]

theorem lake_first (hN : 1000000 ≤ N) (l : List Int) (hl : l.length ≤ 100000) : ev (envF N) (k + 1) F_lake_first [.sl none [.int .i64] (l.map cI)] = some (.int .i64 (firstNz l)) := by
  rw [E_lake_first, List.length_map]
  exact lake_first_loop l l.length N 0 (by omega) hl (by omega)
theorem lake_first2 (hN : 1000000 ≤ N) (a b : Int) : ev (envF N) (k + 1) F_lake_first [.sl none [.int .i64] [[.int .i64 a], [.int .i64 b]]] = some (.int .i64 (if a = 0 then b else a)) := by
  have := lake_first (N := N) (k := k) hN [a, b] (by simp)
  refine this.trans ?_
  simp only [firstNz]
  by_cases h : a = 0 <;> by_cases h' : b = 0 <;> simp [h, h']
theorem lake_first3 (hN : 1000000 ≤ N) (a b c : Int) : ev (envF N) (k + 1) F_lake_first [.sl none [.int .i64] [[.int .i64 a], [.int .i64 b], [.int .i64 c]]] = some (.int .i64 (if a = 0 then if b = 0 then c else b else a)) := by
  have := lake_first (N := N) (k := k) hN [a, b, c] (by simp)
  refine this.trans ?_
  simp only [firstNz]
  by_cases h : a = 0 <;> by_cases h' : b = 0 <;> by_cases h'' : c = 0 <;> simp [h, h', h'']

end
end Go.PewTab

namespace Go.PewTab
set_option linter.unusedSimpArgs false
set_option linter.unusedVariables false
open Go.Pew Go.Num

section
variable {N k : Nat}

theorem lake_height (a b : Knot) (h : I64 (b.l - a.l)) : ev (envF N) (k + 1) F_lake_piece_height [.agg [.int .i64 a.l, .int .i64 a.v, .int .i64 b.l, .int .i64 b.v]] = some (.int .i64 (b.l - a.l)) := by
  rw [E_lake_piece_height, w64_id h.1 h.2]
theorem lake_volume (a b : Knot) (h : I64 (b.v - a.v)) : ev (envF N) (k + 1) F_lake_piece_volume [.agg [.int .i64 a.l, .int .i64 a.v, .int .i64 b.l, .int .i64 b.v]] = some (.int .i64 (b.v - a.v)) := by
  rw [E_lake_piece_volume, w64_id h.1 h.2]

/-- A knot within its range. -/
def Kr (a : Knot) : Prop := 0 ≤ a.l ∧ a.l ≤ 1000000 ∧ 0 ≤ a.v ∧ a.v ≤ 1000000000

theorem lake_narrower (a b c d : Knot) (ha : Kr a) (hb : Kr b) (hc : Kr c) (hd : Kr d) : ev (envF N) (k + 2) F_lake_piece_narrower [.agg [.int .i64 a.l, .int .i64 a.v, .int .i64 b.l, .int .i64 b.v], .agg [.int .i64 c.l, .int .i64 c.v, .int .i64 d.l, .int .i64 d.v]] =
    some (.bool (decide ((b.v - a.v) * (d.l - c.l) < (d.v - c.v) * (b.l - a.l)))) := by
  obtain ⟨a1, a2, a3, a4⟩ := ha
  obtain ⟨b1, b2, b3, b4⟩ := hb
  obtain ⟨c1, c2, c3, c4⟩ := hc
  obtain ⟨d1, d2, d3, d4⟩ := hd
  have mul : ∀ x y : Int, -1000000000 ≤ x → x ≤ 1000000000 → -1000000 ≤ y → y ≤ 1000000 → I64 (x * y) := by
    intro x y h1 h2 h3 h4
    have h5 : (x * y).natAbs ≤ 1000000000 * 1000000 := by
      rw [Int.natAbs_mul]
      exact Nat.mul_le_mul (by omega) (by omega)
    constructor <;> omega
  have m1 := mul (b.v - a.v) (d.l - c.l) (by omega) (by omega) (by omega) (by omega)
  have m2 := mul (d.v - c.v) (b.l - a.l) (by omega) (by omega) (by omega) (by omega)
  rw [E_lake_piece_narrower, lake_volume a b (by constructor <;> omega), lake_height c d (by constructor <;> omega), lake_volume c d (by constructor <;> omega), lake_height a b (by constructor <;> omega)]
  simp only [obind, asI_int, w64_id m1.1 m1.2, w64_id m2.1 m2.2]

theorem lake_CheckTable_5 (hN : 1000000 ≤ N) (t : Tab) (hl : t.length ≤ 10) : ∀ (d n i : Nat), i + d = t.length → (∀ j, j < i → knotErr t j = 0) → d < n →
    L_lake_CheckTable_5 N (k + 2) n (t.map cK) (t.length : Int) (i : Int) (t.map cK) = some (.tup [.int .i64 (knotsErr t d i).1, .int .i64 (knotsErr t d i).2])
  | 0, n + 1, i, h, hj, hn => by
    rw [L_lake_CheckTable_5_eq, cond_dec, if_neg (by omega)]
    rfl
  | d + 1, n + 1, i, h, hj, hn => by
    have c1 : (i : Int) < (t.length : Int) := by omega
    have c2 : (0 : Int) ≤ (i : Int) := by omega
    have e1 : w64 ((i : Int) + 1) = ((i + 1 : Nat) : Int) := by rw [w64_id] <;> omega
    have next (hz : knotErr t i = 0) : L_lake_CheckTable_5 N (k + 2) n (t.map cK) (t.length : Int) ((i + 1 : Nat) : Int) (t.map cK) = some (.tup [.int .i64 (knotsErr t (d + 1) i).1, .int .i64 (knotsErr t (d + 1) i).2]) := by
      rw [lake_CheckTable_5 hN t hl d n (i + 1) (by omega) (fun j h => by
        by_cases e : j = i
        · rw [e]; exact hz
        · exact hj j (by omega)) (by omega)]
      conv => rhs; rw [knotsErr, if_pos hz]
    have stop (e : Int) (he : knotErr t i = e) (h0 : e ≠ 0) : (some (PV.tup [.int .i64 (i : Int), .int .i64 e])) = some (.tup [.int .i64 (knotsErr t (d + 1) i).1, .int .i64 (knotsErr t (d + 1) i).2]) := by
      rw [knotsErr, if_neg (by rw [he]; exact h0), he]
    rw [L_lake_CheckTable_5_eq]
    simp only [cond_dec, cond_ndec, c1, c2, List.length_map, if_true, Int.toNat_natCast, leaf_cKl, leaf_cKv, lake_within, obind, asB_bool, e1]
    by_cases r1 : 0 ≤ (kn t i).l ∧ (kn t i).l ≤ 1000000
    · rw [if_pos r1]
      by_cases r2 : 0 ≤ (kn t i).v ∧ (kn t i).v ≤ 1000000000
      · rw [if_pos r2]
        by_cases i0 : i = 0
        · subst i0
          rw [if_pos (by omega)]
          exact next (by unfold knotErr; rw [if_neg (by omega), if_pos rfl])
        · have e2 : w64 ((i : Int) - 1) = ((i - 1 : Nat) : Int) := by rw [w64_id] <;> omega
          have c3 : (0 : Int) ≤ ((i - 1 : Nat) : Int) := by omega
          have c4 : ((i - 1 : Nat) : Int) < (t.length : Int) := by omega
          have p1 : Kr (kn t i) := ⟨r1.1, r1.2, r2.1, r2.2⟩
          have p2 : Kr (kn t (i - 1)) := (knotErr_zero (hj (i - 1) (by omega))).1
          have h1 : I64 ((kn t i).l - (kn t (i - 1)).l) := by unfold Kr at p1 p2; constructor <;> omega
          have h2 : I64 ((kn t i).v - (kn t (i - 1)).v) := by unfold Kr at p1 p2; constructor <;> omega
          rw [if_neg (by omega)]
          simp only [e2, c3, c4, if_true, Int.toNat_natCast, leaf_cKl, leaf_cKv, lake_height (kn t (i - 1)) (kn t i) h1, lake_volume (kn t (i - 1)) (kn t i) h2, obind, asI_int]
          by_cases o1 : (kn t i).l - (kn t (i - 1)).l ≤ 0
          · rw [if_pos o1]
            exact stop 9 (by unfold knotErr; rw [if_neg (by omega), if_neg i0, if_pos (by omega)]) (by decide)
          · rw [if_neg o1]
            by_cases o2 : (kn t i).v - (kn t (i - 1)).v ≤ 0
            · rw [if_pos o2]
              exact stop 9 (by unfold knotErr; rw [if_neg (by omega), if_neg i0, if_pos (by omega)]) (by decide)
            · rw [if_neg o2]
              by_cases i1 : 1 < i
              · have e3 : w64 ((i : Int) - 2) = ((i - 2 : Nat) : Int) := by rw [w64_id] <;> omega
                have c5 : (0 : Int) ≤ ((i - 2 : Nat) : Int) := by omega
                have c6 : ((i - 2 : Nat) : Int) < (t.length : Int) := by omega
                have p3 : Kr (kn t (i - 2)) := (knotErr_zero (hj (i - 2) (by omega))).1
                rw [if_pos (by omega)]
                simp only [e3, c5, c6, if_true, Int.toNat_natCast, leaf_cKl, leaf_cKv, lake_narrower (k := k) (kn t (i - 1)) (kn t i) (kn t (i - 2)) (kn t (i - 1)) p2 p1 p3 p2, obind, asB_bool, cond_dec]
                by_cases w : ((kn t i).v - (kn t (i - 1)).v) * ((kn t (i - 1)).l - (kn t (i - 2)).l) < ((kn t (i - 1)).v - (kn t (i - 2)).v) * ((kn t i).l - (kn t (i - 1)).l)
                · rw [if_pos w]
                  exact stop 22 (by unfold knotErr; rw [if_neg (by omega), if_neg i0, if_neg (by omega), if_pos ⟨i1, w⟩]) (by decide)
                · rw [if_neg w]
                  exact next (by unfold knotErr; rw [if_neg (by omega), if_neg i0, if_neg (by omega), if_neg (fun h => w h.2)])
              · rw [if_neg (by omega)]
                exact next (by unfold knotErr; rw [if_neg (by omega), if_neg i0, if_neg (by omega), if_neg (fun h => i1 h.1)])
      · rw [if_neg r2]
        exact stop 2 (by unfold knotErr; rw [if_pos (by omega)]) (by decide)
    · rw [if_neg r1]
      exact stop 2 (by unfold knotErr; rw [if_pos (by omega)]) (by decide)

theorem lake_CheckTable (hN : 1000000 ≤ N) (t : Tab) : ev (envF N) (k + 3) F_lake_CheckTable [vTab t] = some (.tup [.int .i64 (tabErr t).1, .int .i64 (tabErr t).2]) := by
  rw [E_lake_CheckTable, lake_unless, lake_unless]
  simp only [obind, asI_int, List.length_map, lake_first2 hN, decide_eq_true_eq, cond_ndec]
  unfold tabErr
  by_cases h2 : t.length < 2
  · rw [if_neg (show ¬ ((1 : Int) < (t.length : Int)) by omega), if_pos h2]
    simp only [show ¬ ((10 : Int) = 0) by decide, if_false]
  · rw [if_pos (show ((1 : Int) < (t.length : Int)) by omega), if_neg h2, if_pos rfl]
    by_cases h10 : 10 < t.length
    · rw [if_neg (show ¬ ((t.length : Int) ≤ 10) by omega), if_pos h10]
      rfl
    · rw [if_pos (show ((t.length : Int) ≤ 10) by omega), if_neg h10, if_pos rfl]
      exact lake_CheckTable_5 hN t (by omega) t.length N 0 (by omega) (fun j h => by omega) (by omega)

/-- The error of a table alone. -/
def tErr (t : Tab) : Int := (tabErr t).2

theorem lake_tableErr (hN : 1000000 ≤ N) (t : Tab) : ev (envF N) (k + 4) F_lake_tableErr [vTab t] = some (.int .i64 (tErr t)) := by
  rw [E_lake_tableErr, lake_CheckTable hN]
  simp only [obind, asT_tup, nth_one, asI_int, tErr]

theorem lake_bottom {t : Tab} (h : 1 ≤ t.length) : ev (envF N) (k + 1) F_lake_table_bottom [vTab t] = some (.agg [.int .i64 (kn t 0).l, .int .i64 (kn t 0).v]) := by
  rw [E_lake_table_bottom, cond_dec, List.length_map, if_pos (by omega), leaf_cKl, leaf_cKv]
  rfl
theorem lake_top {t : Tab} (h : 1 ≤ t.length) (hl : t.length ≤ 100000) : ev (envF N) (k + 1) F_lake_table_top [vTab t] = some (.agg [.int .i64 (kn t (t.length - 1)).l, .int .i64 (kn t (t.length - 1)).v]) := by
  have e : w64 ((t.length : Int) - 1) = ((t.length - 1 : Nat) : Int) := by rw [w64_id] <;> omega
  rw [E_lake_table_top, cond_dec, cond_dec, List.length_map, e, if_pos (by omega), if_pos (by omega), Int.toNat_natCast, leaf_cKl, leaf_cKv]

instance (t : Tab) (v : Int) : Decidable (IsV t v) := by unfold IsV; infer_instance
instance (t : Tab) (v : Int) : Decidable (IsL t v) := by unfold IsL; infer_instance

theorem lake_holds {t : Tab} (h : Ok t) (v : Int) : ev (envF N) (k + 2) F_lake_table_holds [vTab t, .int .i64 v] = some (.bool (decide (IsV t v))) := by
  have h2 := h.two
  have h10 := h.ten
  rw [E_lake_table_holds, lake_bottom (by omega), lake_top (by omega) (by omega)]
  simp only [obind, asA_agg, nth_one, asI_int, lake_within, asB_bool]
  rfl

theorem byV_index (t : Tab) (v : Int) (h : 1 ≤ t.length) (hl : t.length ≤ 100000) : ∀ (d n i : Nat), i + d = t.length - 1 → d < n → i ≤ ((t.drop 1).findIdx fun k => decide (v ≤ k.v)) →
    L_slices_IndexFunc_LakeKnot_2 N (k + 1) n ((t.drop 1).map cK) v ((t.drop 1).length : Int) (i : Int) = some (.int .i64 (if (t.drop 1).findIdx (fun k => decide (v ≤ k.v)) = t.length - 1 then -1 else (((t.drop 1).findIdx fun k => decide (v ≤ k.v) : Nat) : Int)))
  | 0, n + 1, i, h1, h2, h3 => by
    have hle := List.findIdx_le_length (p := fun k : Knot => decide (v ≤ k.v)) (xs := t.drop 1)
    rw [List.length_drop] at hle
    rw [L_slices_IndexFunc_LakeKnot_2_eq, cond_dec, List.length_drop, if_neg (by omega), if_pos (by omega)]
  | d + 1, n + 1, i, h1, h2, h3 => by
    have hle := List.findIdx_le_length (p := fun k : Knot => decide (v ≤ k.v)) (xs := t.drop 1)
    rw [List.length_drop] at hle
    have hi : i < (t.drop 1).length := by rw [List.length_drop]; omega
    have c1 : (i : Int) < ((t.drop 1).length : Int) := by omega
    have c2 : (0 : Int) ≤ (i : Int) := by omega
    have e1 : w64 ((i : Int) + 1) = ((i + 1 : Nat) : Int) := by rw [w64_id] <;> omega
    have hk : kn (t.drop 1) i = (t.drop 1)[i] := by unfold kn; rw [List.getD_eq_getElem?_getD, List.getElem?_eq_getElem hi, Option.getD_some]
    rw [L_slices_IndexFunc_LakeKnot_2_eq]
    simp only [cond_dec, c1, c2, List.length_map, if_true, Int.toNat_natCast, leaf_cKl, leaf_cKv, E_lake_table_byVolume_c1, obind, asB_bool, e1]
    by_cases hv : v ≤ (kn (t.drop 1) i).v
    · rw [if_pos hv]
      have : (t.drop 1).findIdx (fun k => decide (v ≤ k.v)) = i := by
        rcases Nat.lt_or_ge i ((t.drop 1).findIdx fun k => decide (v ≤ k.v)) with h4 | h4
        · have := List.not_of_lt_findIdx h4
          rw [← hk, decide_eq_true hv] at this
          cases this
        · omega
      rw [this, if_neg (by rw [List.length_drop] at hi; omega)]
    · rw [if_neg hv]
      refine byV_index t v h hl d n (i + 1) (by omega) (by omega) ?_
      rcases Nat.lt_or_ge i ((t.drop 1).findIdx fun k => decide (v ≤ k.v)) with h4 | h4
      · omega
      · have h5 : (t.drop 1).findIdx (fun k => decide (v ≤ k.v)) = i := by omega
        have := List.findIdx_getElem (xs := t.drop 1) (p := fun k => decide (v ≤ k.v)) (w := by omega)
        rw [hk] at hv
        simp only [h5, decide_eq_true_eq] at this
        exact absurd this hv

/-- A piece's value. -/
abbrev vPiece (a b : Knot) : PV := .agg [.int .i64 a.l, .int .i64 a.v, .int .i64 b.l, .int .i64 b.v]

theorem drop_take_map (t : Tab) : List.drop (Int.toNat 1) (List.take (List.length (t.map cK)) (t.map cK)) = (t.drop 1).map cK := by
  rw [List.take_length, List.map_drop]
  rfl

theorem lake_pieceTo_v (hN : 1000000 ≤ N) {t : Tab} (h : Ok t) {v : Int} (hv : IsV t v) : ev (envF N) (k + 3) F_lake_table_pieceTo [vTab t, .fn F_lake_table_byVolume_c1 [.rp [.int .i64 v] 0]] = some (vPiece (kn t (byV t v - 1)) (kn t (byV t v))) := by
  obtain ⟨h1, h2, h3, h4⟩ := h.pieceV hv
  have hten := h.ten
  have e0 : byV t v = 1 + (t.drop 1).findIdx (fun k => decide (v ≤ k.v)) := rfl
  obtain ⟨i, hi⟩ : ∃ i, (t.drop 1).findIdx (fun k => decide (v ≤ k.v)) = i := ⟨_, rfl⟩
  rw [hi] at e0
  have hix := byV_index (N := N) (k := k) t v (by omega) (by omega) (t.length - 1) N 0 (by omega) (by omega) (by omega)
  rw [hi, if_neg (by omega)] at hix
  have e1 : w64 (1 + (i : Int)) = ((byV t v : Nat) : Int) := by rw [w64_id] <;> omega
  have e2 : w64 (((byV t v : Nat) : Int) - 1) = ((byV t v - 1 : Nat) : Int) := by rw [w64_id] <;> omega
  have c0 : (1 : Int) ≤ (t.length : Int) := by omega
  have c1 : (0 : Int) ≤ ((byV t v : Nat) : Int) := by omega
  have c2 : ((byV t v : Nat) : Int) < (t.length : Int) := by omega
  have c3 : (0 : Int) ≤ ((byV t v - 1 : Nat) : Int) := by omega
  have c4 : ((byV t v - 1 : Nat) : Int) < (t.length : Int) := by omega
  rw [E_lake_table_pieceTo, drop_take_map, E_slices_IndexFunc_LakeKnot, List.length_map, List.length_map]
  simp only [cond_dec, c0, if_true]
  rw [show ((0 : Int)) = ((0 : Nat) : Int) from rfl, hix]
  simp only [obind, asI_int, e1, e2]
  simp only [show ((0 : Nat) : Int) = 0 from rfl, c1, c2, c3, c4, if_true, Int.toNat_natCast, leaf_cKl, leaf_cKv]

theorem lake_byVolume (hN : 1000000 ≤ N) {t : Tab} (h : Ok t) {v : Int} (hv : IsV t v) : ev (envF N) (k + 4) F_lake_table_byVolume [vTab t, .int .i64 v] = some (vPiece (kn t (byV t v - 1)) (kn t (byV t v))) := by
  rw [E_lake_table_byVolume, lake_pieceTo_v hN h hv]
  simp only [obind, asA_agg, nth_zero, nth_one, nth_two, nth_three, asI_int]

end
end Go.PewTab

namespace Go.PewTab
set_option linter.unusedSimpArgs false
set_option linter.unusedVariables false
open Go.Pew Go.Num

theorem floor_math {n b : Int} (hb : 0 < b) : n / b = if n.tmod b < 0 then n.tdiv b - 1 else n.tdiv b := by
  have h := Int.tmod_add_mul_tdiv n b
  have h1 := Int.tmod_lt_of_pos n hb
  have h2 : -b < n.tmod b := by
    have := Int.tmod_lt_of_pos (-n) hb
    rw [Int.neg_tmod] at this
    omega
  have key : ∀ q, q * b ≤ n → n < (q + 1) * b → n / b = q := by
    intro q a1 a2
    have b1 := (Int.le_ediv_iff_mul_le hb).2 a1
    have b2 := (Int.ediv_lt_iff_lt_mul hb).2 a2
    omega
  rw [Int.mul_comm] at h
  split
  · apply key
    · rw [Int.sub_mul]; omega
    · rw [Int.sub_add_cancel]; omega
  · apply key
    · omega
    · rw [Int.add_mul]; omega

theorem tdiv_abs_le (n b : Int) : (n.tdiv b).natAbs ≤ n.natAbs := by
  rw [Int.natAbs_tdiv]
  exact Nat.div_le_self _ _

section
variable {N k : Nat}

theorem Ok.kr {t : Tab} (h : Ok t) {i : Nat} (hi : i < t.length) : Kr (kn t i) := h.range i hi

/-- The sizes of pieces. -/
theorem Ok.hv_le {t : Tab} (h : Ok t) {i : Nat} (h1 : 1 ≤ i) (hi : i < t.length) : 0 < hgt t i ∧ hgt t i ≤ 1000000 ∧ 0 < vol t i ∧ vol t i ≤ 1000000000 := by
  have p := h.pos h1 hi
  have a := Ok.kr h hi
  have b := Ok.kr h (i := i - 1) (by omega)
  unfold Kr at a b
  unfold hgt vol at *
  omega

theorem mul_le_big {x y : Int} (hx : 0 ≤ x) (hx2 : x ≤ 1000000) (hy : 0 ≤ y) (hy2 : y ≤ 1000000000) : 0 ≤ x * y ∧ x * y ≤ 1000000000000000 := by
  refine ⟨Int.mul_nonneg hx hy, ?_⟩
  have : x * y ≤ 1000000 * 1000000000 := Int.mul_le_mul hx2 hy2 hy (by decide)
  omega

theorem lake_levelAt (hN : 1000000 ≤ N) {t : Tab} (h : Ok t) {v : Int} (hv : IsV t v) : ev (envF N) (k + 5) F_lake_table_levelAt [vTab t, .int .i64 v] = some (.agg [.int .i64 (lvLo t v), .int .i64 (lvN t v % vol t (byV t v)), .int .i64 (vol t (byV t v))]) := by
  obtain ⟨i1, i2, i3, i4⟩ := h.pieceV hv
  obtain ⟨p1, p2, p3, p4⟩ := Ok.hv_le h i1 i2
  obtain ⟨b1, b2⟩ := h.lvN_bounds hv
  obtain ⟨v1, v2, v3⟩ := h.lv_between hv
  have m := mul_le_big (x := hgt t (byV t v)) (y := vol t (byV t v)) (by omega) (by omega) (by omega) (by omega)
  have a := Ok.kr h i2
  have b := Ok.kr h (i := byV t v - 1) (by omega)
  unfold Kr at a b
  have g1 := lake_volume (N := N) (k := k + 3) (kn t (byV t v - 1)) (kn t (byV t v)) (by constructor <;> omega)
  have g2 := lake_height (N := N) (k := k + 3) (kn t (byV t v - 1)) (kn t (byV t v)) (by constructor <;> omega)
  have hN' : (v - (kn t (byV t v - 1)).v) * ((kn t (byV t v)).l - (kn t (byV t v - 1)).l) = lvN t v := by unfold lvN hgt; rfl
  have hLo : (kn t (byV t v - 1)).l + lvN t v / vol t (byV t v) = lvLo t v := by unfold lvLo; rfl
  have hV : (kn t (byV t v)).v - (kn t (byV t v - 1)).v = vol t (byV t v) := by unfold vol; rfl
  have e1 : w64 (w64 (v - (kn t (byV t v - 1)).v) * ((kn t (byV t v)).l - (kn t (byV t v - 1)).l)) = lvN t v := by
    rw [w64_id (x := v - (kn t (byV t v - 1)).v) (by omega) (by omega), hN', w64_id (by omega) (by omega)]
  have d1 : (lvN t v).tdiv (vol t (byV t v)) = lvN t v / vol t (byV t v) := Int.tdiv_eq_ediv_of_nonneg b1
  have d2 : (lvN t v).tmod (vol t (byV t v)) = lvN t v % vol t (byV t v) := Int.tmod_eq_emod_of_nonneg b1
  have q1 : 0 ≤ lvN t v / vol t (byV t v) := Int.ediv_nonneg b1 (by omega)
  have q2 : lvN t v / vol t (byV t v) ≤ lvN t v := Int.ediv_le_self _ b1
  have e2 : w64 (lvN t v / vol t (byV t v)) = lvN t v / vol t (byV t v) := by rw [w64_id] <;> omega
  have e3 : w64 ((kn t (byV t v - 1)).l + lvN t v / vol t (byV t v)) = lvLo t v := by
    rw [hLo, w64_id (by omega) (by omega)]
  have c : ¬ (vol t (byV t v) = 0) := by omega
  rw [E_lake_table_levelAt, lake_byVolume hN h hv]
  simp only [obind, asA_agg, nth_zero, nth_one, nth_two, nth_three, asI_int, g1, g2, cond_ndec, e1, hV, c, if_false, d1, d2, e2, e3]

/-- The area at a volume: a numerator and a denominator. -/
def arN (t : Tab) (v : Int) : Int := vol t (byV t v) / (Int.gcd (vol t (byV t v)) (hgt t (byV t v)) : Int)
def arD (t : Tab) (v : Int) : Int := hgt t (byV t v) / (Int.gcd (vol t (byV t v)) (hgt t (byV t v)) : Int)

end
end Go.PewTab

namespace Go.PewTab
set_option linter.unusedSimpArgs false
set_option linter.unusedVariables false
open Go.Pew Go.Num

/-- The volumes of both lakes; what flows in and is exchanged in a tick; what is lost. -/
structure Vols where
  u : Int
  l : Int
  deriving DecidableEq
structure Flow where
  a : Int
  b : Int
  x : Int
structure Loss where
  e : Int
  s : Int
  deriving DecidableEq
/-- A pair of lakes. -/
structure Pair where
  u : Tab
  l : Tab
  r : Int

abbrev vVols (s : Vols) : PV := .agg [.int .i64 s.u, .int .i64 s.l]
abbrev vFlow (f : Flow) : PV := .agg [.int .i64 f.a, .int .i64 f.b, .int .i64 f.x]
abbrev vLoss (f : Loss) : PV := .agg [.int .i64 f.e, .int .i64 f.s]
abbrev vPair (p : Pair) : PV := .agg [.sl none [.int .i64, .int .i64] (p.u.map cK), .sl none [.int .i64, .int .i64] (p.l.map cK), .int .i64 p.r]
def cV (s : Vols) : List PV := [.int .i64 s.u, .int .i64 s.l]
def cF (f : Flow) : List PV := [.int .i64 f.a, .int .i64 f.b, .int .i64 f.x]
def flo (l : List Flow) (i : Nat) : Flow := l.getD i ⟨0, 0, 0⟩
def vls (l : List Vols) (i : Nat) : Vols := l.getD i ⟨0, 0⟩
theorem leaf_cF0 (l : List Flow) (i : Nat) : asI (nth (nths (l.map cF) i) 0) = (flo l i).a := leafI cF Flow.a 0 ⟨0, 0, 0⟩ (fun _ => rfl) rfl l i
theorem leaf_cF1 (l : List Flow) (i : Nat) : asI (nth (nths (l.map cF) i) 1) = (flo l i).b := leafI cF Flow.b 1 ⟨0, 0, 0⟩ (fun _ => rfl) rfl l i
theorem leaf_cF2 (l : List Flow) (i : Nat) : asI (nth (nths (l.map cF) i) 2) = (flo l i).x := leafI cF Flow.x 2 ⟨0, 0, 0⟩ (fun _ => rfl) rfl l i
theorem leaf_cV0 (l : List Vols) (i : Nat) : asI (nth (nths (l.map cV) i) 0) = (vls l i).u := leafI cV Vols.u 0 ⟨0, 0⟩ (fun _ => rfl) rfl l i
theorem leaf_cV1 (l : List Vols) (i : Nat) : asI (nth (nths (l.map cV) i) 1) = (vls l i).l := leafI cV Vols.l 1 ⟨0, 0⟩ (fun _ => rfl) rfl l i

def lo (t : Tab) : Int := (kn t 0).v
def hi (t : Tab) : Int := (kn t (t.length - 1)).v

/-- The errors. -/
def pErr (p : Pair) : Int := if tErr p.u = 0 then if tErr p.l = 0 then if 0 ≤ p.r ∧ p.r ≤ 1000 then 0 else 2 else tErr p.l else tErr p.u
def sErr (p : Pair) (s : Vols) : Int := if IsV p.u s.u ∧ IsV p.l s.l then 0 else 2
def bErr (p : Pair) (s : Vols) : Int := if pErr p = 0 then sErr p s else pErr p
def fErr (f : Flow) : Int := if (0 ≤ f.a ∧ f.a ≤ 10000000) ∧ (0 ≤ f.b ∧ f.b ≤ 10000000) ∧ (-10000000 ≤ f.x ∧ f.x ≤ 10000000) then 0 else 2

/-- A valid pair. -/
structure POk (p : Pair) : Prop where
  u : Ok p.u
  l : Ok p.l
  r0 : 0 ≤ p.r
  r1 : p.r ≤ 1000

theorem pOk_of {p : Pair} (h : pErr p = 0) : POk p := by
  unfold pErr at h
  split at h
  · rename_i h1
    split at h
    · rename_i h2
      split at h
      · rename_i h3
        exact ⟨ok_of h1, ok_of h2, h3.1, h3.2⟩
      · simp at h
    · rename_i h2
      exact absurd h h2
  · rename_i h1
    exact absurd h h1

theorem bErr_zero {p : Pair} {s : Vols} (h : bErr p s = 0) : POk p ∧ IsV p.u s.u ∧ IsV p.l s.l := by
  unfold bErr at h
  split at h
  · rename_i h1
    unfold sErr at h
    split at h
    · rename_i h2
      exact ⟨pOk_of h1, h2⟩
    · simp at h
  · rename_i h1
    exact absurd h h1

theorem Ok.lo_hi {t : Tab} (h : Ok t) : 0 ≤ lo t ∧ lo t < hi t ∧ hi t ≤ 1000000000 := by
  have h2 := h.two
  have a := Ok.kr h (i := 0) (by omega)
  have b := Ok.kr h (i := t.length - 1) (by omega)
  have c := h.lt (i := 0) (j := t.length - 1) (by omega) (by omega)
  unfold Kr at a b
  unfold lo hi
  omega

/-- What evaporates. -/
def evap (t : Tab) (r v : Int) : Int := min (r * vol t (byV t v) / (1000 * hgt t (byV t v))) (v - lo t)

theorem evap_bounds {t : Tab} (h : Ok t) {r v : Int} (h0 : 0 ≤ r) (hv : IsV t v) : 0 ≤ evap t r v ∧ evap t r v ≤ v - lo t := by
  obtain ⟨i1, i2, i3, i4⟩ := h.pieceV hv
  obtain ⟨p1, p2, p3, p4⟩ := Ok.hv_le h i1 i2
  have : 0 ≤ r * vol t (byV t v) / (1000 * hgt t (byV t v)) := Int.ediv_nonneg (Int.mul_nonneg h0 (by omega)) (by omega)
  have hv1 := hv.1
  unfold evap lo
  omega

/-- A step, if it is possible. -/
def step (p : Pair) (s : Vols) (f : Flow) : Option (Vols × Loss) :=
  let a := evap p.u p.r s.u
  let b := evap p.l p.r s.l
  let u := s.u - a + f.a + f.x
  let l := s.l - b + f.b - f.x
  if u < lo p.u ∨ l < lo p.l then none
  else some (⟨u - max 0 (u - hi p.u), l - max 0 (l - hi p.l)⟩, ⟨a + b, max 0 (u - hi p.u) + max 0 (l - hi p.l)⟩)

def FlowIn (f : Flow) : Prop := (0 ≤ f.a ∧ f.a ≤ 10000000) ∧ (0 ≤ f.b ∧ f.b ≤ 10000000) ∧ (-10000000 ≤ f.x ∧ f.x ≤ 10000000)
theorem flowIn_of {f : Flow} (h : fErr f = 0) : FlowIn f := by
  unfold fErr at h
  split at h
  · assumption
  · simp at h

/-- After a step the state is valid; what is lost is bounded. -/
theorem step_ok {p : Pair} {s : Vols} {f : Flow} {s' : Vols} {x : Loss} (h : POk p) (hu : IsV p.u s.u) (hl : IsV p.l s.l) (hs : step p s f = some (s', x)) (hf : FlowIn f) :
    IsV p.u s'.u ∧ IsV p.l s'.l ∧ 0 ≤ x.e ∧ x.e ≤ 2000000000 ∧ 0 ≤ x.s ∧ x.s ≤ 2000000000 ∧ s'.u + s'.l + x.e + x.s = s.u + s.l + f.a + f.b := by
  have a := evap_bounds h.u h.r0 hu
  have b := evap_bounds h.l h.r0 hl
  have c := Ok.lo_hi h.u
  have d := Ok.lo_hi h.l
  unfold step at hs
  simp only at hs
  split at hs
  · cases hs
  · rename_i hn
    cases hs
    have hu2 := hu.2
    have hl2 := hl.2
    unfold FlowIn at hf
    unfold IsV
    unfold lo hi at *
    simp only
    omega

section
variable {N k : Nat}

theorem lake_CheckPair (hN : 1000000 ≤ N) (p : Pair) : ev (envF N) (k + 5) F_lake_CheckPair [vPair p] = some (.int .i64 (pErr p)) := by
  rw [E_lake_CheckPair, lake_tableErr hN, lake_tableErr hN]
  simp only [obind, asI_int, lake_within, asB_bool, lake_unless, lake_first3 hN, decide_eq_true_eq]
  rfl

theorem lake_openPair (hN : 1000000 ≤ N) (p : Pair) : ev (envF N) (k + 6) F_lake_openPair [vPair p] = some (.tup [vPair p, .int .i64 (pErr p)]) := by
  rw [E_lake_openPair, lake_CheckPair hN]
  simp only [obind, asI_int]

theorem lake_stateErr {p : Pair} (h : POk p) (s : Vols) : ev (envF N) (k + 3) F_lake_pair_stateErr [vPair p, vVols s] = some (.int .i64 (sErr p s)) := by
  rw [E_lake_pair_stateErr, lake_holds h.u]
  simp only [obind, asB_bool, cond_dec]
  unfold sErr
  by_cases hu : IsV p.u s.u
  · rw [if_pos hu, lake_holds h.l]
    simp only [obind, asB_bool, lake_unless, asI_int, decide_eq_true_eq, hu, true_and]
  · rw [if_neg hu, lake_unless]
    simp only [obind, asI_int, Bool.false_eq_true, if_false, hu, false_and]

theorem lake_openState (hN : 1000000 ≤ N) (p : Pair) (s : Vols) : ev (envF N) (k + 7) F_lake_openState [vPair p, vVols s] = some (.tup [vPair p, .int .i64 (bErr p s)]) := by
  rw [E_lake_openState, lake_openPair hN]
  simp only [obind, asT_tup, nth_zero, nth_one, nth_two, asA_agg, asI_int, asL_sl, cond_dec]
  unfold bErr
  by_cases h : pErr p = 0
  · rw [if_pos h, if_pos h, lake_stateErr (k := k + 3) (pOk_of h)]
    simp only [obind, asI_int]
  · rw [if_neg h, if_neg h]

theorem lake_isFlow (n : Int) : ev (envF N) (k + 2) F_lake_flowsErr_c1 [.int .i64 n] = some (.bool (decide (0 ≤ n ∧ n ≤ 10000000))) := by
  rw [E_lake_flowsErr_c1, lake_within]
  simp only [obind, asB_bool]

theorem lake_flowsErr (f : Flow) : ev (envF N) (k + 3) F_lake_flowsErr [vFlow f] = some (.int .i64 (fErr f)) := by
  rw [E_lake_flowsErr, lake_isFlow, lake_isFlow]
  simp only [obind, asB_bool, cond_dec, lake_within, lake_unless, asI_int, decide_eq_true_eq, Bool.false_eq_true, if_false]
  unfold fErr
  by_cases h1 : 0 ≤ f.a ∧ f.a ≤ 10000000
  · by_cases h2 : 0 ≤ f.b ∧ f.b ≤ 10000000
    · simp only [h1, h2, if_true, and_self, true_and]
    · simp [h1, h2]
  · simp [h1]

theorem lake_evaporated (hN : 1000000 ≤ N) {t : Tab} (h : Ok t) {r v : Int} (h0 : 0 ≤ r) (h1 : r ≤ 1000) (hv : IsV t v) : ev (envF N) (k + 5) F_lake_table_evaporated [vTab t, .int .i64 v, .int .i64 r] = some (.int .i64 (evap t r v)) := by
  obtain ⟨i1, i2, i3, i4⟩ := h.pieceV hv
  obtain ⟨p1, p2, p3, p4⟩ := Ok.hv_le h i1 i2
  have h2 := h.two
  have b := Ok.lo_hi h
  have hv1 := hv.1
  have hv2 := hv.2
  have hV : (kn t (byV t v)).v - (kn t (byV t v - 1)).v = vol t (byV t v) := by unfold vol; rfl
  have hH : (kn t (byV t v)).l - (kn t (byV t v - 1)).l = hgt t (byV t v) := by unfold hgt; rfl
  have g1 := lake_volume (N := N) (k := k + 3) (kn t (byV t v - 1)) (kn t (byV t v)) (by rw [hV]; constructor <;> omega)
  have g2 := lake_height (N := N) (k := k + 3) (kn t (byV t v - 1)) (kn t (byV t v)) (by rw [hH]; constructor <;> omega)
  rw [hV] at g1
  rw [hH] at g2
  have m := mul_le_big (x := r) (y := vol t (byV t v)) (by omega) (by omega) (by omega) (by omega)
  have e1 : w64 (r * vol t (byV t v)) = r * vol t (byV t v) := by rw [w64_id] <;> omega
  have e2 : w64 (1000 * hgt t (byV t v)) = 1000 * hgt t (byV t v) := by rw [w64_id] <;> omega
  have c : ¬ (1000 * hgt t (byV t v) = 0) := by omega
  have d := tdiv_abs_le (r * vol t (byV t v)) (1000 * hgt t (byV t v))
  have e3 : w64 ((r * vol t (byV t v)).tdiv (1000 * hgt t (byV t v))) = r * vol t (byV t v) / (1000 * hgt t (byV t v)) := by
    rw [w64_id (by omega) (by omega), Int.tdiv_eq_ediv_of_nonneg m.1]
  have hlo : lo t = (kn t 0).v := by unfold lo; rfl
  have hhi : hi t = (kn t (t.length - 1)).v := by unfold hi; rfl
  have e4 : w64 (v - (kn t 0).v) = v - lo t := by rw [w64_id] <;> omega
  have g3 := lake_bottom (N := N) (k := k + 3) (t := t) (by omega)
  rw [E_lake_table_evaporated, lake_byVolume hN h hv]
  simp only [obind, asA_agg, nth_zero, nth_one, nth_two, nth_three, asI_int, g1, g2, g3, e1, e2, e3, e4, c, cond_ndec, if_false, imin_eq]
  rfl

theorem lake_step (hN : 1000000 ≤ N) {p : Pair} (h : POk p) {s : Vols} (hu : IsV p.u s.u) (hl : IsV p.l s.l) {f : Flow} (hf : FlowIn f) : ev (envF N) (k + 6) F_lake_pair_step [vPair p, vVols s, vFlow f] =
    some (match step p s f with | some (s', x) => .tup [vVols s', vLoss x, .bool true] | none => .tup [vVols ⟨0, 0⟩, vLoss ⟨0, 0⟩, .bool false]) := by
  obtain ⟨M, rfl⟩ : ∃ M, N = M + 3 := ⟨N - 3, by omega⟩
  have a := evap_bounds h.u h.r0 hu
  have b := evap_bounds h.l h.r0 hl
  have c := Ok.lo_hi h.u
  have d := Ok.lo_hi h.l
  have hu2 : s.u ≤ hi p.u := hu.2
  have hl2 : s.l ≤ hi p.l := hl.2
  have t1 := h.u.two
  have t2 := h.l.two
  have t3 := h.u.ten
  have t4 := h.l.ten
  have u0 : (kn p.u 0).v = lo p.u := by unfold lo; rfl
  have u1 : (kn p.u (p.u.length - 1)).v = hi p.u := by unfold hi; rfl
  have l0 : (kn p.l 0).v = lo p.l := by unfold lo; rfl
  have l1 : (kn p.l (p.l.length - 1)).v = hi p.l := by unfold hi; rfl
  have g1 := lake_evaporated (k := k) hN h.u h.r0 h.r1 hu
  have g2 := lake_evaporated (k := k) hN h.l h.r0 h.r1 hl
  have g3 := lake_bottom (N := M + 3) (k := k + 4) (t := p.u) (by omega)
  have g4 := lake_bottom (N := M + 3) (k := k + 4) (t := p.l) (by omega)
  have g5 := lake_top (N := M + 3) (k := k + 4) (t := p.u) (by omega) (by omega)
  have g6 := lake_top (N := M + 3) (k := k + 4) (t := p.l) (by omega) (by omega)
  obtain ⟨A, hA⟩ : ∃ A, evap p.u p.r s.u = A := ⟨_, rfl⟩
  obtain ⟨B, hB⟩ : ∃ B, evap p.l p.r s.l = B := ⟨_, rfl⟩
  rw [hA] at a g1
  rw [hB] at b g2
  unfold FlowIn at hf
  have eu : w64 (s.u + w64 (w64 (f.a + f.x) - A)) = s.u - A + f.a + f.x := by
    rw [w64_id (x := f.a + f.x) (by omega) (by omega), w64_id (x := f.a + f.x - A) (by omega) (by omega), w64_id (by omega) (by omega)]
    omega
  have el : w64 (s.l + w64 (w64 (f.b - f.x) - B)) = s.l - B + f.b - f.x := by
    rw [w64_id (x := f.b - f.x) (by omega) (by omega), w64_id (x := f.b - f.x - B) (by omega) (by omega), w64_id (by omega) (by omega)]
    omega
  rw [E_lake_pair_step]
  simp only [g1, g2, g3, g4, g5, g6, obind, asA_agg, nth_zero, nth_one, asI_int, eu, el, u0, u1, l0, l1, imax_eq, cond_dec]
  unfold step
  simp only [hA, hB]
  obtain ⟨U, hU⟩ : ∃ U, s.u - A + f.a + f.x = U := ⟨_, rfl⟩
  obtain ⟨L, hL⟩ : ∃ L, s.l - B + f.b - f.x = L := ⟨_, rfl⟩
  simp only [hU, hL]
  have e1 : w64 (U - hi p.u) = U - hi p.u := by rw [w64_id] <;> omega
  have e2 : w64 (L - hi p.l) = L - hi p.l := by rw [w64_id] <;> omega
  have e3 : w64 (U - max 0 (U - hi p.u)) = U - max 0 (U - hi p.u) := by rw [w64_id] <;> omega
  have e4 : w64 (L - max 0 (L - hi p.l)) = L - max 0 (L - hi p.l) := by rw [w64_id] <;> omega
  have e5 : w64 (w64 (0 + A) + B) = A + B := by rw [w64_id (x := 0 + A) (by omega) (by omega), w64_id] <;> omega
  have e6 : w64 (w64 (0 + max 0 (U - hi p.u)) + max 0 (L - hi p.l)) = max 0 (U - hi p.u) + max 0 (L - hi p.l) := by
    rw [w64_id (x := 0 + max 0 (U - hi p.u)) (by omega) (by omega), w64_id] <;> omega
  simp only [e1, e2, e3, e4, e5, e6]
  by_cases h1 : U < lo p.u
  · rw [if_pos h1, if_pos (Or.inl h1)]
  · by_cases h2 : L < lo p.l
    · rw [if_neg h1, if_pos h2, if_pos (Or.inr h2)]
    · rw [if_neg h1, if_neg h2, if_neg (by omega)]

def stepE : Option (Vols × Loss) → PV
  | some (s', x) => .tup [vVols s', vLoss x, .int .i64 0]
  | none => .tup [vVols ⟨0, 0⟩, vLoss ⟨0, 0⟩, .int .i64 22]
/-- The results of a step, or its error. -/
def stepR (p : Pair) (s : Vols) (f : Flow) : PV :=
  if bErr p s ≠ 0 then .tup [vVols ⟨0, 0⟩, vLoss ⟨0, 0⟩, .int .i64 (bErr p s)]
  else if fErr f ≠ 0 then .tup [vVols ⟨0, 0⟩, vLoss ⟨0, 0⟩, .int .i64 (fErr f)]
  else stepE (step p s f)

theorem stepR_ok {p : Pair} {s : Vols} {f : Flow} (h : bErr p s = 0) (hf : fErr f = 0) : stepR p s f = stepE (step p s f) := by
  unfold stepR
  rw [if_neg (by omega), if_neg (by omega)]

end
end Go.PewTab
