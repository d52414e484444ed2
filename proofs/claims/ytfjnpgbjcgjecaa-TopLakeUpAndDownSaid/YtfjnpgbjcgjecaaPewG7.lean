/- EQUATIONS OF FUNCTIONS, by the kernel's own reckoning; written by a program. -/
/- EQUATIONS OF ITERATORS AND OF LOOPS OVER THEM, by the kernel's own reckoning. -/
/- EQUATIONS OF FUNCTIONS, by the kernel's own reckoning; written by a program. -/
/- LIMITS AND VIOLATIONS in the program. -/
/- EQUATIONS OF FUNCTIONS, by the kernel's own reckoning; written by a program. -/
/- THE LAW OF WHAT CAN BE MOVED over the evaluator: it gives true. -/
/- EQUATIONS OF FUNCTIONS, by the kernel's own reckoning; written by a program. -/
/- THE LAW THAT WATER IS NEITHER MADE NOR LOST over the evaluator: it gives true. -/
/- UP AND DOWN AGAIN: runs without losses, in plain data; the reference's errors of a task. -/
/- EQUATIONS OF FUNCTIONS, by the kernel's own reckoning; written by a program. -/
import Derived.Test.YtfjnpgbjcgjecaaPewG4
import Derived.Test.YtfjnpgbjcgjecaaPewG6

namespace Go.PewTab
set_option linter.unusedSimpArgs false
set_option linter.unusedVariables false
open Go.Pew Go
set_option maxRecDepth 100000
set_option linter.unusedVariables false

theorem E_top_lakeShown (N k : Nat)  : ev (envF N) (k + 1) F_top_lakeShown [] =
 ((ev (envF N) k F_law01_Pair []).bind fun r1 =>
 (ev (envF N) k F_lake_Step [(.agg [(.sl none [.int .i64, .int .i64] (asL (nth (asA r1) 0))), (.sl none [.int .i64, .int .i64] (asL (nth (asA r1) 1))), (.int .i64 (asI (nth (asA r1) 2)))]), (.agg [(.int .i64 (2950 : Int)), (.int .i64 (500 : Int))]), (.agg [(.int .i64 (0 : Int)), (.int .i64 (0 : Int)), (.int .i64 (200 : Int))])]).bind fun r2 =>
  (ev (envF N) k F_law01_Table []).bind fun r3 =>
   (ev (envF N) k F_lake_LevelAt [(.agg [(.sl none [.int .i64, .int .i64] (asL (nth (asA r3) 0)))]), (.int .i64 (1501 : Int))]).bind fun r4 =>
    cond (decide ((asI (nth (asT r2) 2)) = (0 : Int)))
     (cond ((decide ((asI (nth (asA (nth (asT r2) 0)) 0)) = (3000 : Int))) && (decide ((asI (nth (asA (nth (asT r2) 0)) 1)) = (295 : Int))))
      (cond ((decide ((asI (nth (asA (nth (asT r2) 1)) 0)) = (15 : Int))) && (decide ((asI (nth (asA (nth (asT r2) 1)) 1)) = (140 : Int))))
       (cond (decide ((asI (nth (asT r4) 1)) = (0 : Int)))
        (some (.bool ((decide ((asI (nth (asA (nth (asT r4) 0)) 0)) = (125 : Int))) && (decide ((asI (nth (asA (nth (asT r4) 0)) 1)) = (126 : Int))))))
        (some (.bool (false))))
       (some (.bool (false))))
      (some (.bool (false))))
     (some (.bool (false)))) := by kernel_rfl

theorem E_ref01_TaskErr (N k : Nat) (x0 : List (List PV)) (x1 : List (List PV)) (x2 : Int) (x3 : Int) (x4 : Int) (x5 : Int) (x6 : Int) (x7 : Int) (x8 : Int) (x9 : Int) (x10 : Int) (x11 : Int) (x12 : Int) (x13 : List (List PV)) : ev (envF N) (k + 1) F_ref01_TaskErr [(.agg [(.sl none [.int .i64, .int .i64] x0), (.sl none [.int .i64, .int .i64] x1), (.int .i64 x2)]), (.agg [(.int .i64 x3), (.int .i64 x4), (.int .i64 x5), (.int .i64 x6), (.int .i64 x7), (.int .i64 x8), (.int .i64 x9), (.int .i64 x10), (.int .i64 x11), (.int .i64 x12), (.sl none [.int .i64, .int .i64, .int .i64] x13)])] =
 ((ev (envF N) k F_ref01_LimitsErr [(.agg [(.sl none [.int .i64, .int .i64] x0), (.sl none [.int .i64, .int .i64] x1), (.int .i64 x2)]), (.agg [(.int .i64 x3), (.int .i64 x4), (.int .i64 x5), (.int .i64 x6), (.int .i64 x7), (.int .i64 x8), (.int .i64 x9), (.int .i64 x10), (.int .i64 x11), (.int .i64 x12)])]).bind fun r1 =>
 cond (!(decide ((asI r1) = (0 : Int))))
  (some (.int .i64 (asI r1)))
  ((ev (envF N) k F_ref01_ListErr [(.sl none [.int .i64, .int .i64, .int .i64] x13)]).bind fun r3 =>
   some (.int .i64 (asI r3)))) := by kernel_rfl

theorem E_law01_Table (N k : Nat)  : ev (envF N) (k + 1) F_law01_Table [] =
 (some (.agg [(.sl none [.int .i64, .int .i64] [[(.int .i64 (0 : Int)), (.int .i64 (0 : Int))], [(.int .i64 (100 : Int)), (.int .i64 (1000 : Int))], [(.int .i64 (200 : Int)), (.int .i64 (3000 : Int))]])])) := by kernel_rfl

theorem E_law01_Pair (N k : Nat)  : ev (envF N) (k + 1) F_law01_Pair [] =
 ((ev (envF N) k F_law01_Table []).bind fun r1 =>
 (ev (envF N) k F_law01_Table []).bind fun r2 =>
  some (.agg [(.sl none [.int .i64, .int .i64] (asL (nth (asA r1) 0))), (.sl none [.int .i64, .int .i64] (asL (nth (asA r2) 0))), (.int .i64 (500 : Int))])) := by kernel_rfl

theorem E_ref01_LimitsErr (N k : Nat) (x0 : List (List PV)) (x1 : List (List PV)) (x2 : Int) (x3 : Int) (x4 : Int) (x5 : Int) (x6 : Int) (x7 : Int) (x8 : Int) (x9 : Int) (x10 : Int) (x11 : Int) (x12 : Int) : ev (envF N) (k + 1) F_ref01_LimitsErr [(.agg [(.sl none [.int .i64, .int .i64] x0), (.sl none [.int .i64, .int .i64] x1), (.int .i64 x2)]), (.agg [(.int .i64 x3), (.int .i64 x4), (.int .i64 x5), (.int .i64 x6), (.int .i64 x7), (.int .i64 x8), (.int .i64 x9), (.int .i64 x10), (.int .i64 x11), (.int .i64 x12)])] =
 ((ev (envF N) k F_ref01_limitErr [(.agg [(.sl none [.int .i64, .int .i64] x0)]), (.agg [(.int .i64 x3), (.int .i64 x4), (.int .i64 x5), (.int .i64 x6), (.int .i64 x7)])]).bind fun r1 =>
 cond (!(decide ((asI r1) = (0 : Int))))
  (some (.int .i64 (asI r1)))
  ((ev (envF N) k F_ref01_limitErr [(.agg [(.sl none [.int .i64, .int .i64] x1)]), (.agg [(.int .i64 x8), (.int .i64 x9), (.int .i64 x10), (.int .i64 x11), (.int .i64 x12)])]).bind fun r3 =>
   some (.int .i64 (asI r3)))) := by kernel_rfl

theorem E_lake_openTask (N k : Nat) (x0 : List (List PV)) (x1 : List (List PV)) (x2 : Int) (x3 : Int) (x4 : Int) (x5 : Int) (x6 : Int) (x7 : Int) (x8 : Int) (x9 : Int) (x10 : Int) (x11 : Int) (x12 : Int) (x13 : Int) (x14 : Int) (x15 : List (List PV)) : ev (envF N) (k + 1) F_lake_openTask [(.agg [(.sl none [.int .i64, .int .i64] x0), (.sl none [.int .i64, .int .i64] x1), (.int .i64 x2)]), (.agg [(.int .i64 x3), (.int .i64 x4)]), (.agg [(.int .i64 x5), (.int .i64 x6), (.int .i64 x7), (.int .i64 x8), (.int .i64 x9), (.int .i64 x10), (.int .i64 x11), (.int .i64 x12), (.int .i64 x13), (.int .i64 x14), (.sl none [.int .i64, .int .i64, .int .i64] x15)])] =
 ((ev (envF N) k F_lake_openState [(.agg [(.sl none [.int .i64, .int .i64] x0), (.sl none [.int .i64, .int .i64] x1), (.int .i64 x2)]), (.agg [(.int .i64 x3), (.int .i64 x4)])]).bind fun r1 =>
 cond (decide ((asI (nth (asT r1) 1)) = (0 : Int)))
  ((ev (envF N) k F_lake_pair_limitsErr [(.agg [(.sl none [.int .i64, .int .i64] (asL (nth (asA (nth (asT r1) 0)) 0))), (.sl none [.int .i64, .int .i64] (asL (nth (asA (nth (asT r1) 0)) 1))), (.int .i64 (asI (nth (asA (nth (asT r1) 0)) 2)))]), (.agg [(.int .i64 x5), (.int .i64 x6), (.int .i64 x7), (.int .i64 x8), (.int .i64 x9), (.int .i64 x10), (.int .i64 x11), (.int .i64 x12), (.int .i64 x13), (.int .i64 x14)])]).bind fun r3 =>
   (ev (envF N) k F_lake_ticksErr [(.sl none [.int .i64, .int .i64, .int .i64] x15)]).bind fun r4 =>
    (ev (envF N) k F_lake_first [(.sl none [.int .i64] [[(.int .i64 (asI r3))], [(.int .i64 (asI r4))]])]).bind fun r5 =>
     some (.tup [(.agg [(.sl none [.int .i64, .int .i64] (asL (nth (asA (nth (asT r1) 0)) 0))), (.sl none [.int .i64, .int .i64] (asL (nth (asA (nth (asT r1) 0)) 1))), (.int .i64 (asI (nth (asA (nth (asT r1) 0)) 2)))]), (.int .i64 (asI r5))]))
  (some (.tup [(.agg [(.sl none [.int .i64, .int .i64] (asL (nth (asA (nth (asT r1) 0)) 0))), (.sl none [.int .i64, .int .i64] (asL (nth (asA (nth (asT r1) 0)) 1))), (.int .i64 (asI (nth (asA (nth (asT r1) 0)) 2)))]), (.int .i64 (asI (nth (asT r1) 1)))]))) := by kernel_rfl

theorem E_ref01_limitErr (N k : Nat) (x0 : List (List PV)) (x1 : Int) (x2 : Int) (x3 : Int) (x4 : Int) (x5 : Int) : ev (envF N) (k + 1) F_ref01_limitErr [(.agg [(.sl none [.int .i64, .int .i64] x0)]), (.agg [(.int .i64 x1), (.int .i64 x2), (.int .i64 x3), (.int .i64 x4), (.int .i64 x5)])] =
 ((ev (envF N) k F_ref01_IsLevel [(.agg [(.sl none [.int .i64, .int .i64] x0)]), (.int .i64 x1)]).bind fun r1 =>
 cond (!(asB r1))
  (some (.int .i64 (2 : Int)))
  ((ev (envF N) k F_ref01_IsLevel [(.agg [(.sl none [.int .i64, .int .i64] x0)]), (.int .i64 x2)]).bind fun r3 =>
   cond (!(asB r3))
    (some (.int .i64 (2 : Int)))
    ((ev (envF N) k F_base_Within [(.int .i64 x3), (.int .i64 (0 : Int)), (.int .i64 (1000000 : Int))]).bind fun r5 =>
     cond (!(asB r5))
      (some (.int .i64 (2 : Int)))
      ((ev (envF N) k F_base_Within [(.int .i64 x4), (.int .i64 (0 : Int)), (.int .i64 (1000000 : Int))]).bind fun r7 =>
       cond (!(asB r7))
        (some (.int .i64 (2 : Int)))
        ((ev (envF N) k F_base_Within [(.int .i64 x5), (.int .i64 (1 : Int)), (.int .i64 (200 : Int))]).bind fun r9 =>
         cond (!(asB r9))
          (some (.int .i64 (2 : Int)))
          (cond (decide (x2 < x1))
           (some (.int .i64 (9 : Int)))
           (some (.int .i64 (0 : Int))))))))) := by kernel_rfl

theorem E_lake_pair_limitsErr (N k : Nat) (x0 : List (List PV)) (x1 : List (List PV)) (x2 : Int) (x3 : Int) (x4 : Int) (x5 : Int) (x6 : Int) (x7 : Int) (x8 : Int) (x9 : Int) (x10 : Int) (x11 : Int) (x12 : Int) : ev (envF N) (k + 1) F_lake_pair_limitsErr [(.agg [(.sl none [.int .i64, .int .i64] x0), (.sl none [.int .i64, .int .i64] x1), (.int .i64 x2)]), (.agg [(.int .i64 x3), (.int .i64 x4), (.int .i64 x5), (.int .i64 x6), (.int .i64 x7), (.int .i64 x8), (.int .i64 x9), (.int .i64 x10), (.int .i64 x11), (.int .i64 x12)])] =
 ((ev (envF N) k F_lake_table_limitErr [(.agg [(.sl none [.int .i64, .int .i64] x0)]), (.agg [(.int .i64 x3), (.int .i64 x4), (.int .i64 x5), (.int .i64 x6), (.int .i64 x7)])]).bind fun r1 =>
 (ev (envF N) k F_lake_table_limitErr [(.agg [(.sl none [.int .i64, .int .i64] x1)]), (.agg [(.int .i64 x8), (.int .i64 x9), (.int .i64 x10), (.int .i64 x11), (.int .i64 x12)])]).bind fun r2 =>
  (ev (envF N) k F_lake_first [(.sl none [.int .i64] [[(.int .i64 (asI r1))], [(.int .i64 (asI r2))]])]).bind fun r3 =>
   some (.int .i64 (asI r3))) := by kernel_rfl

theorem E_lake_violated (N k : Nat) (x0 : Int) (x1 : Int) (x2 : Int) (x3 : Int) (x4 : Int) (x5 : List (List PV)) : ev (envF N) (k + 1) F_lake_violated [(.agg [(.int .i64 x0), (.int .i64 x1), (.int .i64 x2), (.int .i64 x3), (.int .i64 x4)]), (.sl none [.int .i64, .int .i64, .int .i64] x5)] =
 (cond (decide ((0 : Int) ≤ (w64 (((List.length x5) : Int) - (1 : Int)))))
 (cond (decide ((w64 (((List.length x5) : Int) - (1 : Int))) < ((List.length x5) : Int)))
  (cond (decide ((0 : Int) ≤ (imax (0 : Int) (w64 ((w64 (((List.length x5) : Int) - (1 : Int))) - x4)))))
   (cond (decide ((imax (0 : Int) (w64 ((w64 (((List.length x5) : Int) - (1 : Int))) - x4))) < ((List.length x5) : Int)))
    ((ev (envF N) k F_lake_whole [(.int .i64 x0)]).bind fun r5 =>
     (ev (envF N) k F_lake_height_above [(.agg [(.int .i64 (asI (nth (asA r5) 0))), (.int .i64 (asI (nth (asA r5) 1))), (.int .i64 (asI (nth (asA r5) 2)))]), (.agg [(.int .i64 (asI (nth (nths x5 (Int.toNat (w64 ((x5.length : Int) - (1 : Int))))) 0))), (.int .i64 (asI (nth (nths x5 (Int.toNat (w64 ((x5.length : Int) - (1 : Int))))) 1))), (.int .i64 (asI (nth (nths x5 (Int.toNat (w64 ((x5.length : Int) - (1 : Int))))) 2)))]), (.int .i64 (0 : Int))]).bind fun r6 =>
      (ev (envF N) k F_lake_whole [(.int .i64 x1)]).bind fun r7 =>
       (ev (envF N) k F_lake_height_above [(.agg [(.int .i64 (asI (nth (nths x5 (Int.toNat (w64 ((x5.length : Int) - (1 : Int))))) 0))), (.int .i64 (asI (nth (nths x5 (Int.toNat (w64 ((x5.length : Int) - (1 : Int))))) 1))), (.int .i64 (asI (nth (nths x5 (Int.toNat (w64 ((x5.length : Int) - (1 : Int))))) 2)))]), (.agg [(.int .i64 (asI (nth (asA r7) 0))), (.int .i64 (asI (nth (asA r7) 1))), (.int .i64 (asI (nth (asA r7) 2)))]), (.int .i64 (0 : Int))]).bind fun r8 =>
        (ev (envF N) k F_lake_height_above [(.agg [(.int .i64 (asI (nth (nths x5 (Int.toNat (bif true then imax (0 : Int) (w64 (w64 ((x5.length : Int) - (1 : Int)) - x4)) else imin (0 : Int) (w64 (w64 ((x5.length : Int) - (1 : Int)) - x4))))) 0))), (.int .i64 (asI (nth (nths x5 (Int.toNat (bif true then imax (0 : Int) (w64 (w64 ((x5.length : Int) - (1 : Int)) - x4)) else imin (0 : Int) (w64 (w64 ((x5.length : Int) - (1 : Int)) - x4))))) 1))), (.int .i64 (asI (nth (nths x5 (Int.toNat (bif true then imax (0 : Int) (w64 (w64 ((x5.length : Int) - (1 : Int)) - x4)) else imin (0 : Int) (w64 (w64 ((x5.length : Int) - (1 : Int)) - x4))))) 2)))]), (.agg [(.int .i64 (asI (nth (nths x5 (Int.toNat (w64 ((x5.length : Int) - (1 : Int))))) 0))), (.int .i64 (asI (nth (nths x5 (Int.toNat (w64 ((x5.length : Int) - (1 : Int))))) 1))), (.int .i64 (asI (nth (nths x5 (Int.toNat (w64 ((x5.length : Int) - (1 : Int))))) 2)))]), (.int .i64 x2)]).bind fun r9 =>
         (ev (envF N) k F_lake_height_above [(.agg [(.int .i64 (asI (nth (nths x5 (Int.toNat (w64 ((x5.length : Int) - (1 : Int))))) 0))), (.int .i64 (asI (nth (nths x5 (Int.toNat (w64 ((x5.length : Int) - (1 : Int))))) 1))), (.int .i64 (asI (nth (nths x5 (Int.toNat (w64 ((x5.length : Int) - (1 : Int))))) 2)))]), (.agg [(.int .i64 (asI (nth (nths x5 (Int.toNat (bif true then imax (0 : Int) (w64 (w64 ((x5.length : Int) - (1 : Int)) - x4)) else imin (0 : Int) (w64 (w64 ((x5.length : Int) - (1 : Int)) - x4))))) 0))), (.int .i64 (asI (nth (nths x5 (Int.toNat (bif true then imax (0 : Int) (w64 (w64 ((x5.length : Int) - (1 : Int)) - x4)) else imin (0 : Int) (w64 (w64 ((x5.length : Int) - (1 : Int)) - x4))))) 1))), (.int .i64 (asI (nth (nths x5 (Int.toNat (bif true then imax (0 : Int) (w64 (w64 ((x5.length : Int) - (1 : Int)) - x4)) else imin (0 : Int) (w64 (w64 ((x5.length : Int) - (1 : Int)) - x4))))) 2)))]), (.int .i64 x3)]).bind fun r10 =>
          (ev (envF N) k F_slices_Index_bool [(.sl none [.bool] [[(.bool (asB r6))], [(.bool (asB r8))], [(.bool (asB r9))], [(.bool (asB r10))]]), (.bool (true))]).bind fun r11 =>
           some (.tup [(.int .i64 (imax (asI r11) (0 : Int))), (.bool (decide ((0 : Int) ≤ (asI r11))))]))
    (none))
   (none))
  (none))
 (none)) := by kernel_rfl

theorem E_lake_table_limitErr (N k : Nat) (x0 : List (List PV)) (x1 : Int) (x2 : Int) (x3 : Int) (x4 : Int) (x5 : Int) : ev (envF N) (k + 1) F_lake_table_limitErr [(.agg [(.sl none [.int .i64, .int .i64] x0)]), (.agg [(.int .i64 x1), (.int .i64 x2), (.int .i64 x3), (.int .i64 x4), (.int .i64 x5)])] =
 ((ev (envF N) k F_lake_table_limitErr_c1 [(.int .i64 x1), (.rp [(.sl none [.int .i64, .int .i64] x0)] 0)]).bind fun r1 =>
 cond (asB r1)
  ((ev (envF N) k F_lake_table_limitErr_c1 [(.int .i64 x2), (.rp [(.sl none [.int .i64, .int .i64] x0)] 0)]).bind fun r3 =>
   cond (asB r3)
    ((ev (envF N) k F_lake_table_limitErr_c2 [(.int .i64 x3)]).bind fun r5 =>
     cond (asB r5)
      ((ev (envF N) k F_lake_table_limitErr_c2 [(.int .i64 x4)]).bind fun r7 =>
       cond (asB r7)
        ((ev (envF N) k F_lake_within [(.int .i64 x5), (.int .i64 (1 : Int)), (.int .i64 (200 : Int))]).bind fun r9 =>
         (ev (envF N) k F_lake_unless [(.bool (asB r9)), (.int .i64 (2 : Int))]).bind fun r10 =>
          (ev (envF N) k F_lake_unless [(.bool (decide (x1 ≤ x2))), (.int .i64 (9 : Int))]).bind fun r11 =>
           (ev (envF N) k F_lake_first [(.sl none [.int .i64] [[(.int .i64 (asI r10))], [(.int .i64 (asI r11))]])]).bind fun r12 =>
            some (.int .i64 (asI r12)))
        ((ev (envF N) k F_lake_unless [(.bool (false)), (.int .i64 (2 : Int))]).bind fun r9 =>
         (ev (envF N) k F_lake_unless [(.bool (decide (x1 ≤ x2))), (.int .i64 (9 : Int))]).bind fun r10 =>
          (ev (envF N) k F_lake_first [(.sl none [.int .i64] [[(.int .i64 (asI r9))], [(.int .i64 (asI r10))]])]).bind fun r11 =>
           some (.int .i64 (asI r11))))
      ((ev (envF N) k F_lake_unless [(.bool (false)), (.int .i64 (2 : Int))]).bind fun r7 =>
       (ev (envF N) k F_lake_unless [(.bool (decide (x1 ≤ x2))), (.int .i64 (9 : Int))]).bind fun r8 =>
        (ev (envF N) k F_lake_first [(.sl none [.int .i64] [[(.int .i64 (asI r7))], [(.int .i64 (asI r8))]])]).bind fun r9 =>
         some (.int .i64 (asI r9))))
    ((ev (envF N) k F_lake_unless [(.bool (false)), (.int .i64 (2 : Int))]).bind fun r5 =>
     (ev (envF N) k F_lake_unless [(.bool (decide (x1 ≤ x2))), (.int .i64 (9 : Int))]).bind fun r6 =>
      (ev (envF N) k F_lake_first [(.sl none [.int .i64] [[(.int .i64 (asI r5))], [(.int .i64 (asI r6))]])]).bind fun r7 =>
       some (.int .i64 (asI r7))))
  ((ev (envF N) k F_lake_unless [(.bool (false)), (.int .i64 (2 : Int))]).bind fun r3 =>
   (ev (envF N) k F_lake_unless [(.bool (decide (x1 ≤ x2))), (.int .i64 (9 : Int))]).bind fun r4 =>
    (ev (envF N) k F_lake_first [(.sl none [.int .i64] [[(.int .i64 (asI r3))], [(.int .i64 (asI r4))]])]).bind fun r5 =>
     some (.int .i64 (asI r5)))) := by kernel_rfl

theorem E_lake_whole (N k : Nat) (x0 : Int) : ev (envF N) (k + 1) F_lake_whole [(.int .i64 x0)] =
 (some (.agg [(.int .i64 x0), (.int .i64 (0 : Int)), (.int .i64 (1 : Int))])) := by kernel_rfl

theorem E_lake_height_above (N k : Nat) (x0 : Int) (x1 : Int) (x2 : Int) (x3 : Int) (x4 : Int) (x5 : Int) (x6 : Int) : ev (envF N) (k + 1) F_lake_height_above [(.agg [(.int .i64 x0), (.int .i64 x1), (.int .i64 x2)]), (.agg [(.int .i64 x3), (.int .i64 x4), (.int .i64 x5)]), (.int .i64 x6)] =
 (cond (!(decide ((w64 ((w64 (x0 - x3)) - x6)) = (0 : Int))))
 (some (.bool (decide ((0 : Int) < (w64 ((w64 (x0 - x3)) - x6))))))
 (some (.bool (decide ((w64 (x4 * x2)) < (w64 (x1 * x5))))))) := by kernel_rfl

/-- Loop 2 of slices_Index_bool. -/
noncomputable def L_slices_Index_bool_2 (N k n2  : Nat) (x0 : List (List PV)) (x1 : Bool) (x2 : Int) (x3 : Int) : Option PV := loopAt (envF N) (ev (envF N) k) (evI (envF N) k) F_slices_Index_bool Go.Proofs.Try.f182 [.r, .l, .r, .b] n2 { slots := ((.sl none [.bool] x0) :: (.bool x1) :: und 5 ((.int .i64 x2) :: (.int .i64 x3) :: und 10 [])), boxes := (nos 19 []), vers := List.replicate 19 0 }
theorem L_slices_Index_bool_2_eq (N k n2  : Nat) (x0 : List (List PV)) (x1 : Bool) (x2 : Int) (x3 : Int) : L_slices_Index_bool_2 N k (n2 + 1)  x0 x1 x2 x3 =
 (cond (decide (x3 < x2))
 (cond (decide ((0 : Int) ≤ x3))
  (cond (decide (x3 < ((List.length x0) : Int)))
   (cond (x1 == asB (nth (nths x0 (Int.toNat x3)) 0))
    (some (.int .i64 x3))
    (L_slices_Index_bool_2 N k n2  x0 x1 x2 (w64 (x3 + (1 : Int)))))
   (none))
  (none))
 (some (.int .i64 (-1 : Int)))) := by kernel_rfl
theorem E_slices_Index_bool (N k : Nat) (x0 : List (List PV)) (x1 : Bool) : ev (envF N) (k + 1) F_slices_Index_bool [(.sl none [.bool] x0), (.bool x1)] =
 (L_slices_Index_bool_2 N k N  x0 x1 ((List.length x0) : Int) (0 : Int)) := by kernel_rfl

theorem E_lake_table_limitErr_c1 (N k : Nat) (x0 : Int) (x1 : List (List PV)) : ev (envF N) (k + 1) F_lake_table_limitErr_c1 [(.int .i64 x0), (.rp [(.sl none [.int .i64, .int .i64] x1)] 0)] =
 ((ev (envF N) k F_lake_table_bottom [(.agg [(.sl none [.int .i64, .int .i64] x1)])]).bind fun r1 =>
 (ev (envF N) k F_lake_table_top [(.agg [(.sl none [.int .i64, .int .i64] x1)])]).bind fun r2 =>
  (ev (envF N) k F_lake_within [(.int .i64 x0), (.int .i64 (asI (nth (asA r1) 0))), (.int .i64 (asI (nth (asA r2) 0)))]).bind fun r3 =>
   some (.bool (asB r3))) := by kernel_rfl

theorem E_lake_table_limitErr_c2 (N k : Nat) (x0 : Int) : ev (envF N) (k + 1) F_lake_table_limitErr_c2 [(.int .i64 x0)] =
 ((ev (envF N) k F_lake_within [(.int .i64 x0), (.int .i64 (0 : Int)), (.int .i64 (1000000 : Int))]).bind fun r1 =>
 some (.bool (asB r1))) := by kernel_rfl

end Go.PewTab

namespace Go.PewTab
set_option linter.unusedSimpArgs false
set_option linter.unusedVariables false
open Go.Pew Go
set_option maxRecDepth 100000
set_option linter.unusedVariables false

/-- slices.Values over flows. -/
noncomputable def I_Values (N k n : Nat) (xs : List (List PV)) (m i : Int) : Option (List (List PV)) :=
  loopAtI (envF N) (ev (envF N) k) (evI (envF N) k) 148 Go.Proofs.Try.f148 [.r, .b] n
    { slots := .yld :: und 4 (.sl none [.int .i64, .int .i64, .int .i64] xs :: .int .i64 m :: .int .i64 i :: und 8 []), boxes := nos 16 [], vers := List.replicate 16 0 }

theorem I_Values_eq (N k n : Nat) (xs : List (List PV)) (m i : Int) : I_Values N k (n + 1) xs m i =
  cond (decide (i < m))
   (cond (decide ((0 : Int) ≤ i))
    (cond (decide (i < ((List.length xs) : Int)))
     (emitI [.agg [.int .i64 (asI (nth (nths xs (Int.toNat i)) 0)), .int .i64 (asI (nth (nths xs (Int.toNat i)) 1)), .int .i64 (asI (nth (nths xs (Int.toNat i)) 2))]] (I_Values N k n xs m (w64 (i + (1 : Int)))) (some []))
     none)
    none)
   (some []) := by kernel_rfl

theorem E_Values (N k : Nat) (xs : List (List PV)) : evI (envF N) (k + 1) F_slices_Values_LakeFlows_c1 [.rp [.sl none [.int .i64, .int .i64, .int .i64] xs] 0] none [] =
  I_Values N k N xs ((List.length xs) : Int) (0 : Int) := by kernel_rfl

end Go.PewTab

namespace Go.PewTab
set_option linter.unusedSimpArgs false
set_option linter.unusedVariables false
open Go.Pew Go
set_option maxRecDepth 100000
set_option linter.unusedVariables false

/-- The loop over an iterator 7 of lake_ViolationOf. -/
noncomputable def R_lake_ViolationOf_7 (N k : Nat) (rest : List (List PV)) (x0 : List (List PV)) (x1 : List (List PV)) (x2 : Int) (x3 : Int) (x4 : Int) (x5 : Int) (x6 : Int) (x7 : Int) (x8 : Int) (x9 : Int) (x10 : Int) (x11 : Int) (x12 : Int) (x13 : Int) (x14 : Int) (x15 : List (List PV)) (x16 : Int) (x17 : List (List PV)) (x18 : List (List PV)) (x19 : Int) (x20 : Int) (x21 : List (List PV)) (x22 : List (List PV)) (x23 : Int) (x24 : Int) (x25 : Int) (x26 : Int) (x27 : Int) (x28 : Int) (x29 : Int) (x30 : Int) (x31 : Int) (x32 : Int) (x33 : Int) (x34 : Int) (x35 : Int) (x36 : List (List PV)) (x37 : List (List PV)) (x38 : List (List PV)) (x39 : Int) (x40 : Int) (x41 : List (List PV)) (x42 : List (List PV)) (x43 : Int) (x44 : Int) (x45 : Int) (x46 : Bool) (x47 : List (List PV)) (x48 : List (List PV)) (x49 : Int) (x50 : Int) (x51 : Int) (x52 : Int) (x53 : Int) (x54 : Int) (x55 : Int) (x56 : Int) (x57 : Int) (x58 : Int) (x59 : Int) (x60 : Int) (x61 : Int) (x62 : List (List PV)) (x63 : List (List PV)) (x64 : List (List PV)) (x65 : List (List PV)) (x66 : Int) (x67 : Int) (x68 : Int) (x69 : Int) (x70 : Int) (x71 : Int) (x72 : Int) (x73 : Int) (x74 : Int) (x75 : Int) (x76 : Int) (x77 : Int) (x78 : Int) (x79 : List (List PV)) (x80 : Int) (x81 : Int) (x82 : Int) (x83 : Int) (x84 : List (List PV)) (x85 : List (List PV)) (x86 : Int) : Option PV := rangeAt (envF N) (ev (envF N) k) (evI (envF N) k) F_lake_ViolationOf Go.Proofs.Try.f43 [.r, .r, .r, .l, .r, .b] [30] rest { slots := ((.agg [(.sl none [.int .i64, .int .i64] x0), (.sl none [.int .i64, .int .i64] x1), (.int .i64 x2)]) :: (.agg [(.int .i64 x3), (.int .i64 x4)]) :: (.agg [(.int .i64 x5), (.int .i64 x6), (.int .i64 x7), (.int .i64 x8), (.int .i64 x9), (.int .i64 x10), (.int .i64 x11), (.int .i64 x12), (.int .i64 x13), (.int .i64 x14), (.sl none [.int .i64, .int .i64, .int .i64] x15)]) :: (.ptr 3 0) :: (.ptr 4 0) :: (.ptr 5 0) :: (.ptr 6 0) :: (.ptr 7 0) :: (.ptr 8 0) :: (.int .i64 x16) :: und 2 ((.tup [(.agg [(.sl none [.int .i64, .int .i64] x17), (.sl none [.int .i64, .int .i64] x18), (.int .i64 x19)]), (.int .i64 x20)]) :: (.agg [(.sl none [.int .i64, .int .i64] x21), (.sl none [.int .i64, .int .i64] x22), (.int .i64 x23)]) :: (.agg [(.int .i64 x24), (.int .i64 x25)]) :: (.agg [(.int .i64 x26), (.int .i64 x27), (.int .i64 x28), (.int .i64 x29), (.int .i64 x30), (.int .i64 x31), (.int .i64 x32), (.int .i64 x33), (.int .i64 x34), (.int .i64 x35), (.sl none [.int .i64, .int .i64, .int .i64] x36)]) :: (.tup [(.agg [(.sl none [.int .i64, .int .i64] x37), (.sl none [.int .i64, .int .i64] x38), (.int .i64 x39)]), (.int .i64 x40)]) :: (.agg [(.sl none [.int .i64, .int .i64] x41), (.sl none [.int .i64, .int .i64] x42), (.int .i64 x43)]) :: (.int .i64 x44) :: (.int .i64 x45) :: (.bool x46) :: und 2 ((.agg [(.sl none [.int .i64, .int .i64] x47), (.sl none [.int .i64, .int .i64] x48), (.int .i64 x49)]) :: (.agg [(.int .i64 x50), (.int .i64 x51)]) :: (.ptr 5 0) :: (.agg [(.int .i64 x52), (.int .i64 x53), (.int .i64 x54), (.int .i64 x55), (.int .i64 x56), (.int .i64 x57), (.int .i64 x58), (.int .i64 x59), (.int .i64 x60), (.int .i64 x61)]) :: (.ptr 5 10) :: (.sl none [.int .i64, .int .i64, .int .i64] x62) :: (.fn F_slices_Values_LakeFlows_c1 [(.rp [(.sl none [.int .i64, .int .i64, .int .i64] x63)] 0)]) :: und 12 []))), boxes := (nos 3 ((some (.cells [(.sl none [.int .i64, .int .i64] x64), (.sl none [.int .i64, .int .i64] x65), (.int .i64 x66)] false)) :: (some (.cells [(.int .i64 x67), (.int .i64 x68)] false)) :: (some (.cells [(.int .i64 x69), (.int .i64 x70), (.int .i64 x71), (.int .i64 x72), (.int .i64 x73), (.int .i64 x74), (.int .i64 x75), (.int .i64 x76), (.int .i64 x77), (.int .i64 x78), (.sl none [.int .i64, .int .i64, .int .i64] x79)] false)) :: (some (.cells [(.int .i64 x80), (.int .i64 x81), (.int .i64 x82)] false)) :: (some (.cells [(.int .i64 x83)] false)) :: (some (.cells [(.sl none [.int .i64, .int .i64] x84), (.sl none [.int .i64, .int .i64] x85), (.int .i64 x86)] false)) :: nos 33 [])), vers := List.replicate 42 0 }
theorem R_lake_ViolationOf_7_eq0 (N k : Nat) (rest : List (List PV)) (x0 : List (List PV)) (x1 : List (List PV)) (x2 : Int) (x3 : Int) (x4 : Int) (x5 : Int) (x6 : Int) (x7 : Int) (x8 : Int) (x9 : Int) (x10 : Int) (x11 : Int) (x12 : Int) (x13 : Int) (x14 : Int) (x15 : List (List PV)) (x16 : Int) (x17 : List (List PV)) (x18 : List (List PV)) (x19 : Int) (x20 : Int) (x21 : List (List PV)) (x22 : List (List PV)) (x23 : Int) (x24 : Int) (x25 : Int) (x26 : Int) (x27 : Int) (x28 : Int) (x29 : Int) (x30 : Int) (x31 : Int) (x32 : Int) (x33 : Int) (x34 : Int) (x35 : Int) (x36 : List (List PV)) (x37 : List (List PV)) (x38 : List (List PV)) (x39 : Int) (x40 : Int) (x41 : List (List PV)) (x42 : List (List PV)) (x43 : Int) (x44 : Int) (x45 : Int) (x46 : Bool) (x47 : List (List PV)) (x48 : List (List PV)) (x49 : Int) (x50 : Int) (x51 : Int) (x52 : Int) (x53 : Int) (x54 : Int) (x55 : Int) (x56 : Int) (x57 : Int) (x58 : Int) (x59 : Int) (x60 : Int) (x61 : Int) (x62 : List (List PV)) (x63 : List (List PV)) (x64 : List (List PV)) (x65 : List (List PV)) (x66 : Int) (x67 : Int) (x68 : Int) (x69 : Int) (x70 : Int) (x71 : Int) (x72 : Int) (x73 : Int) (x74 : Int) (x75 : Int) (x76 : Int) (x77 : Int) (x78 : Int) (x79 : List (List PV)) (x80 : Int) (x81 : Int) (x82 : Int) (x83 : Int) (x84 : List (List PV)) (x85 : List (List PV)) (x86 : Int) (b0 : Bool) : R_lake_ViolationOf_7 N k ([(.bool b0), .nilp] :: rest) x0 x1 x2 x3 x4 x5 x6 x7 x8 x9 x10 x11 x12 x13 x14 x15 x16 x17 x18 x19 x20 x21 x22 x23 x24 x25 x26 x27 x28 x29 x30 x31 x32 x33 x34 x35 x36 x37 x38 x39 x40 x41 x42 x43 x44 x45 x46 x47 x48 x49 x50 x51 x52 x53 x54 x55 x56 x57 x58 x59 x60 x61 x62 x63 x64 x65 x66 x67 x68 x69 x70 x71 x72 x73 x74 x75 x76 x77 x78 x79 x80 x81 x82 x83 x84 x85 x86 =
 (cond (!b0)
 (some (.tup [(.agg [(.int .i64 (0 : Int)), (.int .i64 (0 : Int)), (.int .i64 (0 : Int))]), (.int .i64 (22 : Int))]))
 (R_lake_ViolationOf_7 N k rest x0 x1 x2 x3 x4 x5 x6 x7 x8 x9 x10 x11 x12 x13 x14 x15 x16 x17 x18 x19 x20 x21 x22 x23 x24 x25 x26 x27 x28 x29 x30 x31 x32 x33 x34 x35 x36 x37 x38 x39 x40 x41 x42 x43 x44 x45 x46 x47 x48 x49 x50 x51 x52 x53 x54 x55 x56 x57 x58 x59 x60 x61 x62 x63 x64 x65 x66 x67 x68 x69 x70 x71 x72 x73 x74 x75 x76 x77 x78 x79 x80 x81 x82 x83 x84 x85 x86)) := by kernel_rfl
theorem R_lake_ViolationOf_7_eq1 (N k : Nat) (rest : List (List PV)) (x0 : List (List PV)) (x1 : List (List PV)) (x2 : Int) (x3 : Int) (x4 : Int) (x5 : Int) (x6 : Int) (x7 : Int) (x8 : Int) (x9 : Int) (x10 : Int) (x11 : Int) (x12 : Int) (x13 : Int) (x14 : Int) (x15 : List (List PV)) (x16 : Int) (x17 : List (List PV)) (x18 : List (List PV)) (x19 : Int) (x20 : Int) (x21 : List (List PV)) (x22 : List (List PV)) (x23 : Int) (x24 : Int) (x25 : Int) (x26 : Int) (x27 : Int) (x28 : Int) (x29 : Int) (x30 : Int) (x31 : Int) (x32 : Int) (x33 : Int) (x34 : Int) (x35 : Int) (x36 : List (List PV)) (x37 : List (List PV)) (x38 : List (List PV)) (x39 : Int) (x40 : Int) (x41 : List (List PV)) (x42 : List (List PV)) (x43 : Int) (x44 : Int) (x45 : Int) (x46 : Bool) (x47 : List (List PV)) (x48 : List (List PV)) (x49 : Int) (x50 : Int) (x51 : Int) (x52 : Int) (x53 : Int) (x54 : Int) (x55 : Int) (x56 : Int) (x57 : Int) (x58 : Int) (x59 : Int) (x60 : Int) (x61 : Int) (x62 : List (List PV)) (x63 : List (List PV)) (x64 : List (List PV)) (x65 : List (List PV)) (x66 : Int) (x67 : Int) (x68 : Int) (x69 : Int) (x70 : Int) (x71 : Int) (x72 : Int) (x73 : Int) (x74 : Int) (x75 : Int) (x76 : Int) (x77 : Int) (x78 : Int) (x79 : List (List PV)) (x80 : Int) (x81 : Int) (x82 : Int) (x83 : Int) (x84 : List (List PV)) (x85 : List (List PV)) (x86 : Int) (b0 : Bool) (y0 : Int) (y1 : Int) (y2 : Int) : R_lake_ViolationOf_7 N k ([(.bool b0), (.rp [(.int .i64 y0), (.int .i64 y1), (.int .i64 y2)] 0)] :: rest) x0 x1 x2 x3 x4 x5 x6 x7 x8 x9 x10 x11 x12 x13 x14 x15 x16 x17 x18 x19 x20 x21 x22 x23 x24 x25 x26 x27 x28 x29 x30 x31 x32 x33 x34 x35 x36 x37 x38 x39 x40 x41 x42 x43 x44 x45 x46 x47 x48 x49 x50 x51 x52 x53 x54 x55 x56 x57 x58 x59 x60 x61 x62 x63 x64 x65 x66 x67 x68 x69 x70 x71 x72 x73 x74 x75 x76 x77 x78 x79 x80 x81 x82 x83 x84 x85 x86 =
 (cond (!b0)
 (some (.tup [(.agg [(.int .i64 (0 : Int)), (.int .i64 (0 : Int)), (.int .i64 (0 : Int))]), (.int .i64 (22 : Int))]))
 (some (.tup [(.agg [(.int .i64 y0), (.int .i64 y1), (.int .i64 y2)]), (.int .i64 (0 : Int))]))) := by kernel_rfl
theorem R_lake_ViolationOf_7_end (N k : Nat) (x0 : List (List PV)) (x1 : List (List PV)) (x2 : Int) (x3 : Int) (x4 : Int) (x5 : Int) (x6 : Int) (x7 : Int) (x8 : Int) (x9 : Int) (x10 : Int) (x11 : Int) (x12 : Int) (x13 : Int) (x14 : Int) (x15 : List (List PV)) (x16 : Int) (x17 : List (List PV)) (x18 : List (List PV)) (x19 : Int) (x20 : Int) (x21 : List (List PV)) (x22 : List (List PV)) (x23 : Int) (x24 : Int) (x25 : Int) (x26 : Int) (x27 : Int) (x28 : Int) (x29 : Int) (x30 : Int) (x31 : Int) (x32 : Int) (x33 : Int) (x34 : Int) (x35 : Int) (x36 : List (List PV)) (x37 : List (List PV)) (x38 : List (List PV)) (x39 : Int) (x40 : Int) (x41 : List (List PV)) (x42 : List (List PV)) (x43 : Int) (x44 : Int) (x45 : Int) (x46 : Bool) (x47 : List (List PV)) (x48 : List (List PV)) (x49 : Int) (x50 : Int) (x51 : Int) (x52 : Int) (x53 : Int) (x54 : Int) (x55 : Int) (x56 : Int) (x57 : Int) (x58 : Int) (x59 : Int) (x60 : Int) (x61 : Int) (x62 : List (List PV)) (x63 : List (List PV)) (x64 : List (List PV)) (x65 : List (List PV)) (x66 : Int) (x67 : Int) (x68 : Int) (x69 : Int) (x70 : Int) (x71 : Int) (x72 : Int) (x73 : Int) (x74 : Int) (x75 : Int) (x76 : Int) (x77 : Int) (x78 : Int) (x79 : List (List PV)) (x80 : Int) (x81 : Int) (x82 : Int) (x83 : Int) (x84 : List (List PV)) (x85 : List (List PV)) (x86 : Int) : R_lake_ViolationOf_7 N k [] x0 x1 x2 x3 x4 x5 x6 x7 x8 x9 x10 x11 x12 x13 x14 x15 x16 x17 x18 x19 x20 x21 x22 x23 x24 x25 x26 x27 x28 x29 x30 x31 x32 x33 x34 x35 x36 x37 x38 x39 x40 x41 x42 x43 x44 x45 x46 x47 x48 x49 x50 x51 x52 x53 x54 x55 x56 x57 x58 x59 x60 x61 x62 x63 x64 x65 x66 x67 x68 x69 x70 x71 x72 x73 x74 x75 x76 x77 x78 x79 x80 x81 x82 x83 x84 x85 x86 =
 (some (.tup [(.agg [(.int .i64 (0 : Int)), (.int .i64 (0 : Int)), (.int .i64 (0 : Int))]), (.int .i64 (12 : Int))])) := by kernel_rfl
theorem E_lake_ViolationOf (N k : Nat) (x0 : List (List PV)) (x1 : List (List PV)) (x2 : Int) (x3 : Int) (x4 : Int) (x5 : Int) (x6 : Int) (x7 : Int) (x8 : Int) (x9 : Int) (x10 : Int) (x11 : Int) (x12 : Int) (x13 : Int) (x14 : Int) (x15 : List (List PV)) : ev (envF N) (k + 1) F_lake_ViolationOf [(.agg [(.sl none [.int .i64, .int .i64] x0), (.sl none [.int .i64, .int .i64] x1), (.int .i64 x2)]), (.agg [(.int .i64 x3), (.int .i64 x4)]), (.agg [(.int .i64 x5), (.int .i64 x6), (.int .i64 x7), (.int .i64 x8), (.int .i64 x9), (.int .i64 x10), (.int .i64 x11), (.int .i64 x12), (.int .i64 x13), (.int .i64 x14), (.sl none [.int .i64, .int .i64, .int .i64] x15)])] =
 ((ev (envF N) k F_lake_openTask [(.agg [(.sl none [.int .i64, .int .i64] x0), (.sl none [.int .i64, .int .i64] x1), (.int .i64 x2)]), (.agg [(.int .i64 x3), (.int .i64 x4)]), (.agg [(.int .i64 x5), (.int .i64 x6), (.int .i64 x7), (.int .i64 x8), (.int .i64 x9), (.int .i64 x10), (.int .i64 x11), (.int .i64 x12), (.int .i64 x13), (.int .i64 x14), (.sl none [.int .i64, .int .i64, .int .i64] x15)])]).bind fun r1 =>
 cond (!(decide ((asI (nth (asT r1) 1)) = (0 : Int))))
  (some (.tup [(.agg [(.int .i64 (0 : Int)), (.int .i64 (0 : Int)), (.int .i64 (0 : Int))]), (.int .i64 (asI (nth (asT r1) 1)))]))
  ((evI (envF N) k F_lake_pair_watch_c1 [(.rp [(.sl none [.int .i64, .int .i64] (asL (nth (asA (nth (asT r1) 0)) 0))), (.sl none [.int .i64, .int .i64] (asL (nth (asA (nth (asT r1) 0)) 1))), (.int .i64 (asI (nth (asA (nth (asT r1) 0)) 2)))] 0)] (some [(.int .i64 x3), (.int .i64 x4)]) [(.rp [(.fn F_slices_Values_LakeFlows_c1 [(.rp [(.sl none [.int .i64, .int .i64, .int .i64] x15)] 0)])] 0), (.rp [(.int .i64 x5), (.int .i64 x6), (.int .i64 x7), (.int .i64 x8), (.int .i64 x9), (.int .i64 x10), (.int .i64 x11), (.int .i64 x12), (.int .i64 x13), (.int .i64 x14)] 0)]).bind fun r3 =>
   R_lake_ViolationOf_7 N k r3 x0 x1 x2 x3 x4 x5 x6 x7 x8 x9 x10 x11 x12 x13 x14 x15 (asI (nth (asT r1) 1)) (asL (nth (asA (nth (asT r1) 0)) 0)) (asL (nth (asA (nth (asT r1) 0)) 1)) (asI (nth (asA (nth (asT r1) 0)) 2)) (asI (nth (asT r1) 1)) x0 x1 x2 x3 x4 x5 x6 x7 x8 x9 x10 x11 x12 x13 x14 x15 (asL (nth (asA (nth (asT r1) 0)) 0)) (asL (nth (asA (nth (asT r1) 0)) 1)) (asI (nth (asA (nth (asT r1) 0)) 2)) (asI (nth (asT r1) 1)) (asL (nth (asA (nth (asT r1) 0)) 0)) (asL (nth (asA (nth (asT r1) 0)) 1)) (asI (nth (asA (nth (asT r1) 0)) 2)) (asI (nth (asT r1) 1)) (asI (nth (asT r1) 1)) (false) (asL (nth (asA (nth (asT r1) 0)) 0)) (asL (nth (asA (nth (asT r1) 0)) 1)) (asI (nth (asA (nth (asT r1) 0)) 2)) x3 x4 x5 x6 x7 x8 x9 x10 x11 x12 x13 x14 x15 x15 x0 x1 x2 x3 x4 x5 x6 x7 x8 x9 x10 x11 x12 x13 x14 x15 (0 : Int) (0 : Int) (0 : Int) (0 : Int) (asL (nth (asA (nth (asT r1) 0)) 0)) (asL (nth (asA (nth (asT r1) 0)) 1)) (asI (nth (asA (nth (asT r1) 0)) 2)))) := by kernel_rfl

/-- The loop over an iterator 5 of lake_pair_watch_c1. -/
noncomputable def R_lake_pair_watch_c1_5 (N k : Nat) (rest : List (List PV)) (x0 : List (List PV)) (x1 : List (List PV)) (x2 : Int) (x3 : List (List PV)) (x4 : Int) (x5 : Int) (x6 : Int) (x7 : Int) (x8 : Int) (x9 : Int) (x10 : Int) (x11 : Int) (x12 : Int) (x13 : Int) (x14 : Int) (x15 : Int) (x16 : List (List PV)) (x17 : List (List PV)) (x18 : Int) : Option (List (List PV)) := rangeAtI (envF (N + 3)) (ev (envF (N + 3)) k) (evI (envF (N + 3)) k) F_lake_pair_watch_c1 Go.Proofs.Try.f146 [.r, .r, .r, .r, .b] [] rest { slots := ((PV.yld) :: (.rp [(.sl none [.int .i64, .int .i64] x0), (.sl none [.int .i64, .int .i64] x1), (.int .i64 x2)] 0) :: (.ptr 2 0) :: (.rp [(.fn F_slices_Values_LakeFlows_c1 [(.rp [(.sl none [.int .i64, .int .i64, .int .i64] x3)] 0)])] 0) :: (.rp [(.int .i64 x4), (.int .i64 x5), (.int .i64 x6), (.int .i64 x7), (.int .i64 x8), (.int .i64 x9), (.int .i64 x10), (.int .i64 x11), (.int .i64 x12), (.int .i64 x13)] 0) :: (.ptr 5 0) :: (.ptr 6 0) :: (.ptr 7 0) :: und 94 []), boxes := (nos 2 ((some (.cells [(.int .i64 x14), (.int .i64 x15)] false)) :: nos 2 ((some (.cells [(PV.yld)] false)) :: (some (.cells [(.sl (some (24, 0)) [.int .i64, .int .i64, .int .i64] x16), (.sl (some (31, 0)) [.int .i64, .int .i64, .int .i64] x17)] false)) :: (some (.cells [(.int .i64 x18)] false)) :: nos 94 []))), vers := List.replicate 102 0 }
theorem R_lake_pair_watch_c1_5_eq0 (N k : Nat) (rest : List (List PV)) (x0 : List (List PV)) (x1 : List (List PV)) (x2 : Int) (x3 : List (List PV)) (x4 : Int) (x5 : Int) (x6 : Int) (x7 : Int) (x8 : Int) (x9 : Int) (x10 : Int) (x11 : Int) (x12 : Int) (x13 : Int) (x14 : Int) (x15 : Int) (x16 : List (List PV)) (x17 : List (List PV)) (x18 : Int) (y0 : Int) (y1 : Int) (y2 : Int) : R_lake_pair_watch_c1_5 N k ([(.agg [(.int .i64 y0), (.int .i64 y1), (.int .i64 y2)])] :: rest) x0 x1 x2 x3 x4 x5 x6 x7 x8 x9 x10 x11 x12 x13 x14 x15 x16 x17 x18 =
 ((ev (envF (N + 3)) k F_lake_pair_step [(.agg [(.sl none [.int .i64, .int .i64] x0), (.sl none [.int .i64, .int .i64] x1), (.int .i64 x2)]), (.agg [(.int .i64 x14), (.int .i64 x15)]), (.agg [(.int .i64 y0), (.int .i64 y1), (.int .i64 y2)])]).bind fun r1 =>
 cond (!(asB (nth (asT r1) 2)))
  (emitI [(.bool (false)), .nilp]
   (some [])
   (some []))
  ((ev (envF (N + 3)) k F_lake_table_levelAt [(.agg [(.sl none [.int .i64, .int .i64] x0)]), (.int .i64 (asI (nth (asA (nth (asT r1) 0)) 0)))]).bind fun r3 =>
   cond (room x16 [[(.int .i64 (asI (nth (asA r3) 0))), (.int .i64 (asI (nth (asA r3) 1))), (.int .i64 (asI (nth (asA r3) 2)))]] 24)
    ((ev (envF (N + 3)) k F_lake_violated [(.agg [(.int .i64 x4), (.int .i64 x5), (.int .i64 x6), (.int .i64 x7), (.int .i64 x8)]), (.sl none [.int .i64, .int .i64, .int .i64] (x16 ++ [[(.int .i64 (asI (nth (asA r3) 0))), (.int .i64 (asI (nth (asA r3) 1))), (.int .i64 (asI (nth (asA r3) 2)))]]))]).bind fun r5 =>
     cond (asB (nth (asT r5) 1))
      ((ev (envF (N + 3)) k F_lake_table_levelAt [(.agg [(.sl none [.int .i64, .int .i64] x1)]), (.int .i64 (asI (nth (asA (nth (asT r1) 0)) 1)))]).bind fun r7 =>
       cond (room x17 [[(.int .i64 (asI (nth (asA r7) 0))), (.int .i64 (asI (nth (asA r7) 1))), (.int .i64 (asI (nth (asA r7) 2)))]] 24)
        ((ev (envF (N + 3)) k F_lake_violated [(.agg [(.int .i64 x9), (.int .i64 x10), (.int .i64 x11), (.int .i64 x12), (.int .i64 x13)]), (.sl none [.int .i64, .int .i64, .int .i64] (x17 ++ [[(.int .i64 (asI (nth (asA r7) 0))), (.int .i64 (asI (nth (asA r7) 1))), (.int .i64 (asI (nth (asA r7) 2)))]]))]).bind fun r9 =>
         cond (asB (nth (asT r9) 1))
          (emitI [(.bool (true)), (.rp [(.int .i64 (w64 (x18 + (1 : Int)))), (.int .i64 (0 : Int)), (.int .i64 (asI (nth (asT r5) 0)))] 0)]
           (R_lake_pair_watch_c1_5 N k rest x0 x1 x2 x3 x4 x5 x6 x7 x8 x9 x10 x11 x12 x13 (asI (nth (asA (nth (asT r1) 0)) 0)) (asI (nth (asA (nth (asT r1) 0)) 1)) (x16 ++ [[(.int .i64 (asI (nth (asA r3) 0))), (.int .i64 (asI (nth (asA r3) 1))), (.int .i64 (asI (nth (asA r3) 2)))]]) (x17 ++ [[(.int .i64 (asI (nth (asA r7) 0))), (.int .i64 (asI (nth (asA r7) 1))), (.int .i64 (asI (nth (asA r7) 2)))]]) (w64 (x18 + (1 : Int))))
           (some []))
          (emitI [(.bool (true)), (.rp [(.int .i64 (w64 (x18 + (1 : Int)))), (.int .i64 (0 : Int)), (.int .i64 (asI (nth (asT r5) 0)))] 0)]
           (R_lake_pair_watch_c1_5 N k rest x0 x1 x2 x3 x4 x5 x6 x7 x8 x9 x10 x11 x12 x13 (asI (nth (asA (nth (asT r1) 0)) 0)) (asI (nth (asA (nth (asT r1) 0)) 1)) (x16 ++ [[(.int .i64 (asI (nth (asA r3) 0))), (.int .i64 (asI (nth (asA r3) 1))), (.int .i64 (asI (nth (asA r3) 2)))]]) (x17 ++ [[(.int .i64 (asI (nth (asA r7) 0))), (.int .i64 (asI (nth (asA r7) 1))), (.int .i64 (asI (nth (asA r7) 2)))]]) (w64 (x18 + (1 : Int))))
           (some [])))
        (none))
      ((ev (envF (N + 3)) k F_lake_table_levelAt [(.agg [(.sl none [.int .i64, .int .i64] x1)]), (.int .i64 (asI (nth (asA (nth (asT r1) 0)) 1)))]).bind fun r7 =>
       cond (room x17 [[(.int .i64 (asI (nth (asA r7) 0))), (.int .i64 (asI (nth (asA r7) 1))), (.int .i64 (asI (nth (asA r7) 2)))]] 24)
        ((ev (envF (N + 3)) k F_lake_violated [(.agg [(.int .i64 x9), (.int .i64 x10), (.int .i64 x11), (.int .i64 x12), (.int .i64 x13)]), (.sl none [.int .i64, .int .i64, .int .i64] (x17 ++ [[(.int .i64 (asI (nth (asA r7) 0))), (.int .i64 (asI (nth (asA r7) 1))), (.int .i64 (asI (nth (asA r7) 2)))]]))]).bind fun r9 =>
         cond (asB (nth (asT r9) 1))
          (emitI [(.bool (true)), (.rp [(.int .i64 (w64 (x18 + (1 : Int)))), (.int .i64 (w64 ((0 : Int) + (1 : Int)))), (.int .i64 (asI (nth (asT r9) 0)))] 0)]
           (R_lake_pair_watch_c1_5 N k rest x0 x1 x2 x3 x4 x5 x6 x7 x8 x9 x10 x11 x12 x13 (asI (nth (asA (nth (asT r1) 0)) 0)) (asI (nth (asA (nth (asT r1) 0)) 1)) (x16 ++ [[(.int .i64 (asI (nth (asA r3) 0))), (.int .i64 (asI (nth (asA r3) 1))), (.int .i64 (asI (nth (asA r3) 2)))]]) (x17 ++ [[(.int .i64 (asI (nth (asA r7) 0))), (.int .i64 (asI (nth (asA r7) 1))), (.int .i64 (asI (nth (asA r7) 2)))]]) (w64 (x18 + (1 : Int))))
           (some []))
          (emitI [(.bool (true)), .nilp]
           (R_lake_pair_watch_c1_5 N k rest x0 x1 x2 x3 x4 x5 x6 x7 x8 x9 x10 x11 x12 x13 (asI (nth (asA (nth (asT r1) 0)) 0)) (asI (nth (asA (nth (asT r1) 0)) 1)) (x16 ++ [[(.int .i64 (asI (nth (asA r3) 0))), (.int .i64 (asI (nth (asA r3) 1))), (.int .i64 (asI (nth (asA r3) 2)))]]) (x17 ++ [[(.int .i64 (asI (nth (asA r7) 0))), (.int .i64 (asI (nth (asA r7) 1))), (.int .i64 (asI (nth (asA r7) 2)))]]) (w64 (x18 + (1 : Int))))
           (some [])))
        (none)))
    (none))) := by kernel_rfl
theorem R_lake_pair_watch_c1_5_end (N k : Nat) (x0 : List (List PV)) (x1 : List (List PV)) (x2 : Int) (x3 : List (List PV)) (x4 : Int) (x5 : Int) (x6 : Int) (x7 : Int) (x8 : Int) (x9 : Int) (x10 : Int) (x11 : Int) (x12 : Int) (x13 : Int) (x14 : Int) (x15 : Int) (x16 : List (List PV)) (x17 : List (List PV)) (x18 : Int) : R_lake_pair_watch_c1_5 N k [] x0 x1 x2 x3 x4 x5 x6 x7 x8 x9 x10 x11 x12 x13 x14 x15 x16 x17 x18 =
 (some []) := by kernel_rfl
theorem E_lake_pair_watch_c1 (N k : Nat) (x0 : List (List PV)) (x1 : List (List PV)) (x2 : Int) (x3 : Int) (x4 : Int) (x5 : Int) (x6 : Int) (x7 : Int) (x8 : Int) (x9 : Int) (x10 : Int) (x11 : Int) (x12 : Int) (x13 : Int) (x14 : Int) (x15 : List (List PV)) : evI (envF (N + 3)) (k + 1) F_lake_pair_watch_c1 [(.rp [(.sl none [.int .i64, .int .i64] x0), (.sl none [.int .i64, .int .i64] x1), (.int .i64 x2)] 0)] (some [(.int .i64 x3), (.int .i64 x4)]) [(.rp [(.fn F_slices_Values_LakeFlows_c1 [(.rp [(.sl none [.int .i64, .int .i64, .int .i64] x15)] 0)])] 0), (.rp [(.int .i64 x5), (.int .i64 x6), (.int .i64 x7), (.int .i64 x8), (.int .i64 x9), (.int .i64 x10), (.int .i64 x11), (.int .i64 x12), (.int .i64 x13), (.int .i64 x14)] 0)] =
 ((ev (envF (N + 3)) k F_lake_table_levelAt [(.agg [(.sl none [.int .i64, .int .i64] x0)]), (.int .i64 x3)]).bind fun r1 =>
 (ev (envF (N + 3)) k F_lake_table_levelAt [(.agg [(.sl none [.int .i64, .int .i64] x1)]), (.int .i64 x4)]).bind fun r2 =>
  (evI (envF (N + 3)) k F_slices_Values_LakeFlows_c1 [(.rp [(.sl none [.int .i64, .int .i64, .int .i64] x15)] 0)] none []).bind fun r3 =>
   R_lake_pair_watch_c1_5 N k r3 x0 x1 x2 x15 x5 x6 x7 x8 x9 x10 x11 x12 x13 x14 x3 x4 [[(.int .i64 (asI (nth (asA r1) 0))), (.int .i64 (asI (nth (asA r1) 1))), (.int .i64 (asI (nth (asA r1) 2)))]] [[(.int .i64 (asI (nth (asA r2) 0))), (.int .i64 (asI (nth (asA r2) 1))), (.int .i64 (asI (nth (asA r2) 2)))]] (0 : Int)) := by kernel_rfl

end Go.PewTab

namespace Go.PewTab
set_option linter.unusedSimpArgs false
set_option linter.unusedVariables false
open Go.Pew Go.Num

/-- A level: a whole number and a fraction. -/
structure Hgt where
  w : Int
  n : Int
  d : Int
/-- The limits of a lake, of both lakes. -/
structure Lim where
  lo : Int
  hi : Int
  fall : Int
  rise : Int
  win : Int
structure Lims where
  u : Lim
  l : Lim

abbrev vH (h : Hgt) : PV := .agg [.int .i64 h.w, .int .i64 h.n, .int .i64 h.d]
def cH (h : Hgt) : List PV := [.int .i64 h.w, .int .i64 h.n, .int .i64 h.d]
def hat (l : List Hgt) (i : Nat) : Hgt := l.getD i ⟨0, 0, 0⟩
theorem leaf_cH0 (l : List Hgt) (i : Nat) : asI (nth (nths (l.map cH) i) 0) = (hat l i).w := leafI cH Hgt.w 0 ⟨0, 0, 0⟩ (fun _ => rfl) rfl l i
theorem leaf_cH1 (l : List Hgt) (i : Nat) : asI (nth (nths (l.map cH) i) 1) = (hat l i).n := leafI cH Hgt.n 1 ⟨0, 0, 0⟩ (fun _ => rfl) rfl l i
theorem leaf_cH2 (l : List Hgt) (i : Nat) : asI (nth (nths (l.map cH) i) 2) = (hat l i).d := leafI cH Hgt.d 2 ⟨0, 0, 0⟩ (fun _ => rfl) rfl l i
abbrev vLim (L : Lim) : PV := .agg [.int .i64 L.lo, .int .i64 L.hi, .int .i64 L.fall, .int .i64 L.rise, .int .i64 L.win]
abbrev vLims (L : Lims) : PV := .agg [.int .i64 L.u.lo, .int .i64 L.u.hi, .int .i64 L.u.fall, .int .i64 L.u.rise, .int .i64 L.u.win, .int .i64 L.l.lo, .int .i64 L.l.hi, .int .i64 L.l.fall, .int .i64 L.l.rise, .int .i64 L.l.win]
abbrev vTask (L : Lims) (l : List Flow) : PV := .agg [.int .i64 L.u.lo, .int .i64 L.u.hi, .int .i64 L.u.fall, .int .i64 L.u.rise, .int .i64 L.u.win, .int .i64 L.l.lo, .int .i64 L.l.hi, .int .i64 L.l.fall, .int .i64 L.l.rise, .int .i64 L.l.win, .sl none [.int .i64, .int .i64, .int .i64] (l.map cF)]

/-- Is a level greater than another one plus a whole number? -/
def abv (a b : Hgt) (m : Int) : Bool := if a.w - b.w - m = 0 then decide (b.n * a.d < a.n * b.d) else decide (0 < a.w - b.w - m)
def wh (n : Int) : Hgt := ⟨n, 0, 1⟩
/-- The level at a volume. -/
def lvl (t : Tab) (v : Int) : Hgt := ⟨lvLo t v, lvN t v % vol t (byV t v), vol t (byV t v)⟩

def HIn (h : Hgt) : Prop := (0 ≤ h.w ∧ h.w ≤ 1000000) ∧ (0 ≤ h.n ∧ h.n < h.d) ∧ h.d ≤ 1000000000 ∧ (h.n = 0 ∨ h.w < 1000000)
def LimIn (L : Lim) : Prop := (0 ≤ L.lo ∧ L.lo ≤ 1000000) ∧ (0 ≤ L.hi ∧ L.hi ≤ 1000000) ∧ (0 ≤ L.fall ∧ L.fall ≤ 1000000) ∧ (0 ≤ L.rise ∧ L.rise ≤ 1000000) ∧ (1 ≤ L.win ∧ L.win ≤ 200)

theorem wh_in {n : Int} (h : 0 ≤ n ∧ n ≤ 1000000) : HIn (wh n) := by
  show ((0 : Int) ≤ n ∧ n ≤ 1000000) ∧ ((0 : Int) ≤ 0 ∧ (0 : Int) < 1) ∧ (1 : Int) ≤ 1000000000 ∧ ((0 : Int) = 0 ∨ n < 1000000)
  omega
theorem lvl_in {t : Tab} (h : Ok t) {v : Int} (hv : IsV t v) : HIn (lvl t v) := by
  obtain ⟨i1, i2, i3, i4⟩ := h.pieceV hv
  obtain ⟨p1, p2, p3, p4⟩ := Ok.hv_le h i1 i2
  obtain ⟨v1, v2, v3⟩ := h.lv_between hv
  have a := Ok.kr h i2
  have b := Ok.kr h (i := byV t v - 1) (by omega)
  unfold Kr at a b
  have m1 := Int.emod_nonneg (lvN t v) (Int.ne_of_gt p3)
  have m2 := Int.emod_lt_of_pos (lvN t v) p3
  have e := cdiv_eq (n := lvN t v) p3
  have e2 : lvLo t v + min (lvN t v % vol t (byV t v)) 1 = lvHi t v := by unfold lvLo lvHi; omega
  unfold lvl HIn
  simp only
  omega

/-- The first limit that is violated. -/
def kindOf (L : Lim) (now before : Hgt) : Option Nat :=
  if abv (wh L.lo) now 0 = true then some 0 else if abv now (wh L.hi) 0 = true then some 1 else if abv before now L.fall = true then some 2 else if abv now before L.rise = true then some 3 else none
def kindPV : Option Nat → PV
  | some k => .tup [.int .i64 (k : Int), .bool true]
  | none => .tup [.int .i64 0, .bool false]

/-- The errors of limits and tasks. -/
def limErr (t : Tab) (L : Lim) : Int :=
  if IsL t L.lo ∧ IsL t L.hi ∧ (0 ≤ L.fall ∧ L.fall ≤ 1000000) ∧ (0 ≤ L.rise ∧ L.rise ≤ 1000000) ∧ (1 ≤ L.win ∧ L.win ≤ 200) then if L.lo ≤ L.hi then 0 else 9 else 2
def limsErr (p : Pair) (L : Lims) : Int := if limErr p.u L.u = 0 then limErr p.l L.l else limErr p.u L.u
def taskErr (p : Pair) (L : Lims) (l : List Flow) : Int := if limsErr p L = 0 then lErr l else limsErr p L
def openErr (p : Pair) (s : Vols) (L : Lims) (l : List Flow) : Int := if bErr p s = 0 then taskErr p L l else bErr p s

theorem limErr_zero {t : Tab} {L : Lim} (h : limErr t L = 0) : IsL t L.lo ∧ IsL t L.hi ∧ (0 ≤ L.fall ∧ L.fall ≤ 1000000) ∧ (0 ≤ L.rise ∧ L.rise ≤ 1000000) ∧ (1 ≤ L.win ∧ L.win ≤ 200) ∧ L.lo ≤ L.hi := by
  unfold limErr at h
  split at h
  · rename_i h1
    split at h
    · rename_i h2
      exact ⟨h1.1, h1.2.1, h1.2.2.1, h1.2.2.2.1, h1.2.2.2.2, h2⟩
    · simp at h
  · simp at h
theorem level_range {t : Tab} (h : Ok t) {l : Int} (hl : IsL t l) : 0 ≤ l ∧ l ≤ 1000000 := by
  have h2 := h.two
  have a := Ok.kr h (i := 0) (by omega)
  have b := Ok.kr h (i := t.length - 1) (by omega)
  unfold Kr at a b
  unfold IsL at hl
  omega
theorem limIn_of {t : Tab} (h : Ok t) {L : Lim} (hL : limErr t L = 0) : LimIn L := by
  obtain ⟨h1, h2, h3, h4, h5, _⟩ := limErr_zero hL
  exact ⟨level_range h h1, level_range h h2, h3, h4, h5⟩
theorem limsErr_zero {p : Pair} {L : Lims} (h : limsErr p L = 0) : limErr p.u L.u = 0 ∧ limErr p.l L.l = 0 := by
  unfold limsErr at h
  split at h
  · rename_i h1; exact ⟨h1, h⟩
  · rename_i h1; exact absurd h h1
theorem taskErr_zero {p : Pair} {L : Lims} {l : List Flow} (h : taskErr p L l = 0) : limsErr p L = 0 ∧ lErr l = 0 := by
  unfold taskErr at h
  split at h
  · rename_i h1; exact ⟨h1, h⟩
  · rename_i h1; exact absurd h h1

/-- The first violation at the last one of some states. -/
def now (hist : List Vols) : Vols := vls hist (hist.length - 1)
def bef (hist : List Vols) (w : Int) : Vols := vls hist (hist.length - 1 - w.toNat)
def atG (p : Pair) (L : Lims) (hist : List Vols) : Option (Nat × Nat) :=
  match kindOf L.u (lvl p.u (now hist).u) (lvl p.u (bef hist L.u.win).u) with
  | some k => some (0, k)
  | none => match kindOf L.l (lvl p.l (now hist).l) (lvl p.l (bef hist L.l.win).l) with
    | some k => some (1, k)
    | none => none

def foundPV (tick : Nat) : Option (Nat × Nat) → PV
  | none => .nilp
  | some (i, k) => .rp [.int .i64 (tick : Int), .int .i64 (i : Int), .int .i64 (k : Int)] 0

/-- What is seen tick by tick. -/
def trG (p : Pair) (L : Lims) : List Vols → Vols → List Flow → List (List PV)
  | _, _, [] => []
  | hist, s, f :: fs => match step p s f with
    | none => [[.bool false, .nilp]]
    | some (s', _) => [.bool true, foundPV hist.length (atG p L (hist ++ [s']))] :: trG p L (hist ++ [s']) s' fs

/-- A violation: the tick, the lake, the kind. -/
structure Viol where
  t : Int
  i : Int
  k : Int
abbrev vViol (v : Viol) : PV := .agg [.int .i64 v.t, .int .i64 v.i, .int .i64 v.k]
def viol (p : Pair) (L : Lims) : List Vols → Vols → List Flow → Viol × Int
  | _, _, [] => (⟨0, 0, 0⟩, 12)
  | hist, s, f :: fs => match step p s f with
    | none => (⟨0, 0, 0⟩, 22)
    | some (s', _) => match atG p L (hist ++ [s']) with
      | some (i, k) => (⟨hist.length, i, k⟩, 0)
      | none => viol p L (hist ++ [s']) s' fs

section
variable {N k : Nat}

theorem lake_above {a b : Hgt} (ha : HIn a) (hb : HIn b) {m : Int} (hm : 0 ≤ m ∧ m ≤ 1000000) : ev (envF N) (k + 1) F_lake_height_above [vH a, vH b, .int .i64 m] = some (.bool (abv a b m)) := by
  obtain ⟨a1, a2, a3, _⟩ := ha
  obtain ⟨b1, b2, b3, _⟩ := hb
  have mul : ∀ x y : Int, 0 ≤ x → x ≤ 1000000000 → 0 ≤ y → y ≤ 1000000000 → 0 ≤ x * y ∧ x * y ≤ 1000000000 * 1000000000 := by
    intro x y h1 h2 h3 h4
    exact ⟨Int.mul_nonneg h1 h3, Int.mul_le_mul h2 h4 h3 (by decide)⟩
  have m1 := mul b.n a.d (by omega) (by omega) (by omega) (by omega)
  have m2 := mul a.n b.d (by omega) (by omega) (by omega) (by omega)
  have e1 : w64 (w64 (a.w - b.w) - m) = a.w - b.w - m := by
    rw [w64_id (x := a.w - b.w) (by omega) (by omega), w64_id] <;> omega
  have e2 : w64 (b.n * a.d) = b.n * a.d := by rw [w64_id] <;> omega
  have e3 : w64 (a.n * b.d) = a.n * b.d := by rw [w64_id] <;> omega
  rw [E_lake_height_above]
  simp only [e1, e2, e3, cond_ndec]
  unfold abv
  by_cases h : a.w - b.w - m = 0
  · rw [if_pos h, if_pos h]
  · rw [if_neg h, if_neg h]

theorem lake_whole (n : Int) : ev (envF N) (k + 1) F_lake_whole [.int .i64 n] = some (vH (wh n)) := by
  rw [E_lake_whole]
  rfl

/-- The first of four that is true. -/
def first4 (a b c d : Bool) : Int := if a = true then 0 else if b = true then 1 else if c = true then 2 else if d = true then 3 else -1

theorem slices_Index (hN : 1000000 ≤ N) (a b c d : Bool) : ev (envF N) (k + 1) F_slices_Index_bool [.sl none [.bool] [[.bool a], [.bool b], [.bool c], [.bool d]], .bool true] = some (.int .i64 (first4 a b c d)) := by
  obtain ⟨M, rfl⟩ : ∃ M, N = M + 5 := ⟨N - 5, by omega⟩
  have e0 : nths [[PV.bool a], [PV.bool b], [PV.bool c], [PV.bool d]] (Int.toNat 0) = [.bool a] := rfl
  have e1 : nths [[PV.bool a], [PV.bool b], [PV.bool c], [PV.bool d]] (Int.toNat 1) = [.bool b] := rfl
  have e2 : nths [[PV.bool a], [PV.bool b], [PV.bool c], [PV.bool d]] (Int.toNat 2) = [.bool c] := rfl
  have e3 : nths [[PV.bool a], [PV.bool b], [PV.bool c], [PV.bool d]] (Int.toNat 3) = [.bool d] := rfl
  have w1 : w64 (0 + 1) = 1 := by rw [w64_id] <;> omega
  have w2 : w64 (1 + 1) = 2 := by rw [w64_id] <;> omega
  have w3 : w64 (2 + 1) = 3 := by rw [w64_id] <;> omega
  have w4 : w64 (3 + 1) = 4 := by rw [w64_id] <;> omega
  have hl : (List.length [[PV.bool a], [PV.bool b], [PV.bool c], [PV.bool d]] : Int) = 4 := rfl
  have t (x : Bool) : (true == x) = x := by cases x <;> rfl
  rw [E_slices_Index_bool, hl]
  rw [L_slices_Index_bool_2_eq, hl, e0, w1, L_slices_Index_bool_2_eq, hl, e1, w2, L_slices_Index_bool_2_eq, hl, e2, w3, L_slices_Index_bool_2_eq, hl, e3, w4, L_slices_Index_bool_2_eq]
  simp only [nth_zero, asB_bool, t]
  unfold first4
  cases a <;> cases b <;> cases c <;> cases d <;> simp

theorem first4_kind (L : Lim) (a b : Hgt) : PV.tup [.int .i64 (imax (first4 (abv (wh L.lo) a 0) (abv a (wh L.hi) 0) (abv b a L.fall) (abv a b L.rise)) 0), .bool (decide (0 ≤ first4 (abv (wh L.lo) a 0) (abv a (wh L.hi) 0) (abv b a L.fall) (abv a b L.rise)))] = kindPV (kindOf L a b) := by
  unfold kindOf first4
  rw [imax_eq]
  split
  · rfl
  · split
    · rfl
    · split
      · rfl
      · split <;> rfl

theorem lake_violated (hN : 1000000 ≤ N) {L : Lim} (hL : LimIn L) (hs : List Hgt) (h1 : 1 ≤ hs.length) (h2 : hs.length ≤ 100000) (hin : ∀ i, i < hs.length → HIn (hat hs i)) :
    ev (envF N) (k + 2) F_lake_violated [vLim L, .sl none [.int .i64, .int .i64, .int .i64] (hs.map cH)] = some (kindPV (kindOf L (hat hs (hs.length - 1)) (hat hs (hs.length - 1 - L.win.toNat)))) := by
  obtain ⟨l1, l2, l3, l4, l5⟩ := hL
  have w1 : w64 ((hs.length : Int) - 1) = ((hs.length - 1 : Nat) : Int) := by rw [w64_id] <;> omega
  have w2 : w64 (((hs.length - 1 : Nat) : Int) - L.win) = ((hs.length - 1 : Nat) : Int) - L.win := by rw [w64_id] <;> omega
  have w3 : max (0 : Int) (((hs.length - 1 : Nat) : Int) - L.win) = ((hs.length - 1 - L.win.toNat : Nat) : Int) := by omega
  have c1 : (0 : Int) ≤ ((hs.length - 1 : Nat) : Int) := by omega
  have c2 : ((hs.length - 1 : Nat) : Int) < (hs.length : Int) := by omega
  have c3 : (0 : Int) ≤ ((hs.length - 1 - L.win.toNat : Nat) : Int) := by omega
  have c4 : ((hs.length - 1 - L.win.toNat : Nat) : Int) < (hs.length : Int) := by omega
  have i1 := hin (hs.length - 1) (by omega)
  have i2 := hin (hs.length - 1 - L.win.toNat) (by omega)
  have g1 := lake_above (N := N) (k := k) (wh_in l1) i1 (m := 0) (by omega)
  have g2 := lake_above (N := N) (k := k) i1 (wh_in l2) (m := 0) (by omega)
  have g3 := lake_above (N := N) (k := k) i2 i1 l3
  have g4 := lake_above (N := N) (k := k) i1 i2 l4
  rw [E_lake_violated]
  simp only [List.length_map, w1, cond_t, imax_eq, w2, w3, cond_dec, c1, c2, c3, c4, if_true, Int.toNat_natCast, leaf_cH0, leaf_cH1, leaf_cH2, lake_whole, obind, asA_agg, nth_zero, nth_one, nth_two, asI_int, g1, g2, g3, g4, asB_bool, slices_Index hN]
  rw [← first4_kind, imax_eq]

theorem lake_limErr1 {t : Tab} (h : Ok t) (l : Int) : ev (envF N) (k + 2) F_lake_table_limitErr_c1 [.int .i64 l, .rp [.sl none [.int .i64, .int .i64] (t.map cK)] 0] = some (.bool (decide (IsL t l))) := by
  have h2 := h.two
  have h10 := h.ten
  rw [E_lake_table_limitErr_c1, lake_bottom (by omega), lake_top (by omega) (by omega)]
  simp only [obind, asA_agg, nth_zero, asI_int, lake_within, asB_bool]
  rfl
theorem lake_limErr2 (l : Int) : ev (envF N) (k + 2) F_lake_table_limitErr_c2 [.int .i64 l] = some (.bool (decide (0 ≤ l ∧ l ≤ 1000000))) := by
  rw [E_lake_table_limitErr_c2, lake_within]
  simp only [obind, asB_bool]

theorem lake_limitErr (hN : 1000000 ≤ N) {t : Tab} (h : Ok t) (L : Lim) : ev (envF N) (k + 3) F_lake_table_limitErr [vTab t, vLim L] = some (.int .i64 (limErr t L)) := by
  have z : ¬ ((2 : Int) = 0) := by decide
  rw [E_lake_table_limitErr, lake_limErr1 h]
  simp only [obind, asB_bool, cond_dec]
  unfold limErr
  by_cases c1 : IsL t L.lo
  · rw [if_pos c1, lake_limErr1 h]
    simp only [obind, asB_bool, cond_dec]
    by_cases c2 : IsL t L.hi
    · rw [if_pos c2, lake_limErr2]
      simp only [obind, asB_bool, cond_dec]
      by_cases c3 : 0 ≤ L.fall ∧ L.fall ≤ 1000000
      · rw [if_pos c3, lake_limErr2]
        simp only [obind, asB_bool, cond_dec]
        by_cases c4 : 0 ≤ L.rise ∧ L.rise ≤ 1000000
        · rw [if_pos c4]
          simp only [lake_within, lake_unless, obind, asB_bool, asI_int, lake_first2 hN, decide_eq_true_eq]
          by_cases c5 : 1 ≤ L.win ∧ L.win ≤ 200
          · rw [if_pos c5, if_pos rfl]
            rw [if_pos (show IsL t L.lo ∧ IsL t L.hi ∧ (0 ≤ L.fall ∧ L.fall ≤ 1000000) ∧ (0 ≤ L.rise ∧ L.rise ≤ 1000000) ∧ (1 ≤ L.win ∧ L.win ≤ 200) from ⟨c1, c2, c3, c4, c5⟩)]
          · rw [if_neg c5, if_neg z, if_neg (fun h => c5 h.2.2.2.2)]
        · rw [if_neg c4, if_neg (fun h => c4 h.2.2.2.1)]
          simp only [lake_unless, obind, asI_int, lake_first2 hN, Bool.false_eq_true, if_false, z]
      · rw [if_neg c3, if_neg (fun h => c3 h.2.2.1)]
        simp only [lake_unless, obind, asI_int, lake_first2 hN, Bool.false_eq_true, if_false, z]
    · rw [if_neg c2, if_neg (fun h => c2 h.2.1)]
      simp only [lake_unless, obind, asI_int, lake_first2 hN, Bool.false_eq_true, if_false, z]
  · rw [if_neg c1, if_neg (fun h => c1 h.1)]
    simp only [lake_unless, obind, asI_int, lake_first2 hN, Bool.false_eq_true, if_false, z]

theorem lake_limitsErr (hN : 1000000 ≤ N) {p : Pair} (h : POk p) (L : Lims) : ev (envF N) (k + 4) F_lake_pair_limitsErr [vPair p, vLims L] = some (.int .i64 (limsErr p L)) := by
  have g1 := lake_limitErr (k := k) hN h.u L.u
  have g2 := lake_limitErr (k := k) hN h.l L.l
  rw [E_lake_pair_limitsErr, g1, g2]
  simp only [obind, asI_int, lake_first2 hN]
  rfl

theorem lake_openTask (hN : 1000000 ≤ N) (p : Pair) (s : Vols) (L : Lims) (l : List Flow) : ev (envF N) (k + 8) F_lake_openTask [vPair p, vVols s, vTask L l] = some (.tup [vPair p, .int .i64 (openErr p s L l)]) := by
  rw [E_lake_openTask, lake_openState hN]
  simp only [obind, asT_tup, nth_zero, nth_one, nth_two, asA_agg, asI_int, asL_sl, cond_dec]
  unfold openErr
  by_cases h : bErr p s = 0
  · have g1 := lake_limitsErr (k := k + 3) hN (bErr_zero h).1 L
    have g2 := lake_ticksErr (k := k + 3) hN l
    rw [if_pos h, if_pos h, g1, g2]
    simp only [obind, asI_int, lake_first2 hN]
    rfl
  · rw [if_neg h, if_neg h]

theorem flows_vals (l : List Flow) (hl : l.length ≤ 100000) : ∀ (d n i : Nat), i + d = l.length → d < n → I_Values N k n (l.map cF) (l.length : Int) (i : Int) = some ((l.drop i).map fun f => [vFlow f])
  | 0, n + 1, i, h, hn => by
    rw [I_Values_eq, cond_dec, if_neg (by omega), List.drop_eq_nil_of_le (by omega)]
    rfl
  | d + 1, n + 1, i, h, hn => by
    have c1 : (i : Int) < (l.length : Int) := by omega
    have c2 : (0 : Int) ≤ (i : Int) := by omega
    have ei : w64 ((i : Int) + 1) = ((i + 1 : Nat) : Int) := by rw [w64_id] <;> omega
    rw [I_Values_eq, flo_drop l i (by omega)]
    simp only [cond_dec, c1, c2, List.length_map, if_true, Int.toNat_natCast, leaf_cF0, leaf_cF1, leaf_cF2, ei]
    rw [flows_vals l hl d n (i + 1) (by omega) (by omega)]
    rfl

theorem Values_spec (hN : 1000000 ≤ N) (l : List Flow) (hl : l.length ≤ 100000) : evI (envF N) (k + 1) F_slices_Values_LakeFlows_c1 [.rp [vFlows l] 0] none [] = some (l.map fun f => [vFlow f]) := by
  have g := flows_vals (N := N) (k := k) l hl l.length N 0 (by omega) (by omega)
  rw [List.drop_zero] at g
  refine Eq.trans ?_ g
  have e := E_Values N k (l.map cF)
  rw [List.length_map] at e
  exact e

theorem emit_some (x : List PV) (tr : List (List PV)) : emitI x (some tr) (some []) = some (x :: tr) := id rfl
theorem emit_end (x : List PV) : emitI x (some []) (some []) = some [x] := id rfl

theorem hat_map {α : Type} (g : α → Hgt) (l : List α) (i : Nat) (d : α) (h : i < l.length) : hat (l.map g) i = g (l.getD i d) := by
  unfold hat
  simp [List.getD_eq_getElem?_getD, h]

theorem hist_hat {p : Pair} (hist : List Vols) (i : Nat) (h : i < hist.length) : hat (hist.map fun s => lvl p.u s.u) i = lvl p.u (vls hist i).u ∧ hat (hist.map fun s => lvl p.l s.l) i = lvl p.l (vls hist i).l :=
  ⟨hat_map (fun s : Vols => lvl p.u s.u) hist i ⟨0, 0⟩ h, hat_map (fun s : Vols => lvl p.l s.l) hist i ⟨0, 0⟩ h⟩

theorem vls_valid {p : Pair} {hist : List Vols} (hv : ∀ s ∈ hist, Valid p s) {i : Nat} (h : i < hist.length) : Valid p (vls hist i) := by
  unfold vls
  rw [List.getD_eq_getElem?_getD, List.getElem?_eq_getElem h, Option.getD_some]
  exact hv _ (List.getElem_mem h)

theorem found_two (tick : Nat) (a b : Option Nat) : (match (match a with | some k => some (0, k) | none => match b with | some k => some (1, k) | none => none : Option (Nat × Nat)) with
    | none => PV.nilp
    | some (i, k) => .rp [.int .i64 (tick : Int), .int .i64 (i : Int), .int .i64 (k : Int)] 0) = match a with
      | some k => .rp [.int .i64 (tick : Int), .int .i64 0, .int .i64 (k : Int)] 0
      | none => match b with
        | some k => .rp [.int .i64 (tick : Int), .int .i64 1, .int .i64 (k : Int)] 0
        | none => .nilp := by
  cases a <;> cases b <;> rfl

theorem cH_fold (h : Hgt) : [PV.int .i64 h.w, .int .i64 h.n, .int .i64 h.d] = cH h := rfl
theorem lake_lvl (hN : 1000000 ≤ N) {t : Tab} (h : Ok t) {v : Int} (hv : IsV t v) : ev (envF N) (k + 5) F_lake_table_levelAt [vTab t, .int .i64 v] = some (vH (lvl t v)) := lake_levelAt hN h hv

theorem watch_loop (hN3 : 1000000 ≤ N + 3) {p : Pair} (hp : POk p) {L : Lims} (hu : LimIn L.u) (hl : LimIn L.l) (x3 : List (List PV)) : ∀ (fs : List Flow) (hist : List Vols) (s : Vols), FlowsIn fs → (∀ t ∈ hist, Valid p t) → Valid p s → 1 ≤ hist.length → hist.length + fs.length ≤ 1000 →
    R_lake_pair_watch_c1_5 N (k + 6) (fs.map fun f => [vFlow f]) (p.u.map cK) (p.l.map cK) p.r x3 L.u.lo L.u.hi L.u.fall L.u.rise L.u.win L.l.lo L.l.hi L.l.fall L.l.rise L.l.win s.u s.l ((hist.map fun s => lvl p.u s.u).map cH) ((hist.map fun s => lvl p.l s.l).map cH) (((hist.length - 1 : Nat) : Int)) = some (trG p L hist s fs)
  | [], hist, s, hf, hv, hs, h1, h2 => by
    exact R_lake_pair_watch_c1_5_end ..
  | f :: fs, hist, s, hf, hv, hs, h1, h2 => by
    have hfi := hf f (List.mem_cons_self ..)
    have g1 := lake_step (k := k) hN3 hp hs.1 hs.2 hfi
    have h3 : hist.length + (fs.length + 1) ≤ 1000 := h2
    rw [List.map_cons, R_lake_pair_watch_c1_5_eq0, g1]
    unfold trG
    cases hst : step p s f with
    | none =>
      simp only [obind, asT_tup, nth_two, asB_bool, Bool.not_false, cond_t]
      rfl
    | some r =>
      obtain ⟨s', z⟩ := r
      obtain ⟨a1, a2, _⟩ := step_ok hp hs.1 hs.2 hst hfi
      have hv' : ∀ t ∈ hist ++ [s'], Valid p t := by
        intro t ht
        rcases List.mem_append.1 ht with ht | ht
        · exact hv t ht
        · rw [List.mem_singleton.1 ht]; exact ⟨a1, a2⟩
      have hlen : (hist ++ [s']).length = hist.length + 1 := by simp
      have b1 := lake_lvl (k := k + 1) hN3 hp.u a1
      have b2 := lake_lvl (k := k + 1) hN3 hp.l a2
      have r1 : room ((hist.map fun s => lvl p.u s.u).map cH) [cH (lvl p.u s'.u)] 24 = true := room_row _ _ _ (by simp; omega) (by decide)
      have r2 : room ((hist.map fun s => lvl p.l s.l).map cH) [cH (lvl p.l s'.l)] 24 = true := room_row _ _ _ (by simp; omega) (by decide)
      have e1 : (hist.map fun s => lvl p.u s.u).map cH ++ [cH (lvl p.u s'.u)] = ((hist ++ [s']).map fun s => lvl p.u s.u).map cH := by simp
      have e2 : (hist.map fun s => lvl p.l s.l).map cH ++ [cH (lvl p.l s'.l)] = ((hist ++ [s']).map fun s => lvl p.l s.l).map cH := by simp
      have v1 := lake_violated (k := k + 4) hN3 hu ((hist ++ [s']).map fun s => lvl p.u s.u) (by simp) (by simp; omega) (fun i hi => by
        have hi' : i < (hist ++ [s']).length := by simpa using hi
        rw [(hist_hat (p := p) _ i hi').1]; exact lvl_in hp.u (vls_valid hv' hi').1)
      have v2 := lake_violated (k := k + 4) hN3 hl ((hist ++ [s']).map fun s => lvl p.l s.l) (by simp) (by simp; omega) (fun i hi => by
        have hi' : i < (hist ++ [s']).length := by simpa using hi
        rw [(hist_hat (p := p) _ i hi').2]; exact lvl_in hp.l (vls_valid hv' hi').2)
      rw [List.length_map, (hist_hat (p := p) _ _ (by omega)).1, (hist_hat (p := p) _ _ (by omega)).1] at v1
      rw [List.length_map, (hist_hat (p := p) _ _ (by omega)).2, (hist_hat (p := p) _ _ (by omega)).2] at v2
      have t1 : w64 (((hist.length - 1 : Nat) : Int) + 1) = ((hist.length : Nat) : Int) := by rw [w64_id] <;> omega
      have t2 : w64 ((0 : Int) + 1) = 1 := by rw [w64_id] <;> omega
      have ih := watch_loop hN3 hp hu hl x3 fs (hist ++ [s']) s' (fun g hg => hf g (List.mem_cons_of_mem _ hg)) hv' ⟨a1, a2⟩ (by omega) (by omega)
      rw [show (hist ++ [s']).length - 1 = hist.length by omega] at ih
      have ha : atG p L (hist ++ [s']) = match kindOf L.u (lvl p.u (vls (hist ++ [s']) ((hist ++ [s']).length - 1)).u) (lvl p.u (vls (hist ++ [s']) ((hist ++ [s']).length - 1 - L.u.win.toNat)).u) with
        | some k => some (0, k)
        | none => match kindOf L.l (lvl p.l (vls (hist ++ [s']) ((hist ++ [s']).length - 1)).l) (lvl p.l (vls (hist ++ [s']) ((hist ++ [s']).length - 1 - L.l.win.toNat)).l) with
          | some k => some (1, k)
          | none => none := by unfold atG now bef; rfl
      obtain ⟨K1, hK1⟩ : ∃ K, kindOf L.u (lvl p.u (vls (hist ++ [s']) ((hist ++ [s']).length - 1)).u) (lvl p.u (vls (hist ++ [s']) ((hist ++ [s']).length - 1 - L.u.win.toNat)).u) = K := ⟨_, rfl⟩
      obtain ⟨K2, hK2⟩ : ∃ K, kindOf L.l (lvl p.l (vls (hist ++ [s']) ((hist ++ [s']).length - 1)).l) (lvl p.l (vls (hist ++ [s']) ((hist ++ [s']).length - 1 - L.l.win.toNat)).l) = K := ⟨_, rfl⟩
      rw [hK1] at v1 ha
      rw [hK2] at v2 ha
      simp only [obind, asT_tup, asA_agg, nth_zero, nth_one, nth_two, asI_int, asB_bool, Bool.not_true, cond_f, b1, b2, t1, t2]
      simp only [cH_fold, r1, r2, cond_t, e1, e2, v1, v2, ih, ha, obind]
      cases K1 with
      | some k1 =>
        cases K2 <;> (simp only [kindPV, asT_tup, nth_zero, nth_one, asB_bool, cond_t, cond_f, asI_int, emit_some]; rfl)
      | none =>
        cases K2 <;> (simp only [kindPV, asT_tup, nth_zero, nth_one, asB_bool, cond_t, cond_f, asI_int, emit_some]; rfl)

theorem watch_spec (hN : 1000000 ≤ N) {p : Pair} (hp : POk p) {L : Lims} (hu : LimIn L.u) (hl : LimIn L.l) {s : Vols} (hs : Valid p s) {l : List Flow} (hf : FlowsIn l) (hl2 : l.length ≤ 200) :
    evI (envF N) (k + 8) F_lake_pair_watch_c1 [.rp [.sl none [.int .i64, .int .i64] (p.u.map cK), .sl none [.int .i64, .int .i64] (p.l.map cK), .int .i64 p.r] 0] (some [.int .i64 s.u, .int .i64 s.l])
      [.rp [.fn F_slices_Values_LakeFlows_c1 [.rp [vFlows l] 0]] 0, .rp [.int .i64 L.u.lo, .int .i64 L.u.hi, .int .i64 L.u.fall, .int .i64 L.u.rise, .int .i64 L.u.win, .int .i64 L.l.lo, .int .i64 L.l.hi, .int .i64 L.l.fall, .int .i64 L.l.rise, .int .i64 L.l.win] 0] = some (trG p L [s] s l) := by
  obtain ⟨M, rfl⟩ : ∃ M, N = M + 3 := ⟨N - 3, by omega⟩
  have b1 := lake_lvl (N := M + 3) (k := k + 2) (by omega) hp.u hs.1
  have b2 := lake_lvl (N := M + 3) (k := k + 2) (by omega) hp.l hs.2
  have b3 := Values_spec (N := M + 3) (k := k + 6) (by omega) l (by omega)
  rw [E_lake_pair_watch_c1, b1, b2]
  simp only [obind, asA_agg, nth_zero, nth_one, nth_two, asI_int, b3]
  simp only [cH_fold]
  exact watch_loop (N := M) (k := k + 1) hN hp hu hl (l.map cF) l [s] s hf (fun t ht => by rw [List.mem_singleton.1 ht]; exact hs) hs (by simp) (by simp; omega)

def violR (p : Pair) (s : Vols) (L : Lims) (l : List Flow) : PV :=
  if openErr p s L l = 0 then .tup [vViol (viol p L [s] s l).1, .int .i64 (viol p L [s] s l).2] else .tup [vViol ⟨0, 0, 0⟩, .int .i64 (openErr p s L l)]

/-- Whoever stops at what is not possible and at what is found, finds the first violation. -/
theorem consume {p : Pair} {L : Lims} (R : List (List PV) → Option PV)
    (h0 : ∀ b rest, R ([.bool b, .nilp] :: rest) = cond (!b) (some (.tup [vViol ⟨0, 0, 0⟩, .int .i64 22])) (R rest))
    (h1 : ∀ b rest x y z, R ([.bool b, .rp [.int .i64 x, .int .i64 y, .int .i64 z] 0] :: rest) = cond (!b) (some (.tup [vViol ⟨0, 0, 0⟩, .int .i64 22])) (some (.tup [vViol ⟨x, y, z⟩, .int .i64 0])))
    (h2 : R [] = some (.tup [vViol ⟨0, 0, 0⟩, .int .i64 12])) : ∀ (fs : List Flow) (hist : List Vols) (s : Vols), R (trG p L hist s fs) = some (.tup [vViol (viol p L hist s fs).1, .int .i64 (viol p L hist s fs).2])
  | [], hist, s => h2
  | f :: fs, hist, s => by
    unfold trG viol
    cases hst : step p s f with
    | none => exact h0 false []
    | some r =>
      obtain ⟨s', z⟩ := r
      simp only
      cases ha : atG p L (hist ++ [s']) with
      | none =>
        simp only [foundPV]
        rw [h0]
        simp only [Bool.not_true, cond_f]
        exact consume R h0 h1 h2 fs (hist ++ [s']) s'
      | some q =>
        obtain ⟨i, j⟩ := q
        simp only [foundPV]
        rw [h1]
        simp only [Bool.not_true, cond_f]

theorem lake_ViolationOf (hN0 : 1000000 ≤ N) (p : Pair) (s : Vols) (L : Lims) (l : List Flow) : ev (envF N) (k + 9) F_lake_ViolationOf [vPair p, vVols s, vTask L l] = some (violR p s L l) := by
  rw [E_lake_ViolationOf, lake_openTask (k := k) hN0]
  simp only [obind, asT_tup, nth_zero, nth_one, nth_two, asA_agg, asI_int, asL_sl, cond_ndec]
  unfold violR
  by_cases h : openErr p s L l = 0
  · rw [if_pos h, if_pos h]
    have h' := h
    unfold openErr at h'
    by_cases hb : bErr p s = 0
    · rw [if_pos hb] at h'
      obtain ⟨hp, hu, hl⟩ := bErr_zero hb
      obtain ⟨q1, q2⟩ := taskErr_zero h'
      obtain ⟨q3, q4⟩ := limsErr_zero q1
      obtain ⟨q5, q6⟩ := lErr_zero q2
      have w := watch_spec (k := k) hN0 hp (limIn_of hp.u q3) (limIn_of hp.l q4) ⟨hu, hl⟩ q6 q5
      rw [w]
      simp only [obind]
      exact consume (p := p) (L := L) (fun tr => R_lake_ViolationOf_7 N (k + 8) tr _ _ _ _ _ _ _ _ _ _ _ _ _ _ _ _ _ _ _ _ _ _ _ _ _ _ _ _ _ _ _ _ _ _ _ _ _ _ _ _ _ _ _ _ _ _ _ _ _ _ _ _ _ _ _ _ _ _ _ _ _ _ _ _ _ _ _ _ _ _ _ _ _ _ _ _ _ _ _ _ _ _ _ _ _ _ _) (fun b rest => R_lake_ViolationOf_7_eq0 ..) (fun b rest x y z => R_lake_ViolationOf_7_eq1 ..) (R_lake_ViolationOf_7_end ..) l [s] s
    · rw [if_neg hb] at h'; exact absurd h' hb
  · rw [if_neg h, if_neg h]

end
end Go.PewTab

namespace Go.PewTab
set_option linter.unusedSimpArgs false
set_option linter.unusedVariables false
open Go.Pew Go
set_option maxRecDepth 100000
set_option linter.unusedVariables false

theorem E_law01_LakeUsable (N k : Nat) (x0 : List (List PV)) (x1 : List (List PV)) (x2 : Int) (x3 : Int) (x4 : Int) (x5 : Int) : ev (envF N) (k + 1) F_law01_LakeUsable [(.agg [(.sl none [.int .i64, .int .i64] x0), (.sl none [.int .i64, .int .i64] x1), (.int .i64 x2)]), (.agg [(.int .i64 x3), (.int .i64 x4)]), (.int .i64 x5)] =
 ((ev (envF N) k F_law01_awake []).bind fun r1 =>
 cond (!(asB r1))
  (some (.bool (false)))
  ((ev (envF N) k F_law01_FewPair [(.agg [(.sl none [.int .i64, .int .i64] x0), (.sl none [.int .i64, .int .i64] x1), (.int .i64 x2)])]).bind fun r3 =>
   cond (!(asB r3))
    (some (.bool (true)))
    ((ev (envF N) k F_ref01_BothErr [(.agg [(.sl none [.int .i64, .int .i64] x0), (.sl none [.int .i64, .int .i64] x1), (.int .i64 x2)]), (.agg [(.int .i64 x3), (.int .i64 x4)])]).bind fun r5 =>
     cond (!(decide ((asI r5) = (0 : Int))))
      (some (.bool (true)))
      ((ev (envF N) k F_base_Within [(.int .i64 x5), (.int .i64 (-10000000 : Int)), (.int .i64 (10000000 : Int))]).bind fun r7 =>
       cond (!(asB r7))
        (some (.bool (true)))
        ((ev (envF N) k F_ref01_CopyPair [(.agg [(.sl none [.int .i64, .int .i64] x0), (.sl none [.int .i64, .int .i64] x1), (.int .i64 x2)])]).bind fun r9 =>
         (ev (envF N) k F_ref01_CopyPair [(.agg [(.sl none [.int .i64, .int .i64] (asL (nth (asA r9) 0))), (.sl none [.int .i64, .int .i64] (asL (nth (asA r9) 1))), (.int .i64 (0 : Int))])]).bind fun r10 =>
          (ev (envF N) k F_lake_Usable [(.agg [(.sl none [.int .i64, .int .i64] (asL (nth (asA r10) 0))), (.sl none [.int .i64, .int .i64] (asL (nth (asA r10) 1))), (.int .i64 (asI (nth (asA r10) 2)))]), (.agg [(.int .i64 x3), (.int .i64 x4)])]).bind fun r11 =>
           cond (!(decide ((asI (nth (asT r11) 1)) = (0 : Int))))
            (some (.bool (false)))
            ((ev (envF N) k F_base_Within [(.int .i64 (asI (nth (asA (nth (asT r11) 0)) 0))), (.int .i64 (0 : Int)), (.int .i64 (1000000000 : Int))]).bind fun r13 =>
             cond (!(asB r13))
              (some (.bool (false)))
              ((ev (envF N) k F_base_Within [(.int .i64 (asI (nth (asA (nth (asT r11) 0)) 1))), (.int .i64 (0 : Int)), (.int .i64 (1000000000 : Int))]).bind fun r15 =>
               cond (!(asB r15))
                (some (.bool (false)))
                ((ev (envF N) k F_ref01_CopyPair [(.agg [(.sl none [.int .i64, .int .i64] (asL (nth (asA r9) 0))), (.sl none [.int .i64, .int .i64] (asL (nth (asA r9) 1))), (.int .i64 (0 : Int))])]).bind fun r17 =>
                 (ev (envF N) k F_lake_Step [(.agg [(.sl none [.int .i64, .int .i64] (asL (nth (asA r17) 0))), (.sl none [.int .i64, .int .i64] (asL (nth (asA r17) 1))), (.int .i64 (asI (nth (asA r17) 2)))]), (.agg [(.int .i64 x3), (.int .i64 x4)]), (.agg [(.int .i64 (0 : Int)), (.int .i64 (0 : Int)), (.int .i64 x5)])]).bind fun r18 =>
                  cond (!(decide ((asI (nth (asT r18) 2)) = (0 : Int))))
                   (cond (!(decide ((asI (nth (asT r18) 2)) = (22 : Int))))
                    (some (.bool (false)))
                    (cond (decide ((asI (nth (asT r18) 2)) = (0 : Int)))
                     ((ev (envF N) k F_base_Within [(.int .i64 x5), (.int .i64 (w64 ((0 : Int) - (asI (nth (asA (nth (asT r11) 0)) 0))))), (.int .i64 (asI (nth (asA (nth (asT r11) 0)) 1)))]).bind fun r22 =>
                      cond (!((decide (asI (nth (asA (nth (asT r18) 1)) 0) = (0 : Int)) && decide (asI (nth (asA (nth (asT r18) 1)) 1) = (0 : Int))) == asB r22))
                       (some (.bool (false)))
                       (cond (!((decide ((asI (nth (asA (nth (asT r18) 1)) 0)) = (0 : Int))) && (decide ((asI (nth (asA (nth (asT r18) 1)) 1)) = (0 : Int)))))
                        (some (.bool (true)))
                        ((ev (envF N) k F_lake_Step [(.agg [(.sl none [.int .i64, .int .i64] (asL (nth (asA r9) 0))), (.sl none [.int .i64, .int .i64] (asL (nth (asA r9) 1))), (.int .i64 (0 : Int))]), (.agg [(.int .i64 (asI (nth (asA (nth (asT r18) 0)) 0))), (.int .i64 (asI (nth (asA (nth (asT r18) 0)) 1)))]), (.agg [(.int .i64 (0 : Int)), (.int .i64 (0 : Int)), (.int .i64 (w64 ((0 : Int) - x5)))])]).bind fun r25 =>
                         cond (decide ((asI (nth (asT r25) 2)) = (0 : Int)))
                          (cond ((decide ((asI (nth (asA (nth (asT r25) 0)) 0)) = x3)) && (decide ((asI (nth (asA (nth (asT r25) 0)) 1)) = x4)))
                           (some (.bool ((decide ((asI (nth (asA (nth (asT r25) 1)) 0)) = (0 : Int))) && (decide ((asI (nth (asA (nth (asT r25) 1)) 1)) = (0 : Int))))))
                           (some (.bool (false))))
                          (some (.bool (false))))))
                     ((ev (envF N) k F_base_Within [(.int .i64 x5), (.int .i64 (w64 ((0 : Int) - (asI (nth (asA (nth (asT r11) 0)) 0))))), (.int .i64 (asI (nth (asA (nth (asT r11) 0)) 1)))]).bind fun r22 =>
                      cond (!(false == asB r22))
                       (some (.bool (false)))
                       (some (.bool (true))))))
                   (cond (decide ((asI (nth (asT r18) 2)) = (0 : Int)))
                    ((ev (envF N) k F_base_Within [(.int .i64 x5), (.int .i64 (w64 ((0 : Int) - (asI (nth (asA (nth (asT r11) 0)) 0))))), (.int .i64 (asI (nth (asA (nth (asT r11) 0)) 1)))]).bind fun r21 =>
                     cond (!((decide (asI (nth (asA (nth (asT r18) 1)) 0) = (0 : Int)) && decide (asI (nth (asA (nth (asT r18) 1)) 1) = (0 : Int))) == asB r21))
                      (some (.bool (false)))
                      (cond (!((decide ((asI (nth (asA (nth (asT r18) 1)) 0)) = (0 : Int))) && (decide ((asI (nth (asA (nth (asT r18) 1)) 1)) = (0 : Int)))))
                       (some (.bool (true)))
                       ((ev (envF N) k F_lake_Step [(.agg [(.sl none [.int .i64, .int .i64] (asL (nth (asA r9) 0))), (.sl none [.int .i64, .int .i64] (asL (nth (asA r9) 1))), (.int .i64 (0 : Int))]), (.agg [(.int .i64 (asI (nth (asA (nth (asT r18) 0)) 0))), (.int .i64 (asI (nth (asA (nth (asT r18) 0)) 1)))]), (.agg [(.int .i64 (0 : Int)), (.int .i64 (0 : Int)), (.int .i64 (w64 ((0 : Int) - x5)))])]).bind fun r24 =>
                        cond (decide ((asI (nth (asT r24) 2)) = (0 : Int)))
                         (cond ((decide ((asI (nth (asA (nth (asT r24) 0)) 0)) = x3)) && (decide ((asI (nth (asA (nth (asT r24) 0)) 1)) = x4)))
                          (some (.bool ((decide ((asI (nth (asA (nth (asT r24) 1)) 0)) = (0 : Int))) && (decide ((asI (nth (asA (nth (asT r24) 1)) 1)) = (0 : Int))))))
                          (some (.bool (false))))
                         (some (.bool (false))))))
                    ((ev (envF N) k F_base_Within [(.int .i64 x5), (.int .i64 (w64 ((0 : Int) - (asI (nth (asA (nth (asT r11) 0)) 0))))), (.int .i64 (asI (nth (asA (nth (asT r11) 0)) 1)))]).bind fun r21 =>
                     cond (!(false == asB r21))
                      (some (.bool (false)))
                      (some (.bool (true))))))))))))) := by kernel_rfl

end Go.PewTab

namespace Go.PewTab
set_option linter.unusedSimpArgs false
set_option linter.unusedVariables false
open Go.Pew Go.Num

theorem evap_dry {t : Tab} {v : Int} (hv : IsV t v) : evap t 0 v = 0 := by
  have h1 : lo t ≤ v := hv.1
  unfold evap
  rw [Int.zero_mul, Int.zero_ediv]
  omega

/-- A pair without evaporation. -/
def dry (p : Pair) : Pair := ⟨p.u, p.l, 0⟩

theorem dry_ok {p : Pair} {s : Vols} (h : bErr p s = 0) : bErr (dry p) s = 0 := by
  obtain ⟨hp, hu, hl⟩ := bErr_zero h
  have h1 : tErr p.u = 0 := by
    unfold bErr at h
    split at h
    · rename_i h1
      unfold pErr at h1
      split at h1
      · assumption
      · rename_i h2; exact absurd h1 h2
    · rename_i h1; exact absurd h h1
  have h2 : tErr p.l = 0 := by
    unfold bErr at h
    split at h
    · rename_i h3
      unfold pErr at h3
      rw [if_pos h1] at h3
      split at h3
      · assumption
      · rename_i h2; exact absurd h3 h2
    · rename_i h1; exact absurd h h1
  unfold bErr
  have : pErr (dry p) = 0 := by
    unfold pErr dry
    rw [if_pos h1, if_pos h2, if_pos (by simp)]
  rw [if_pos this]
  unfold sErr dry
  rw [if_pos ⟨hu, hl⟩]

theorem dry_step {p : Pair} {s : Vols} (hu : IsV p.u s.u) (hl : IsV p.l s.l) (x : Int) : step (dry p) s ⟨0, 0, x⟩ =
    if s.u + x < lo p.u ∨ s.l - x < lo p.l then none else some (⟨s.u + x - max 0 (s.u + x - hi p.u), s.l - x - max 0 (s.l - x - hi p.l)⟩, ⟨0, max 0 (s.u + x - hi p.u) + max 0 (s.l - x - hi p.l)⟩) := by
  unfold step dry
  simp only [evap_dry hu, evap_dry hl, Int.sub_zero, Int.add_zero]

theorem LakeUsable_ev {N k : Nat} (hN : 1000000 ≤ N) (hA : ev (envF N) (k + 15) F_law01_awake [] = some (.bool true)) (p : Pair) (s : Vols) (x : Int) : ev (envF N) (k + 16) F_law01_LakeUsable [vPair p, vVols s, .int .i64 x] = some (.bool true) := by
  rw [E_law01_LakeUsable, hA]
  simp only [obind, asB_bool, Bool.not_true, cond_f, law_FewPair (k := k + 13), cond_ndec]
  by_cases hfew : p.u.length ≤ 12 ∧ p.l.length ≤ 12
  · rw [if_pos hfew, ref_BothErr hN]
    simp only [obind, asI_int, cond_ndec]
    by_cases hb : bErr p s = 0
    · rw [if_pos hb, base_Within]
      simp only [obind, asB_bool, cond_ndec]
      by_cases hx : -10000000 ≤ x ∧ x ≤ 10000000
      · obtain ⟨hp, hu, hl⟩ := bErr_zero hb
        have hd := dry_ok hb
        have c := Ok.lo_hi hp.u
        have d := Ok.lo_hi hp.l
        have hu1 : lo p.u ≤ s.u := hu.1
        have hl1 : lo p.l ≤ s.l := hl.1
        have hu2 : s.u ≤ hi p.u := hu.2
        have hl2 : s.l ≤ hi p.l := hl.2
        have g1 := ref_CopyPair (N := N) (k := k + 13) p (by omega) (by omega)
        have g2 : ev (envF N) (k + 15) F_ref01_CopyPair [.agg [.sl none [.int .i64, .int .i64] (p.u.map cK), .sl none [.int .i64, .int .i64] (p.l.map cK), .int .i64 0]] = some (vPair (dry p)) := ref_CopyPair (N := N) (k := k + 13) (dry p) (by show p.u.length ≤ 100000; omega) (by show p.l.length ≤ 100000; omega)
        have g3 := lake_Usable (k := k + 7) hN (dry p) s
        have hf : fErr ⟨0, 0, x⟩ = 0 := by unfold fErr; rw [if_pos ⟨by simp, by simp, hx⟩]
        have g4 := lake_Step (k := k + 7) hN (dry p) s ⟨0, 0, x⟩
        rw [if_pos hd] at g3
        rw [stepR_ok hd hf, dry_step hu hl] at g4
        obtain ⟨U, hU⟩ : ∃ U, min (s.u - lo p.u) (hi p.l - s.l) = U := ⟨_, rfl⟩
        obtain ⟨L, hL⟩ : ∃ L, min (s.l - lo p.l) (hi p.u - s.u) = L := ⟨_, rfl⟩
        have e1 : w64 (0 - U) = -U := by rw [w64_id] <;> omega
        have hU' : min (s.u - lo (dry p).u) (hi (dry p).l - s.l) = U := hU
        have hL' : min (s.l - lo (dry p).l) (hi (dry p).u - s.u) = L := hL
        rw [hU', hL'] at g3
        rw [if_pos hx, g1]
        simp only [obind, asA_agg, nth_zero, nth_one, asL_sl, g2, nth_two, asI_int]
        simp only [g3, obind, asT_tup, asA_agg, nth_zero, nth_one, asI_int, if_true, base_Within, asB_bool, cond_ndec]
        rw [if_pos (show 0 ≤ U ∧ U ≤ 1000000000 by omega), if_pos (show 0 ≤ L ∧ L ≤ 1000000000 by omega)]
        simp only [g4, e1]
        by_cases hn : s.u + x < lo p.u ∨ s.l - x < lo p.l
        · rw [if_pos hn, stepE]
          have hw : ¬ (-U ≤ x ∧ x ≤ L) := by omega
          simp only [obind, asT_tup, asA_agg, nth_zero, nth_one, nth_two, asI_int, show ¬ ((22 : Int) = 0) by decide, if_true, if_false, cond_dec, decide_eq_false hw, beq_self_eq_true, Bool.not_true, cond_f]
        · rw [if_neg hn, stepE]
          obtain ⟨S, hS⟩ : ∃ S, max 0 (s.u + x - hi p.u) + max 0 (s.l - x - hi p.l) = S := ⟨_, rfl⟩
          simp only [obind, asT_tup, asA_agg, nth_zero, nth_one, nth_two, asI_int, if_true, cond_dec, hS, decide_true, Bool.true_and]
          have hw : (S = 0) ↔ (-U ≤ x ∧ x ≤ L) := by omega
          have hw2 : decide (S = 0) = decide (-U ≤ x ∧ x ≤ L) := by rw [decide_eq_decide]; exact hw
          rw [hw2, beq_self_eq_true, Bool.not_true, cond_f, cond_ndec]
          by_cases hpos : -U ≤ x ∧ x ≤ L
          · rw [if_pos hpos]
            have m1 : max 0 (s.u + x - hi p.u) = 0 := by omega
            have m2 : max 0 (s.l - x - hi p.l) = 0 := by omega
            have e2 : w64 (0 - x) = -x := by rw [w64_id] <;> omega
            have b2 : bErr (dry p) ⟨s.u + x, s.l - x⟩ = 0 := by
              have : pErr (dry p) = 0 := by
                unfold bErr at hd
                split at hd
                · assumption
                · rename_i h1; exact absurd hd h1
              unfold bErr
              rw [if_pos this]
              unfold sErr
              rw [if_pos ⟨⟨by show lo p.u ≤ s.u + x; omega, by show s.u + x ≤ hi p.u; omega⟩, ⟨by show lo p.l ≤ s.l - x; omega, by show s.l - x ≤ hi p.l; omega⟩⟩]
            have hf2 : fErr ⟨0, 0, -x⟩ = 0 := by unfold fErr; rw [if_pos ⟨by simp, by simp, by show -10000000 ≤ -x ∧ -x ≤ 10000000; omega⟩]
            obtain ⟨_, hu', hl'⟩ := bErr_zero b2
            have g5 := lake_Step (k := k + 7) hN (dry p) ⟨s.u + x, s.l - x⟩ ⟨0, 0, -x⟩
            have st := dry_step (p := p) (s := ⟨s.u + x, s.l - x⟩) hu' hl' (-x)
            simp only at st
            rw [if_neg (by omega), show s.u + x + -x = s.u by omega, show s.l - x - -x = s.l by omega, show max 0 (s.u - hi p.u) = 0 by omega, show max 0 (s.l - hi p.l) = 0 by omega, Int.sub_zero, Int.sub_zero] at st
            rw [stepR_ok b2 hf2, st, stepE] at g5
            rw [m1, m2, Int.sub_zero, Int.sub_zero, e2]
            have g5' : ev (envF N) (k + 15) F_lake_Step [.agg [.sl none [.int .i64, .int .i64] (p.u.map cK), .sl none [.int .i64, .int .i64] (p.l.map cK), .int .i64 0], .agg [.int .i64 (s.u + x), .int .i64 (s.l - x)], .agg [.int .i64 0, .int .i64 0, .int .i64 (-x)]] = some (.tup [vVols s, vLoss ⟨0, 0⟩, .int .i64 0]) := g5
            rw [g5']
            simp only [obind, asT_tup, asA_agg, nth_zero, nth_one, nth_two, asI_int]
            simp
          · rw [if_neg hpos]
      · rw [if_neg hx]
    · rw [if_neg hb]
  · rw [if_neg hfew]

end Go.PewTab

namespace Go.PewTab
set_option linter.unusedSimpArgs false
set_option linter.unusedVariables false
open Go.Pew Go
set_option maxRecDepth 100000
set_option linter.unusedVariables false

/-- Loop 13 of law01_LakeKept. -/
noncomputable def L_law01_LakeKept_13 (N k n13  : Nat) (x0 : List (List PV)) (x1 : List (List PV)) (x2 : Int) (x3 : Int) (x4 : List (List PV)) (x5 : List (List PV)) (x6 : Int) (x7 : Int) (x8 : Int) (x9 : Int) (x10 : Int) (x11 : Int) (x12 : Int) (x13 : Int) (x14 : Int) : Option PV := loopAt (envF N) (ev (envF N) k) (evI (envF N) k) F_law01_LakeKept Go.Proofs.Try.f13 [.r, .r, .r, .r, .r, .r, .r, .r, .l, .r, .b] n13 { slots := (und 2 ((.sl none [.int .i64, .int .i64, .int .i64] x0) :: (.ptr 3 0) :: (.ptr 4 0) :: und 2 ((.sl none [.int .i64, .int .i64] x1) :: (.ptr 8 0) :: und 1 ((.ptr 10 0) :: (.int .i64 x2) :: (.ptr 12 0) :: (.int .i64 x3) :: und 243 [])))), boxes := (nos 3 ((some (.cells [(.sl none [.int .i64, .int .i64] x4), (.sl none [.int .i64, .int .i64] x5), (.int .i64 x6)] false)) :: (some (.cells [(.int .i64 x7), (.int .i64 x8)] false)) :: nos 3 ((some (.cells [(.int .i64 x9), (.int .i64 x10)] false)) :: nos 1 ((some (.cells [(.int .i64 x11), (.int .i64 x12)] false)) :: nos 1 ((some (.cells [(.int .i64 x13), (.int .i64 x14)] false)) :: nos 244 []))))), vers := List.replicate 257 0 }
theorem L_law01_LakeKept_13_eq (N k n13  : Nat) (x0 : List (List PV)) (x1 : List (List PV)) (x2 : Int) (x3 : Int) (x4 : List (List PV)) (x5 : List (List PV)) (x6 : Int) (x7 : Int) (x8 : Int) (x9 : Int) (x10 : Int) (x11 : Int) (x12 : Int) (x13 : Int) (x14 : Int) : L_law01_LakeKept_13 N k (n13 + 1)  x0 x1 x2 x3 x4 x5 x6 x7 x8 x9 x10 x11 x12 x13 x14 =
 (cond (decide (x3 < ((List.length x0) : Int)))
 ((ev (envF N) k F_ref01_CopyPair [(.agg [(.sl none [.int .i64, .int .i64] x4), (.sl none [.int .i64, .int .i64] x5), (.int .i64 x6)])]).bind fun r2 =>
  cond (decide ((0 : Int) ≤ x3))
   (cond (decide (x3 < ((List.length x0) : Int)))
    ((ev (envF N) k F_lake_Step [(.agg [(.sl none [.int .i64, .int .i64] (asL (nth (asA r2) 0))), (.sl none [.int .i64, .int .i64] (asL (nth (asA r2) 1))), (.int .i64 (asI (nth (asA r2) 2)))]), (.agg [(.int .i64 x11), (.int .i64 x12)]), (.agg [(.int .i64 (asI (nth (nths x0 (Int.toNat x3)) 0))), (.int .i64 (asI (nth (nths x0 (Int.toNat x3)) 1))), (.int .i64 (asI (nth (nths x0 (Int.toNat x3)) 2)))])]).bind fun r5 =>
     cond (!(decide ((asI (nth (asT r5) 2)) = (0 : Int))))
      (some (.bool (false)))
      (cond (decide ((0 : Int) ≤ x3))
       (cond (decide (x3 < ((List.length x1) : Int)))
        (cond (!((decide ((asI (nth (asA (nth (asT r5) 0)) 0)) = (asI (nth (nths x1 (Int.toNat x3)) 0)))) && (decide ((asI (nth (asA (nth (asT r5) 0)) 1)) = (asI (nth (nths x1 (Int.toNat x3)) 1))))))
         (some (.bool (false)))
         ((ev (envF N) k F_ref01_StateErr [(.agg [(.sl none [.int .i64, .int .i64] x4), (.sl none [.int .i64, .int .i64] x5), (.int .i64 x6)]), (.agg [(.int .i64 (asI (nth (asA (nth (asT r5) 0)) 0))), (.int .i64 (asI (nth (asA (nth (asT r5) 0)) 1)))])]).bind fun r10 =>
          cond (!(decide ((asI r10) = (0 : Int))))
           (some (.bool (false)))
           ((ev (envF N) k F_base_Within [(.int .i64 (asI (nth (asA (nth (asT r5) 1)) 0))), (.int .i64 (0 : Int)), (.int .i64 (2000000000 : Int))]).bind fun r12 =>
            cond (!(asB r12))
             (some (.bool (false)))
             ((ev (envF N) k F_base_Within [(.int .i64 (asI (nth (asA (nth (asT r5) 1)) 1))), (.int .i64 (0 : Int)), (.int .i64 (2000000000 : Int))]).bind fun r14 =>
              cond (!(asB r14))
               (some (.bool (false)))
               (cond (decide ((0 : Int) ≤ x3))
                (cond (decide (x3 < ((List.length x0) : Int)))
                 (cond (decide ((0 : Int) ≤ x3))
                  (cond (decide (x3 < ((List.length x0) : Int)))
                   (L_law01_LakeKept_13 N k n13  x0 x1 (w64 ((w64 (x2 + (asI (nth (nths x0 (Int.toNat x3)) 0)))) + (asI (nth (nths x0 (Int.toNat x3)) 1)))) (w64 (x3 + (1 : Int))) x4 x5 x6 x7 x8 x9 x10 (asI (nth (asA (nth (asT r5) 0)) 0)) (asI (nth (asA (nth (asT r5) 0)) 1)) (w64 (x13 + (asI (nth (asA (nth (asT r5) 1)) 0)))) (w64 (x14 + (asI (nth (asA (nth (asT r5) 1)) 1)))))
                   (none))
                  (none))
                 (none))
                (none))))))
        (none))
       (none)))
    (none))
   (none))
 (cond (!((decide (x13 = x9)) && (decide (x14 = x10))))
  (some (.bool (false)))
  (cond (!(decide ((w64 ((w64 ((w64 (x11 + x12)) + x9)) + x10)) = (w64 ((w64 (x7 + x8)) + x2)))))
   (some (.bool (false)))
   ((ev (envF N) k F_ref01_CopyPair [(.agg [(.sl none [.int .i64, .int .i64] x4), (.sl none [.int .i64, .int .i64] x5), (.int .i64 x6)])]).bind fun r4 =>
    cond (decide ((0 : Int) ≤ (w64 (Int.tdiv ((List.length x0) : Int) (2 : Int)))))
     (cond (decide ((w64 (Int.tdiv ((List.length x0) : Int) (2 : Int))) ≤ ((List.length x0) : Int)))
      ((ev (envF N) k F_ref01_CopyList [(.sl none [.int .i64, .int .i64, .int .i64] (List.drop 0 (List.take (Int.toNat (w64 (Int.tdiv (x0.length : Int) (2 : Int)))) x0)))]).bind fun r7 =>
       (ev (envF N) k F_lake_RunOf [(.agg [(.sl none [.int .i64, .int .i64] (asL (nth (asA r4) 0))), (.sl none [.int .i64, .int .i64] (asL (nth (asA r4) 1))), (.int .i64 (asI (nth (asA r4) 2)))]), (.agg [(.int .i64 x7), (.int .i64 x8)]), (.sl none [.int .i64, .int .i64, .int .i64] (asL r7))]).bind fun r8 =>
        cond (decide ((0 : Int) < (w64 (Int.tdiv ((List.length x0) : Int) (2 : Int)))))
         (cond (decide ((0 : Int) ≤ (w64 ((w64 (Int.tdiv ((List.length x0) : Int) (2 : Int))) - (1 : Int)))))
          (cond (decide ((w64 ((w64 (Int.tdiv ((List.length x0) : Int) (2 : Int))) - (1 : Int))) < ((List.length x1) : Int)))
           ((ev (envF N) k F_ref01_CopyPair [(.agg [(.sl none [.int .i64, .int .i64] x4), (.sl none [.int .i64, .int .i64] x5), (.int .i64 x6)])]).bind fun r12 =>
            cond (decide ((0 : Int) ≤ (w64 (Int.tdiv ((List.length x0) : Int) (2 : Int)))))
             (cond (decide ((w64 (Int.tdiv ((List.length x0) : Int) (2 : Int))) ≤ ((List.length x0) : Int)))
              ((ev (envF N) k F_ref01_CopyList [(.sl none [.int .i64, .int .i64, .int .i64] (List.drop (Int.toNat (w64 (Int.tdiv (x0.length : Int) (2 : Int)))) (List.take (List.length x0) x0)))]).bind fun r15 =>
               (ev (envF N) k F_lake_RunOf [(.agg [(.sl none [.int .i64, .int .i64] (asL (nth (asA r12) 0))), (.sl none [.int .i64, .int .i64] (asL (nth (asA r12) 1))), (.int .i64 (asI (nth (asA r12) 2)))]), (.agg [(.int .i64 (asI (nth (nths x1 (Int.toNat (w64 (w64 (Int.tdiv (x0.length : Int) (2 : Int)) - (1 : Int))))) 0))), (.int .i64 (asI (nth (nths x1 (Int.toNat (w64 (w64 (Int.tdiv (x0.length : Int) (2 : Int)) - (1 : Int))))) 1)))]), (.sl none [.int .i64, .int .i64, .int .i64] (asL r15))]).bind fun r16 =>
                cond (decide ((asI (nth (asT r8) 2)) = (0 : Int)))
                 (cond (decide ((asI (nth (asT r16) 2)) = (0 : Int)))
                  (cond (decide ((0 : Int) ≤ (w64 (Int.tdiv ((List.length x0) : Int) (2 : Int)))))
                   (cond (decide ((w64 (Int.tdiv ((List.length x0) : Int) (2 : Int))) ≤ ((List.length x1) : Int)))
                    ((ev (envF N) k F_ref01_SameStates [(.sl none [.int .i64, .int .i64] (asL (nth (asT r8) 0))), (.sl none [.int .i64, .int .i64] (List.drop 0 (List.take (Int.toNat (w64 (Int.tdiv (x0.length : Int) (2 : Int)))) x1)))]).bind fun r21 =>
                     cond (asB r21)
                      (cond (decide ((0 : Int) ≤ (w64 (Int.tdiv ((List.length x0) : Int) (2 : Int)))))
                       (cond (decide ((w64 (Int.tdiv ((List.length x0) : Int) (2 : Int))) ≤ ((List.length x1) : Int)))
                        ((ev (envF N) k F_ref01_SameStates [(.sl none [.int .i64, .int .i64] (asL (nth (asT r16) 0))), (.sl none [.int .i64, .int .i64] (List.drop (Int.toNat (w64 (Int.tdiv (x0.length : Int) (2 : Int)))) (List.take (List.length x1) x1)))]).bind fun r25 =>
                         cond (asB r25)
                          ((ev (envF N) k F_base_Within [(.int .i64 (asI (nth (asA (nth (asT r8) 1)) 0))), (.int .i64 (0 : Int)), (.int .i64 x9)]).bind fun r27 =>
                           cond (asB r27)
                            ((ev (envF N) k F_base_Within [(.int .i64 (asI (nth (asA (nth (asT r8) 1)) 1))), (.int .i64 (0 : Int)), (.int .i64 x10)]).bind fun r29 =>
                             cond (asB r29)
                              (some (.bool ((decide (x9 = (w64 ((asI (nth (asA (nth (asT r8) 1)) 0)) + (asI (nth (asA (nth (asT r16) 1)) 0)))))) && (decide (x10 = (w64 ((asI (nth (asA (nth (asT r8) 1)) 1)) + (asI (nth (asA (nth (asT r16) 1)) 1)))))))))
                              (some (.bool (false))))
                            (some (.bool (false))))
                          (some (.bool (false))))
                        (none))
                       (none))
                      (some (.bool (false))))
                    (none))
                   (none))
                  (some (.bool (false))))
                 (some (.bool (false))))
              (none))
             (none))
           (none))
          (none))
         ((ev (envF N) k F_ref01_CopyPair [(.agg [(.sl none [.int .i64, .int .i64] x4), (.sl none [.int .i64, .int .i64] x5), (.int .i64 x6)])]).bind fun r10 =>
          cond (decide ((0 : Int) ≤ (w64 (Int.tdiv ((List.length x0) : Int) (2 : Int)))))
           (cond (decide ((w64 (Int.tdiv ((List.length x0) : Int) (2 : Int))) ≤ ((List.length x0) : Int)))
            ((ev (envF N) k F_ref01_CopyList [(.sl none [.int .i64, .int .i64, .int .i64] (List.drop (Int.toNat (w64 (Int.tdiv (x0.length : Int) (2 : Int)))) (List.take (List.length x0) x0)))]).bind fun r13 =>
             (ev (envF N) k F_lake_RunOf [(.agg [(.sl none [.int .i64, .int .i64] (asL (nth (asA r10) 0))), (.sl none [.int .i64, .int .i64] (asL (nth (asA r10) 1))), (.int .i64 (asI (nth (asA r10) 2)))]), (.agg [(.int .i64 x7), (.int .i64 x8)]), (.sl none [.int .i64, .int .i64, .int .i64] (asL r13))]).bind fun r14 =>
              cond (decide ((asI (nth (asT r8) 2)) = (0 : Int)))
               (cond (decide ((asI (nth (asT r14) 2)) = (0 : Int)))
                (cond (decide ((0 : Int) ≤ (w64 (Int.tdiv ((List.length x0) : Int) (2 : Int)))))
                 (cond (decide ((w64 (Int.tdiv ((List.length x0) : Int) (2 : Int))) ≤ ((List.length x1) : Int)))
                  ((ev (envF N) k F_ref01_SameStates [(.sl none [.int .i64, .int .i64] (asL (nth (asT r8) 0))), (.sl none [.int .i64, .int .i64] (List.drop 0 (List.take (Int.toNat (w64 (Int.tdiv (x0.length : Int) (2 : Int)))) x1)))]).bind fun r19 =>
                   cond (asB r19)
                    (cond (decide ((0 : Int) ≤ (w64 (Int.tdiv ((List.length x0) : Int) (2 : Int)))))
                     (cond (decide ((w64 (Int.tdiv ((List.length x0) : Int) (2 : Int))) ≤ ((List.length x1) : Int)))
                      ((ev (envF N) k F_ref01_SameStates [(.sl none [.int .i64, .int .i64] (asL (nth (asT r14) 0))), (.sl none [.int .i64, .int .i64] (List.drop (Int.toNat (w64 (Int.tdiv (x0.length : Int) (2 : Int)))) (List.take (List.length x1) x1)))]).bind fun r23 =>
                       cond (asB r23)
                        ((ev (envF N) k F_base_Within [(.int .i64 (asI (nth (asA (nth (asT r8) 1)) 0))), (.int .i64 (0 : Int)), (.int .i64 x9)]).bind fun r25 =>
                         cond (asB r25)
                          ((ev (envF N) k F_base_Within [(.int .i64 (asI (nth (asA (nth (asT r8) 1)) 1))), (.int .i64 (0 : Int)), (.int .i64 x10)]).bind fun r27 =>
                           cond (asB r27)
                            (some (.bool ((decide (x9 = (w64 ((asI (nth (asA (nth (asT r8) 1)) 0)) + (asI (nth (asA (nth (asT r14) 1)) 0)))))) && (decide (x10 = (w64 ((asI (nth (asA (nth (asT r8) 1)) 1)) + (asI (nth (asA (nth (asT r14) 1)) 1)))))))))
                            (some (.bool (false))))
                          (some (.bool (false))))
                        (some (.bool (false))))
                      (none))
                     (none))
                    (some (.bool (false))))
                  (none))
                 (none))
                (some (.bool (false))))
               (some (.bool (false))))
            (none))
           (none)))
      (none))
     (none))))) := by kernel_rfl
theorem E_law01_LakeKept (N k : Nat) (x0 : List (List PV)) (x1 : List (List PV)) (x2 : Int) (x3 : Int) (x4 : Int) (x5 : List (List PV)) : ev (envF N) (k + 1) F_law01_LakeKept [(.agg [(.sl none [.int .i64, .int .i64] x0), (.sl none [.int .i64, .int .i64] x1), (.int .i64 x2)]), (.agg [(.int .i64 x3), (.int .i64 x4)]), (.sl none [.int .i64, .int .i64, .int .i64] x5)] =
 ((ev (envF N) k F_law01_awake []).bind fun r1 =>
 cond (!(asB r1))
  (some (.bool (false)))
  ((ev (envF N) k F_law01_FewPair [(.agg [(.sl none [.int .i64, .int .i64] x0), (.sl none [.int .i64, .int .i64] x1), (.int .i64 x2)])]).bind fun r3 =>
   cond (!(asB r3))
    (some (.bool (true)))
    (cond (decide ((24 : Int) < ((List.length x5) : Int)))
     (some (.bool (true)))
     ((ev (envF N) k F_ref01_BothErr [(.agg [(.sl none [.int .i64, .int .i64] x0), (.sl none [.int .i64, .int .i64] x1), (.int .i64 x2)]), (.agg [(.int .i64 x3), (.int .i64 x4)])]).bind fun r6 =>
      cond (!(decide ((asI r6) = (0 : Int))))
       (some (.bool (true)))
       ((ev (envF N) k F_ref01_ListErr [(.sl none [.int .i64, .int .i64, .int .i64] x5)]).bind fun r8 =>
        cond (!(decide ((asI r8) = (0 : Int))))
         (some (.bool (true)))
         ((ev (envF N) k F_ref01_CopyPair [(.agg [(.sl none [.int .i64, .int .i64] x0), (.sl none [.int .i64, .int .i64] x1), (.int .i64 x2)])]).bind fun r10 =>
          (ev (envF N) k F_ref01_CopyList [(.sl none [.int .i64, .int .i64, .int .i64] x5)]).bind fun r11 =>
           (ev (envF N) k F_lake_RunOf [(.agg [(.sl none [.int .i64, .int .i64] (asL (nth (asA r10) 0))), (.sl none [.int .i64, .int .i64] (asL (nth (asA r10) 1))), (.int .i64 (asI (nth (asA r10) 2)))]), (.agg [(.int .i64 x3), (.int .i64 x4)]), (.sl none [.int .i64, .int .i64, .int .i64] (asL r11))]).bind fun r12 =>
            cond (!(decide ((asI (nth (asT r12) 2)) = (0 : Int))))
             (some (.bool (decide ((asI (nth (asT r12) 2)) = (22 : Int)))))
             (cond (!(decide (((List.length (asL (nth (asT r12) 0))) : Int) = ((List.length x5) : Int))))
              (some (.bool (false)))
              ((ev (envF N) k F_base_Within [(.int .i64 (asI (nth (asA (nth (asT r12) 1)) 0))), (.int .i64 (0 : Int)), (.int .i64 (48000000000 : Int))]).bind fun r15 =>
               cond (!(asB r15))
                (some (.bool (false)))
                ((ev (envF N) k F_base_Within [(.int .i64 (asI (nth (asA (nth (asT r12) 1)) 1))), (.int .i64 (0 : Int)), (.int .i64 (48000000000 : Int))]).bind fun r17 =>
                 cond (!(asB r17))
                  (some (.bool (false)))
                  (L_law01_LakeKept_13 N k N  x5 (asL (nth (asT r12) 0)) (0 : Int) (0 : Int) x0 x1 x2 x3 x4 (asI (nth (asA (nth (asT r12) 1)) 0)) (asI (nth (asA (nth (asT r12) 1)) 1)) x3 x4 (0 : Int) (0 : Int))))))))))) := by kernel_rfl

end Go.PewTab

namespace Go.PewTab
set_option linter.unusedSimpArgs false
set_option linter.unusedVariables false
open Go.Pew Go.Num

theorem fErr_of {f : Flow} (h : FlowIn f) : fErr f = 0 := by
  unfold fErr FlowIn at *
  rw [if_pos h]
theorem lErr_of {l : List Flow} (h1 : l.length ≤ 200) (h2 : FlowsIn l) : lErr l = 0 := by
  unfold lErr
  rw [if_neg (by omega), if_pos]
  unfold allOk
  rw [List.all_eq_true]
  intro f hf
  simp [fErr_of (h2 f hf)]
theorem bErr_of {p : Pair} {s t : Vols} (h : bErr p s = 0) (ht : Valid p t) : bErr p t = 0 := by
  unfold bErr at h ⊢
  split at h
  · rename_i h1
    rw [if_pos h1]
    unfold sErr
    exact if_pos ht
  · rename_i h1; exact absurd h h1
theorem sErr_of {p : Pair} {t : Vols} (ht : Valid p t) : sErr p t = 0 := by
  unfold sErr
  exact if_pos ht

section
variable {N k : Nat}

theorem LakeKept_tail (hN : 1000000 ≤ N) {p : Pair} {s : Vols} {l : List Flow} (hb : bErr p s = 0) (hfew : p.u.length ≤ 12 ∧ p.l.length ≤ 12) (hf : FlowsIn l) (hl : l.length ≤ 24) (hok : (runG p s l).ok = true) (now : Vols) (n : Nat) (i : Nat) (w : Int) (hil : i = l.length) (hn : 0 < n) (hnow : Valid p now) (hw : now.u + now.l + (runG p s l).y.e + (runG p s l).y.s = s.u + s.l + w) (hw0 : 0 ≤ w) (hw1 : w ≤ 20000000 * i) :
    L_law01_LakeKept_13 N (k + 15) n (l.map cF) ((runG p s l).ss.map cV) w (i : Int) (p.u.map cK) (p.l.map cK) p.r s.u s.l (runG p s l).y.e (runG p s l).y.s now.u now.l (runG p s l).y.e (runG p s l).y.s = some (.bool true) := by
  obtain ⟨n, rfl⟩ : ∃ m, n = m + 1 := ⟨n - 1, by omega⟩
  obtain ⟨hp, hu, hll⟩ := bErr_zero hb
  have hs : Valid p s := ⟨hu, hll⟩
  obtain ⟨v0, v1, v2, v3, v4⟩ := run_ok hp l s hs hf
  have hlen := run_len p l s hok
  obtain ⟨h, hh⟩ : ∃ h, l.length / 2 = h := ⟨_, rfl⟩
  have hA : FlowsIn (l.take h) := fun f hm => hf f (List.mem_of_mem_take hm)
  have hB : FlowsIn (l.drop h) := fun f hm => hf f (List.mem_of_mem_drop hm)
  have hsplit : l.take h ++ l.drop h = l := List.take_append_drop h l
  have hokAB : (runG p s (l.take h ++ l.drop h)).ok = true := by rw [hsplit]; exact hok
  obtain ⟨c1, c2, c3, c4, c5⟩ := run_append (p := p) (l.take h) (l.drop h) s hokAB
  rw [hsplit] at c3 c4 c5
  obtain ⟨ra, hra⟩ : ∃ ra, runG p s (l.take h) = ra := ⟨_, rfl⟩
  have lA := run_len p (l.take h) s c1
  rw [hra] at c1 c2 c3 c4 c5 lA
  have lA : ra.ss.length = h := by rw [lA, List.length_take]; omega
  obtain ⟨mid, hmid⟩ : ∃ mid, ra.ss.getLastD s = mid := ⟨_, rfl⟩
  rw [hmid] at c2 c3 c4 c5
  obtain ⟨rb, hrb⟩ : ∃ rb, runG p mid (l.drop h) = rb := ⟨_, rfl⟩
  rw [hrb] at c2 c3 c4 c5
  have vA := (run_ok hp (l.take h) s hs hA)
  rw [hra] at vA
  have hmv : Valid p mid := by
    rw [← hmid, List.getLastD_eq_getLast?]
    cases hq : ra.ss.getLast? with
    | none => exact hs
    | some a => exact vA.1 a (List.mem_of_getLast? hq)
  have vB := run_ok hp (l.drop h) mid hmv hB
  rw [hrb] at vB
  have tA : (runG p s l).ss.take h = ra.ss := by rw [c3, ← lA, List.take_left]
  have tB : (runG p s l).ss.drop h = rb.ss := by rw [c3, ← lA, List.drop_left]
  have g1 := ref_CopyPair (N := N) (k := k + 13) p (by omega) (by omega)
  have g2 := ref_CopyList (N := N) (k := k + 14) (l.take h) (by rw [List.length_take]; omega)
  have g3 := ref_CopyList (N := N) (k := k + 14) (l.drop h) (by rw [List.length_drop]; omega)
  have g4 := lake_RunOf (k := k + 7) hN p s (l.take h)
  have g5 := lake_RunOf (k := k + 7) hN p mid (l.drop h)
  have eA : lErr (l.take h) = 0 := lErr_of (by rw [List.length_take]; omega) hA
  have eB : lErr (l.drop h) = 0 := lErr_of (by rw [List.length_drop]; omega) hB
  have bm := bErr_of hb hmv
  unfold runR at g4 g5
  rw [if_neg (by omega), if_neg (by omega), hra] at g4
  rw [if_neg (by omega), if_neg (by omega), hrb] at g5
  unfold runE at g4 g5
  rw [if_pos c1] at g4
  rw [if_pos c2] at g5
  have b1 := Ok.lo_hi hp.u
  have b2 := Ok.lo_hi hp.l
  have m1 : lo p.u ≤ now.u := hnow.1.1
  have m2 : now.u ≤ hi p.u := hnow.1.2
  have m3 : lo p.l ≤ now.l := hnow.2.1
  have m4 : now.l ≤ hi p.l := hnow.2.2
  have m5 : lo p.u ≤ s.u := hs.1.1
  have m6 : s.u ≤ hi p.u := hs.1.2
  have m7 : lo p.l ≤ s.l := hs.2.1
  have m8 : s.l ≤ hi p.l := hs.2.2
  have w1 : w64 (w64 (w64 (now.u + now.l) + (runG p s l).y.e) + (runG p s l).y.s) = now.u + now.l + (runG p s l).y.e + (runG p s l).y.s := by
    rw [w64_id (x := now.u + now.l) (by omega) (by omega), w64_id (x := now.u + now.l + (runG p s l).y.e) (by omega) (by omega), w64_id (by omega) (by omega)]
  have w2 : w64 (w64 (s.u + s.l) + w) = s.u + s.l + w := by
    rw [w64_id (x := s.u + s.l) (by omega) (by omega), w64_id (by omega) (by omega)]
  have td : Int.tdiv ((l.length : Nat) : Int) 2 = (h : Int) := by rw [← hh]; rfl
  have w3 : w64 (h : Int) = (h : Int) := by rw [w64_id] <;> omega
  have k1 : (0 : Int) ≤ (h : Int) := by omega
  have k2 : (h : Int) ≤ (l.length : Int) := by omega
  have k3 : (h : Int) ≤ ((runG p s l).ss.length : Int) := by omega
  have w4 : w64 (ra.y.e + rb.y.e) = (runG p s l).y.e := by rw [w64_id] <;> omega
  have w5 : w64 (ra.y.s + rb.y.s) = (runG p s l).y.s := by rw [w64_id] <;> omega
  have f1 : List.drop 0 (List.take h (l.map cF)) = (l.take h).map cF := by rw [List.drop_zero, List.map_take]
  have f2 : List.drop h (List.take (l.map cF).length (l.map cF)) = (l.drop h).map cF := by rw [List.take_length, List.map_drop]
  have f3 : List.drop 0 (List.take h ((runG p s l).ss.map cV)) = ra.ss.map cV := by rw [List.drop_zero, ← List.map_take, tA]
  have f4 : List.drop h (List.take ((runG p s l).ss.map cV).length ((runG p s l).ss.map cV)) = rb.ss.map cV := by rw [List.take_length, ← List.map_drop, tB]
  have g6 := ref_SameStates (N := N) (k := k + 14) hN ra.ss (by omega)
  have lB : rb.ss.length ≤ 100000 := by rw [← tB, List.length_drop]; omega
  have g7 := ref_SameStates (N := N) (k := k + 14) hN rb.ss lB
  rw [List.length_map] at f2 f4
  rw [L_law01_LakeKept_13_eq]
  have c0 : ¬ ((i : Int) < (l.length : Int)) := by omega
  simp only [cond_dec, cond_ndec, List.length_map, c0, if_false, decide_true, Bool.and_self, Bool.not_true, cond_f, cond_t, w1, w2, hw, if_true, g1, obind, td, w3, k1, k2, Int.toNat_natCast, f1, g2, asA_agg, nth_zero, nth_one, nth_two, asL_sl, asI_int, g4]
  by_cases h0 : 0 < h
  · have c6 : (0 : Int) < (h : Int) := by omega
    have w6 : w64 ((h : Int) - 1) = ((h - 1 : Nat) : Int) := by rw [w64_id] <;> omega
    have k4 : (0 : Int) ≤ ((h - 1 : Nat) : Int) := by omega
    have k5 : ((h - 1 : Nat) : Int) < ((runG p s l).ss.length : Int) := by omega
    have hmid2 : vls (runG p s l).ss (h - 1) = mid := by
      rw [← hmid]
      unfold vls
      rw [c3, List.getD_eq_getElem?_getD, List.getElem?_append_left (by omega)]
      rw [← lA, ← List.getLast?_eq_getElem?, List.getLastD_eq_getLast?]
      cases hq : ra.ss.getLast? with
      | some a => rfl
      | none => rw [List.getLast?_eq_none_iff] at hq; rw [hq] at lA; simp at lA; omega
    simp only [c6, if_true, w6, k4, k5, f2, g3, obind, Int.toNat_natCast, leaf_cV0, leaf_cV1, hmid2, asL_sl, g5, asT_tup, nth_zero, nth_one, nth_two, asI_int, asA_agg, k3, f3, f4, List.nil_append, g6, g7, asB_bool, cond_t, base_Within (k := k + 14), cond_dec, Int.zero_add, w4, w5]
    rw [if_pos (show 0 ≤ ra.y.e ∧ ra.y.e ≤ (runG p s l).y.e by omega), if_pos (show 0 ≤ ra.y.s ∧ ra.y.s ≤ (runG p s l).y.s by omega)]
    simp
  · have c6 : ¬ ((0 : Int) < (h : Int)) := by omega
    have hmid2 : mid = s := by
      rw [← hmid]
      cases hq : ra.ss with
      | nil => rfl
      | cons a tl => rw [hq, List.length_cons] at lA; omega
    rw [hmid2] at g5
    simp only [c6, if_false, f2, g3, obind, Int.toNat_natCast, asL_sl, g5, asT_tup, nth_zero, nth_one, nth_two, asI_int, asA_agg, if_true, k3, f3, f4, List.nil_append, g6, g7, asB_bool, cond_t, base_Within (k := k + 14), cond_dec, Int.zero_add, w4, w5]
    rw [if_pos (show 0 ≤ ra.y.e ∧ ra.y.e ≤ (runG p s l).y.e by omega), if_pos (show 0 ≤ ra.y.s ∧ ra.y.s ≤ (runG p s l).y.s by omega)]
    simp

theorem vls_drop (l : List Vols) (i : Nat) (a : Vols) (tl : List Vols) (h : l.drop i = a :: tl) : vls l i = a ∧ i < l.length ∧ l.drop (i + 1) = tl := by
  have hi : i < l.length := by
    rcases Nat.lt_or_ge i l.length with h1 | h1
    · exact h1
    · rw [List.drop_eq_nil_of_le h1] at h; cases h
  rw [List.drop_eq_getElem_cons hi] at h
  cases h
  refine ⟨?_, hi, rfl⟩
  unfold vls
  rw [List.getD_eq_getElem?_getD, List.getElem?_eq_getElem hi, Option.getD_some]

theorem LakeKept_loop (hN : 1000000 ≤ N) {p : Pair} {s : Vols} {l : List Flow} (hb : bErr p s = 0) (hfew : p.u.length ≤ 12 ∧ p.l.length ≤ 12) (hf : FlowsIn l) (hl : l.length ≤ 24) (hok : (runG p s l).ok = true) : ∀ (d n i : Nat) (now : Vols) (w E S : Int), i + d = l.length → d < n → Valid p now →
    (runG p now (l.drop i)).ok = true → (runG p now (l.drop i)).ss = (runG p s l).ss.drop i → (runG p now (l.drop i)).y.e = (runG p s l).y.e - E → (runG p now (l.drop i)).y.s = (runG p s l).y.s - S → 0 ≤ E → E ≤ 2000000000 * i → 0 ≤ S → S ≤ 2000000000 * i →
    now.u + now.l + E + S = s.u + s.l + w → 0 ≤ w → w ≤ 20000000 * i →
    L_law01_LakeKept_13 N (k + 15) n (l.map cF) ((runG p s l).ss.map cV) w (i : Int) (p.u.map cK) (p.l.map cK) p.r s.u s.l (runG p s l).y.e (runG p s l).y.s now.u now.l E S = some (.bool true)
  | 0, n, i, now, w, E, S, h1, h2, h3, r1, r2, r3, r4, e0, e1, s0, s1, hw, w0, w1 => by
    rw [List.drop_eq_nil_of_le (show l.length ≤ i by omega)] at r3 r4
    simp only [runG] at r3 r4
    have q1 : E = (runG p s l).y.e := by omega
    have q2 : S = (runG p s l).y.s := by omega
    subst q1 q2
    exact LakeKept_tail hN hb hfew hf hl hok now n i w (by omega) (by omega) h3 hw w0 w1
  | d + 1, n + 1, i, now, w, E, S, h1, h2, h3, r1, r2, r3, r4, e0, e1, s0, s1, hw, w0, w1 => by
    obtain ⟨hp, hu, hll⟩ := bErr_zero hb
    have hfi := hf _ (flo_mem l i (by omega))
    rw [flo_drop l i (by omega)] at r1 r2 r3 r4
    cases hst : step p now (flo l i) with
    | none => rw [run_none _ hst] at r1; cases r1
    | some r =>
      obtain ⟨s', x⟩ := r
      rw [run_some _ hst] at r1 r2 r3 r4
      simp only at r1 r2 r3 r4
      obtain ⟨a1, a2, a3, a4, a5, a6, a7⟩ := step_ok hp h3.1 h3.2 hst hfi
      obtain ⟨q1, q2, q3⟩ := vls_drop _ _ _ _ r2.symm
      have c1 : (i : Int) < (l.length : Int) := by omega
      have c2 : (0 : Int) ≤ (i : Int) := by omega
      have c3 : (i : Int) < ((runG p s l).ss.length : Int) := by omega
      have ei : w64 ((i : Int) + 1) = ((i + 1 : Nat) : Int) := by rw [w64_id] <;> omega
      have g1 := ref_CopyPair (N := N) (k := k + 13) p (by omega) (by omega)
      have g2 := lake_Step (k := k + 7) hN p now (flo l i)
      rw [stepR_ok (bErr_of hb h3) (fErr_of hfi), hst, stepE] at g2
      have g3 := ref_StateErr (N := N) (k := k + 12) hp s'
      rw [sErr_of ⟨a1, a2⟩] at g3
      unfold FlowIn at hfi
      have ew : w64 (w64 (w + (flo l i).a) + (flo l i).b) = w + (flo l i).a + (flo l i).b := by
        rw [w64_id (x := w + (flo l i).a) (by omega) (by omega), w64_id (by omega) (by omega)]
      have eE : w64 (E + x.e) = E + x.e := by rw [w64_id] <;> omega
      have eS : w64 (S + x.s) = S + x.s := by rw [w64_id] <;> omega
      have b1 : 0 ≤ x.e ∧ x.e ≤ 2000000000 := ⟨a3, a4⟩
      have b2 : 0 ≤ x.s ∧ x.s ≤ 2000000000 := ⟨a5, a6⟩
      rw [L_law01_LakeKept_13_eq]
      simp only [cond_dec, cond_ndec, List.length_map, c1, c2, c3, if_true, g1, obind, asA_agg, nth_zero, nth_one, nth_two, asL_sl, asI_int, Int.toNat_natCast, leaf_cF0, leaf_cF1, leaf_cF2, leaf_cV0, leaf_cV1, g2, asT_tup, q1, decide_true, Bool.and_self, Bool.not_true, cond_f, cond_t, g3, base_Within (k := k + 14), asB_bool, b1, b2, ew, ei, eE, eS]
      exact LakeKept_loop hN hb hfew hf hl hok d n (i + 1) s' (w + (flo l i).a + (flo l i).b) (E + x.e) (S + x.s) (by omega) (by omega) ⟨a1, a2⟩ r1 (by rw [q3]) (by omega) (by omega) (by omega) (by omega) (by omega) (by omega) (by omega) (by omega) (by omega)

theorem LakeKept_ev (hN : 1000000 ≤ N) (hA : ev (envF N) (k + 15) F_law01_awake [] = some (.bool true)) (p : Pair) (s : Vols) (l : List Flow) : ev (envF N) (k + 16) F_law01_LakeKept [vPair p, vVols s, vFlows l] = some (.bool true) := by
  rw [E_law01_LakeKept, hA]
  simp only [obind, asB_bool, Bool.not_true, cond_f, law_FewPair (k := k + 13), cond_ndec, cond_dec]
  by_cases hfew : p.u.length ≤ 12 ∧ p.l.length ≤ 12
  · rw [if_pos hfew, List.length_map]
    by_cases h24 : 24 < l.length
    · rw [if_pos (by omega)]
    · have g4 := ref_BothErr (k := k) hN p s
      have g5 := ref_ListErr (k := k + 12) hN l
      rw [if_neg (by omega), g4]
      simp only [obind, asI_int, cond_ndec]
      by_cases hb : bErr p s = 0
      · rw [if_pos hb, g5]
        simp only [obind, asI_int, cond_ndec]
        by_cases hl : lErr l = 0
        · have g1 := ref_CopyPair (N := N) (k := k + 13) p (by omega) (by omega)
          have g2 := ref_CopyList (N := N) (k := k + 14) l (by omega)
          have g3 := lake_RunOf (k := k + 7) hN p s l
          obtain ⟨hp, hs⟩ := bErr_zero hb
          obtain ⟨h3, h4⟩ := lErr_zero hl
          unfold runR at g3
          rw [if_neg (by omega), if_neg (by omega)] at g3
          rw [if_pos hl, g1]
          simp only [obind, g2, asA_agg, nth_zero, nth_one, nth_two, asI_int, asL_sl, g3]
          unfold runE
          cases hok : (runG p s l).ok with
          | false =>
            simp only [asT_tup, nth_two, asI_int, Bool.false_eq_true, if_false]
            simp
          | true =>
            have hlen := run_len p l s hok
            obtain ⟨v0, v1, v2, v3, v4⟩ := run_ok hp l s hs h4
            have b1 : 0 ≤ (runG p s l).y.e ∧ (runG p s l).y.e ≤ 48000000000 := by omega
            have b2 : 0 ≤ (runG p s l).y.s ∧ (runG p s l).y.s ≤ 48000000000 := by omega
            simp only [asT_tup, asA_agg, nth_zero, nth_one, nth_two, asI_int, asL_sl, if_true, List.nil_append, List.length_map, hlen, Int.zero_add, base_Within (k := k + 14), obind, asB_bool, cond_ndec, b1, b2, and_self]
            exact LakeKept_loop hN hb hfew h4 (by omega) hok l.length N 0 s 0 0 0 (by omega) (by omega) hs (by rw [List.drop_zero]; exact hok) (by rw [List.drop_zero, List.drop_zero]) (by rw [List.drop_zero]; omega) (by rw [List.drop_zero]; omega) (by omega) (by omega) (by omega) (by omega) (by omega) (by omega) (by omega)
        · rw [if_neg hl]
      · rw [if_neg hb]
  · rw [if_neg hfew]

end
end Go.PewTab

namespace Go.PewTab
set_option linter.unusedSimpArgs false
set_option linter.unusedVariables false
open Go.Pew Go.Num

def ups (l : List Flow) : List Flow := l.map fun f => ⟨0, 0, f.x⟩
def backs (l : List Flow) : List Flow := l.reverse.map fun f => ⟨0, 0, -f.x⟩

theorem ups_in {l : List Flow} (h : FlowsIn l) : FlowsIn (ups l) := by
  intro f hf
  obtain ⟨g, hg, rfl⟩ := List.mem_map.1 hf
  exact ⟨⟨by simp, by simp⟩, ⟨by simp, by simp⟩, (h g hg).2.2⟩
theorem backs_in {l : List Flow} (h : FlowsIn l) : FlowsIn (backs l) := by
  intro f hf
  obtain ⟨g, hg, rfl⟩ := List.mem_map.1 hf
  have := (h g (List.mem_reverse.1 hg)).2.2
  exact ⟨⟨by simp, by simp⟩, ⟨by simp, by simp⟩, by show -10000000 ≤ -g.x ∧ -g.x ≤ 10000000; omega⟩
theorem ups_len (l : List Flow) : (ups l).length = l.length := by simp [ups]
theorem backs_len (l : List Flow) : (backs l).length = l.length := by simp [backs]

theorem flo_eq (l : List Flow) (i : Nat) (h : i < l.length) : flo l i = l[i] := by
  unfold flo
  rw [List.getD_eq_getElem?_getD, List.getElem?_eq_getElem h, Option.getD_some]
theorem vls_eq (l : List Vols) (i : Nat) (h : i < l.length) : vls l i = l[i] := by
  unfold vls
  rw [List.getD_eq_getElem?_getD, List.getElem?_eq_getElem h, Option.getD_some]
theorem take_next (l : List Flow) (i : Nat) (h : i < l.length) : l.take (i + 1) = l.take i ++ [flo l i] := by
  rw [flo_eq l i h, List.take_append_getElem]
theorem ups_flo (l : List Flow) (i : Nat) (h : i < l.length) : flo (ups l) i = ⟨0, 0, (flo l i).x⟩ := by
  rw [flo_eq _ _ (by rw [ups_len]; exact h), flo_eq _ _ h]
  simp [ups]
theorem backs_flo (l : List Flow) (i : Nat) (h : i < l.length) : flo (backs l) i = ⟨0, 0, -(flo l (l.length - 1 - i)).x⟩ := by
  rw [flo_eq _ _ (by rw [backs_len]; exact h), flo_eq _ _ (by omega)]
  simp [backs]

theorem run_app {p : Pair} : ∀ (a b : List Flow) (s : Vols), (runG p s a).ok = true →
    runG p s (a ++ b) = ⟨(runG p s a).ss ++ (runG p ((runG p s a).ss.getLastD s) b).ss, ⟨(runG p s a).y.e + (runG p ((runG p s a).ss.getLastD s) b).y.e, (runG p s a).y.s + (runG p ((runG p s a).ss.getLastD s) b).y.s⟩, (runG p ((runG p s a).ss.getLastD s) b).ok⟩
  | [], b, s, h => by
    simp [runG]
  | f :: fs, b, s, h => by
    rw [List.cons_append]
    cases hst : step p s f with
    | none => rw [run_none _ hst] at h; cases h
    | some r =>
      obtain ⟨s', x⟩ := r
      rw [run_some _ hst] at h
      have hl : (s' :: (runG p s' fs).ss).getLastD s = (runG p s' fs).ss.getLastD s' := by
        cases (runG p s' fs).ss <;> simp [List.getLastD]
      rw [run_some fs hst, run_some (fs ++ b) hst, run_app fs b s' h]
      simp only [hl, List.cons_append, Int.add_assoc]

theorem dry_pok {p : Pair} (h : POk p) : POk (dry p) := ⟨h.u, h.l, by show (0 : Int) ≤ 0; omega, by show (0 : Int) ≤ 1000; omega⟩

/-- Of a run without losses: the step is the exchange alone. -/
theorem dry_first {p : Pair} (hp : POk p) {s : Vols} (hs : Valid p s) {f : Flow} {fs : List Flow} (hf : FlowsIn (f :: fs)) (hok : (runG (dry p) s (ups (f :: fs))).ok = true) (hz : (runG (dry p) s (ups (f :: fs))).y = ⟨0, 0⟩) :
    Valid p ⟨s.u + f.x, s.l - f.x⟩ ∧ runG (dry p) s (ups (f :: fs)) = ⟨⟨s.u + f.x, s.l - f.x⟩ :: (runG (dry p) ⟨s.u + f.x, s.l - f.x⟩ (ups fs)).ss, ⟨0, 0⟩, true⟩ ∧
      (runG (dry p) ⟨s.u + f.x, s.l - f.x⟩ (ups fs)).ok = true ∧ (runG (dry p) ⟨s.u + f.x, s.l - f.x⟩ (ups fs)).y = ⟨0, 0⟩ := by
  have hst := dry_step hs.1 hs.2 f.x
  have c := Ok.lo_hi hp.u
  have d := Ok.lo_hi hp.l
  have eu : ups (f :: fs) = ⟨0, 0, f.x⟩ :: ups fs := rfl
  rw [eu] at hok hz ⊢
  have hfs : FlowsIn (ups fs) := ups_in fun g hg => hf g (List.mem_cons_of_mem _ hg)
  by_cases hn : s.u + f.x < lo p.u ∨ s.l - f.x < lo p.l
  · rw [if_pos hn] at hst
    rw [run_none _ hst] at hok
    cases hok
  · rw [if_neg hn] at hst
    obtain ⟨U, hU⟩ : ∃ U, max 0 (s.u + f.x - hi p.u) = U := ⟨_, rfl⟩
    obtain ⟨W, hW⟩ : ∃ W, max 0 (s.l - f.x - hi p.l) = W := ⟨_, rfl⟩
    rw [hU, hW] at hst
    have hv : Valid (dry p) ⟨s.u + f.x - U, s.l - f.x - W⟩ := by
      unfold Valid IsV dry
      unfold lo hi at *
      simp only
      omega
    obtain ⟨_, e1, _, s1, _⟩ := run_ok (dry_pok hp) (ups fs) _ hv hfs
    rw [run_some _ hst] at hok hz
    simp only [Loss.mk.injEq] at hz
    have hU0 : U = 0 := by omega
    have hW0 : W = 0 := by omega
    rw [run_some _ hst]
    subst hU0
    subst hW0
    simp only [Int.sub_zero] at hok hz hst hv ⊢
    have y0 : (runG (dry p) ⟨s.u + f.x, s.l - f.x⟩ (ups fs)).y = ⟨0, 0⟩ := by
      cases hy : (runG (dry p) ⟨s.u + f.x, s.l - f.x⟩ (ups fs)).y with
      | mk a b =>
        rw [hy] at hz
        simp only [Loss.mk.injEq] at hz ⊢
        omega
    refine ⟨hv, ?_, hok, y0⟩
    rw [y0, hok]
    rfl

theorem down {p : Pair} (hp : POk p) : ∀ (l : List Flow) (s : Vols), Valid p s → FlowsIn l → (runG (dry p) s (ups l)).ok = true → (runG (dry p) s (ups l)).y = ⟨0, 0⟩ →
    runG (dry p) ((runG (dry p) s (ups l)).ss.getLastD s) (backs l) = ⟨((s :: (runG (dry p) s (ups l)).ss).take (runG (dry p) s (ups l)).ss.length).reverse, ⟨0, 0⟩, true⟩
  | [], s, hs, hf, hok, hz => by
    simp [ups, backs, runG]
  | f :: fs, s, hs, hf, hok, hz => by
    obtain ⟨a1, a2, a3, a4⟩ := dry_first hp hs hf hok hz
    have ih := down hp fs ⟨s.u + f.x, s.l - f.x⟩ a1 (fun g hg => hf g (List.mem_cons_of_mem _ hg)) a3 a4
    obtain ⟨R, hR⟩ : ∃ R, (runG (dry p) ⟨s.u + f.x, s.l - f.x⟩ (ups fs)).ss = R := ⟨_, rfl⟩
    rw [hR] at a2 ih
    rw [a2]
    have hl : (⟨s.u + f.x, s.l - f.x⟩ :: R : List Vols).getLastD s = R.getLastD ⟨s.u + f.x, s.l - f.x⟩ := by
      cases R <;> simp [List.getLastD]
    have eb : backs (f :: fs) = backs fs ++ [⟨0, 0, -f.x⟩] := by simp [backs]
    have hk : (((⟨s.u + f.x, s.l - f.x⟩ :: R : List Vols).take R.length).reverse).getLastD (R.getLastD ⟨s.u + f.x, s.l - f.x⟩) = ⟨s.u + f.x, s.l - f.x⟩ := by
      cases R with
      | nil => rfl
      | cons a tl => simp [List.getLastD_eq_getLast?]
    have st := dry_step (p := p) (s := ⟨s.u + f.x, s.l - f.x⟩) a1.1 a1.2 (-f.x)
    have hu1 : lo p.u ≤ s.u := hs.1.1
    have hl1 : lo p.l ≤ s.l := hs.2.1
    have hu2 : s.u ≤ hi p.u := hs.1.2
    have hl2 : s.l ≤ hi p.l := hs.2.2
    simp only at st
    rw [if_neg (by omega), show s.u + f.x + -f.x = s.u by omega, show s.l - f.x - -f.x = s.l by omega, show max 0 (s.u - hi p.u) = 0 by omega, show max 0 (s.l - hi p.l) = 0 by omega, Int.sub_zero, Int.sub_zero] at st
    have hlast : runG (dry p) ⟨s.u + f.x, s.l - f.x⟩ [⟨0, 0, -f.x⟩] = ⟨[s], ⟨0, 0⟩, true⟩ := by
      rw [run_some _ st]
      rfl
    simp only [hl, eb]
    rw [run_app _ _ _ (by rw [ih]), ih]
    simp only [hk, hlast]
    simp

theorem vls_rev (l : List Vols) (i : Nat) (h : i < l.length) : vls l.reverse i = vls l (l.length - 1 - i) := by
  rw [vls_eq _ _ (by simpa using h), vls_eq _ _ (by omega), List.getElem_reverse]

/-- The states on the way back. -/
theorem back_states (s : Vols) (R : List Vols) : (((s :: R).take R.length).reverse).length = R.length ∧ (∀ i, i + 1 < R.length → vls (((s :: R).take R.length).reverse) i = vls R (R.length - 2 - i)) ∧ (1 ≤ R.length → vls (((s :: R).take R.length).reverse) (R.length - 1) = s) := by
  have hlen : ((s :: R).take R.length).length = R.length := by simp
  have key : ∀ i, i < R.length → vls (((s :: R).take R.length).reverse) i = vls (s :: R) (R.length - 1 - i) := by
    intro i h
    rw [vls_rev _ _ (by omega), hlen, vls_eq _ _ (by omega), vls_eq _ _ (by simp; omega), List.getElem_take]
  refine ⟨by simp, fun i h => ?_, fun h => ?_⟩
  · rw [key i (by omega), show R.length - 1 - i = (R.length - 2 - i) + 1 by omega]
    rfl
  · rw [key _ (by omega), Nat.sub_self]
    rfl

/-! Violations of levels alone. -/
def kindLH (L : Lim) (now : Hgt) : Option Nat := if abv (wh L.lo) now 0 = true then some 0 else if abv now (wh L.hi) 0 = true then some 1 else none
def badAt (p : Pair) (L : Lims) (s : Vols) : Option (Nat × Nat) :=
  match kindLH L.u (lvl p.u s.u) with
  | some k => some (0, k)
  | none => match kindLH L.l (lvl p.l s.l) with
    | some k => some (1, k)
    | none => none

theorem abv_wide {a b : Hgt} (ha : HIn a) (hb : HIn b) : abv a b 1000000 = false := by
  obtain ⟨a1, a2, a3, a4⟩ := ha
  obtain ⟨b1, b2, b3, b4⟩ := hb
  unfold abv
  split
  · have : a.n = 0 := by omega
    rw [this, Int.zero_mul]
    have := Int.mul_nonneg b2.1 (show 0 ≤ a.d by omega)
    exact decide_eq_false (by omega)
  · exact decide_eq_false (by omega)

theorem kind_wide {L : Lim} (h1 : L.fall = 1000000) (h2 : L.rise = 1000000) {a b : Hgt} (ha : HIn a) (hb : HIn b) : kindOf L a b = kindLH L a := by
  unfold kindOf kindLH
  rw [h1, h2, abv_wide hb ha, abv_wide ha hb]
  rfl

theorem at_wide {p : Pair} (hp : POk p) {L : Lims} (h1 : L.u.fall = 1000000) (h2 : L.u.rise = 1000000) (h3 : L.l.fall = 1000000) (h4 : L.l.rise = 1000000) {hist : List Vols} (h : 1 ≤ hist.length) (hv : ∀ t ∈ hist, Valid p t) : atG p L hist = badAt p L (now hist) := by
  have n1 : Valid p (now hist) := vls_valid hv (by omega)
  have n2 : Valid p (bef hist L.u.win) := vls_valid hv (by omega)
  have n3 : Valid p (bef hist L.l.win) := vls_valid hv (by omega)
  unfold atG badAt
  rw [kind_wide h1 h2 (lvl_in hp.u n1.1) (lvl_in hp.u n2.1), kind_wide h3 h4 (lvl_in hp.l n1.2) (lvl_in hp.l n3.2)]
  all_goals rfl

theorem bad_kind {p : Pair} {L : Lims} {s : Vols} {a k : Nat} (h : badAt p L s = some (a, k)) : k ≤ 1 := by
  have key : ∀ (M : Lim) (g : Hgt) (j : Nat), kindLH M g = some j → j ≤ 1 := by
    intro M g j hj
    unfold kindLH at hj
    split at hj
    · cases hj; omega
    · split at hj
      · cases hj; omega
      · cases hj
  unfold badAt at h
  split at h
  · rename_i j hj
    cases h
    exact key _ _ _ hj
  · split at h
    · rename_i j hj
      cases h
      exact key _ _ _ hj
    · cases h

theorem now_snoc (hist : List Vols) (s : Vols) : now (hist ++ [s]) = s := by
  unfold now
  rw [vls_eq _ _ (by simp)]
  simp

theorem viol_wide {p : Pair} (hp : POk p) {L : Lims} (h1 : L.u.fall = 1000000) (h2 : L.u.rise = 1000000) (h3 : L.l.fall = 1000000) (h4 : L.l.rise = 1000000) : ∀ (fs : List Flow) (hist : List Vols) (s : Vols), Valid p s → (∀ t ∈ hist, Valid p t) → FlowsIn fs → (runG p s fs).ok = true →
    ((viol p L hist s fs).2 = 12 ∧ ∀ t ∈ (runG p s fs).ss, badAt p L t = none) ∨ ∃ i a k, i < (runG p s fs).ss.length ∧ badAt p L (vls (runG p s fs).ss i) = some (a, k) ∧ viol p L hist s fs = (⟨((hist.length + i : Nat) : Int), a, k⟩, 0)
  | [], hist, s, hs, hv, hf, hok => by
    left
    exact ⟨rfl, fun t ht => by cases ht⟩
  | f :: fs, hist, s, hs, hv, hf, hok => by
    cases hst : step p s f with
    | none => rw [run_none _ hst] at hok; cases hok
    | some r =>
      obtain ⟨s', x⟩ := r
      rw [run_some _ hst] at hok
      have hfi := hf f (List.mem_cons_self ..)
      obtain ⟨a1, a2, _⟩ := step_ok hp hs.1 hs.2 hst hfi
      have hv' : ∀ t ∈ hist ++ [s'], Valid p t := by
        intro t ht
        rcases List.mem_append.1 ht with ht | ht
        · exact hv t ht
        · rw [List.mem_singleton.1 ht]; exact ⟨a1, a2⟩
      have ea := at_wide hp h1 h2 h3 h4 (hist := hist ++ [s']) (by simp) hv'
      rw [now_snoc] at ea
      have ih := viol_wide hp h1 h2 h3 h4 fs (hist ++ [s']) s' ⟨a1, a2⟩ hv' (fun g hg => hf g (List.mem_cons_of_mem _ hg)) hok
      rw [run_some _ hst]
      unfold viol
      rw [hst]
      simp only [ea]
      cases hb : badAt p L s' with
      | some q =>
        obtain ⟨a, k⟩ := q
        right
        exact ⟨0, a, k, by simp, hb, rfl⟩
      | none =>
        rcases ih with ⟨e1, e2⟩ | ⟨i, a, k, e1, e2, e3⟩
        · left
          refine ⟨e1, fun t ht => ?_⟩
          rcases List.mem_cons.1 ht with rfl | ht
          · exact hb
          · exact e2 t ht
        · right
          refine ⟨i + 1, a, k, by simp; omega, e2, ?_⟩
          simp only
          rw [e3]
          simp only [List.length_append, List.length_cons, List.length_nil]
          rw [show hist.length + (0 + 1) + i = hist.length + (i + 1) by omega]

section
variable {N k : Nat}

theorem ref_limitErr {t : Tab} (h : Ok t) (L : Lim) : ev (envF N) (k + 3) F_ref01_limitErr [vTab t, vLim L] = some (.int .i64 (limErr t L)) := by
  rw [E_ref01_limitErr, ref_IsLevel h]
  simp only [obind, asB_bool, cond_ndec]
  unfold limErr
  by_cases c1 : IsL t L.lo
  · rw [if_pos c1, ref_IsLevel h]
    simp only [obind, asB_bool, cond_ndec]
    by_cases c2 : IsL t L.hi
    · rw [if_pos c2]
      simp only [base_Within, obind, asB_bool, cond_ndec, cond_dec]
      by_cases c3 : 0 ≤ L.fall ∧ L.fall ≤ 1000000
      · rw [if_pos c3]
        by_cases c4 : 0 ≤ L.rise ∧ L.rise ≤ 1000000
        · rw [if_pos c4]
          by_cases c5 : 1 ≤ L.win ∧ L.win ≤ 200
          · have cc : IsL t L.lo ∧ IsL t L.hi ∧ (0 ≤ L.fall ∧ L.fall ≤ 1000000) ∧ (0 ≤ L.rise ∧ L.rise ≤ 1000000) ∧ (1 ≤ L.win ∧ L.win ≤ 200) := ⟨c1, c2, c3, c4, c5⟩
            rw [if_pos c5, if_pos cc]
            by_cases c6 : L.lo ≤ L.hi
            · rw [if_neg (by omega), if_pos c6]
            · rw [if_pos (by omega), if_neg c6]
          · rw [if_neg c5, if_neg (fun h => c5 h.2.2.2.2)]
        · rw [if_neg c4, if_neg (fun h => c4 h.2.2.2.1)]
      · rw [if_neg c3, if_neg (fun h => c3 h.2.2.1)]
    · rw [if_neg c2, if_neg (fun h => c2 h.2.1)]
  · rw [if_neg c1, if_neg (fun h => c1 h.1)]

theorem ref_LimitsErr {p : Pair} (h : POk p) (L : Lims) : ev (envF N) (k + 4) F_ref01_LimitsErr [vPair p, vLims L] = some (.int .i64 (limsErr p L)) := by
  have g1 := ref_limitErr (N := N) (k := k) h.u L.u
  have g2 := ref_limitErr (N := N) (k := k) h.l L.l
  rw [E_ref01_LimitsErr, g1]
  simp only [obind, asI_int, cond_ndec, g2]
  unfold limsErr
  by_cases c : limErr p.u L.u = 0
  · rw [if_pos c, if_pos c]
  · rw [if_neg c, if_neg c]

theorem ref_TaskErr (hN : 1000000 ≤ N) {p : Pair} (h : POk p) (L : Lims) (l : List Flow) : ev (envF N) (k + 5) F_ref01_TaskErr [vPair p, vTask L l] = some (.int .i64 (taskErr p L l)) := by
  have g1 := ref_LimitsErr (N := N) (k := k) h L
  have g2 := ref_ListErr (k := k + 1) hN l
  rw [E_ref01_TaskErr, g1]
  simp only [obind, asI_int, cond_ndec, g2]
  unfold taskErr
  by_cases c : limsErr p L = 0
  · rw [if_pos c, if_pos c]
  · rw [if_neg c, if_neg c]

end
end Go.PewTab

namespace Go.PewTab
set_option linter.unusedSimpArgs false
set_option linter.unusedVariables false
open Go.Pew Go
set_option maxRecDepth 100000
set_option linter.unusedVariables false

/-- Loop 8 of top_TopLakeUpAndDown. -/
noncomputable def L_top_TopLakeUpAndDown_8 (N k n8  : Nat) (x0 : List (List PV)) (x1 : List (List PV)) (x2 : Int) (x3 : List (List PV)) (x4 : List (List PV)) (x5 : Int) (x6 : Int) (x7 : Int) (x8 : Int) (x9 : Int) (x10 : Int) (x11 : Int) (x12 : Int) (x13 : Int) (x14 : Int) (x15 : Int) (x16 : Int) (x17 : Int) (x18 : List (List PV)) : Option PV := loopAt (envF N) (ev (envF N) k) (evI (envF N) k) F_top_TopLakeUpAndDown Go.Proofs.Try.f7 [.r, .r, .r, .r, .r, .l, .r, .b] n8 { slots := (und 3 ((.ptr 3 0) :: (.ptr 4 0) :: (.ptr 5 0) :: und 1 ((.sl (some (7, 0)) [.int .i64, .int .i64, .int .i64] x0) :: (.sl (some (8, 0)) [.int .i64, .int .i64, .int .i64] x1) :: (.int .i64 x2) :: und 228 []))), boxes := (nos 3 ((some (.cells [(.sl none [.int .i64, .int .i64] x3), (.sl none [.int .i64, .int .i64] x4), (.int .i64 x5)] false)) :: (some (.cells [(.int .i64 x6), (.int .i64 x7)] false)) :: (some (.cells [(.int .i64 x8), (.int .i64 x9), (.int .i64 x10), (.int .i64 x11), (.int .i64 x12), (.int .i64 x13), (.int .i64 x14), (.int .i64 x15), (.int .i64 x16), (.int .i64 x17), (.sl none [.int .i64, .int .i64, .int .i64] x18)] false)) :: nos 232 [])), vers := List.replicate 238 0 }
/-- Loop 24 of top_TopLakeUpAndDown. -/
noncomputable def L_top_TopLakeUpAndDown_24 (N k n24  : Nat) (x0 : List (List PV)) (x1 : List (List PV)) (x2 : List (List PV)) (x3 : List (List PV)) (x4 : Int) (x5 : List (List PV)) (x6 : List (List PV)) (x7 : Int) (x8 : Int) (x9 : Int) (x10 : Int) (x11 : Int) (x12 : Int) (x13 : Int) (x14 : Int) (x15 : Int) (x16 : Int) (x17 : Int) (x18 : Int) (x19 : Int) (x20 : List (List PV)) (x21 : Int) (x22 : Int) (x23 : Int) (x24 : Int) (x25 : Int) (x26 : Int) : Option PV := loopAt (envF N) (ev (envF N) k) (evI (envF N) k) F_top_TopLakeUpAndDown Go.Proofs.Try.f7 [.r, .r, .r, .r, .r, .r, .r, .r, .r, .r, .r, .r, .r, .l, .r, .b] n24 { slots := (und 3 ((.ptr 3 0) :: (.ptr 4 0) :: (.ptr 5 0) :: und 1 ((.sl (some (7, 0)) [.int .i64, .int .i64, .int .i64] x0) :: (.sl (some (8, 0)) [.int .i64, .int .i64, .int .i64] x1) :: und 1 ((.sl none [.int .i64, .int .i64] x2) :: und 2 ((.ptr 13 0) :: (.sl none [.int .i64, .int .i64] x3) :: und 1 ((.int .i64 x4) :: und 221 [])))))), boxes := (nos 3 ((some (.cells [(.sl none [.int .i64, .int .i64] x5), (.sl none [.int .i64, .int .i64] x6), (.int .i64 x7)] false)) :: (some (.cells [(.int .i64 x8), (.int .i64 x9)] false)) :: (some (.cells [(.int .i64 x10), (.int .i64 x11), (.int .i64 x12), (.int .i64 x13), (.int .i64 x14), (.int .i64 x15), (.int .i64 x16), (.int .i64 x17), (.int .i64 x18), (.int .i64 x19), (.sl none [.int .i64, .int .i64, .int .i64] x20)] false)) :: nos 5 ((some (.cells [(.int .i64 x21), (.int .i64 x22)] false)) :: nos 1 ((some (.cells [(.int .i64 x23), (.int .i64 x24)] false)) :: nos 1 ((some (.cells [(.int .i64 x25), (.int .i64 x26)] false)) :: nos 222 []))))), vers := List.replicate 238 0 }
theorem L_top_TopLakeUpAndDown_8_eq (N k n8  : Nat) (x0 : List (List PV)) (x1 : List (List PV)) (x2 : Int) (x3 : List (List PV)) (x4 : List (List PV)) (x5 : Int) (x6 : Int) (x7 : Int) (x8 : Int) (x9 : Int) (x10 : Int) (x11 : Int) (x12 : Int) (x13 : Int) (x14 : Int) (x15 : Int) (x16 : Int) (x17 : Int) (x18 : List (List PV)) : L_top_TopLakeUpAndDown_8 N k (n8 + 1)  x0 x1 x2 x3 x4 x5 x6 x7 x8 x9 x10 x11 x12 x13 x14 x15 x16 x17 x18 =
 (cond (decide (x2 < ((List.length x18) : Int)))
 (cond (decide ((0 : Int) ≤ x2))
  (cond (decide (x2 < ((List.length x18) : Int)))
   (cond (room x0 [[(.int .i64 (0 : Int)), (.int .i64 (0 : Int)), (.int .i64 (asI (nth (nths x18 (Int.toNat x2)) 2)))]] 24)
    (cond (decide ((0 : Int) ≤ (w64 ((w64 (((List.length x18) : Int) - (1 : Int))) - x2))))
     (cond (decide ((w64 ((w64 (((List.length x18) : Int) - (1 : Int))) - x2)) < ((List.length x18) : Int)))
      (cond (room x1 [[(.int .i64 (0 : Int)), (.int .i64 (0 : Int)), (.int .i64 (w64 ((0 : Int) - (asI (nth (nths x18 (Int.toNat (w64 (w64 ((x18.length : Int) - (1 : Int)) - x2)))) 2)))))]] 24)
       (L_top_TopLakeUpAndDown_8 N k n8  (x0 ++ [[(.int .i64 (0 : Int)), (.int .i64 (0 : Int)), (.int .i64 (asI (nth (nths x18 (Int.toNat x2)) 2)))]]) (x1 ++ [[(.int .i64 (0 : Int)), (.int .i64 (0 : Int)), (.int .i64 (w64 ((0 : Int) - (asI (nth (nths x18 (Int.toNat (w64 (w64 ((x18.length : Int) - (1 : Int)) - x2)))) 2)))))]]) (w64 (x2 + (1 : Int))) x3 x4 x5 x6 x7 x8 x9 x10 x11 x12 x13 x14 x15 x16 x17 x18)
       (none))
      (none))
     (none))
    (none))
   (none))
  (none))
 ((ev (envF N) k F_ref01_CopyPair [(.agg [(.sl none [.int .i64, .int .i64] x3), (.sl none [.int .i64, .int .i64] x4), (.int .i64 x5)])]).bind fun r2 =>
  (ev (envF N) k F_ref01_CopyList [(.sl none [.int .i64, .int .i64, .int .i64] x0)]).bind fun r3 =>
   (ev (envF N) k F_lake_RunOf [(.agg [(.sl none [.int .i64, .int .i64] (asL (nth (asA r2) 0))), (.sl none [.int .i64, .int .i64] (asL (nth (asA r2) 1))), (.int .i64 (asI (nth (asA r2) 2)))]), (.agg [(.int .i64 x6), (.int .i64 x7)]), (.sl none [.int .i64, .int .i64, .int .i64] (asL r3))]).bind fun r4 =>
    cond (!(decide ((asI (nth (asT r4) 2)) = (0 : Int))))
     (some (.bool (decide ((asI (nth (asT r4) 2)) = (22 : Int)))))
     (cond (!(decide (((List.length (asL (nth (asT r4) 0))) : Int) = ((List.length x0) : Int))))
      (some (.bool (false)))
      ((ev (envF N) k F_base_Within [(.int .i64 (asI (nth (asA (nth (asT r4) 1)) 1))), (.int .i64 (0 : Int)), (.int .i64 (16000000000 : Int))]).bind fun r7 =>
       cond (!(asB r7))
        (some (.bool (false)))
        (cond (!((decide ((asI (nth (asA (nth (asT r4) 1)) 0)) = (0 : Int))) && (decide ((asI (nth (asA (nth (asT r4) 1)) 1)) = (0 : Int)))))
         (some (.bool (true)))
         (cond (decide ((0 : Int) ≤ (w64 (((List.length (asL (nth (asT r4) 0))) : Int) - (1 : Int)))))
          (cond (decide ((w64 (((List.length (asL (nth (asT r4) 0))) : Int) - (1 : Int))) < ((List.length (asL (nth (asT r4) 0))) : Int)))
           ((ev (envF N) k F_ref01_CopyPair [(.agg [(.sl none [.int .i64, .int .i64] x3), (.sl none [.int .i64, .int .i64] x4), (.int .i64 x5)])]).bind fun r12 =>
            (ev (envF N) k F_ref01_CopyList [(.sl none [.int .i64, .int .i64, .int .i64] x1)]).bind fun r13 =>
             (ev (envF N) k F_lake_RunOf [(.agg [(.sl none [.int .i64, .int .i64] (asL (nth (asA r12) 0))), (.sl none [.int .i64, .int .i64] (asL (nth (asA r12) 1))), (.int .i64 (asI (nth (asA r12) 2)))]), (.agg [(.int .i64 (asI (nth (nths (asL (nth (asT r4) 0)) (Int.toNat (w64 ((↑(List.length (asL (nth (asT r4) 0))) : Int) - (1 : Int))))) 0))), (.int .i64 (asI (nth (nths (asL (nth (asT r4) 0)) (Int.toNat (w64 ((↑(List.length (asL (nth (asT r4) 0))) : Int) - (1 : Int))))) 1)))]), (.sl none [.int .i64, .int .i64, .int .i64] (asL r13))]).bind fun r14 =>
              cond (!(decide ((asI (nth (asT r14) 2)) = (0 : Int))))
               (some (.bool (false)))
               (cond (!((decide ((asI (nth (asA (nth (asT r14) 1)) 0)) = (0 : Int))) && (decide ((asI (nth (asA (nth (asT r14) 1)) 1)) = (0 : Int)))))
                (some (.bool (false)))
                (cond (!(decide (((List.length (asL (nth (asT r14) 0))) : Int) = ((List.length x0) : Int))))
                 (some (.bool (false)))
                 (cond (decide ((0 : Int) ≤ (w64 (((List.length (asL (nth (asT r14) 0))) : Int) - (1 : Int)))))
                  (cond (decide ((w64 (((List.length (asL (nth (asT r14) 0))) : Int) - (1 : Int))) < ((List.length (asL (nth (asT r14) 0))) : Int)))
                   (cond (!((decide ((asI (nth (nths (asL (nth (asT r14) 0)) (Int.toNat (w64 ((↑(List.length (asL (nth (asT r14) 0))) : Int) - (1 : Int))))) 0)) = x6)) && (decide ((asI (nth (nths (asL (nth (asT r14) 0)) (Int.toNat (w64 ((↑(List.length (asL (nth (asT r14) 0))) : Int) - (1 : Int))))) 1)) = x7))))
                    (some (.bool (false)))
                    (L_top_TopLakeUpAndDown_24 N k N  x0 x1 (asL (nth (asT r4) 0)) (asL (nth (asT r14) 0)) (0 : Int) x3 x4 x5 x6 x7 x8 x9 x10 x11 x12 x13 x14 x15 x16 x17 x18 (asI (nth (asA (nth (asT r4) 1)) 0)) (asI (nth (asA (nth (asT r4) 1)) 1)) (asI (nth (nths (asL (nth (asT r4) 0)) (Int.toNat (w64 ((↑(List.length (asL (nth (asT r4) 0))) : Int) - (1 : Int))))) 0)) (asI (nth (nths (asL (nth (asT r4) 0)) (Int.toNat (w64 ((↑(List.length (asL (nth (asT r4) 0))) : Int) - (1 : Int))))) 1)) (asI (nth (asA (nth (asT r14) 1)) 0)) (asI (nth (asA (nth (asT r14) 1)) 1))))
                   (none))
                  (none)))))
           (none))
          (none))))))) := by kernel_rfl
theorem L_top_TopLakeUpAndDown_24_eq (N k n24  : Nat) (x0 : List (List PV)) (x1 : List (List PV)) (x2 : List (List PV)) (x3 : List (List PV)) (x4 : Int) (x5 : List (List PV)) (x6 : List (List PV)) (x7 : Int) (x8 : Int) (x9 : Int) (x10 : Int) (x11 : Int) (x12 : Int) (x13 : Int) (x14 : Int) (x15 : Int) (x16 : Int) (x17 : Int) (x18 : Int) (x19 : Int) (x20 : List (List PV)) (x21 : Int) (x22 : Int) (x23 : Int) (x24 : Int) (x25 : Int) (x26 : Int) : L_top_TopLakeUpAndDown_24 N k (n24 + 1)  x0 x1 x2 x3 x4 x5 x6 x7 x8 x9 x10 x11 x12 x13 x14 x15 x16 x17 x18 x19 x20 x21 x22 x23 x24 x25 x26 =
 (cond (decide ((w64 (x4 + (1 : Int))) < ((List.length x2) : Int)))
 (cond (decide ((0 : Int) ≤ x4))
  (cond (decide (x4 < ((List.length x3) : Int)))
   (cond (decide ((0 : Int) ≤ (w64 ((w64 (((List.length x2) : Int) - (2 : Int))) - x4))))
    (cond (decide ((w64 ((w64 (((List.length x2) : Int) - (2 : Int))) - x4)) < ((List.length x2) : Int)))
     (cond (!((decide ((asI (nth (nths x3 (Int.toNat x4)) 0)) = (asI (nth (nths x2 (Int.toNat (w64 (w64 ((x2.length : Int) - (2 : Int)) - x4)))) 0)))) && (decide ((asI (nth (nths x3 (Int.toNat x4)) 1)) = (asI (nth (nths x2 (Int.toNat (w64 (w64 ((x2.length : Int) - (2 : Int)) - x4)))) 1))))))
      (some (.bool (false)))
      (L_top_TopLakeUpAndDown_24 N k n24  x0 x1 x2 x3 (w64 (x4 + (1 : Int))) x5 x6 x7 x8 x9 x10 x11 x12 x13 x14 x15 x16 x17 x18 x19 x20 x21 x22 x23 x24 x25 x26))
     (none))
    (none))
   (none))
  (none))
 ((ev (envF N) k F_ref01_CopyPair [(.agg [(.sl none [.int .i64, .int .i64] x5), (.sl none [.int .i64, .int .i64] x6), (.int .i64 x7)])]).bind fun r2 =>
  (ev (envF N) k F_ref01_CopyList [(.sl none [.int .i64, .int .i64, .int .i64] x0)]).bind fun r3 =>
   (ev (envF N) k F_lake_ViolationOf [(.agg [(.sl none [.int .i64, .int .i64] (asL (nth (asA r2) 0))), (.sl none [.int .i64, .int .i64] (asL (nth (asA r2) 1))), (.int .i64 (asI (nth (asA r2) 2)))]), (.agg [(.int .i64 x8), (.int .i64 x9)]), (.agg [(.int .i64 x10), (.int .i64 x11), (.int .i64 (1000000 : Int)), (.int .i64 (1000000 : Int)), (.int .i64 x14), (.int .i64 x15), (.int .i64 x16), (.int .i64 (1000000 : Int)), (.int .i64 (1000000 : Int)), (.int .i64 x19), (.sl none [.int .i64, .int .i64, .int .i64] (asL r3))])]).bind fun r4 =>
    (ev (envF N) k F_ref01_CopyPair [(.agg [(.sl none [.int .i64, .int .i64] x5), (.sl none [.int .i64, .int .i64] x6), (.int .i64 x7)])]).bind fun r5 =>
     (ev (envF N) k F_ref01_CopyList [(.sl none [.int .i64, .int .i64, .int .i64] x1)]).bind fun r6 =>
      (ev (envF N) k F_lake_ViolationOf [(.agg [(.sl none [.int .i64, .int .i64] (asL (nth (asA r5) 0))), (.sl none [.int .i64, .int .i64] (asL (nth (asA r5) 1))), (.int .i64 (asI (nth (asA r5) 2)))]), (.agg [(.int .i64 x23), (.int .i64 x24)]), (.agg [(.int .i64 x10), (.int .i64 x11), (.int .i64 (1000000 : Int)), (.int .i64 (1000000 : Int)), (.int .i64 x14), (.int .i64 x15), (.int .i64 x16), (.int .i64 (1000000 : Int)), (.int .i64 (1000000 : Int)), (.int .i64 x19), (.sl none [.int .i64, .int .i64, .int .i64] (asL r6))])]).bind fun r7 =>
       cond (decide ((asI (nth (asT r4) 1)) = (12 : Int)))
        (cond (decide ((asI (nth (asT r7) 1)) = (12 : Int)))
         (some (.bool (true)))
         (some (.bool (decide ((asI (nth (asT r7) 1)) = (0 : Int))))))
        (cond (decide ((asI (nth (asT r4) 1)) = (0 : Int)))
         ((ev (envF N) k F_base_Within [(.int .i64 (asI (nth (asA (nth (asT r4) 0)) 0))), (.int .i64 (1 : Int)), (.int .i64 ((List.length x0) : Int))]).bind fun r10 =>
          cond (asB r10)
           (cond (decide ((asI (nth (asA (nth (asT r4) 0)) 2)) ≤ (1 : Int)))
            (cond (decide ((asI (nth (asA (nth (asT r4) 0)) 0)) = ((List.length x0) : Int)))
             (some (.bool (true)))
             (some (.bool (decide ((asI (nth (asT r7) 1)) = (0 : Int))))))
            (some (.bool (false))))
           (some (.bool (false))))
         (some (.bool (false)))))) := by kernel_rfl
theorem E_top_TopLakeUpAndDown (N k : Nat) (x0 : List (List PV)) (x1 : List (List PV)) (x2 : Int) (x3 : Int) (x4 : Int) (x5 : Int) (x6 : Int) (x7 : Int) (x8 : Int) (x9 : Int) (x10 : Int) (x11 : Int) (x12 : Int) (x13 : Int) (x14 : Int) (x15 : List (List PV)) : ev (envF N) (k + 1) F_top_TopLakeUpAndDown [(.agg [(.sl none [.int .i64, .int .i64] x0), (.sl none [.int .i64, .int .i64] x1), (.int .i64 x2)]), (.agg [(.int .i64 x3), (.int .i64 x4)]), (.agg [(.int .i64 x5), (.int .i64 x6), (.int .i64 x7), (.int .i64 x8), (.int .i64 x9), (.int .i64 x10), (.int .i64 x11), (.int .i64 x12), (.int .i64 x13), (.int .i64 x14), (.sl none [.int .i64, .int .i64, .int .i64] x15)])] =
 ((ev (envF N) k F_top_lakeShown []).bind fun r1 =>
 cond (!(asB r1))
  (some (.bool (false)))
  ((ev (envF N) k F_law01_FewPair [(.agg [(.sl none [.int .i64, .int .i64] x0), (.sl none [.int .i64, .int .i64] x1), (.int .i64 x2)])]).bind fun r3 =>
   cond (!(asB r3))
    (some (.bool (true)))
    (cond (decide (((List.length x15) : Int) = (0 : Int)))
     (some (.bool (true)))
     (cond (decide ((8 : Int) < ((List.length x15) : Int)))
      (some (.bool (true)))
      ((ev (envF N) k F_ref01_BothErr [(.agg [(.sl none [.int .i64, .int .i64] x0), (.sl none [.int .i64, .int .i64] x1), (.int .i64 x2)]), (.agg [(.int .i64 x3), (.int .i64 x4)])]).bind fun r7 =>
       cond (!(decide ((asI r7) = (0 : Int))))
        (some (.bool (true)))
        ((ev (envF N) k F_ref01_TaskErr [(.agg [(.sl none [.int .i64, .int .i64] x0), (.sl none [.int .i64, .int .i64] x1), (.int .i64 x2)]), (.agg [(.int .i64 x5), (.int .i64 x6), (.int .i64 x7), (.int .i64 x8), (.int .i64 x9), (.int .i64 x10), (.int .i64 x11), (.int .i64 x12), (.int .i64 x13), (.int .i64 x14), (.sl none [.int .i64, .int .i64, .int .i64] x15)])]).bind fun r9 =>
         cond (!(decide ((asI r9) = (0 : Int))))
          (some (.bool (true)))
          (L_top_TopLakeUpAndDown_8 N k N  [] [] (0 : Int) x0 x1 (0 : Int) x3 x4 x5 x6 x7 x8 x9 x10 x11 x12 x13 x14 x15))))))) := by kernel_rfl

end Go.PewTab
