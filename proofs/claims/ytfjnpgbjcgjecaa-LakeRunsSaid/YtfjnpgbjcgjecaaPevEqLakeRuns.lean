/- EQUATIONS OF FUNCTIONS, by the kernel's own reckoning; written by a program. -/
import Derived.Test.YtfjnpgbjcgjecaaPevNums
namespace Go.PevTab
open Go.Pev Go
set_option maxRecDepth 100000
set_option linter.unusedVariables false

theorem E_law01_LakeRuns (N k : Nat) (x0 : List (List PV)) (x1 : List (List PV)) (x2 : Int) (x3 : Int) (x4 : Int) (x5 : List (List PV)) : ev (envF N) (k + 1) F_law01_LakeRuns [(.agg [(.sl none [.int .i64, .int .i64] x0), (.sl none [.int .i64, .int .i64] x1), (.int .i64 x2)]), (.agg [(.int .i64 x3), (.int .i64 x4)]), (.sl none [.int .i64, .int .i64, .int .i64] x5)] =
 ((ev (envF N) k F_law01_awake []).bind fun r1 =>
 cond (!(asB r1))
  (some (.bool (false)))
  ((ev (envF N) k F_law01_FewPair [(.agg [(.sl none [.int .i64, .int .i64] x0), (.sl none [.int .i64, .int .i64] x1), (.int .i64 x2)])]).bind fun r3 =>
   cond (!(asB r3))
    (some (.bool (true)))
    ((ev (envF N) k F_law01_short [(.int .i64 ((List.length x5) : Int))]).bind fun r5 =>
     cond (!(asB r5))
      (some (.bool (true)))
      ((ev (envF N) k F_ref01_CopyPair [(.agg [(.sl none [.int .i64, .int .i64] x0), (.sl none [.int .i64, .int .i64] x1), (.int .i64 x2)])]).bind fun r7 =>
       (ev (envF N) k F_ref01_CopyList [(.sl none [.int .i64, .int .i64, .int .i64] x5)]).bind fun r8 =>
        (ev (envF N) k F_lake_RunOf [(.agg [(.sl none [.int .i64, .int .i64] (asL (nth (asA r7) 0))), (.sl none [.int .i64, .int .i64] (asL (nth (asA r7) 1))), (.int .i64 (asI (nth (asA r7) 2)))]), (.agg [(.int .i64 x3), (.int .i64 x4)]), (.sl none [.int .i64, .int .i64, .int .i64] (asL r8))]).bind fun r9 =>
         (ev (envF N) k F_ref01_BothErr [(.agg [(.sl none [.int .i64, .int .i64] x0), (.sl none [.int .i64, .int .i64] x1), (.int .i64 x2)]), (.agg [(.int .i64 x3), (.int .i64 x4)])]).bind fun r10 =>
          cond (decide ((asI r10) = (0 : Int)))
           ((ev (envF N) k F_ref01_ListErr [(.sl none [.int .i64, .int .i64, .int .i64] x5)]).bind fun r12 =>
            cond (!(decide ((asI r12) = (0 : Int))))
             (cond (decide ((asI (nth (asT r9) 2)) = (asI r12)))
              (cond (decide (((List.length (asL (nth (asT r9) 0))) : Int) = (0 : Int)))
               (some (.bool ((decide ((asI (nth (asA (nth (asT r9) 1)) 0)) = (0 : Int))) && (decide ((asI (nth (asA (nth (asT r9) 1)) 1)) = (0 : Int))))))
               (some (.bool (false))))
              (some (.bool (false))))
             ((ev (envF N) k F_ref01_RunOf [(.agg [(.sl none [.int .i64, .int .i64] x0), (.sl none [.int .i64, .int .i64] x1), (.int .i64 x2)]), (.agg [(.int .i64 x3), (.int .i64 x4)]), (.sl none [.int .i64, .int .i64, .int .i64] x5)]).bind fun r14 =>
              cond (!(asB (nth (asT r14) 2)))
               (cond (decide ((asI (nth (asT r9) 2)) = (22 : Int)))
                (cond (decide (((List.length (asL (nth (asT r9) 0))) : Int) = (0 : Int)))
                 (some (.bool ((decide ((asI (nth (asA (nth (asT r9) 1)) 0)) = (0 : Int))) && (decide ((asI (nth (asA (nth (asT r9) 1)) 1)) = (0 : Int))))))
                 (some (.bool (false))))
                (some (.bool (false))))
               (cond (decide ((asI (nth (asT r9) 2)) = (0 : Int)))
                ((ev (envF N) k F_ref01_SameStates [(.sl none [.int .i64, .int .i64] (asL (nth (asT r9) 0))), (.sl none [.int .i64, .int .i64] (asL (nth (asT r14) 0)))]).bind fun r17 =>
                 cond (asB r17)
                  (some (.bool ((decide ((asI (nth (asA (nth (asT r9) 1)) 0)) = (asI (nth (asA (nth (asT r14) 1)) 0)))) && (decide ((asI (nth (asA (nth (asT r9) 1)) 1)) = (asI (nth (asA (nth (asT r14) 1)) 1)))))))
                  (some (.bool (false))))
                (some (.bool (false))))))
           (cond (!(decide ((asI r10) = (0 : Int))))
            (cond (decide ((asI (nth (asT r9) 2)) = (asI r10)))
             (cond (decide (((List.length (asL (nth (asT r9) 0))) : Int) = (0 : Int)))
              (some (.bool ((decide ((asI (nth (asA (nth (asT r9) 1)) 0)) = (0 : Int))) && (decide ((asI (nth (asA (nth (asT r9) 1)) 1)) = (0 : Int))))))
              (some (.bool (false))))
             (some (.bool (false))))
            ((ev (envF N) k F_ref01_RunOf [(.agg [(.sl none [.int .i64, .int .i64] x0), (.sl none [.int .i64, .int .i64] x1), (.int .i64 x2)]), (.agg [(.int .i64 x3), (.int .i64 x4)]), (.sl none [.int .i64, .int .i64, .int .i64] x5)]).bind fun r13 =>
             cond (!(asB (nth (asT r13) 2)))
              (cond (decide ((asI (nth (asT r9) 2)) = (22 : Int)))
               (cond (decide (((List.length (asL (nth (asT r9) 0))) : Int) = (0 : Int)))
                (some (.bool ((decide ((asI (nth (asA (nth (asT r9) 1)) 0)) = (0 : Int))) && (decide ((asI (nth (asA (nth (asT r9) 1)) 1)) = (0 : Int))))))
                (some (.bool (false))))
               (some (.bool (false))))
              (cond (decide ((asI (nth (asT r9) 2)) = (0 : Int)))
               ((ev (envF N) k F_ref01_SameStates [(.sl none [.int .i64, .int .i64] (asL (nth (asT r9) 0))), (.sl none [.int .i64, .int .i64] (asL (nth (asT r13) 0)))]).bind fun r16 =>
                cond (asB r16)
                 (some (.bool ((decide ((asI (nth (asA (nth (asT r9) 1)) 0)) = (asI (nth (asA (nth (asT r13) 1)) 0)))) && (decide ((asI (nth (asA (nth (asT r9) 1)) 1)) = (asI (nth (asA (nth (asT r13) 1)) 1)))))))
                 (some (.bool (false))))
               (some (.bool (false)))))))))) := by kernel_rfl

end Go.PevTab
