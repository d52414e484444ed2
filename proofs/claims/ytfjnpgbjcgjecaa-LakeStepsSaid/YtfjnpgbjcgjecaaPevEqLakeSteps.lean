/- EQUATIONS OF FUNCTIONS, by the kernel's own reckoning; written by a program. -/
import Derived.Test.YtfjnpgbjcgjecaaPevNums
namespace Go.PevTab
open Go.Pev Go
set_option maxRecDepth 100000
set_option linter.unusedVariables false

theorem E_law01_LakeSteps (N k : Nat) (x0 : List (List PV)) (x1 : List (List PV)) (x2 : Int) (x3 : Int) (x4 : Int) (x5 : Int) (x6 : Int) (x7 : Int) : ev (envF N) (k + 1) F_law01_LakeSteps [(.agg [(.sl none [.int .i64, .int .i64] x0), (.sl none [.int .i64, .int .i64] x1), (.int .i64 x2)]), (.agg [(.int .i64 x3), (.int .i64 x4)]), (.agg [(.int .i64 x5), (.int .i64 x6), (.int .i64 x7)])] =
 ((ev (envF N) k F_law01_awake []).bind fun r1 =>
 cond (!(asB r1))
  (some (.bool (false)))
  ((ev (envF N) k F_law01_FewPair [(.agg [(.sl none [.int .i64, .int .i64] x0), (.sl none [.int .i64, .int .i64] x1), (.int .i64 x2)])]).bind fun r3 =>
   cond (!(asB r3))
    (some (.bool (true)))
    ((ev (envF N) k F_ref01_CopyPair [(.agg [(.sl none [.int .i64, .int .i64] x0), (.sl none [.int .i64, .int .i64] x1), (.int .i64 x2)])]).bind fun r5 =>
     (ev (envF N) k F_lake_Step [(.agg [(.sl none [.int .i64, .int .i64] (asL (nth (asA r5) 0))), (.sl none [.int .i64, .int .i64] (asL (nth (asA r5) 1))), (.int .i64 (asI (nth (asA r5) 2)))]), (.agg [(.int .i64 x3), (.int .i64 x4)]), (.agg [(.int .i64 x5), (.int .i64 x6), (.int .i64 x7)])]).bind fun r6 =>
      (ev (envF N) k F_ref01_CopyPair [(.agg [(.sl none [.int .i64, .int .i64] x0), (.sl none [.int .i64, .int .i64] x1), (.int .i64 x2)])]).bind fun r7 =>
       (ev (envF N) k F_lake_Usable [(.agg [(.sl none [.int .i64, .int .i64] (asL (nth (asA r7) 0))), (.sl none [.int .i64, .int .i64] (asL (nth (asA r7) 1))), (.int .i64 (asI (nth (asA r7) 2)))]), (.agg [(.int .i64 x3), (.int .i64 x4)])]).bind fun r8 =>
        (ev (envF N) k F_ref01_BothErr [(.agg [(.sl none [.int .i64, .int .i64] x0), (.sl none [.int .i64, .int .i64] x1), (.int .i64 x2)]), (.agg [(.int .i64 x3), (.int .i64 x4)])]).bind fun r9 =>
         (ev (envF N) k F_ref01_CopyPair [(.agg [(.sl none [.int .i64, .int .i64] x0), (.sl none [.int .i64, .int .i64] x1), (.int .i64 x2)])]).bind fun r10 =>
          (ev (envF N) k F_lake_CheckPair [(.agg [(.sl none [.int .i64, .int .i64] (asL (nth (asA r10) 0))), (.sl none [.int .i64, .int .i64] (asL (nth (asA r10) 1))), (.int .i64 (asI (nth (asA r10) 2)))])]).bind fun r11 =>
           (ev (envF N) k F_ref01_PairErr [(.agg [(.sl none [.int .i64, .int .i64] x0), (.sl none [.int .i64, .int .i64] x1), (.int .i64 x2)])]).bind fun r12 =>
            cond (!(decide ((asI r11) = (asI r12))))
             (some (.bool (false)))
             ((ev (envF N) k F_ref01_CopyPair [(.agg [(.sl none [.int .i64, .int .i64] x0), (.sl none [.int .i64, .int .i64] x1), (.int .i64 x2)])]).bind fun r14 =>
              (ev (envF N) k F_lake_CheckState [(.agg [(.sl none [.int .i64, .int .i64] (asL (nth (asA r14) 0))), (.sl none [.int .i64, .int .i64] (asL (nth (asA r14) 1))), (.int .i64 (asI (nth (asA r14) 2)))]), (.agg [(.int .i64 x3), (.int .i64 x4)])]).bind fun r15 =>
               cond (!(decide ((asI r15) = (asI r9))))
                (some (.bool (false)))
                (cond (!(decide ((asI r9) = (0 : Int))))
                 (cond (decide ((asI (nth (asT r6) 2)) = (asI r9)))
                  (cond (decide ((asI (nth (asT r8) 1)) = (asI r9)))
                   (cond ((decide ((asI (nth (asA (nth (asT r6) 0)) 0)) = (0 : Int))) && (decide ((asI (nth (asA (nth (asT r6) 0)) 1)) = (0 : Int))))
                    (cond ((decide ((asI (nth (asA (nth (asT r6) 1)) 0)) = (0 : Int))) && (decide ((asI (nth (asA (nth (asT r6) 1)) 1)) = (0 : Int))))
                     (some (.bool ((decide ((asI (nth (asA (nth (asT r8) 0)) 0)) = (0 : Int))) && (decide ((asI (nth (asA (nth (asT r8) 0)) 1)) = (0 : Int))))))
                     (some (.bool (false))))
                    (some (.bool (false))))
                   (some (.bool (false))))
                  (some (.bool (false))))
                 (cond (!(decide ((asI (nth (asT r8) 1)) = (0 : Int))))
                  (some (.bool (false)))
                  ((ev (envF N) k F_ref01_Usable [(.agg [(.sl none [.int .i64, .int .i64] x0), (.sl none [.int .i64, .int .i64] x1), (.int .i64 x2)]), (.agg [(.int .i64 x3), (.int .i64 x4)])]).bind fun r19 =>
                   cond (!((decide ((asI (nth (asA (nth (asT r8) 0)) 0)) = (asI (nth (asA r19) 0)))) && (decide ((asI (nth (asA (nth (asT r8) 0)) 1)) = (asI (nth (asA r19) 1))))))
                    (some (.bool (false)))
                    ((ev (envF N) k F_ref01_FlowsErr [(.agg [(.int .i64 x5), (.int .i64 x6), (.int .i64 x7)])]).bind fun r21 =>
                     cond (!(decide ((asI r21) = (0 : Int))))
                      (cond (decide ((asI (nth (asT r6) 2)) = (asI r21)))
                       (cond ((decide ((asI (nth (asA (nth (asT r6) 0)) 0)) = (0 : Int))) && (decide ((asI (nth (asA (nth (asT r6) 0)) 1)) = (0 : Int))))
                        (some (.bool ((decide ((asI (nth (asA (nth (asT r6) 1)) 0)) = (0 : Int))) && (decide ((asI (nth (asA (nth (asT r6) 1)) 1)) = (0 : Int))))))
                        (some (.bool (false))))
                       (some (.bool (false))))
                      ((ev (envF N) k F_ref01_Step [(.agg [(.sl none [.int .i64, .int .i64] x0), (.sl none [.int .i64, .int .i64] x1), (.int .i64 x2)]), (.agg [(.int .i64 x3), (.int .i64 x4)]), (.agg [(.int .i64 x5), (.int .i64 x6), (.int .i64 x7)])]).bind fun r23 =>
                       cond (!(asB (nth (asT r23) 2)))
                        (cond (decide ((asI (nth (asT r6) 2)) = (22 : Int)))
                         (cond ((decide ((asI (nth (asA (nth (asT r6) 0)) 0)) = (0 : Int))) && (decide ((asI (nth (asA (nth (asT r6) 0)) 1)) = (0 : Int))))
                          (some (.bool ((decide ((asI (nth (asA (nth (asT r6) 1)) 0)) = (0 : Int))) && (decide ((asI (nth (asA (nth (asT r6) 1)) 1)) = (0 : Int))))))
                          (some (.bool (false))))
                         (some (.bool (false))))
                        (cond (decide ((asI (nth (asT r6) 2)) = (0 : Int)))
                         (cond ((decide ((asI (nth (asA (nth (asT r6) 0)) 0)) = (asI (nth (asA (nth (asT r23) 0)) 0)))) && (decide ((asI (nth (asA (nth (asT r6) 0)) 1)) = (asI (nth (asA (nth (asT r23) 0)) 1)))))
                          (some (.bool ((decide ((asI (nth (asA (nth (asT r6) 1)) 0)) = (asI (nth (asA (nth (asT r23) 1)) 0)))) && (decide ((asI (nth (asA (nth (asT r6) 1)) 1)) = (asI (nth (asA (nth (asT r23) 1)) 1)))))))
                          (some (.bool (false))))
                         (some (.bool (false))))))))))))) := by kernel_rfl

end Go.PevTab
