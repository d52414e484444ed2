/- EQUATIONS OF FUNCTIONS, by the kernel's own reckoning; written by a program. -/
import Derived.Test.YtfjnpgbjcgjecaaPevNums
namespace Go.PevTab
open Go.Pev Go
set_option maxRecDepth 100000
set_option linter.unusedVariables false

theorem E_law01_LakeSeasons (N k : Nat) (x0 : List (List PV)) (x1 : Int) : ev (envF N) (k + 1) F_law01_LakeSeasons [(.sl none [.int .i64, .int .i64, .int .i64] x0), (.int .i64 x1)] =
 ((ev (envF N) k F_law01_awake []).bind fun r1 =>
 cond (!(asB r1))
  (some (.bool (false)))
  (cond (decide ((14 : Int) < ((List.length x0) : Int)))
   (some (.bool (true)))
   ((ev (envF N) k F_ref01_CopySeasons [(.sl none [.int .i64, .int .i64, .int .i64] x0)]).bind fun r4 =>
    (ev (envF N) k F_lake_MinimumOn [(.sl none [.int .i64, .int .i64, .int .i64] (asL r4)), (.int .i64 x1)]).bind fun r5 =>
     (ev (envF N) k F_ref01_MinimumOn [(.sl none [.int .i64, .int .i64, .int .i64] x0), (.int .i64 x1)]).bind fun r6 =>
      cond (!(decide ((asI (nth (asT r5) 1)) = (asI (nth (asT r6) 1)))))
       (some (.bool (false)))
       (cond (!(decide ((asI (nth (asT r5) 0)) = (asI (nth (asT r6) 0)))))
        (some (.bool (false)))
        (cond (!(decide ((asI (nth (asT r6) 1)) = (0 : Int))))
         (some (.bool (true)))
         ((ev (envF N) k F_base_Within [(.int .i64 x1), (.int .i64 (0 : Int)), (.int .i64 (99635 : Int))]).bind fun r10 =>
          cond (!(asB r10))
           (some (.bool (true)))
           ((ev (envF N) k F_ref01_CopySeasons [(.sl none [.int .i64, .int .i64, .int .i64] x0)]).bind fun r12 =>
            (ev (envF N) k F_lake_MinimumOn [(.sl none [.int .i64, .int .i64, .int .i64] (asL r12)), (.int .i64 (w64 (x1 + (365 : Int))))]).bind fun r13 =>
             cond (decide ((asI (nth (asT r13) 1)) = (0 : Int)))
              (some (.bool (decide ((asI (nth (asT r13) 0)) = (asI (nth (asT r5) 0))))))
              (some (.bool (false)))))))))) := by kernel_rfl

end Go.PevTab
