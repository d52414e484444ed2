/- EQUATIONS OF FUNCTIONS, by the kernel's own reckoning; written by a program. -/
import Derived.Test.YtfjnpgbjcgjecaaPevNums
namespace Go.PevTab
open Go.Pev Go
set_option maxRecDepth 100000
set_option linter.unusedVariables false

theorem E_law01_LakeReadings (N k : Nat) (x0 : List (List PV)) (x1 : List (List PV)) (x2 : List (List PV)) : ev (envF N) (k + 1) F_law01_LakeReadings [(.agg [(.sl none [.int .i64, .int .i64] x0)]), (.sl none [.int .i64] x1), (.sl none [.int .i64, .int .i64, .int .i64] x2)] =
 ((ev (envF N) k F_law01_awake []).bind fun r1 =>
 cond (!(asB r1))
  (some (.bool (false)))
  ((ev (envF N) k F_law01_Few [(.agg [(.sl none [.int .i64, .int .i64] x0)])]).bind fun r3 =>
   cond (!(asB r3))
    (some (.bool (true)))
    ((ev (envF N) k F_law01_short [(.int .i64 ((List.length x1) : Int))]).bind fun r5 =>
     cond (!(asB r5))
      (some (.bool (true)))
      (cond (decide ((12 : Int) < ((List.length x2) : Int)))
       (some (.bool (true)))
       ((ev (envF N) k F_ref01_Copy [(.agg [(.sl none [.int .i64, .int .i64] x0)])]).bind fun r8 =>
        (ev (envF N) k F_base_CopyInts [(.sl none [.int .i64] x1)]).bind fun r9 =>
         (ev (envF N) k F_ref01_CopyReadings [(.sl none [.int .i64, .int .i64, .int .i64] x2)]).bind fun r10 =>
          (ev (envF N) k F_lake_AgreedOf [(.agg [(.sl none [.int .i64, .int .i64] (asL (nth (asA r8) 0)))]), (.sl none [.int .i64] (asL r9)), (.sl none [.int .i64, .int .i64, .int .i64] (asL r10))]).bind fun r11 =>
           (ev (envF N) k F_ref01_Copy [(.agg [(.sl none [.int .i64, .int .i64] x0)])]).bind fun r12 =>
            (ev (envF N) k F_base_CopyInts [(.sl none [.int .i64] x1)]).bind fun r13 =>
             (ev (envF N) k F_ref01_CopyReadings [(.sl none [.int .i64, .int .i64, .int .i64] x2)]).bind fun r14 =>
              (ev (envF N) k F_lake_Contradicting [(.agg [(.sl none [.int .i64, .int .i64] (asL (nth (asA r12) 0)))]), (.sl none [.int .i64] (asL r13)), (.sl none [.int .i64, .int .i64, .int .i64] (asL r14))]).bind fun r15 =>
               (ev (envF N) k F_ref01_AllErr [(.agg [(.sl none [.int .i64, .int .i64] x0)]), (.sl none [.int .i64] x1), (.sl none [.int .i64, .int .i64, .int .i64] x2)]).bind fun r16 =>
                cond (!(decide ((asI r16) = (0 : Int))))
                 (cond (decide ((asI (nth (asT r11) 1)) = (asI r16)))
                  (cond (decide ((asI (nth (asT r15) 1)) = (asI r16)))
                   (cond ((decide ((asI (nth (asA (nth (asT r11) 0)) 0)) = (0 : Int))) && (decide ((asI (nth (asA (nth (asT r11) 0)) 1)) = (0 : Int))))
                    (some (.bool (decide (((List.length (asL (nth (asT r15) 0))) : Int) = (0 : Int)))))
                    (some (.bool (false))))
                   (some (.bool (false))))
                  (some (.bool (false))))
                 ((ev (envF N) k F_ref01_AgreedOf [(.agg [(.sl none [.int .i64, .int .i64] x0)]), (.sl none [.int .i64] x1), (.sl none [.int .i64, .int .i64, .int .i64] x2)]).bind fun r18 =>
                  cond (asB (nth (asT r18) 1))
                   (cond (decide ((asI (nth (asT r11) 1)) = (0 : Int)))
                    (cond ((decide ((asI (nth (asA (nth (asT r11) 0)) 0)) = (asI (nth (asA (nth (asT r18) 0)) 0)))) && (decide ((asI (nth (asA (nth (asT r11) 0)) 1)) = (asI (nth (asA (nth (asT r18) 0)) 1)))))
                     (cond (decide ((asI (nth (asT r15) 1)) = (12 : Int)))
                      (some (.bool (decide (((List.length (asL (nth (asT r15) 0))) : Int) = (0 : Int)))))
                      (some (.bool (false))))
                     (some (.bool (false))))
                    (some (.bool (false))))
                   ((ev (envF N) k F_ref01_Contradicting [(.agg [(.sl none [.int .i64, .int .i64] x0)]), (.sl none [.int .i64] x1), (.sl none [.int .i64, .int .i64, .int .i64] x2)]).bind fun r20 =>
                    cond (decide ((asI (nth (asT r11) 1)) = (13 : Int)))
                     (cond ((decide ((asI (nth (asA (nth (asT r11) 0)) 0)) = (0 : Int))) && (decide ((asI (nth (asA (nth (asT r11) 0)) 1)) = (0 : Int))))
                      (cond (decide ((asI (nth (asT r15) 1)) = (0 : Int)))
                       ((ev (envF N) k F_base_Ints [(.sl none [.int .i64] (asL (nth (asT r15) 0))), (.sl none [.int .i64] (asL (nth (asT r20) 0)))]).bind fun r24 =>
                        some (.bool (asB r24)))
                       (some (.bool (false))))
                      (some (.bool (false))))
                     (some (.bool (false)))))))))) := by kernel_rfl

end Go.PevTab
