/- EQUATIONS OF FUNCTIONS, by the kernel's own reckoning; written by a program. -/
import Derived.Test.YtfjnpgbjcgjecaaPevNums
namespace Go.PevTab
open Go.Pev Go
set_option maxRecDepth 100000
set_option linter.unusedVariables false

theorem E_law01_LakeUsable (N k : Nat) (x0 : List (List PV)) (x1 : List (List PV)) (x2 : Int) (x3 : Int) (x4 : Int) (x5 : Int) : ev (envF N) (k + 1) F_law01_LakeUsable [(.agg [(.sl none [.int .i64, .int .i64] x0), (.sl none [.int .i64, .int .i64] x1), (.int .i64 x2)]), (.agg [(.int .i64 x3), (.int .i64 x4)]), (.int .i64 x5)] =
 ((ev (envF N) k F_law01_awake []).bind fun r1 =>
 cond (!(asB r1))
  (some (.bool (false)))
  ((ev (envF N) k F_law01_FewPair [(.agg [(.sl none [.int .i64, .int .i64] x0), (.sl none [.int .i64, .int .i64] x1), (.int .i64 x2)])]).bind fun r3 =>
   cond (!(asB r3))
    (some (.bool (true)))
    ((ev (envF N) k F_ref01_BothErr [(.agg [(.sl none [.int .i64, .int .i64] x0), (.sl none [.int .i64, .int .i64] x1), (.int .i64 x2)]), (.agg [(.int .i64 x3), (.int .i64 x4)])]).bind fun r5 =>
     cond (!(decide ((asI r5) = (0 : Int))))
      (some (.bool (true)))
      ((ev (envF N) k F_base_Within [(.int .i64 x5), (.int .i64 (-10000000 : Int)), (.int .i64 (10000000 : Int))]).bind fun r7 =>
       cond (!(asB r7))
        (some (.bool (true)))
        ((ev (envF N) k F_ref01_CopyPair [(.agg [(.sl none [.int .i64, .int .i64] x0), (.sl none [.int .i64, .int .i64] x1), (.int .i64 x2)])]).bind fun r9 =>
         (ev (envF N) k F_ref01_CopyPair [(.agg [(.sl none [.int .i64, .int .i64] (asL (nth (asA r9) 0))), (.sl none [.int .i64, .int .i64] (asL (nth (asA r9) 1))), (.int .i64 (0 : Int))])]).bind fun r10 =>
          (ev (envF N) k F_lake_Usable [(.agg [(.sl none [.int .i64, .int .i64] (asL (nth (asA r10) 0))), (.sl none [.int .i64, .int .i64] (asL (nth (asA r10) 1))), (.int .i64 (asI (nth (asA r10) 2)))]), (.agg [(.int .i64 x3), (.int .i64 x4)])]).bind fun r11 =>
           cond (!(decide ((asI (nth (asT r11) 1)) = (0 : Int))))
            (some (.bool (false)))
            ((ev (envF N) k F_base_Within [(.int .i64 (asI (nth (asA (nth (asT r11) 0)) 0))), (.int .i64 (0 : Int)), (.int .i64 (1000000000 : Int))]).bind fun r13 =>
             cond (!(asB r13))
              (some (.bool (false)))
              ((ev (envF N) k F_base_Within [(.int .i64 (asI (nth (asA (nth (asT r11) 0)) 1))), (.int .i64 (0 : Int)), (.int .i64 (1000000000 : Int))]).bind fun r15 =>
               cond (!(asB r15))
                (some (.bool (false)))
                ((ev (envF N) k F_ref01_CopyPair [(.agg [(.sl none [.int .i64, .int .i64] (asL (nth (asA r9) 0))), (.sl none [.int .i64, .int .i64] (asL (nth (asA r9) 1))), (.int .i64 (0 : Int))])]).bind fun r17 =>
                 (ev (envF N) k F_lake_Step [(.agg [(.sl none [.int .i64, .int .i64] (asL (nth (asA r17) 0))), (.sl none [.int .i64, .int .i64] (asL (nth (asA r17) 1))), (.int .i64 (asI (nth (asA r17) 2)))]), (.agg [(.int .i64 x3), (.int .i64 x4)]), (.agg [(.int .i64 (0 : Int)), (.int .i64 (0 : Int)), (.int .i64 x5)])]).bind fun r18 =>
                  cond (!(decide ((asI (nth (asT r18) 2)) = (0 : Int))))
                   (cond (!(decide ((asI (nth (asT r18) 2)) = (22 : Int))))
                    (some (.bool (false)))
                    (cond (decide ((asI (nth (asT r18) 2)) = (0 : Int)))
                     ((ev (envF N) k F_base_Within [(.int .i64 x5), (.int .i64 (w64 ((0 : Int) - (asI (nth (asA (nth (asT r11) 0)) 0))))), (.int .i64 (asI (nth (asA (nth (asT r11) 0)) 1)))]).bind fun r22 =>
                      cond (!((decide (asI (nth (asA (nth (asT r18) 1)) 0) = (0 : Int)) && decide (asI (nth (asA (nth (asT r18) 1)) 1) = (0 : Int))) == asB r22))
                       (some (.bool (false)))
                       (cond (!((decide ((asI (nth (asA (nth (asT r18) 1)) 0)) = (0 : Int))) && (decide ((asI (nth (asA (nth (asT r18) 1)) 1)) = (0 : Int)))))
                        (some (.bool (true)))
                        ((ev (envF N) k F_lake_Step [(.agg [(.sl none [.int .i64, .int .i64] (asL (nth (asA r9) 0))), (.sl none [.int .i64, .int .i64] (asL (nth (asA r9) 1))), (.int .i64 (0 : Int))]), (.agg [(.int .i64 (asI (nth (asA (nth (asT r18) 0)) 0))), (.int .i64 (asI (nth (asA (nth (asT r18) 0)) 1)))]), (.agg [(.int .i64 (0 : Int)), (.int .i64 (0 : Int)), (.int .i64 (w64 ((0 : Int) - x5)))])]).bind fun r25 =>
                         cond (decide ((asI (nth (asT r25) 2)) = (0 : Int)))
                          (cond ((decide ((asI (nth (asA (nth (asT r25) 0)) 0)) = x3)) && (decide ((asI (nth (asA (nth (asT r25) 0)) 1)) = x4)))
                           (some (.bool ((decide ((asI (nth (asA (nth (asT r25) 1)) 0)) = (0 : Int))) && (decide ((asI (nth (asA (nth (asT r25) 1)) 1)) = (0 : Int))))))
                           (some (.bool (false))))
                          (some (.bool (false))))))
                     ((ev (envF N) k F_base_Within [(.int .i64 x5), (.int .i64 (w64 ((0 : Int) - (asI (nth (asA (nth (asT r11) 0)) 0))))), (.int .i64 (asI (nth (asA (nth (asT r11) 0)) 1)))]).bind fun r22 =>
                      cond (!(false == asB r22))
                       (some (.bool (false)))
                       (some (.bool (true))))))
                   (cond (decide ((asI (nth (asT r18) 2)) = (0 : Int)))
                    ((ev (envF N) k F_base_Within [(.int .i64 x5), (.int .i64 (w64 ((0 : Int) - (asI (nth (asA (nth (asT r11) 0)) 0))))), (.int .i64 (asI (nth (asA (nth (asT r11) 0)) 1)))]).bind fun r21 =>
                     cond (!((decide (asI (nth (asA (nth (asT r18) 1)) 0) = (0 : Int)) && decide (asI (nth (asA (nth (asT r18) 1)) 1) = (0 : Int))) == asB r21))
                      (some (.bool (false)))
                      (cond (!((decide ((asI (nth (asA (nth (asT r18) 1)) 0)) = (0 : Int))) && (decide ((asI (nth (asA (nth (asT r18) 1)) 1)) = (0 : Int)))))
                       (some (.bool (true)))
                       ((ev (envF N) k F_lake_Step [(.agg [(.sl none [.int .i64, .int .i64] (asL (nth (asA r9) 0))), (.sl none [.int .i64, .int .i64] (asL (nth (asA r9) 1))), (.int .i64 (0 : Int))]), (.agg [(.int .i64 (asI (nth (asA (nth (asT r18) 0)) 0))), (.int .i64 (asI (nth (asA (nth (asT r18) 0)) 1)))]), (.agg [(.int .i64 (0 : Int)), (.int .i64 (0 : Int)), (.int .i64 (w64 ((0 : Int) - x5)))])]).bind fun r24 =>
                        cond (decide ((asI (nth (asT r24) 2)) = (0 : Int)))
                         (cond ((decide ((asI (nth (asA (nth (asT r24) 0)) 0)) = x3)) && (decide ((asI (nth (asA (nth (asT r24) 0)) 1)) = x4)))
                          (some (.bool ((decide ((asI (nth (asA (nth (asT r24) 1)) 0)) = (0 : Int))) && (decide ((asI (nth (asA (nth (asT r24) 1)) 1)) = (0 : Int))))))
                          (some (.bool (false))))
                         (some (.bool (false))))))
                    ((ev (envF N) k F_base_Within [(.int .i64 x5), (.int .i64 (w64 ((0 : Int) - (asI (nth (asA (nth (asT r11) 0)) 0))))), (.int .i64 (asI (nth (asA (nth (asT r11) 0)) 1)))]).bind fun r21 =>
                     cond (!(false == asB r21))
                      (some (.bool (false)))
                      (some (.bool (true))))))))))))) := by kernel_rfl

end Go.PevTab
