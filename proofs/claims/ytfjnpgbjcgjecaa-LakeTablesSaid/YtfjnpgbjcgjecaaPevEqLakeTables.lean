/- EQUATIONS OF FUNCTIONS, by the kernel's own reckoning; written by a program. -/
import Derived.Test.YtfjnpgbjcgjecaaPevNums
namespace Go.PevTab
open Go.Pev Go
set_option maxRecDepth 100000
set_option linter.unusedVariables false

theorem E_law01_LakeTables (N k : Nat) (x0 : List (List PV)) (x1 : Int) (x2 : Int) : ev (envF N) (k + 1) F_law01_LakeTables [(.agg [(.sl none [.int .i64, .int .i64] x0)]), (.int .i64 x1), (.int .i64 x2)] =
 ((ev (envF N) k F_law01_awake []).bind fun r1 =>
 cond (!(asB r1))
  (some (.bool (false)))
  ((ev (envF N) k F_law01_Few [(.agg [(.sl none [.int .i64, .int .i64] x0)])]).bind fun r3 =>
   cond (!(asB r3))
    (some (.bool (true)))
    ((ev (envF N) k F_ref01_Copy [(.agg [(.sl none [.int .i64, .int .i64] x0)])]).bind fun r5 =>
     (ev (envF N) k F_lake_CheckTable [(.agg [(.sl none [.int .i64, .int .i64] (asL (nth (asA r5) 0)))])]).bind fun r6 =>
      (ev (envF N) k F_ref01_Copy [(.agg [(.sl none [.int .i64, .int .i64] x0)])]).bind fun r7 =>
       (ev (envF N) k F_lake_VolumeAt [(.agg [(.sl none [.int .i64, .int .i64] (asL (nth (asA r7) 0)))]), (.int .i64 x1)]).bind fun r8 =>
        (ev (envF N) k F_ref01_Copy [(.agg [(.sl none [.int .i64, .int .i64] x0)])]).bind fun r9 =>
         (ev (envF N) k F_lake_LevelAt [(.agg [(.sl none [.int .i64, .int .i64] (asL (nth (asA r9) 0)))]), (.int .i64 x2)]).bind fun r10 =>
          (ev (envF N) k F_ref01_Copy [(.agg [(.sl none [.int .i64, .int .i64] x0)])]).bind fun r11 =>
           (ev (envF N) k F_lake_AreaAt [(.agg [(.sl none [.int .i64, .int .i64] (asL (nth (asA r11) 0)))]), (.int .i64 x2)]).bind fun r12 =>
            (ev (envF N) k F_ref01_CheckTable [(.agg [(.sl none [.int .i64, .int .i64] x0)])]).bind fun r13 =>
             cond (!(decide ((asI (nth (asT r6) 1)) = (asI (nth (asT r13) 1)))))
              (some (.bool (false)))
              (cond (!(decide ((asI (nth (asT r6) 0)) = (asI (nth (asT r13) 0)))))
               (some (.bool (false)))
               (cond (!(decide ((asI (nth (asT r13) 1)) = (0 : Int))))
                (cond (decide ((asI (nth (asT r8) 1)) = (asI (nth (asT r13) 1))))
                 (cond (decide ((asI (nth (asT r10) 1)) = (asI (nth (asT r13) 1))))
                  (cond (decide ((asI (nth (asT r12) 1)) = (asI (nth (asT r13) 1))))
                   (cond ((decide ((asI (nth (asA (nth (asT r8) 0)) 0)) = (0 : Int))) && (decide ((asI (nth (asA (nth (asT r8) 0)) 1)) = (0 : Int))))
                    (cond ((decide ((asI (nth (asA (nth (asT r10) 0)) 0)) = (0 : Int))) && (decide ((asI (nth (asA (nth (asT r10) 0)) 1)) = (0 : Int))))
                     (some (.bool ((decide ((asI (nth (asA (nth (asT r12) 0)) 0)) = (0 : Int))) && (decide ((asI (nth (asA (nth (asT r12) 0)) 1)) = (0 : Int))))))
                     (some (.bool (false))))
                    (some (.bool (false))))
                   (some (.bool (false))))
                  (some (.bool (false))))
                 (some (.bool (false))))
                ((ev (envF N) k F_ref01_IsLevel [(.agg [(.sl none [.int .i64, .int .i64] x0)]), (.int .i64 x1)]).bind fun r17 =>
                 cond (asB r17)
                  (cond (!(decide ((asI (nth (asT r8) 1)) = (0 : Int))))
                   (some (.bool (false)))
                   ((ev (envF N) k F_ref01_VolumeAt [(.agg [(.sl none [.int .i64, .int .i64] x0)]), (.int .i64 x1)]).bind fun r20 =>
                    cond (!((decide ((asI (nth (asA (nth (asT r8) 0)) 0)) = (asI (nth (asA r20) 0)))) && (decide ((asI (nth (asA (nth (asT r8) 0)) 1)) = (asI (nth (asA r20) 1))))))
                     (some (.bool (false)))
                     ((ev (envF N) k F_ref01_IsLevel [(.agg [(.sl none [.int .i64, .int .i64] x0)]), (.int .i64 x1)]).bind fun r22 =>
                      cond (!(asB r22))
                       (cond (!(decide ((asI (nth (asT r8) 1)) = (2 : Int))))
                        (some (.bool (false)))
                        (cond (!((decide ((asI (nth (asA (nth (asT r8) 0)) 0)) = (0 : Int))) && (decide ((asI (nth (asA (nth (asT r8) 0)) 1)) = (0 : Int)))))
                         (some (.bool (false)))
                         ((ev (envF N) k F_ref01_IsVolume [(.agg [(.sl none [.int .i64, .int .i64] x0)]), (.int .i64 x2)]).bind fun r26 =>
                          cond (!(asB r26))
                           (cond (decide ((asI (nth (asT r10) 1)) = (2 : Int)))
                            (cond (decide ((asI (nth (asT r12) 1)) = (2 : Int)))
                             (cond ((decide ((asI (nth (asA (nth (asT r10) 0)) 0)) = (0 : Int))) && (decide ((asI (nth (asA (nth (asT r10) 0)) 1)) = (0 : Int))))
                              (some (.bool ((decide ((asI (nth (asA (nth (asT r12) 0)) 0)) = (0 : Int))) && (decide ((asI (nth (asA (nth (asT r12) 0)) 1)) = (0 : Int))))))
                              (some (.bool (false))))
                             (some (.bool (false))))
                            (some (.bool (false))))
                           (cond (decide ((asI (nth (asT r10) 1)) = (0 : Int)))
                            ((ev (envF N) k F_ref01_LevelAt [(.agg [(.sl none [.int .i64, .int .i64] x0)]), (.int .i64 x2)]).bind fun r29 =>
                             cond ((decide ((asI (nth (asA (nth (asT r10) 0)) 0)) = (asI (nth (asA r29) 0)))) && (decide ((asI (nth (asA (nth (asT r10) 0)) 1)) = (asI (nth (asA r29) 1)))))
                              (cond (decide ((asI (nth (asT r12) 1)) = (0 : Int)))
                               ((ev (envF N) k F_ref01_AreaAt [(.agg [(.sl none [.int .i64, .int .i64] x0)]), (.int .i64 x2)]).bind fun r32 =>
                                some (.bool ((decide ((asI (nth (asA (nth (asT r12) 0)) 0)) = (asI (nth (asA r32) 0)))) && (decide ((asI (nth (asA (nth (asT r12) 0)) 1)) = (asI (nth (asA r32) 1)))))))
                               (some (.bool (false))))
                              (some (.bool (false))))
                            (some (.bool (false)))))))
                       ((ev (envF N) k F_ref01_IsVolume [(.agg [(.sl none [.int .i64, .int .i64] x0)]), (.int .i64 x2)]).bind fun r24 =>
                        cond (!(asB r24))
                         (cond (decide ((asI (nth (asT r10) 1)) = (2 : Int)))
                          (cond (decide ((asI (nth (asT r12) 1)) = (2 : Int)))
                           (cond ((decide ((asI (nth (asA (nth (asT r10) 0)) 0)) = (0 : Int))) && (decide ((asI (nth (asA (nth (asT r10) 0)) 1)) = (0 : Int))))
                            (some (.bool ((decide ((asI (nth (asA (nth (asT r12) 0)) 0)) = (0 : Int))) && (decide ((asI (nth (asA (nth (asT r12) 0)) 1)) = (0 : Int))))))
                            (some (.bool (false))))
                           (some (.bool (false))))
                          (some (.bool (false))))
                         (cond (decide ((asI (nth (asT r10) 1)) = (0 : Int)))
                          ((ev (envF N) k F_ref01_LevelAt [(.agg [(.sl none [.int .i64, .int .i64] x0)]), (.int .i64 x2)]).bind fun r27 =>
                           cond ((decide ((asI (nth (asA (nth (asT r10) 0)) 0)) = (asI (nth (asA r27) 0)))) && (decide ((asI (nth (asA (nth (asT r10) 0)) 1)) = (asI (nth (asA r27) 1)))))
                            (cond (decide ((asI (nth (asT r12) 1)) = (0 : Int)))
                             ((ev (envF N) k F_ref01_AreaAt [(.agg [(.sl none [.int .i64, .int .i64] x0)]), (.int .i64 x2)]).bind fun r30 =>
                              some (.bool ((decide ((asI (nth (asA (nth (asT r12) 0)) 0)) = (asI (nth (asA r30) 0)))) && (decide ((asI (nth (asA (nth (asT r12) 0)) 1)) = (asI (nth (asA r30) 1)))))))
                             (some (.bool (false))))
                            (some (.bool (false))))
                          (some (.bool (false))))))))
                  ((ev (envF N) k F_ref01_IsLevel [(.agg [(.sl none [.int .i64, .int .i64] x0)]), (.int .i64 x1)]).bind fun r19 =>
                   cond (!(asB r19))
                    (cond (!(decide ((asI (nth (asT r8) 1)) = (2 : Int))))
                     (some (.bool (false)))
                     (cond (!((decide ((asI (nth (asA (nth (asT r8) 0)) 0)) = (0 : Int))) && (decide ((asI (nth (asA (nth (asT r8) 0)) 1)) = (0 : Int)))))
                      (some (.bool (false)))
                      ((ev (envF N) k F_ref01_IsVolume [(.agg [(.sl none [.int .i64, .int .i64] x0)]), (.int .i64 x2)]).bind fun r23 =>
                       cond (!(asB r23))
                        (cond (decide ((asI (nth (asT r10) 1)) = (2 : Int)))
                         (cond (decide ((asI (nth (asT r12) 1)) = (2 : Int)))
                          (cond ((decide ((asI (nth (asA (nth (asT r10) 0)) 0)) = (0 : Int))) && (decide ((asI (nth (asA (nth (asT r10) 0)) 1)) = (0 : Int))))
                           (some (.bool ((decide ((asI (nth (asA (nth (asT r12) 0)) 0)) = (0 : Int))) && (decide ((asI (nth (asA (nth (asT r12) 0)) 1)) = (0 : Int))))))
                           (some (.bool (false))))
                          (some (.bool (false))))
                         (some (.bool (false))))
                        (cond (decide ((asI (nth (asT r10) 1)) = (0 : Int)))
                         ((ev (envF N) k F_ref01_LevelAt [(.agg [(.sl none [.int .i64, .int .i64] x0)]), (.int .i64 x2)]).bind fun r26 =>
                          cond ((decide ((asI (nth (asA (nth (asT r10) 0)) 0)) = (asI (nth (asA r26) 0)))) && (decide ((asI (nth (asA (nth (asT r10) 0)) 1)) = (asI (nth (asA r26) 1)))))
                           (cond (decide ((asI (nth (asT r12) 1)) = (0 : Int)))
                            ((ev (envF N) k F_ref01_AreaAt [(.agg [(.sl none [.int .i64, .int .i64] x0)]), (.int .i64 x2)]).bind fun r29 =>
                             some (.bool ((decide ((asI (nth (asA (nth (asT r12) 0)) 0)) = (asI (nth (asA r29) 0)))) && (decide ((asI (nth (asA (nth (asT r12) 0)) 1)) = (asI (nth (asA r29) 1)))))))
                            (some (.bool (false))))
                           (some (.bool (false))))
                         (some (.bool (false)))))))
                    ((ev (envF N) k F_ref01_IsVolume [(.agg [(.sl none [.int .i64, .int .i64] x0)]), (.int .i64 x2)]).bind fun r21 =>
                     cond (!(asB r21))
                      (cond (decide ((asI (nth (asT r10) 1)) = (2 : Int)))
                       (cond (decide ((asI (nth (asT r12) 1)) = (2 : Int)))
                        (cond ((decide ((asI (nth (asA (nth (asT r10) 0)) 0)) = (0 : Int))) && (decide ((asI (nth (asA (nth (asT r10) 0)) 1)) = (0 : Int))))
                         (some (.bool ((decide ((asI (nth (asA (nth (asT r12) 0)) 0)) = (0 : Int))) && (decide ((asI (nth (asA (nth (asT r12) 0)) 1)) = (0 : Int))))))
                         (some (.bool (false))))
                        (some (.bool (false))))
                       (some (.bool (false))))
                      (cond (decide ((asI (nth (asT r10) 1)) = (0 : Int)))
                       ((ev (envF N) k F_ref01_LevelAt [(.agg [(.sl none [.int .i64, .int .i64] x0)]), (.int .i64 x2)]).bind fun r24 =>
                        cond ((decide ((asI (nth (asA (nth (asT r10) 0)) 0)) = (asI (nth (asA r24) 0)))) && (decide ((asI (nth (asA (nth (asT r10) 0)) 1)) = (asI (nth (asA r24) 1)))))
                         (cond (decide ((asI (nth (asT r12) 1)) = (0 : Int)))
                          ((ev (envF N) k F_ref01_AreaAt [(.agg [(.sl none [.int .i64, .int .i64] x0)]), (.int .i64 x2)]).bind fun r27 =>
                           some (.bool ((decide ((asI (nth (asA (nth (asT r12) 0)) 0)) = (asI (nth (asA r27) 0)))) && (decide ((asI (nth (asA (nth (asT r12) 0)) 1)) = (asI (nth (asA r27) 1)))))))
                          (some (.bool (false))))
                         (some (.bool (false))))
                       (some (.bool (false)))))))))))) := by kernel_rfl

end Go.PevTab
