/- EQUATIONS OF FUNCTIONS, by the kernel's own reckoning; written by a program. -/
import Derived.Test.YtfjnpgbjcgjecaaPevNums
namespace Go.PevTab
open Go.Pev Go
set_option maxRecDepth 100000
set_option linter.unusedVariables false

/-- Loop 13 of law01_LakeBetween. -/
noncomputable def L_law01_LakeBetween_13 (N k n13  : Nat) (x0 : Int) (x1 : Int) (x2 : Int) (x3 : List (List PV)) (x4 : Int) (x5 : Int) (x6 : Int) (x7 : Int) (x8 : Int) (x9 : Int) : Option PV := loopAt (envF N) (ev (envF N) k) F_law01_LakeBetween Go.Proofs.Try.f10 [.r, .r, .r, .r, .r, .r, .r, .r, .l, .r, .b] n13 { slots := (und 1 ((.int .i64 x0) :: (.int .i64 x1) :: (.ptr 3 0) :: und 3 ((.ptr 7 0) :: und 5 ((.int .i64 x2) :: und 217 [])))), boxes := (nos 3 ((some (.cells [(.sl none [.int .i64, .int .i64] x3)] false)) :: nos 3 ((some (.cells [(.int .i64 x4), (.int .i64 x5)] false)) :: nos 1 ((some (.cells [(.int .i64 x6), (.int .i64 x7)] false)) :: nos 1 ((some (.cells [(.int .i64 x8), (.int .i64 x9)] false)) :: nos 219 []))))), vers := List.replicate 231 0 }
theorem L_law01_LakeBetween_13_eq (N k n13  : Nat) (x0 : Int) (x1 : Int) (x2 : Int) (x3 : List (List PV)) (x4 : Int) (x5 : Int) (x6 : Int) (x7 : Int) (x8 : Int) (x9 : Int) : L_law01_LakeBetween_13 N k (n13 + 1)  x0 x1 x2 x3 x4 x5 x6 x7 x8 x9 =
 (cond (decide (x2 < ((List.length x3) : Int)))
 (cond (decide ((0 : Int) ≤ x2))
  (cond (decide (x2 < ((List.length x3) : Int)))
   ((ev (envF N) k F_ref01_Copy [(.agg [(.sl none [.int .i64, .int .i64] x3)])]).bind fun r4 =>
    (ev (envF N) k F_lake_LevelAt [(.agg [(.sl none [.int .i64, .int .i64] (asL (nth (asA r4) 0)))]), (.int .i64 (asI (nth (nths x3 (Int.toNat x2)) 1)))]).bind fun r5 =>
     (ev (envF N) k F_ref01_Copy [(.agg [(.sl none [.int .i64, .int .i64] x3)])]).bind fun r6 =>
      (ev (envF N) k F_lake_VolumeAt [(.agg [(.sl none [.int .i64, .int .i64] (asL (nth (asA r6) 0)))]), (.int .i64 (asI (nth (nths x3 (Int.toNat x2)) 0)))]).bind fun r7 =>
       cond (!(decide ((asI (nth (asT r5) 1)) = (0 : Int))))
        (some (.bool (false)))
        (cond (!(decide ((asI (nth (asT r7) 1)) = (0 : Int))))
         (some (.bool (false)))
         (cond (!((decide ((asI (nth (asA (nth (asT r5) 0)) 0)) = (asI (nth (nths x3 (Int.toNat x2)) 0)))) && (decide ((asI (nth (asA (nth (asT r5) 0)) 1)) = (asI (nth (nths x3 (Int.toNat x2)) 0))))))
          (some (.bool (false)))
          (cond (!((decide ((asI (nth (asA (nth (asT r7) 0)) 0)) = (asI (nth (nths x3 (Int.toNat x2)) 1)))) && (decide ((asI (nth (asA (nth (asT r7) 0)) 1)) = (asI (nth (nths x3 (Int.toNat x2)) 1))))))
           (some (.bool (false)))
           (L_law01_LakeBetween_13 N k n13  x0 x1 (w64 (x2 + (1 : Int))) x3 x4 x5 x6 x7 x8 x9)))))
   (none))
  (none))
 ((ev (envF N) k F_ref01_Top [(.agg [(.sl none [.int .i64, .int .i64] x3)])]).bind fun r2 =>
  (ev (envF N) k F_ref01_Copy [(.agg [(.sl none [.int .i64, .int .i64] x3)])]).bind fun r3 =>
   (ev (envF N) k F_lake_LevelAt [(.agg [(.sl none [.int .i64, .int .i64] (asL (nth (asA r3) 0)))]), (.int .i64 ((imin (w64 (x0 + x1)) (asI (nth (asA r2) 1)))))]).bind fun r4 =>
    (ev (envF N) k F_ref01_Copy [(.agg [(.sl none [.int .i64, .int .i64] x3)])]).bind fun r5 =>
     (ev (envF N) k F_lake_AreaAt [(.agg [(.sl none [.int .i64, .int .i64] (asL (nth (asA r5) 0)))]), (.int .i64 x0)]).bind fun r6 =>
      (ev (envF N) k F_ref01_Copy [(.agg [(.sl none [.int .i64, .int .i64] x3)])]).bind fun r7 =>
       (ev (envF N) k F_lake_AreaAt [(.agg [(.sl none [.int .i64, .int .i64] (asL (nth (asA r7) 0)))]), (.int .i64 ((imin (w64 (x0 + x1)) (asI (nth (asA r2) 1)))))]).bind fun r8 =>
        cond (decide ((asI (nth (asT r4) 1)) = (0 : Int)))
         (cond (decide (x4 ≤ (asI (nth (asA (nth (asT r4) 0)) 0))))
          (cond (decide (x5 ≤ (asI (nth (asA (nth (asT r4) 0)) 1))))
           (cond (decide ((asI (nth (asT r6) 1)) = (0 : Int)))
            (cond (decide ((asI (nth (asT r8) 1)) = (0 : Int)))
             ((ev (envF N) k F_law01_small [(.agg [(.int .i64 (asI (nth (asA (nth (asT r6) 0)) 0))), (.int .i64 (asI (nth (asA (nth (asT r6) 0)) 1)))])]).bind fun r14 =>
              cond (asB r14)
               ((ev (envF N) k F_law01_small [(.agg [(.int .i64 (asI (nth (asA (nth (asT r8) 0)) 0))), (.int .i64 (asI (nth (asA (nth (asT r8) 0)) 1)))])]).bind fun r16 =>
                cond (asB r16)
                 ((ev (envF N) k F_base_Cmp [(.agg [(.int .i64 (asI (nth (asA (nth (asT r6) 0)) 0))), (.int .i64 (asI (nth (asA (nth (asT r6) 0)) 1)))]), (.agg [(.int .i64 (asI (nth (asA (nth (asT r8) 0)) 0))), (.int .i64 (asI (nth (asA (nth (asT r8) 0)) 1)))])]).bind fun r18 =>
                  some (.bool (decide ((asI r18) ≤ (0 : Int)))))
                 (some (.bool (false))))
               (some (.bool (false))))
             (some (.bool (false))))
            (some (.bool (false))))
           (some (.bool (false))))
          (some (.bool (false))))
         (some (.bool (false))))) := by kernel_rfl
theorem E_law01_LakeBetween (N k : Nat) (x0 : List (List PV)) (x1 : Int) (x2 : Int) : ev (envF N) (k + 1) F_law01_LakeBetween [(.agg [(.sl none [.int .i64, .int .i64] x0)]), (.int .i64 x1), (.int .i64 x2)] =
 ((ev (envF N) k F_law01_awake []).bind fun r1 =>
 cond (!(asB r1))
  (some (.bool (false)))
  ((ev (envF N) k F_law01_Few [(.agg [(.sl none [.int .i64, .int .i64] x0)])]).bind fun r3 =>
   cond (!(asB r3))
    (some (.bool (true)))
    ((ev (envF N) k F_ref01_TableErr [(.agg [(.sl none [.int .i64, .int .i64] x0)])]).bind fun r5 =>
     cond (!(decide ((asI r5) = (0 : Int))))
      (some (.bool (true)))
      ((ev (envF N) k F_ref01_IsVolume [(.agg [(.sl none [.int .i64, .int .i64] x0)]), (.int .i64 x1)]).bind fun r7 =>
       cond (!(asB r7))
        (some (.bool (true)))
        ((ev (envF N) k F_base_Within [(.int .i64 x2), (.int .i64 (0 : Int)), (.int .i64 (1000000000 : Int))]).bind fun r9 =>
         cond (!(asB r9))
          (some (.bool (true)))
          ((ev (envF N) k F_ref01_Copy [(.agg [(.sl none [.int .i64, .int .i64] x0)])]).bind fun r11 =>
           (ev (envF N) k F_lake_LevelAt [(.agg [(.sl none [.int .i64, .int .i64] (asL (nth (asA r11) 0)))]), (.int .i64 x1)]).bind fun r12 =>
            cond (!(decide ((asI (nth (asT r12) 1)) = (0 : Int))))
             (some (.bool (false)))
             ((ev (envF N) k F_ref01_IsLevel [(.agg [(.sl none [.int .i64, .int .i64] x0)]), (.int .i64 (asI (nth (asA (nth (asT r12) 0)) 0)))]).bind fun r14 =>
              cond (!(asB r14))
               (some (.bool (false)))
               ((ev (envF N) k F_ref01_IsLevel [(.agg [(.sl none [.int .i64, .int .i64] x0)]), (.int .i64 (asI (nth (asA (nth (asT r12) 0)) 1)))]).bind fun r16 =>
                cond (!(asB r16))
                 (some (.bool (false)))
                 ((ev (envF N) k F_base_Within [(.int .i64 (w64 ((asI (nth (asA (nth (asT r12) 0)) 1)) - (asI (nth (asA (nth (asT r12) 0)) 0))))), (.int .i64 (0 : Int)), (.int .i64 (1 : Int))]).bind fun r18 =>
                  cond (!(asB r18))
                   (some (.bool (false)))
                   ((ev (envF N) k F_ref01_Copy [(.agg [(.sl none [.int .i64, .int .i64] x0)])]).bind fun r20 =>
                    (ev (envF N) k F_lake_VolumeAt [(.agg [(.sl none [.int .i64, .int .i64] (asL (nth (asA r20) 0)))]), (.int .i64 (asI (nth (asA (nth (asT r12) 0)) 0)))]).bind fun r21 =>
                     (ev (envF N) k F_ref01_Copy [(.agg [(.sl none [.int .i64, .int .i64] x0)])]).bind fun r22 =>
                      (ev (envF N) k F_lake_VolumeAt [(.agg [(.sl none [.int .i64, .int .i64] (asL (nth (asA r22) 0)))]), (.int .i64 (asI (nth (asA (nth (asT r12) 0)) 1)))]).bind fun r23 =>
                       cond (!(decide ((asI (nth (asT r21) 1)) = (0 : Int))))
                        (some (.bool (false)))
                        (cond (!(decide ((asI (nth (asT r23) 1)) = (0 : Int))))
                         (some (.bool (false)))
                         (cond (decide (x1 < (asI (nth (asA (nth (asT r21) 0)) 0))))
                          (some (.bool (false)))
                          (cond (decide ((asI (nth (asA (nth (asT r23) 0)) 1)) < x1))
                           (some (.bool (false)))
                           (L_law01_LakeBetween_13 N k N  x1 x2 (0 : Int) x0 (asI (nth (asA (nth (asT r12) 0)) 0)) (asI (nth (asA (nth (asT r12) 0)) 1)) (asI (nth (asA (nth (asT r21) 0)) 0)) (asI (nth (asA (nth (asT r21) 0)) 1)) (asI (nth (asA (nth (asT r23) 0)) 0)) (asI (nth (asA (nth (asT r23) 0)) 1)))))))))))))))) := by kernel_rfl

end Go.PevTab
