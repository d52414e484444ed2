/- EQUATIONS OF FUNCTIONS, by the kernel's own reckoning; written by a program. -/
import Derived.Test.YtfjnpgbjcgjecaaPevNums
namespace Go.PevTab
open Go.Pev Go
set_option maxRecDepth 100000
set_option linter.unusedVariables false

/-- Loop 13 of law01_LakeKept. -/
noncomputable def L_law01_LakeKept_13 (N k n13  : Nat) (x0 : List (List PV)) (x1 : List (List PV)) (x2 : Int) (x3 : Int) (x4 : List (List PV)) (x5 : List (List PV)) (x6 : Int) (x7 : Int) (x8 : Int) (x9 : Int) (x10 : Int) (x11 : Int) (x12 : Int) (x13 : Int) (x14 : Int) : Option PV := loopAt (envF N) (ev (envF N) k) F_law01_LakeKept Go.Proofs.Try.f13 [.r, .r, .r, .r, .r, .r, .r, .r, .l, .r, .b] n13 { slots := (und 2 ((.sl none [.int .i64, .int .i64, .int .i64] x0) :: (.ptr 3 0) :: (.ptr 4 0) :: und 2 ((.sl none [.int .i64, .int .i64] x1) :: (.ptr 8 0) :: und 1 ((.ptr 10 0) :: (.int .i64 x2) :: (.ptr 12 0) :: (.int .i64 x3) :: und 243 [])))), boxes := (nos 3 ((some (.cells [(.sl none [.int .i64, .int .i64] x4), (.sl none [.int .i64, .int .i64] x5), (.int .i64 x6)] false)) :: (some (.cells [(.int .i64 x7), (.int .i64 x8)] false)) :: nos 3 ((some (.cells [(.int .i64 x9), (.int .i64 x10)] false)) :: nos 1 ((some (.cells [(.int .i64 x11), (.int .i64 x12)] false)) :: nos 1 ((some (.cells [(.int .i64 x13), (.int .i64 x14)] false)) :: nos 244 []))))), vers := List.replicate 257 0 }
theorem L_law01_LakeKept_13_eq (N k n13  : Nat) (x0 : List (List PV)) (x1 : List (List PV)) (x2 : Int) (x3 : Int) (x4 : List (List PV)) (x5 : List (List PV)) (x6 : Int) (x7 : Int) (x8 : Int) (x9 : Int) (x10 : Int) (x11 : Int) (x12 : Int) (x13 : Int) (x14 : Int) : L_law01_LakeKept_13 N k (n13 + 1)  x0 x1 x2 x3 x4 x5 x6 x7 x8 x9 x10 x11 x12 x13 x14 =
 (cond (decide (x3 < ((List.length x0) : Int)))
 ((ev (envF N) k F_ref01_CopyPair [(.agg [(.sl none [.int .i64, .int .i64] x4), (.sl none [.int .i64, .int .i64] x5), (.int .i64 x6)])]).bind fun r2 =>
  cond (decide ((0 : Int) ≤ x3))
   (cond (decide (x3 < ((List.length x0) : Int)))
    ((ev (envF N) k F_lake_Step [(.agg [(.sl none [.int .i64, .int .i64] (asL (nth (asA r2) 0))), (.sl none [.int .i64, .int .i64] (asL (nth (asA r2) 1))), (.int .i64 (asI (nth (asA r2) 2)))]), (.agg [(.int .i64 x11), (.int .i64 x12)]), (.agg [(.int .i64 (asI (nth (nths x0 (Int.toNat x3)) 0))), (.int .i64 (asI (nth (nths x0 (Int.toNat x3)) 1))), (.int .i64 (asI (nth (nths x0 (Int.toNat x3)) 2)))])]).bind fun r5 =>
     cond (!(decide ((asI (nth (asT r5) 2)) = (0 : Int))))
      (some (.bool (false)))
      (cond (decide ((0 : Int) ≤ x3))
       (cond (decide (x3 < ((List.length x1) : Int)))
        (cond (!((decide ((asI (nth (asA (nth (asT r5) 0)) 0)) = (asI (nth (nths x1 (Int.toNat x3)) 0)))) && (decide ((asI (nth (asA (nth (asT r5) 0)) 1)) = (asI (nth (nths x1 (Int.toNat x3)) 1))))))
         (some (.bool (false)))
         ((ev (envF N) k F_ref01_StateErr [(.agg [(.sl none [.int .i64, .int .i64] x4), (.sl none [.int .i64, .int .i64] x5), (.int .i64 x6)]), (.agg [(.int .i64 (asI (nth (asA (nth (asT r5) 0)) 0))), (.int .i64 (asI (nth (asA (nth (asT r5) 0)) 1)))])]).bind fun r10 =>
          cond (!(decide ((asI r10) = (0 : Int))))
           (some (.bool (false)))
           ((ev (envF N) k F_base_Within [(.int .i64 (asI (nth (asA (nth (asT r5) 1)) 0))), (.int .i64 (0 : Int)), (.int .i64 (2000000000 : Int))]).bind fun r12 =>
            cond (!(asB r12))
             (some (.bool (false)))
             ((ev (envF N) k F_base_Within [(.int .i64 (asI (nth (asA (nth (asT r5) 1)) 1))), (.int .i64 (0 : Int)), (.int .i64 (2000000000 : Int))]).bind fun r14 =>
              cond (!(asB r14))
               (some (.bool (false)))
               (cond (decide ((0 : Int) ≤ x3))
                (cond (decide (x3 < ((List.length x0) : Int)))
                 (cond (decide ((0 : Int) ≤ x3))
                  (cond (decide (x3 < ((List.length x0) : Int)))
                   (L_law01_LakeKept_13 N k n13  x0 x1 (w64 ((w64 (x2 + (asI (nth (nths x0 (Int.toNat x3)) 0)))) + (asI (nth (nths x0 (Int.toNat x3)) 1)))) (w64 (x3 + (1 : Int))) x4 x5 x6 x7 x8 x9 x10 (asI (nth (asA (nth (asT r5) 0)) 0)) (asI (nth (asA (nth (asT r5) 0)) 1)) (w64 (x13 + (asI (nth (asA (nth (asT r5) 1)) 0)))) (w64 (x14 + (asI (nth (asA (nth (asT r5) 1)) 1)))))
                   (none))
                  (none))
                 (none))
                (none))))))
        (none))
       (none)))
    (none))
   (none))
 (cond (!((decide (x13 = x9)) && (decide (x14 = x10))))
  (some (.bool (false)))
  (cond (!(decide ((w64 ((w64 ((w64 (x11 + x12)) + x9)) + x10)) = (w64 ((w64 (x7 + x8)) + x2)))))
   (some (.bool (false)))
   ((ev (envF N) k F_ref01_CopyPair [(.agg [(.sl none [.int .i64, .int .i64] x4), (.sl none [.int .i64, .int .i64] x5), (.int .i64 x6)])]).bind fun r4 =>
    cond (decide ((0 : Int) ≤ (w64 (Int.tdiv ((List.length x0) : Int) (2 : Int)))))
     (cond (decide ((w64 (Int.tdiv ((List.length x0) : Int) (2 : Int))) ≤ ((List.length x0) : Int)))
      ((ev (envF N) k F_ref01_CopyList [(.sl none [.int .i64, .int .i64, .int .i64] (List.drop 0 (List.take (Int.toNat (w64 (Int.tdiv (x0.length : Int) (2 : Int)))) x0)))]).bind fun r7 =>
       (ev (envF N) k F_lake_RunOf [(.agg [(.sl none [.int .i64, .int .i64] (asL (nth (asA r4) 0))), (.sl none [.int .i64, .int .i64] (asL (nth (asA r4) 1))), (.int .i64 (asI (nth (asA r4) 2)))]), (.agg [(.int .i64 x7), (.int .i64 x8)]), (.sl none [.int .i64, .int .i64, .int .i64] (asL r7))]).bind fun r8 =>
        cond (decide ((0 : Int) < (w64 (Int.tdiv ((List.length x0) : Int) (2 : Int)))))
         (cond (decide ((0 : Int) ≤ (w64 ((w64 (Int.tdiv ((List.length x0) : Int) (2 : Int))) - (1 : Int)))))
          (cond (decide ((w64 ((w64 (Int.tdiv ((List.length x0) : Int) (2 : Int))) - (1 : Int))) < ((List.length x1) : Int)))
           ((ev (envF N) k F_ref01_CopyPair [(.agg [(.sl none [.int .i64, .int .i64] x4), (.sl none [.int .i64, .int .i64] x5), (.int .i64 x6)])]).bind fun r12 =>
            cond (decide ((0 : Int) ≤ (w64 (Int.tdiv ((List.length x0) : Int) (2 : Int)))))
             (cond (decide ((w64 (Int.tdiv ((List.length x0) : Int) (2 : Int))) ≤ ((List.length x0) : Int)))
              ((ev (envF N) k F_ref01_CopyList [(.sl none [.int .i64, .int .i64, .int .i64] (List.drop (Int.toNat (w64 (Int.tdiv (x0.length : Int) (2 : Int)))) (List.take (List.length x0) x0)))]).bind fun r15 =>
               (ev (envF N) k F_lake_RunOf [(.agg [(.sl none [.int .i64, .int .i64] (asL (nth (asA r12) 0))), (.sl none [.int .i64, .int .i64] (asL (nth (asA r12) 1))), (.int .i64 (asI (nth (asA r12) 2)))]), (.agg [(.int .i64 (asI (nth (nths x1 (Int.toNat (w64 (w64 (Int.tdiv (x0.length : Int) (2 : Int)) - (1 : Int))))) 0))), (.int .i64 (asI (nth (nths x1 (Int.toNat (w64 (w64 (Int.tdiv (x0.length : Int) (2 : Int)) - (1 : Int))))) 1)))]), (.sl none [.int .i64, .int .i64, .int .i64] (asL r15))]).bind fun r16 =>
                cond (decide ((asI (nth (asT r8) 2)) = (0 : Int)))
                 (cond (decide ((asI (nth (asT r16) 2)) = (0 : Int)))
                  (cond (decide ((0 : Int) ≤ (w64 (Int.tdiv ((List.length x0) : Int) (2 : Int)))))
                   (cond (decide ((w64 (Int.tdiv ((List.length x0) : Int) (2 : Int))) ≤ ((List.length x1) : Int)))
                    ((ev (envF N) k F_ref01_SameStates [(.sl none [.int .i64, .int .i64] (asL (nth (asT r8) 0))), (.sl none [.int .i64, .int .i64] (List.drop 0 (List.take (Int.toNat (w64 (Int.tdiv (x0.length : Int) (2 : Int)))) x1)))]).bind fun r21 =>
                     cond (asB r21)
                      (cond (decide ((0 : Int) ≤ (w64 (Int.tdiv ((List.length x0) : Int) (2 : Int)))))
                       (cond (decide ((w64 (Int.tdiv ((List.length x0) : Int) (2 : Int))) ≤ ((List.length x1) : Int)))
                        ((ev (envF N) k F_ref01_SameStates [(.sl none [.int .i64, .int .i64] (asL (nth (asT r16) 0))), (.sl none [.int .i64, .int .i64] (List.drop (Int.toNat (w64 (Int.tdiv (x0.length : Int) (2 : Int)))) (List.take (List.length x1) x1)))]).bind fun r25 =>
                         cond (asB r25)
                          ((ev (envF N) k F_base_Within [(.int .i64 (asI (nth (asA (nth (asT r8) 1)) 0))), (.int .i64 (0 : Int)), (.int .i64 x9)]).bind fun r27 =>
                           cond (asB r27)
                            ((ev (envF N) k F_base_Within [(.int .i64 (asI (nth (asA (nth (asT r8) 1)) 1))), (.int .i64 (0 : Int)), (.int .i64 x10)]).bind fun r29 =>
                             cond (asB r29)
                              (some (.bool ((decide (x9 = (w64 ((asI (nth (asA (nth (asT r8) 1)) 0)) + (asI (nth (asA (nth (asT r16) 1)) 0)))))) && (decide (x10 = (w64 ((asI (nth (asA (nth (asT r8) 1)) 1)) + (asI (nth (asA (nth (asT r16) 1)) 1)))))))))
                              (some (.bool (false))))
                            (some (.bool (false))))
                          (some (.bool (false))))
                        (none))
                       (none))
                      (some (.bool (false))))
                    (none))
                   (none))
                  (some (.bool (false))))
                 (some (.bool (false))))
              (none))
             (none))
           (none))
          (none))
         ((ev (envF N) k F_ref01_CopyPair [(.agg [(.sl none [.int .i64, .int .i64] x4), (.sl none [.int .i64, .int .i64] x5), (.int .i64 x6)])]).bind fun r10 =>
          cond (decide ((0 : Int) ≤ (w64 (Int.tdiv ((List.length x0) : Int) (2 : Int)))))
           (cond (decide ((w64 (Int.tdiv ((List.length x0) : Int) (2 : Int))) ≤ ((List.length x0) : Int)))
            ((ev (envF N) k F_ref01_CopyList [(.sl none [.int .i64, .int .i64, .int .i64] (List.drop (Int.toNat (w64 (Int.tdiv (x0.length : Int) (2 : Int)))) (List.take (List.length x0) x0)))]).bind fun r13 =>
             (ev (envF N) k F_lake_RunOf [(.agg [(.sl none [.int .i64, .int .i64] (asL (nth (asA r10) 0))), (.sl none [.int .i64, .int .i64] (asL (nth (asA r10) 1))), (.int .i64 (asI (nth (asA r10) 2)))]), (.agg [(.int .i64 x7), (.int .i64 x8)]), (.sl none [.int .i64, .int .i64, .int .i64] (asL r13))]).bind fun r14 =>
              cond (decide ((asI (nth (asT r8) 2)) = (0 : Int)))
               (cond (decide ((asI (nth (asT r14) 2)) = (0 : Int)))
                (cond (decide ((0 : Int) ≤ (w64 (Int.tdiv ((List.length x0) : Int) (2 : Int)))))
                 (cond (decide ((w64 (Int.tdiv ((List.length x0) : Int) (2 : Int))) ≤ ((List.length x1) : Int)))
                  ((ev (envF N) k F_ref01_SameStates [(.sl none [.int .i64, .int .i64] (asL (nth (asT r8) 0))), (.sl none [.int .i64, .int .i64] (List.drop 0 (List.take (Int.toNat (w64 (Int.tdiv (x0.length : Int) (2 : Int)))) x1)))]).bind fun r19 =>
                   cond (asB r19)
                    (cond (decide ((0 : Int) ≤ (w64 (Int.tdiv ((List.length x0) : Int) (2 : Int)))))
                     (cond (decide ((w64 (Int.tdiv ((List.length x0) : Int) (2 : Int))) ≤ ((List.length x1) : Int)))
                      ((ev (envF N) k F_ref01_SameStates [(.sl none [.int .i64, .int .i64] (asL (nth (asT r14) 0))), (.sl none [.int .i64, .int .i64] (List.drop (Int.toNat (w64 (Int.tdiv (x0.length : Int) (2 : Int)))) (List.take (List.length x1) x1)))]).bind fun r23 =>
                       cond (asB r23)
                        ((ev (envF N) k F_base_Within [(.int .i64 (asI (nth (asA (nth (asT r8) 1)) 0))), (.int .i64 (0 : Int)), (.int .i64 x9)]).bind fun r25 =>
                         cond (asB r25)
                          ((ev (envF N) k F_base_Within [(.int .i64 (asI (nth (asA (nth (asT r8) 1)) 1))), (.int .i64 (0 : Int)), (.int .i64 x10)]).bind fun r27 =>
                           cond (asB r27)
                            (some (.bool ((decide (x9 = (w64 ((asI (nth (asA (nth (asT r8) 1)) 0)) + (asI (nth (asA (nth (asT r14) 1)) 0)))))) && (decide (x10 = (w64 ((asI (nth (asA (nth (asT r8) 1)) 1)) + (asI (nth (asA (nth (asT r14) 1)) 1)))))))))
                            (some (.bool (false))))
                          (some (.bool (false))))
                        (some (.bool (false))))
                      (none))
                     (none))
                    (some (.bool (false))))
                  (none))
                 (none))
                (some (.bool (false))))
               (some (.bool (false))))
            (none))
           (none)))
      (none))
     (none))))) := by kernel_rfl
theorem E_law01_LakeKept (N k : Nat) (x0 : List (List PV)) (x1 : List (List PV)) (x2 : Int) (x3 : Int) (x4 : Int) (x5 : List (List PV)) : ev (envF N) (k + 1) F_law01_LakeKept [(.agg [(.sl none [.int .i64, .int .i64] x0), (.sl none [.int .i64, .int .i64] x1), (.int .i64 x2)]), (.agg [(.int .i64 x3), (.int .i64 x4)]), (.sl none [.int .i64, .int .i64, .int .i64] x5)] =
 ((ev (envF N) k F_law01_awake []).bind fun r1 =>
 cond (!(asB r1))
  (some (.bool (false)))
  ((ev (envF N) k F_law01_FewPair [(.agg [(.sl none [.int .i64, .int .i64] x0), (.sl none [.int .i64, .int .i64] x1), (.int .i64 x2)])]).bind fun r3 =>
   cond (!(asB r3))
    (some (.bool (true)))
    (cond (decide ((24 : Int) < ((List.length x5) : Int)))
     (some (.bool (true)))
     ((ev (envF N) k F_ref01_BothErr [(.agg [(.sl none [.int .i64, .int .i64] x0), (.sl none [.int .i64, .int .i64] x1), (.int .i64 x2)]), (.agg [(.int .i64 x3), (.int .i64 x4)])]).bind fun r6 =>
      cond (!(decide ((asI r6) = (0 : Int))))
       (some (.bool (true)))
       ((ev (envF N) k F_ref01_ListErr [(.sl none [.int .i64, .int .i64, .int .i64] x5)]).bind fun r8 =>
        cond (!(decide ((asI r8) = (0 : Int))))
         (some (.bool (true)))
         ((ev (envF N) k F_ref01_CopyPair [(.agg [(.sl none [.int .i64, .int .i64] x0), (.sl none [.int .i64, .int .i64] x1), (.int .i64 x2)])]).bind fun r10 =>
          (ev (envF N) k F_ref01_CopyList [(.sl none [.int .i64, .int .i64, .int .i64] x5)]).bind fun r11 =>
           (ev (envF N) k F_lake_RunOf [(.agg [(.sl none [.int .i64, .int .i64] (asL (nth (asA r10) 0))), (.sl none [.int .i64, .int .i64] (asL (nth (asA r10) 1))), (.int .i64 (asI (nth (asA r10) 2)))]), (.agg [(.int .i64 x3), (.int .i64 x4)]), (.sl none [.int .i64, .int .i64, .int .i64] (asL r11))]).bind fun r12 =>
            cond (!(decide ((asI (nth (asT r12) 2)) = (0 : Int))))
             (some (.bool (decide ((asI (nth (asT r12) 2)) = (22 : Int)))))
             (cond (!(decide (((List.length (asL (nth (asT r12) 0))) : Int) = ((List.length x5) : Int))))
              (some (.bool (false)))
              ((ev (envF N) k F_base_Within [(.int .i64 (asI (nth (asA (nth (asT r12) 1)) 0))), (.int .i64 (0 : Int)), (.int .i64 (48000000000 : Int))]).bind fun r15 =>
               cond (!(asB r15))
                (some (.bool (false)))
                ((ev (envF N) k F_base_Within [(.int .i64 (asI (nth (asA (nth (asT r12) 1)) 1))), (.int .i64 (0 : Int)), (.int .i64 (48000000000 : Int))]).bind fun r17 =>
                 cond (!(asB r17))
                  (some (.bool (false)))
                  (L_law01_LakeKept_13 N k N  x5 (asL (nth (asT r12) 0)) (0 : Int) (0 : Int) x0 x1 x2 x3 x4 (asI (nth (asA (nth (asT r12) 1)) 0)) (asI (nth (asA (nth (asT r12) 1)) 1)) x3 x4 (0 : Int) (0 : Int))))))))))) := by kernel_rfl

end Go.PevTab
