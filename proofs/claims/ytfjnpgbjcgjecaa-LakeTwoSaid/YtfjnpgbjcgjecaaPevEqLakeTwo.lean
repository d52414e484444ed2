/- EQUATIONS OF FUNCTIONS, by the kernel's own reckoning; written by a program. -/
import Derived.Test.YtfjnpgbjcgjecaaPevNums
namespace Go.PevTab
open Go.Pev Go
set_option maxRecDepth 100000
set_option linter.unusedVariables false

/-- Loop 12 of law01_LakeTwo. -/
noncomputable def L_law01_LakeTwo_12 (N k n12  : Nat) (x0 : List (List PV)) (x1 : List (List PV)) (x2 : List (List PV)) (x3 : Int) (x4 : List (List PV)) (x5 : List (List PV)) (x6 : Int) (x7 : Int) (x8 : Int) : Option PV := loopAt (envF N) (ev (envF N) k) F_law01_LakeTwo Go.Proofs.Try.f6 [.r, .r, .r, .r, .r, .l, .r, .t, .r, .r, .l, .r, .b] n12 { slots := (und 1 ((.sl none [.int .i64] x0) :: und 1 ((.ptr 3 0) :: und 1 ((.ptr 5 0) :: und 3 ((.sl none [.int .i64] x1) :: und 1 ((.sl (some (11, 0)) [.int .i64, .int .i64, .int .i64] x2) :: (.int .i64 x3) :: und 238 [])))))), boxes := (nos 3 ((some (.cells [(.sl none [.int .i64, .int .i64] x4)] false)) :: nos 1 ((some (.cells [(.sl none [.int .i64, .int .i64, .int .i64] x5), (.int .i64 x6)] false)) :: nos 1 ((some (.cells [(.int .i64 x7), (.int .i64 x8)] false)) :: nos 243 [])))), vers := List.replicate 251 0 }
/-- Loop 26 of law01_LakeTwo. -/
noncomputable def L_law01_LakeTwo_26 (N k n26  : Nat) (x0 : List (List PV)) (x1 : Bool) (x2 : Int) (x3 : List (List PV)) (x4 : List (List PV)) (x5 : Int) (x6 : Int) (x7 : Int) : Option PV := loopAt (envF N) (ev (envF N) k) F_law01_LakeTwo Go.Proofs.Try.f6 [.r, .r, .r, .r, .r, .r, .r, .r, .l, .r, .b] n26 { slots := (und 1 ((.sl none [.int .i64] x0) :: und 1 ((.ptr 3 0) :: und 1 ((.ptr 5 0) :: und 1 ((.ptr 7 0) :: und 9 ((.bool x1) :: (.int .i64 x2) :: und 232 [])))))), boxes := (nos 3 ((some (.cells [(.sl none [.int .i64, .int .i64] x3)] false)) :: nos 1 ((some (.cells [(.sl none [.int .i64, .int .i64, .int .i64] x4), (.int .i64 x5)] false)) :: nos 1 ((some (.cells [(.int .i64 x6), (.int .i64 x7)] false)) :: nos 243 [])))), vers := List.replicate 251 0 }
/-- Loop 30 of law01_LakeTwo. -/
noncomputable def L_law01_LakeTwo_30 (N k n30 n26 : Nat) (x0 : List (List PV)) (x1 : Bool) (x2 : Int) (x3 : Int) (x4 : Int) (x5 : List (List PV)) (x6 : List (List PV)) (x7 : Int) (x8 : Int) (x9 : Int) : Option PV := loopAt (envF N) (ev (envF N) k) F_law01_LakeTwo Go.Proofs.Try.f6 [.r, .r, .r, .r, .r, .r, .r, .r, .l, .r, .b, .p n26, .r, .l, .b, .r, .l, .r, .b] n30 { slots := (und 1 ((.sl none [.int .i64] x0) :: und 1 ((.ptr 3 0) :: und 1 ((.ptr 5 0) :: und 1 ((.ptr 7 0) :: und 9 ((.bool x1) :: (.int .i64 x2) :: (.int .i64 x3) :: (.int .i64 x4) :: und 230 [])))))), boxes := (nos 3 ((some (.cells [(.sl none [.int .i64, .int .i64] x5)] false)) :: nos 1 ((some (.cells [(.sl none [.int .i64, .int .i64, .int .i64] x6), (.int .i64 x7)] false)) :: nos 1 ((some (.cells [(.int .i64 x8), (.int .i64 x9)] false)) :: nos 243 [])))), vers := List.replicate 251 0 }
theorem L_law01_LakeTwo_12_eq (N k n12  : Nat) (x0 : List (List PV)) (x1 : List (List PV)) (x2 : List (List PV)) (x3 : Int) (x4 : List (List PV)) (x5 : List (List PV)) (x6 : Int) (x7 : Int) (x8 : Int) : L_law01_LakeTwo_12 N k (n12 + 1)  x0 x1 x2 x3 x4 x5 x6 x7 x8 =
 (cond (decide (x3 < ((List.length x1) : Int)))
 (cond (decide ((0 : Int) ≤ x3))
  (cond (decide (x3 < ((List.length x1) : Int)))
   ((ev (envF N) k F_base_Within [(.int .i64 (asI (nth (nths x1 (Int.toNat x3)) 0))), (.int .i64 (0 : Int)), (.int .i64 (w64 (((List.length x5) : Int) - (1 : Int))))]).bind fun r4 =>
    cond (!(asB r4))
     (some (.bool (false)))
     (cond (decide ((0 : Int) < x3))
      (cond (decide ((0 : Int) ≤ x3))
       (cond (decide (x3 < ((List.length x1) : Int)))
        (cond (decide ((0 : Int) ≤ (w64 (x3 - (1 : Int)))))
         (cond (decide ((w64 (x3 - (1 : Int))) < ((List.length x1) : Int)))
          (cond (decide ((asI (nth (nths x1 (Int.toNat x3)) 0)) ≤ (asI (nth (nths x1 (Int.toNat (w64 (x3 - (1 : Int))))) 0))))
           (some (.bool (false)))
           (cond (decide ((0 : Int) ≤ x3))
            (cond (decide (x3 < ((List.length x1) : Int)))
             (cond (decide ((0 : Int) ≤ (asI (nth (nths x1 (Int.toNat x3)) 0))))
              (cond (decide ((asI (nth (nths x1 (Int.toNat x3)) 0)) < ((List.length x5) : Int)))
               (cond (room x2 [[(.int .i64 (asI (nth (nths x5 (Int.toNat (asI (nth (nths x1 (Int.toNat x3)) 0)))) 0))), (.int .i64 (asI (nth (nths x5 (Int.toNat (asI (nth (nths x1 (Int.toNat x3)) 0)))) 1))), (.int .i64 (asI (nth (nths x5 (Int.toNat (asI (nth (nths x1 (Int.toNat x3)) 0)))) 2)))]] 24)
                ((ev (envF N) k F_ref01_Copy [(.agg [(.sl none [.int .i64, .int .i64] x4)])]).bind fun r17 =>
                 (ev (envF N) k F_base_CopyInts [(.sl none [.int .i64] x0)]).bind fun r18 =>
                  cond (decide ((0 : Int) ≤ x3))
                   (cond (decide (x3 < ((List.length x1) : Int)))
                    (cond (decide ((0 : Int) ≤ (asI (nth (nths x1 (Int.toNat x3)) 0))))
                     (cond (decide ((asI (nth (nths x1 (Int.toNat x3)) 0)) < ((List.length x5) : Int)))
                      ((ev (envF N) k F_lake_AgreedOf [(.agg [(.sl none [.int .i64, .int .i64] (asL (nth (asA r17) 0)))]), (.sl none [.int .i64] (asL r18)), (.sl none [.int .i64, .int .i64, .int .i64] [[(.int .i64 (asI (nth (nths x5 (Int.toNat (asI (nth (nths x1 (Int.toNat x3)) 0)))) 0))), (.int .i64 (asI (nth (nths x5 (Int.toNat (asI (nth (nths x1 (Int.toNat x3)) 0)))) 1))), (.int .i64 (asI (nth (nths x5 (Int.toNat (asI (nth (nths x1 (Int.toNat x3)) 0)))) 2)))]])]).bind fun r23 =>
                       cond (!(decide (asI (nth (asT r23) 1) = (13 : Int)) == decide ((x1.length : Int) = (1 : Int))))
                        (some (.bool (false)))
                        (L_law01_LakeTwo_12 N k n12  x0 x1 (x2 ++ [[(.int .i64 (asI (nth (nths x5 (Int.toNat (asI (nth (nths x1 (Int.toNat x3)) 0)))) 0))), (.int .i64 (asI (nth (nths x5 (Int.toNat (asI (nth (nths x1 (Int.toNat x3)) 0)))) 1))), (.int .i64 (asI (nth (nths x5 (Int.toNat (asI (nth (nths x1 (Int.toNat x3)) 0)))) 2)))]]) (w64 (x3 + (1 : Int))) x4 x5 x6 x7 x8))
                      (none))
                     (none))
                    (none))
                   (none))
                (none))
               (none))
              (none))
             (none))
            (none)))
          (none))
         (none))
        (none))
       (none))
      (cond (decide ((0 : Int) ≤ x3))
       (cond (decide (x3 < ((List.length x1) : Int)))
        (cond (decide ((0 : Int) ≤ (asI (nth (nths x1 (Int.toNat x3)) 0))))
         (cond (decide ((asI (nth (nths x1 (Int.toNat x3)) 0)) < ((List.length x5) : Int)))
          (cond (room x2 [[(.int .i64 (asI (nth (nths x5 (Int.toNat (asI (nth (nths x1 (Int.toNat x3)) 0)))) 0))), (.int .i64 (asI (nth (nths x5 (Int.toNat (asI (nth (nths x1 (Int.toNat x3)) 0)))) 1))), (.int .i64 (asI (nth (nths x5 (Int.toNat (asI (nth (nths x1 (Int.toNat x3)) 0)))) 2)))]] 24)
           ((ev (envF N) k F_ref01_Copy [(.agg [(.sl none [.int .i64, .int .i64] x4)])]).bind fun r12 =>
            (ev (envF N) k F_base_CopyInts [(.sl none [.int .i64] x0)]).bind fun r13 =>
             cond (decide ((0 : Int) ≤ x3))
              (cond (decide (x3 < ((List.length x1) : Int)))
               (cond (decide ((0 : Int) ≤ (asI (nth (nths x1 (Int.toNat x3)) 0))))
                (cond (decide ((asI (nth (nths x1 (Int.toNat x3)) 0)) < ((List.length x5) : Int)))
                 ((ev (envF N) k F_lake_AgreedOf [(.agg [(.sl none [.int .i64, .int .i64] (asL (nth (asA r12) 0)))]), (.sl none [.int .i64] (asL r13)), (.sl none [.int .i64, .int .i64, .int .i64] [[(.int .i64 (asI (nth (nths x5 (Int.toNat (asI (nth (nths x1 (Int.toNat x3)) 0)))) 0))), (.int .i64 (asI (nth (nths x5 (Int.toNat (asI (nth (nths x1 (Int.toNat x3)) 0)))) 1))), (.int .i64 (asI (nth (nths x5 (Int.toNat (asI (nth (nths x1 (Int.toNat x3)) 0)))) 2)))]])]).bind fun r18 =>
                  cond (!(decide (asI (nth (asT r18) 1) = (13 : Int)) == decide ((x1.length : Int) = (1 : Int))))
                   (some (.bool (false)))
                   (L_law01_LakeTwo_12 N k n12  x0 x1 (x2 ++ [[(.int .i64 (asI (nth (nths x5 (Int.toNat (asI (nth (nths x1 (Int.toNat x3)) 0)))) 0))), (.int .i64 (asI (nth (nths x5 (Int.toNat (asI (nth (nths x1 (Int.toNat x3)) 0)))) 1))), (.int .i64 (asI (nth (nths x5 (Int.toNat (asI (nth (nths x1 (Int.toNat x3)) 0)))) 2)))]]) (w64 (x3 + (1 : Int))) x4 x5 x6 x7 x8))
                 (none))
                (none))
               (none))
              (none))
           (none))
          (none))
         (none))
        (none))
       (none))))
   (none))
  (none))
 ((ev (envF N) k F_ref01_Copy [(.agg [(.sl none [.int .i64, .int .i64] x4)])]).bind fun r2 =>
  (ev (envF N) k F_base_CopyInts [(.sl none [.int .i64] x0)]).bind fun r3 =>
   (ev (envF N) k F_lake_AgreedOf [(.agg [(.sl none [.int .i64, .int .i64] (asL (nth (asA r2) 0)))]), (.sl none [.int .i64] (asL r3)), (.sl none [.int .i64, .int .i64, .int .i64] x2)]).bind fun r4 =>
    some (.bool (decide ((asI (nth (asT r4) 1)) = (13 : Int)))))) := by kernel_rfl
theorem L_law01_LakeTwo_26_eq (N k n26  : Nat) (x0 : List (List PV)) (x1 : Bool) (x2 : Int) (x3 : List (List PV)) (x4 : List (List PV)) (x5 : Int) (x6 : Int) (x7 : Int) : L_law01_LakeTwo_26 N k (n26 + 1)  x0 x1 x2 x3 x4 x5 x6 x7 =
 (cond (decide (x2 < ((List.length x4) : Int)))
 (L_law01_LakeTwo_30 N k N n26 x0 x1 x2 x5 (0 : Int) x3 x4 x5 x6 x7)
 ((ev (envF N) k F_base_Within [(.int .i64 x5), (.int .i64 x6), (.int .i64 x7)]).bind fun r2 =>
  some (.bool (x1 == asB r2)))) := by kernel_rfl
theorem L_law01_LakeTwo_30_eq (N k n30 n26 : Nat) (x0 : List (List PV)) (x1 : Bool) (x2 : Int) (x3 : Int) (x4 : Int) (x5 : List (List PV)) (x6 : List (List PV)) (x7 : Int) (x8 : Int) (x9 : Int) : L_law01_LakeTwo_30 N k (n30 + 1) n26 x0 x1 x2 x3 x4 x5 x6 x7 x8 x9 =
 (cond (decide ((0 : Int) ≤ x2))
 (cond (decide (x2 < ((List.length x6) : Int)))
  (cond (decide (x4 < (asI (nth (nths x6 (Int.toNat x2)) 0))))
   (cond (decide ((0 : Int) ≤ x4))
    (cond (decide (x4 < ((List.length x0) : Int)))
     (L_law01_LakeTwo_30 N k n30 n26 x0 x1 x2 (w64 (x3 + (asI (nth (nths x0 (Int.toNat x4)) 0)))) (w64 (x4 + (1 : Int))) x5 x6 x7 x8 x9)
     (none))
    (none))
   ((ev (envF N) k F_ref01_Copy [(.agg [(.sl none [.int .i64, .int .i64] x5)])]).bind fun r4 =>
    (ev (envF N) k F_lake_LevelAt [(.agg [(.sl none [.int .i64, .int .i64] (asL (nth (asA r4) 0)))]), (.int .i64 x3)]).bind fun r5 =>
     cond (!(decide ((asI (nth (asT r5) 1)) = (0 : Int))))
      (cond (!(decide ((asI (nth (asT r5) 1)) = (2 : Int))))
       (some (.bool (false)))
       (cond x1
        (cond (decide ((asI (nth (asT r5) 1)) = (0 : Int)))
         (cond (decide ((0 : Int) ≤ x2))
          (cond (decide (x2 < ((List.length x6) : Int)))
           (cond (decide ((asI (nth (nths x6 (Int.toNat x2)) 1)) ≤ (asI (nth (asA (nth (asT r5) 0)) 0))))
            (cond (decide ((0 : Int) ≤ x2))
             (cond (decide (x2 < ((List.length x6) : Int)))
              (L_law01_LakeTwo_26 N k n26  x0 (decide ((asI (nth (asA (nth (asT r5) 0)) 1)) ≤ (asI (nth (nths x6 (Int.toNat x2)) 2)))) (w64 (x2 + (1 : Int))) x5 x6 x7 x8 x9)
              (none))
             (none))
            (L_law01_LakeTwo_26 N k n26  x0 (false) (w64 (x2 + (1 : Int))) x5 x6 x7 x8 x9))
           (none))
          (none))
         (L_law01_LakeTwo_26 N k n26  x0 (false) (w64 (x2 + (1 : Int))) x5 x6 x7 x8 x9))
        (L_law01_LakeTwo_26 N k n26  x0 (false) (w64 (x2 + (1 : Int))) x5 x6 x7 x8 x9)))
      (cond x1
       (cond (decide ((asI (nth (asT r5) 1)) = (0 : Int)))
        (cond (decide ((0 : Int) ≤ x2))
         (cond (decide (x2 < ((List.length x6) : Int)))
          (cond (decide ((asI (nth (nths x6 (Int.toNat x2)) 1)) ≤ (asI (nth (asA (nth (asT r5) 0)) 0))))
           (cond (decide ((0 : Int) ≤ x2))
            (cond (decide (x2 < ((List.length x6) : Int)))
             (L_law01_LakeTwo_26 N k n26  x0 (decide ((asI (nth (asA (nth (asT r5) 0)) 1)) ≤ (asI (nth (nths x6 (Int.toNat x2)) 2)))) (w64 (x2 + (1 : Int))) x5 x6 x7 x8 x9)
             (none))
            (none))
           (L_law01_LakeTwo_26 N k n26  x0 (false) (w64 (x2 + (1 : Int))) x5 x6 x7 x8 x9))
          (none))
         (none))
        (L_law01_LakeTwo_26 N k n26  x0 (false) (w64 (x2 + (1 : Int))) x5 x6 x7 x8 x9))
       (L_law01_LakeTwo_26 N k n26  x0 (false) (w64 (x2 + (1 : Int))) x5 x6 x7 x8 x9))))
  (none))
 (none)) := by kernel_rfl
theorem E_law01_LakeTwo (N k : Nat) (x0 : List (List PV)) (x1 : List (List PV)) (x2 : List (List PV)) (x3 : Int) : ev (envF N) (k + 1) F_law01_LakeTwo [(.agg [(.sl none [.int .i64, .int .i64] x0)]), (.sl none [.int .i64] x1), (.agg [(.sl none [.int .i64, .int .i64, .int .i64] x2), (.int .i64 x3)])] =
 ((ev (envF N) k F_law01_awake []).bind fun r1 =>
 cond (!(asB r1))
  (some (.bool (false)))
  ((ev (envF N) k F_law01_Few [(.agg [(.sl none [.int .i64, .int .i64] x0)])]).bind fun r3 =>
   cond (!(asB r3))
    (some (.bool (true)))
    (cond (decide ((24 : Int) < ((List.length x1) : Int)))
     (some (.bool (true)))
     (cond (decide ((10 : Int) < ((List.length x2) : Int)))
      (some (.bool (true)))
      ((ev (envF N) k F_ref01_AllErr [(.agg [(.sl none [.int .i64, .int .i64] x0)]), (.sl none [.int .i64] x1), (.sl none [.int .i64, .int .i64, .int .i64] x2)]).bind fun r7 =>
       cond (!(decide ((asI r7) = (0 : Int))))
        (some (.bool (true)))
        ((ev (envF N) k F_base_Within [(.int .i64 x3), (.int .i64 (-1000000000 : Int)), (.int .i64 (2000000000 : Int))]).bind fun r9 =>
         cond (!(asB r9))
          (some (.bool (true)))
          ((ev (envF N) k F_ref01_Copy [(.agg [(.sl none [.int .i64, .int .i64] x0)])]).bind fun r11 =>
           (ev (envF N) k F_base_CopyInts [(.sl none [.int .i64] x1)]).bind fun r12 =>
            (ev (envF N) k F_ref01_CopyReadings [(.sl none [.int .i64, .int .i64, .int .i64] x2)]).bind fun r13 =>
             (ev (envF N) k F_lake_AgreedOf [(.agg [(.sl none [.int .i64, .int .i64] (asL (nth (asA r11) 0)))]), (.sl none [.int .i64] (asL r12)), (.sl none [.int .i64, .int .i64, .int .i64] (asL r13))]).bind fun r14 =>
              (ev (envF N) k F_ref01_Copy [(.agg [(.sl none [.int .i64, .int .i64] x0)])]).bind fun r15 =>
               (ev (envF N) k F_base_CopyInts [(.sl none [.int .i64] x1)]).bind fun r16 =>
                (ev (envF N) k F_ref01_CopyReadings [(.sl none [.int .i64, .int .i64, .int .i64] x2)]).bind fun r17 =>
                 (ev (envF N) k F_lake_Contradicting [(.agg [(.sl none [.int .i64, .int .i64] (asL (nth (asA r15) 0)))]), (.sl none [.int .i64] (asL r16)), (.sl none [.int .i64, .int .i64, .int .i64] (asL r17))]).bind fun r18 =>
                  cond (!(decide ((asI (nth (asT r14) 1)) = (0 : Int))))
                   (cond (!(decide ((asI (nth (asT r14) 1)) = (13 : Int))))
                    (some (.bool (false)))
                    (cond (!(decide ((asI (nth (asT r18) 1)) = (0 : Int))))
                     (some (.bool (false)))
                     ((ev (envF N) k F_base_Within [(.int .i64 ((List.length (asL (nth (asT r18) 0))) : Int)), (.int .i64 (1 : Int)), (.int .i64 (2 : Int))]).bind fun r22 =>
                      cond (!(asB r22))
                       (some (.bool (false)))
                       (L_law01_LakeTwo_12 N k N  x1 (asL (nth (asT r18) 0)) [] (0 : Int) x0 x2 x3 (asI (nth (asA (nth (asT r14) 0)) 0)) (asI (nth (asA (nth (asT r14) 0)) 1))))))
                   (cond (!(decide ((asI (nth (asT r18) 1)) = (12 : Int))))
                    (some (.bool (false)))
                    (cond (decide ((asI (nth (asA (nth (asT r14) 0)) 1)) < (asI (nth (asA (nth (asT r14) 0)) 0))))
                     (some (.bool (false)))
                     (L_law01_LakeTwo_26 N k N  x1 (true) (0 : Int) x0 x2 x3 (asI (nth (asA (nth (asT r14) 0)) 0)) (asI (nth (asA (nth (asT r14) 0)) 1)))))))))))) := by kernel_rfl

end Go.PevTab
