/- EQUATIONS OF FUNCTIONS, by the kernel's own reckoning; written by a program. -/
import Derived.Test.YtfjnpgbjcgjecaaPevNums
namespace Go.PevTab
open Go.Pev Go
set_option maxRecDepth 100000
set_option linter.unusedVariables false

theorem E_law01_FewPair (N k : Nat) (x0 : List (List PV)) (x1 : List (List PV)) (x2 : Int) : ev (envF N) (k + 1) F_law01_FewPair [(.agg [(.sl none [.int .i64, .int .i64] x0), (.sl none [.int .i64, .int .i64] x1), (.int .i64 x2)])] =
 ((ev (envF N) k F_law01_Few [(.agg [(.sl none [.int .i64, .int .i64] x0)])]).bind fun r1 =>
 cond (asB r1)
  ((ev (envF N) k F_law01_Few [(.agg [(.sl none [.int .i64, .int .i64] x1)])]).bind fun r3 =>
   some (.bool (asB r3)))
  (some (.bool (false)))) := by kernel_rfl

theorem E_ref01_BothErr (N k : Nat) (x0 : List (List PV)) (x1 : List (List PV)) (x2 : Int) (x3 : Int) (x4 : Int) : ev (envF N) (k + 1) F_ref01_BothErr [(.agg [(.sl none [.int .i64, .int .i64] x0), (.sl none [.int .i64, .int .i64] x1), (.int .i64 x2)]), (.agg [(.int .i64 x3), (.int .i64 x4)])] =
 ((ev (envF N) k F_ref01_PairErr [(.agg [(.sl none [.int .i64, .int .i64] x0), (.sl none [.int .i64, .int .i64] x1), (.int .i64 x2)])]).bind fun r1 =>
 cond (!(decide ((asI r1) = (0 : Int))))
  (some (.int .i64 (asI r1)))
  ((ev (envF N) k F_ref01_StateErr [(.agg [(.sl none [.int .i64, .int .i64] x0), (.sl none [.int .i64, .int .i64] x1), (.int .i64 x2)]), (.agg [(.int .i64 x3), (.int .i64 x4)])]).bind fun r3 =>
   some (.int .i64 (asI r3)))) := by kernel_rfl

theorem E_base_Within (N k : Nat) (x0 : Int) (x1 : Int) (x2 : Int) : ev (envF N) (k + 1) F_base_Within [(.int .i64 x0), (.int .i64 x1), (.int .i64 x2)] =
 (cond (decide (x1 ≤ x0))
 (some (.bool (decide (x0 ≤ x2))))
 (some (.bool (false)))) := by kernel_rfl

theorem E_ref01_CopyPair (N k : Nat) (x0 : List (List PV)) (x1 : List (List PV)) (x2 : Int) : ev (envF N) (k + 1) F_ref01_CopyPair [(.agg [(.sl none [.int .i64, .int .i64] x0), (.sl none [.int .i64, .int .i64] x1), (.int .i64 x2)])] =
 ((ev (envF N) k F_ref01_Copy [(.agg [(.sl none [.int .i64, .int .i64] x0)])]).bind fun r1 =>
 (ev (envF N) k F_ref01_Copy [(.agg [(.sl none [.int .i64, .int .i64] x1)])]).bind fun r2 =>
  some (.agg [(.sl none [.int .i64, .int .i64] (asL (nth (asA r1) 0))), (.sl none [.int .i64, .int .i64] (asL (nth (asA r2) 0))), (.int .i64 x2)])) := by kernel_rfl

theorem E_lake_Usable (N k : Nat) (x0 : List (List PV)) (x1 : List (List PV)) (x2 : Int) (x3 : Int) (x4 : Int) : ev (envF N) (k + 1) F_lake_Usable [(.agg [(.sl none [.int .i64, .int .i64] x0), (.sl none [.int .i64, .int .i64] x1), (.int .i64 x2)]), (.agg [(.int .i64 x3), (.int .i64 x4)])] =
 ((ev (envF N) k F_lake_openState [(.agg [(.sl none [.int .i64, .int .i64] x0), (.sl none [.int .i64, .int .i64] x1), (.int .i64 x2)]), (.agg [(.int .i64 x3), (.int .i64 x4)])]).bind fun r1 =>
 cond (!(decide ((asI (nth (asT r1) 1)) = (0 : Int))))
  (some (.tup [(.agg [(.int .i64 (0 : Int)), (.int .i64 (0 : Int))]), (.int .i64 (asI (nth (asT r1) 1)))]))
  ((ev (envF N) k F_lake_table_bottom [(.agg [(.sl none [.int .i64, .int .i64] (asL (nth (asA (nth (asT r1) 0)) 0)))])]).bind fun r3 =>
   (ev (envF N) k F_lake_table_top [(.agg [(.sl none [.int .i64, .int .i64] (asL (nth (asA (nth (asT r1) 0)) 1)))])]).bind fun r4 =>
    (ev (envF N) k F_lake_table_bottom [(.agg [(.sl none [.int .i64, .int .i64] (asL (nth (asA (nth (asT r1) 0)) 1)))])]).bind fun r5 =>
     (ev (envF N) k F_lake_table_top [(.agg [(.sl none [.int .i64, .int .i64] (asL (nth (asA (nth (asT r1) 0)) 0)))])]).bind fun r6 =>
      some (.tup [(.agg [(.int .i64 ((imin (w64 (x3 - (asI (nth (asA r3) 1)))) (w64 ((asI (nth (asA r4) 1)) - x4))))), (.int .i64 ((imin (w64 (x4 - (asI (nth (asA r5) 1)))) (w64 ((asI (nth (asA r6) 1)) - x3)))))]), (.int .i64 (0 : Int))]))) := by kernel_rfl

theorem E_lake_Step (N k : Nat) (x0 : List (List PV)) (x1 : List (List PV)) (x2 : Int) (x3 : Int) (x4 : Int) (x5 : Int) (x6 : Int) (x7 : Int) : ev (envF N) (k + 1) F_lake_Step [(.agg [(.sl none [.int .i64, .int .i64] x0), (.sl none [.int .i64, .int .i64] x1), (.int .i64 x2)]), (.agg [(.int .i64 x3), (.int .i64 x4)]), (.agg [(.int .i64 x5), (.int .i64 x6), (.int .i64 x7)])] =
 ((ev (envF N) k F_lake_openState [(.agg [(.sl none [.int .i64, .int .i64] x0), (.sl none [.int .i64, .int .i64] x1), (.int .i64 x2)]), (.agg [(.int .i64 x3), (.int .i64 x4)])]).bind fun r1 =>
 (ev (envF N) k F_lake_flowsErr [(.agg [(.int .i64 x5), (.int .i64 x6), (.int .i64 x7)])]).bind fun r2 =>
  (ev (envF N) k F_lake_first [(.sl none [.int .i64] [[(.int .i64 (asI (nth (asT r1) 1)))], [(.int .i64 (asI r2))]])]).bind fun r3 =>
   cond (!(decide ((asI r3) = (0 : Int))))
    (some (.tup [(.agg [(.int .i64 (0 : Int)), (.int .i64 (0 : Int))]), (.agg [(.int .i64 (0 : Int)), (.int .i64 (0 : Int))]), (.int .i64 (asI r3))]))
    ((ev (envF N) k F_lake_pair_step [(.agg [(.sl none [.int .i64, .int .i64] (asL (nth (asA (nth (asT r1) 0)) 0))), (.sl none [.int .i64, .int .i64] (asL (nth (asA (nth (asT r1) 0)) 1))), (.int .i64 (asI (nth (asA (nth (asT r1) 0)) 2)))]), (.agg [(.int .i64 x3), (.int .i64 x4)]), (.agg [(.int .i64 x5), (.int .i64 x6), (.int .i64 x7)])]).bind fun r5 =>
     (ev (envF N) k F_lake_unless [(.bool (asB (nth (asT r5) 2))), (.int .i64 (22 : Int))]).bind fun r6 =>
      some (.tup [(.agg [(.int .i64 (asI (nth (asA (nth (asT r5) 0)) 0))), (.int .i64 (asI (nth (asA (nth (asT r5) 0)) 1)))]), (.agg [(.int .i64 (asI (nth (asA (nth (asT r5) 1)) 0))), (.int .i64 (asI (nth (asA (nth (asT r5) 1)) 1)))]), (.int .i64 (asI r6))]))) := by kernel_rfl

theorem E_lake_CheckPair (N k : Nat) (x0 : List (List PV)) (x1 : List (List PV)) (x2 : Int) : ev (envF N) (k + 1) F_lake_CheckPair [(.agg [(.sl none [.int .i64, .int .i64] x0), (.sl none [.int .i64, .int .i64] x1), (.int .i64 x2)])] =
 ((ev (envF N) k F_lake_tableErr [(.agg [(.sl none [.int .i64, .int .i64] x0)])]).bind fun r1 =>
 (ev (envF N) k F_lake_tableErr [(.agg [(.sl none [.int .i64, .int .i64] x1)])]).bind fun r2 =>
  (ev (envF N) k F_lake_within [(.int .i64 x2), (.int .i64 (0 : Int)), (.int .i64 (1000 : Int))]).bind fun r3 =>
   (ev (envF N) k F_lake_unless [(.bool (asB r3)), (.int .i64 (2 : Int))]).bind fun r4 =>
    (ev (envF N) k F_lake_first [(.sl none [.int .i64] [[(.int .i64 (asI r1))], [(.int .i64 (asI r2))], [(.int .i64 (asI r4))]])]).bind fun r5 =>
     some (.int .i64 (asI r5))) := by kernel_rfl

theorem E_ref01_PairErr (N k : Nat) (x0 : List (List PV)) (x1 : List (List PV)) (x2 : Int) : ev (envF N) (k + 1) F_ref01_PairErr [(.agg [(.sl none [.int .i64, .int .i64] x0), (.sl none [.int .i64, .int .i64] x1), (.int .i64 x2)])] =
 ((ev (envF N) k F_ref01_TableErr [(.agg [(.sl none [.int .i64, .int .i64] x0)])]).bind fun r1 =>
 cond (!(decide ((asI r1) = (0 : Int))))
  (some (.int .i64 (asI r1)))
  ((ev (envF N) k F_ref01_TableErr [(.agg [(.sl none [.int .i64, .int .i64] x1)])]).bind fun r3 =>
   cond (!(decide ((asI r3) = (0 : Int))))
    (some (.int .i64 (asI r3)))
    ((ev (envF N) k F_base_Within [(.int .i64 x2), (.int .i64 (0 : Int)), (.int .i64 (1000 : Int))]).bind fun r5 =>
     cond (!(asB r5))
      (some (.int .i64 (2 : Int)))
      (some (.int .i64 (0 : Int)))))) := by kernel_rfl

theorem E_lake_CheckState (N k : Nat) (x0 : List (List PV)) (x1 : List (List PV)) (x2 : Int) (x3 : Int) (x4 : Int) : ev (envF N) (k + 1) F_lake_CheckState [(.agg [(.sl none [.int .i64, .int .i64] x0), (.sl none [.int .i64, .int .i64] x1), (.int .i64 x2)]), (.agg [(.int .i64 x3), (.int .i64 x4)])] =
 ((ev (envF N) k F_lake_openState [(.agg [(.sl none [.int .i64, .int .i64] x0), (.sl none [.int .i64, .int .i64] x1), (.int .i64 x2)]), (.agg [(.int .i64 x3), (.int .i64 x4)])]).bind fun r1 =>
 some (.int .i64 (asI (nth (asT r1) 1)))) := by kernel_rfl

theorem E_ref01_Usable (N k : Nat) (x0 : List (List PV)) (x1 : List (List PV)) (x2 : Int) (x3 : Int) (x4 : Int) : ev (envF N) (k + 1) F_ref01_Usable [(.agg [(.sl none [.int .i64, .int .i64] x0), (.sl none [.int .i64, .int .i64] x1), (.int .i64 x2)]), (.agg [(.int .i64 x3), (.int .i64 x4)])] =
 ((ev (envF N) k F_ref01_Top [(.agg [(.sl none [.int .i64, .int .i64] x0)])]).bind fun r1 =>
 (ev (envF N) k F_ref01_Top [(.agg [(.sl none [.int .i64, .int .i64] x1)])]).bind fun r2 =>
  (ev (envF N) k F_ref01_Bottom [(.agg [(.sl none [.int .i64, .int .i64] x0)])]).bind fun r3 =>
   (ev (envF N) k F_ref01_Bottom [(.agg [(.sl none [.int .i64, .int .i64] x1)])]).bind fun r4 =>
    some (.agg [(.int .i64 ((imin (w64 (x3 - (asI (nth (asA r3) 1)))) (w64 ((asI (nth (asA r2) 1)) - x4))))), (.int .i64 ((imin (w64 (x4 - (asI (nth (asA r4) 1)))) (w64 ((asI (nth (asA r1) 1)) - x3)))))])) := by kernel_rfl

theorem E_ref01_FlowsErr (N k : Nat) (x0 : Int) (x1 : Int) (x2 : Int) : ev (envF N) (k + 1) F_ref01_FlowsErr [(.agg [(.int .i64 x0), (.int .i64 x1), (.int .i64 x2)])] =
 ((ev (envF N) k F_base_Within [(.int .i64 x0), (.int .i64 (0 : Int)), (.int .i64 (10000000 : Int))]).bind fun r1 =>
 cond (!(asB r1))
  (some (.int .i64 (2 : Int)))
  ((ev (envF N) k F_base_Within [(.int .i64 x1), (.int .i64 (0 : Int)), (.int .i64 (10000000 : Int))]).bind fun r3 =>
   cond (!(asB r3))
    (some (.int .i64 (2 : Int)))
    ((ev (envF N) k F_base_Within [(.int .i64 x2), (.int .i64 (-10000000 : Int)), (.int .i64 (10000000 : Int))]).bind fun r5 =>
     cond (!(asB r5))
      (some (.int .i64 (2 : Int)))
      (some (.int .i64 (0 : Int)))))) := by kernel_rfl

theorem E_ref01_Step (N k : Nat) (x0 : List (List PV)) (x1 : List (List PV)) (x2 : Int) (x3 : Int) (x4 : Int) (x5 : Int) (x6 : Int) (x7 : Int) : ev (envF N) (k + 1) F_ref01_Step [(.agg [(.sl none [.int .i64, .int .i64] x0), (.sl none [.int .i64, .int .i64] x1), (.int .i64 x2)]), (.agg [(.int .i64 x3), (.int .i64 x4)]), (.agg [(.int .i64 x5), (.int .i64 x6), (.int .i64 x7)])] =
 ((ev (envF N) k F_ref01_evaporated [(.agg [(.sl none [.int .i64, .int .i64] x0)]), (.int .i64 x2), (.int .i64 x3)]).bind fun r1 =>
 (ev (envF N) k F_ref01_evaporated [(.agg [(.sl none [.int .i64, .int .i64] x1)]), (.int .i64 x2), (.int .i64 x4)]).bind fun r2 =>
  (ev (envF N) k F_ref01_Bottom [(.agg [(.sl none [.int .i64, .int .i64] x0)])]).bind fun r3 =>
   cond (decide ((w64 ((w64 ((w64 (x3 - (asI r1))) + x5)) + x7)) < (asI (nth (asA r3) 1))))
    (some (.tup [(.agg [(.int .i64 (0 : Int)), (.int .i64 (0 : Int))]), (.agg [(.int .i64 (0 : Int)), (.int .i64 (0 : Int))]), (.bool (false))]))
    ((ev (envF N) k F_ref01_Bottom [(.agg [(.sl none [.int .i64, .int .i64] x1)])]).bind fun r5 =>
     cond (decide ((w64 ((w64 ((w64 (x4 - (asI r2))) + x6)) - x7)) < (asI (nth (asA r5) 1))))
      (some (.tup [(.agg [(.int .i64 (0 : Int)), (.int .i64 (0 : Int))]), (.agg [(.int .i64 (0 : Int)), (.int .i64 (0 : Int))]), (.bool (false))]))
      ((ev (envF N) k F_ref01_Top [(.agg [(.sl none [.int .i64, .int .i64] x0)])]).bind fun r7 =>
       (ev (envF N) k F_ref01_Top [(.agg [(.sl none [.int .i64, .int .i64] x1)])]).bind fun r8 =>
        some (.tup [(.agg [(.int .i64 (w64 ((w64 ((w64 ((w64 (x3 - (asI r1))) + x5)) + x7)) - ((imax (0 : Int) (w64 ((w64 ((w64 ((w64 (x3 - (asI r1))) + x5)) + x7)) - (asI (nth (asA r7) 1))))))))), (.int .i64 (w64 ((w64 ((w64 ((w64 (x4 - (asI r2))) + x6)) - x7)) - ((imax (0 : Int) (w64 ((w64 ((w64 ((w64 (x4 - (asI r2))) + x6)) - x7)) - (asI (nth (asA r8) 1)))))))))]), (.agg [(.int .i64 (w64 ((asI r1) + (asI r2)))), (.int .i64 (w64 (((imax (0 : Int) (w64 ((w64 ((w64 ((w64 (x3 - (asI r1))) + x5)) + x7)) - (asI (nth (asA r7) 1)))))) + ((imax (0 : Int) (w64 ((w64 ((w64 ((w64 (x4 - (asI r2))) + x6)) - x7)) - (asI (nth (asA r8) 1)))))))))]), (.bool (true))])))) := by kernel_rfl

theorem E_law01_Few (N k : Nat) (x0 : List (List PV)) : ev (envF N) (k + 1) F_law01_Few [(.agg [(.sl none [.int .i64, .int .i64] x0)])] =
 (some (.bool (decide (((List.length x0) : Int) ≤ (12 : Int))))) := by kernel_rfl

theorem E_law01_short (N k : Nat) (x0 : Int) : ev (envF N) (k + 1) F_law01_short [(.int .i64 x0)] =
 (cond (decide (x0 ≤ (24 : Int)))
 (some (.bool (true)))
 (cond (decide ((200 : Int) < x0))
  (some (.bool (decide (x0 ≤ (202 : Int)))))
  (some (.bool (false))))) := by kernel_rfl

theorem E_lake_AgreedOf (N k : Nat) (x0 : List (List PV)) (x1 : List (List PV)) (x2 : List (List PV)) : ev (envF N) (k + 1) F_lake_AgreedOf [(.agg [(.sl none [.int .i64, .int .i64] x0)]), (.sl none [.int .i64] x1), (.sl none [.int .i64, .int .i64, .int .i64] x2)] =
 ((ev (envF N) k F_lake_permitted [(.agg [(.sl none [.int .i64, .int .i64] x0)]), (.sl none [.int .i64] x1), (.sl none [.int .i64, .int .i64, .int .i64] x2)]).bind fun r1 =>
 cond (!(decide ((asI (nth (asT r1) 1)) = (0 : Int))))
  (some (.tup [(.agg [(.int .i64 (0 : Int)), (.int .i64 (0 : Int))]), (.int .i64 (asI (nth (asT r1) 1)))]))
  ((ev (envF N) k F_lake_common [(.sl none [.int .i64, .int .i64] (asL (nth (asT r1) 0)))]).bind fun r3 =>
   cond (!(asB (nth (asT r3) 1)))
    (some (.tup [(.agg [(.int .i64 (0 : Int)), (.int .i64 (0 : Int))]), (.int .i64 (13 : Int))]))
    (some (.tup [(.agg [(.int .i64 (asI (nth (asA (nth (asT r3) 0)) 0))), (.int .i64 (asI (nth (asA (nth (asT r3) 0)) 1)))]), (.int .i64 (0 : Int))])))) := by kernel_rfl

theorem E_ref01_Copy (N k : Nat) (x0 : List (List PV)) : ev (envF N) (k + 1) F_ref01_Copy [(.agg [(.sl none [.int .i64, .int .i64] x0)])] =
 (cond (room [] x0 16)
 (some (.agg [(.sl none [.int .i64, .int .i64] x0)]))
 (none)) := by kernel_rfl

theorem E_base_CopyInts (N k : Nat) (x0 : List (List PV)) : ev (envF N) (k + 1) F_base_CopyInts [(.sl none [.int .i64] x0)] =
 (cond (room [] x0 8)
 (some (.sl none [.int .i64] x0))
 (none)) := by kernel_rfl

theorem E_ref01_CopyReadings (N k : Nat) (x0 : List (List PV)) : ev (envF N) (k + 1) F_ref01_CopyReadings [(.sl none [.int .i64, .int .i64, .int .i64] x0)] =
 (cond (room [] x0 24)
 (some (.sl none [.int .i64, .int .i64, .int .i64] x0))
 (none)) := by kernel_rfl

/-- Loop 5 of lake_Contradicting. -/
noncomputable def L_lake_Contradicting_5 (N k n5  : Nat) (x0 : List (List PV)) (x1 : List (List PV)) (x2 : Int) (x3 : Int) (x4 : List (List PV)) : Option PV := loopAt (envF N) (ev (envF N) k) F_lake_Contradicting Go.Proofs.Try.f33 [.r, .r, .r, .l, .r, .b] n5 { slots := (und 8 ((.sl none [.int .i64, .int .i64] x0) :: und 21 ((.sl none [.int .i64, .int .i64] x1) :: (.int .i64 x2) :: (.int .i64 x3) :: und 49 []))), boxes := (nos 3 ((some (.cells [(.sl none [.int .i64, .int .i64] x4)] false)) :: nos 78 [])), vers := List.replicate 82 0 }
/-- Loop 12 of lake_Contradicting. -/
noncomputable def L_lake_Contradicting_12 (N k n12  : Nat) (x0 : List (List PV)) (x1 : List (List PV)) (x2 : Int) (x3 : Int) (x4 : List (List PV)) : Option PV := loopAt (envF N) (ev (envF N) k) F_lake_Contradicting Go.Proofs.Try.f33 [.r, .r, .r, .r, .l, .r, .b] n12 { slots := (und 8 ((.sl none [.int .i64, .int .i64] x0) :: und 39 ((.sl none [.int .i64, .int .i64] x1) :: (.int .i64 x2) :: (.int .i64 x3) :: und 31 []))), boxes := (nos 3 ((some (.cells [(.sl none [.int .i64, .int .i64] x4)] false)) :: nos 78 [])), vers := List.replicate 82 0 }
/-- Loop 15 of lake_Contradicting. -/
noncomputable def L_lake_Contradicting_15 (N k n15 n12 : Nat) (x0 : List (List PV)) (x1 : Int) (x2 : List (List PV)) (x3 : Int) (x4 : Int) (x5 : List (List PV)) (x6 : Int) (x7 : Int) (x8 : List (List PV)) (x9 : Int) (x10 : Int) : Option PV := loopAt (envF N) (ev (envF N) k) F_lake_Contradicting Go.Proofs.Try.f33 [.r, .r, .r, .r, .l, .r, .b, .p n12, .r, .r, .l, .b, .r, .r, .b] n15 { slots := (und 8 ((.sl none [.int .i64, .int .i64] x0) :: und 5 ((.int .i64 x1) :: (.ptr 15 0) :: und 32 ((.sl none [.int .i64, .int .i64] x2) :: (.int .i64 x3) :: (.int .i64 x4) :: und 7 ((.sl none [.int .i64, .int .i64] x5) :: (.int .i64 x6) :: (.int .i64 x7) :: und 21 []))))), boxes := (nos 3 ((some (.cells [(.sl none [.int .i64, .int .i64] x8)] false)) :: nos 11 ((some (.cells [(.int .i64 x9), (.int .i64 x10)] false)) :: nos 66 []))), vers := List.replicate 82 0 }
theorem L_lake_Contradicting_5_eq (N k n5  : Nat) (x0 : List (List PV)) (x1 : List (List PV)) (x2 : Int) (x3 : Int) (x4 : List (List PV)) : L_lake_Contradicting_5 N k (n5 + 1)  x0 x1 x2 x3 x4 =
 (cond (decide (x3 < x2))
 (cond (decide ((0 : Int) ≤ x3))
  (cond (decide (x3 < ((List.length x1) : Int)))
   ((ev (envF N) k F_lake_common [(.sl none [.int .i64, .int .i64] [[(.int .i64 (asI (nth (nths x1 (Int.toNat x3)) 0))), (.int .i64 (asI (nth (nths x1 (Int.toNat x3)) 1)))]])]).bind fun r4 =>
    cond (!(asB (nth (asT r4) 1)))
     (some (.tup [(.sl none [.int .i64] [[(.int .i64 x3)]]), (.int .i64 (0 : Int))]))
     (L_lake_Contradicting_5 N k n5  x0 x1 x2 (w64 (x3 + (1 : Int))) x4))
   (none))
  (none))
 (L_lake_Contradicting_12 N k N  x0 x0 ((List.length x0) : Int) (0 : Int) x4)) := by kernel_rfl
theorem L_lake_Contradicting_12_eq (N k n12  : Nat) (x0 : List (List PV)) (x1 : List (List PV)) (x2 : Int) (x3 : Int) (x4 : List (List PV)) : L_lake_Contradicting_12 N k (n12 + 1)  x0 x1 x2 x3 x4 =
 (cond (decide (x3 < x2))
 (cond (decide ((0 : Int) ≤ x3))
  (cond (decide (x3 < ((List.length x1) : Int)))
   (cond (decide ((0 : Int) ≤ (w64 (x3 + (1 : Int)))))
    (cond (decide ((w64 (x3 + (1 : Int))) ≤ ((List.length x0) : Int)))
     (L_lake_Contradicting_15 N k N n12 x0 x3 x1 x2 x3 (List.drop (Int.toNat (w64 (x3 + (1 : Int)))) (List.take (List.length x0) x0)) ((List.length (List.drop (Int.toNat (w64 (x3 + (1 : Int)))) (List.take (List.length x0) x0))) : Int) (0 : Int) x4 (asI (nth (nths x1 (Int.toNat x3)) 0)) (asI (nth (nths x1 (Int.toNat x3)) 1)))
     (none))
    (none))
   (none))
  (none))
 (some (.tup [(.sl none [.int .i64] []), (.int .i64 (12 : Int))]))) := by kernel_rfl
theorem L_lake_Contradicting_15_eq (N k n15 n12 : Nat) (x0 : List (List PV)) (x1 : Int) (x2 : List (List PV)) (x3 : Int) (x4 : Int) (x5 : List (List PV)) (x6 : Int) (x7 : Int) (x8 : List (List PV)) (x9 : Int) (x10 : Int) : L_lake_Contradicting_15 N k (n15 + 1) n12 x0 x1 x2 x3 x4 x5 x6 x7 x8 x9 x10 =
 (cond (decide (x7 < x6))
 (cond (decide ((0 : Int) ≤ x7))
  (cond (decide (x7 < ((List.length x5) : Int)))
   ((ev (envF N) k F_lake_common [(.sl none [.int .i64, .int .i64] [[(.int .i64 x9), (.int .i64 x10)], [(.int .i64 (asI (nth (nths x5 (Int.toNat x7)) 0))), (.int .i64 (asI (nth (nths x5 (Int.toNat x7)) 1)))]])]).bind fun r4 =>
    cond (!(asB (nth (asT r4) 1)))
     (some (.tup [(.sl none [.int .i64] [[(.int .i64 x1)], [(.int .i64 (w64 ((w64 (x1 + (1 : Int))) + x7)))]]), (.int .i64 (0 : Int))]))
     (L_lake_Contradicting_15 N k n15 n12 x0 x1 x2 x3 x4 x5 x6 (w64 (x7 + (1 : Int))) x8 x9 x10))
   (none))
  (none))
 (L_lake_Contradicting_12 N k n12  x0 x2 x3 (w64 (x4 + (1 : Int))) x8)) := by kernel_rfl
theorem E_lake_Contradicting (N k : Nat) (x0 : List (List PV)) (x1 : List (List PV)) (x2 : List (List PV)) : ev (envF N) (k + 1) F_lake_Contradicting [(.agg [(.sl none [.int .i64, .int .i64] x0)]), (.sl none [.int .i64] x1), (.sl none [.int .i64, .int .i64, .int .i64] x2)] =
 ((ev (envF N) k F_lake_permitted [(.agg [(.sl none [.int .i64, .int .i64] x0)]), (.sl none [.int .i64] x1), (.sl none [.int .i64, .int .i64, .int .i64] x2)]).bind fun r1 =>
 cond (!(decide ((asI (nth (asT r1) 1)) = (0 : Int))))
  (some (.tup [(.sl none [.int .i64] []), (.int .i64 (asI (nth (asT r1) 1)))]))
  (L_lake_Contradicting_5 N k N  (asL (nth (asT r1) 0)) (asL (nth (asT r1) 0)) ((List.length (asL (nth (asT r1) 0))) : Int) (0 : Int) x0)) := by kernel_rfl

theorem E_ref01_AllErr (N k : Nat) (x0 : List (List PV)) (x1 : List (List PV)) (x2 : List (List PV)) : ev (envF N) (k + 1) F_ref01_AllErr [(.agg [(.sl none [.int .i64, .int .i64] x0)]), (.sl none [.int .i64] x1), (.sl none [.int .i64, .int .i64, .int .i64] x2)] =
 ((ev (envF N) k F_ref01_TableErr [(.agg [(.sl none [.int .i64, .int .i64] x0)])]).bind fun r1 =>
 cond (!(decide ((asI r1) = (0 : Int))))
  (some (.int .i64 (asI r1)))
  ((ev (envF N) k F_ref01_NetErr [(.sl none [.int .i64] x1)]).bind fun r3 =>
   cond (!(decide ((asI r3) = (0 : Int))))
    (some (.int .i64 (asI r3)))
    ((ev (envF N) k F_ref01_ReadingsErr [(.agg [(.sl none [.int .i64, .int .i64] x0)]), (.sl none [.int .i64] x1), (.sl none [.int .i64, .int .i64, .int .i64] x2)]).bind fun r5 =>
     some (.int .i64 (asI r5))))) := by kernel_rfl

/-- Loop 3 of ref01_AgreedOf. -/
noncomputable def L_ref01_AgreedOf_3 (N k n3  : Nat) (x0 : List (List PV)) (x1 : List (List PV)) (x2 : Int) (x3 : List (List PV)) (x4 : Int) (x5 : Int) (x6 : Int) (x7 : Int) : Option PV := loopAt (envF N) (ev (envF N) k) F_ref01_AgreedOf Go.Proofs.Try.f35 [.r, .r, .l, .r, .b] n3 { slots := (und 1 ((.sl none [.int .i64] x0) :: (.sl none [.int .i64, .int .i64, .int .i64] x1) :: (.ptr 3 0) :: und 2 ((.ptr 6 0) :: und 1 ((.ptr 8 0) :: (.int .i64 x2) :: und 38 [])))), boxes := (nos 3 ((some (.cells [(.sl none [.int .i64, .int .i64] x3)] false)) :: nos 2 ((some (.cells [(.int .i64 x4), (.int .i64 x5)] false)) :: nos 1 ((some (.cells [(.int .i64 x6), (.int .i64 x7)] false)) :: nos 39 [])))), vers := List.replicate 48 0 }
theorem L_ref01_AgreedOf_3_eq (N k n3  : Nat) (x0 : List (List PV)) (x1 : List (List PV)) (x2 : Int) (x3 : List (List PV)) (x4 : Int) (x5 : Int) (x6 : Int) (x7 : Int) : L_ref01_AgreedOf_3 N k (n3 + 1)  x0 x1 x2 x3 x4 x5 x6 x7 =
 (cond (decide (x2 < ((List.length x1) : Int)))
 (cond (decide ((0 : Int) ≤ x2))
  (cond (decide (x2 < ((List.length x1) : Int)))
   ((ev (envF N) k F_ref01_permitted [(.agg [(.sl none [.int .i64, .int .i64] x3)]), (.sl none [.int .i64] x0), (.agg [(.int .i64 (asI (nth (nths x1 (Int.toNat x2)) 0))), (.int .i64 (asI (nth (nths x1 (Int.toNat x2)) 1))), (.int .i64 (asI (nth (nths x1 (Int.toNat x2)) 2)))])]).bind fun r4 =>
    L_ref01_AgreedOf_3 N k n3  x0 x1 (w64 (x2 + (1 : Int))) x3 x4 x5 ((imax x6 (asI (nth (asA r4) 0)))) ((imin x7 (asI (nth (asA r4) 1)))))
   (none))
  (none))
 (cond (decide (x7 < x6))
  (some (.tup [(.agg [(.int .i64 (0 : Int)), (.int .i64 (0 : Int))]), (.bool (false))]))
  (some (.tup [(.agg [(.int .i64 x6), (.int .i64 x7)]), (.bool (true))])))) := by kernel_rfl
theorem E_ref01_AgreedOf (N k : Nat) (x0 : List (List PV)) (x1 : List (List PV)) (x2 : List (List PV)) : ev (envF N) (k + 1) F_ref01_AgreedOf [(.agg [(.sl none [.int .i64, .int .i64] x0)]), (.sl none [.int .i64] x1), (.sl none [.int .i64, .int .i64, .int .i64] x2)] =
 (cond (decide ((0 : Int) < ((List.length x2) : Int)))
 ((ev (envF N) k F_ref01_permitted [(.agg [(.sl none [.int .i64, .int .i64] x0)]), (.sl none [.int .i64] x1), (.agg [(.int .i64 (asI (nth (nths x2 (Int.toNat (0 : Int))) 0))), (.int .i64 (asI (nth (nths x2 (Int.toNat (0 : Int))) 1))), (.int .i64 (asI (nth (nths x2 (Int.toNat (0 : Int))) 2)))])]).bind fun r2 =>
  L_ref01_AgreedOf_3 N k N  x1 x2 (1 : Int) x0 (0 : Int) (0 : Int) (asI (nth (asA r2) 0)) (asI (nth (asA r2) 1)))
 (none)) := by kernel_rfl

/-- Loop 2 of ref01_Contradicting. -/
noncomputable def L_ref01_Contradicting_2 (N k n2  : Nat) (x0 : List (List PV)) (x1 : List (List PV)) (x2 : Int) (x3 : List (List PV)) : Option PV := loopAt (envF N) (ev (envF N) k) F_ref01_Contradicting Go.Proofs.Try.f36 [.r, .l, .r, .b] n2 { slots := (und 1 ((.sl none [.int .i64] x0) :: (.sl none [.int .i64, .int .i64, .int .i64] x1) :: (.ptr 3 0) :: und 4 ((.int .i64 x2) :: und 61 []))), boxes := (nos 3 ((some (.cells [(.sl none [.int .i64, .int .i64] x3)] false)) :: nos 66 [])), vers := List.replicate 70 0 }
/-- Loop 8 of ref01_Contradicting. -/
noncomputable def L_ref01_Contradicting_8 (N k n8  : Nat) (x0 : List (List PV)) (x1 : List (List PV)) (x2 : Int) (x3 : List (List PV)) : Option PV := loopAt (envF N) (ev (envF N) k) F_ref01_Contradicting Go.Proofs.Try.f36 [.r, .r, .l, .r, .b] n8 { slots := (und 1 ((.sl none [.int .i64] x0) :: (.sl none [.int .i64, .int .i64, .int .i64] x1) :: (.ptr 3 0) :: und 7 ((.int .i64 x2) :: und 58 []))), boxes := (nos 3 ((some (.cells [(.sl none [.int .i64, .int .i64] x3)] false)) :: nos 66 [])), vers := List.replicate 70 0 }
/-- Loop 11 of ref01_Contradicting. -/
noncomputable def L_ref01_Contradicting_11 (N k n11 n8 : Nat) (x0 : List (List PV)) (x1 : List (List PV)) (x2 : Int) (x3 : Int) (x4 : List (List PV)) : Option PV := loopAt (envF N) (ev (envF N) k) F_ref01_Contradicting Go.Proofs.Try.f36 [.r, .r, .l, .r, .b, .p n8, .r, .l, .b, .r, .b] n11 { slots := (und 1 ((.sl none [.int .i64] x0) :: (.sl none [.int .i64, .int .i64, .int .i64] x1) :: (.ptr 3 0) :: und 7 ((.int .i64 x2) :: (.int .i64 x3) :: und 57 []))), boxes := (nos 3 ((some (.cells [(.sl none [.int .i64, .int .i64] x4)] false)) :: nos 66 [])), vers := List.replicate 70 0 }
theorem L_ref01_Contradicting_2_eq (N k n2  : Nat) (x0 : List (List PV)) (x1 : List (List PV)) (x2 : Int) (x3 : List (List PV)) : L_ref01_Contradicting_2 N k (n2 + 1)  x0 x1 x2 x3 =
 (cond (decide (x2 < ((List.length x1) : Int)))
 (cond (decide ((0 : Int) ≤ x2))
  (cond (decide (x2 < ((List.length x1) : Int)))
   ((ev (envF N) k F_ref01_AgreedOf [(.agg [(.sl none [.int .i64, .int .i64] x3)]), (.sl none [.int .i64] x0), (.sl none [.int .i64, .int .i64, .int .i64] [[(.int .i64 (asI (nth (nths x1 (Int.toNat x2)) 0))), (.int .i64 (asI (nth (nths x1 (Int.toNat x2)) 1))), (.int .i64 (asI (nth (nths x1 (Int.toNat x2)) 2)))]])]).bind fun r4 =>
    cond (!(asB (nth (asT r4) 1)))
     (some (.tup [(.sl none [.int .i64] [[(.int .i64 x2)]]), (.bool (true))]))
     (L_ref01_Contradicting_2 N k n2  x0 x1 (w64 (x2 + (1 : Int))) x3))
   (none))
  (none))
 (L_ref01_Contradicting_8 N k N  x0 x1 (0 : Int) x3)) := by kernel_rfl
theorem L_ref01_Contradicting_8_eq (N k n8  : Nat) (x0 : List (List PV)) (x1 : List (List PV)) (x2 : Int) (x3 : List (List PV)) : L_ref01_Contradicting_8 N k (n8 + 1)  x0 x1 x2 x3 =
 (cond (decide (x2 < ((List.length x1) : Int)))
 (L_ref01_Contradicting_11 N k N n8 x0 x1 x2 (w64 (x2 + (1 : Int))) x3)
 (some (.tup [(.sl none [.int .i64] []), (.bool (false))]))) := by kernel_rfl
theorem L_ref01_Contradicting_11_eq (N k n11 n8 : Nat) (x0 : List (List PV)) (x1 : List (List PV)) (x2 : Int) (x3 : Int) (x4 : List (List PV)) : L_ref01_Contradicting_11 N k (n11 + 1) n8 x0 x1 x2 x3 x4 =
 (cond (decide (x3 < ((List.length x1) : Int)))
 (cond (decide ((0 : Int) ≤ x2))
  (cond (decide (x2 < ((List.length x1) : Int)))
   (cond (decide ((0 : Int) ≤ x3))
    (cond (decide (x3 < ((List.length x1) : Int)))
     ((ev (envF N) k F_ref01_AgreedOf [(.agg [(.sl none [.int .i64, .int .i64] x4)]), (.sl none [.int .i64] x0), (.sl none [.int .i64, .int .i64, .int .i64] [[(.int .i64 (asI (nth (nths x1 (Int.toNat x2)) 0))), (.int .i64 (asI (nth (nths x1 (Int.toNat x2)) 1))), (.int .i64 (asI (nth (nths x1 (Int.toNat x2)) 2)))], [(.int .i64 (asI (nth (nths x1 (Int.toNat x3)) 0))), (.int .i64 (asI (nth (nths x1 (Int.toNat x3)) 1))), (.int .i64 (asI (nth (nths x1 (Int.toNat x3)) 2)))]])]).bind fun r6 =>
      cond (!(asB (nth (asT r6) 1)))
       (some (.tup [(.sl none [.int .i64] [[(.int .i64 x2)], [(.int .i64 x3)]]), (.bool (true))]))
       (L_ref01_Contradicting_11 N k n11 n8 x0 x1 x2 (w64 (x3 + (1 : Int))) x4))
     (none))
    (none))
   (none))
  (none))
 (L_ref01_Contradicting_8 N k n8  x0 x1 (w64 (x2 + (1 : Int))) x4)) := by kernel_rfl
theorem E_ref01_Contradicting (N k : Nat) (x0 : List (List PV)) (x1 : List (List PV)) (x2 : List (List PV)) : ev (envF N) (k + 1) F_ref01_Contradicting [(.agg [(.sl none [.int .i64, .int .i64] x0)]), (.sl none [.int .i64] x1), (.sl none [.int .i64, .int .i64, .int .i64] x2)] =
 (L_ref01_Contradicting_2 N k N  x1 x2 (0 : Int) x0) := by kernel_rfl

/-- Loop 4 of base_Ints. -/
noncomputable def L_base_Ints_4 (N k n4  : Nat) (x0 : List (List PV)) (x1 : List (List PV)) (x2 : Int) : Option PV := loopAt (envF N) (ev (envF N) k) F_base_Ints Go.Proofs.Try.f37 [.r, .r, .l, .r, .b] n4 { slots := ((.sl none [.int .i64] x0) :: (.sl none [.int .i64] x1) :: und 3 ((.int .i64 x2) :: und 20 [])), boxes := (nos 26 []), vers := List.replicate 26 0 }
theorem L_base_Ints_4_eq (N k n4  : Nat) (x0 : List (List PV)) (x1 : List (List PV)) (x2 : Int) : L_base_Ints_4 N k (n4 + 1)  x0 x1 x2 =
 (cond (decide (x2 < ((List.length x0) : Int)))
 (cond (decide ((0 : Int) ≤ x2))
  (cond (decide (x2 < ((List.length x0) : Int)))
   (cond (decide ((0 : Int) ≤ x2))
    (cond (decide (x2 < ((List.length x1) : Int)))
     (cond (!(decide ((asI (nth (nths x0 (Int.toNat x2)) 0)) = (asI (nth (nths x1 (Int.toNat x2)) 0)))))
      (some (.bool (false)))
      (L_base_Ints_4 N k n4  x0 x1 (w64 (x2 + (1 : Int)))))
     (none))
    (none))
   (none))
  (none))
 (some (.bool (true)))) := by kernel_rfl
theorem E_base_Ints (N k : Nat) (x0 : List (List PV)) (x1 : List (List PV)) : ev (envF N) (k + 1) F_base_Ints [(.sl none [.int .i64] x0), (.sl none [.int .i64] x1)] =
 (cond (!(decide (((List.length x0) : Int) = ((List.length x1) : Int))))
 (some (.bool (false)))
 (L_base_Ints_4 N k N  x0 x1 (0 : Int))) := by kernel_rfl

theorem E_lake_LevelAt (N k : Nat) (x0 : List (List PV)) (x1 : Int) : ev (envF N) (k + 1) F_lake_LevelAt [(.agg [(.sl none [.int .i64, .int .i64] x0)]), (.int .i64 x1)] =
 ((ev (envF N) k F_lake_openVolume [(.agg [(.sl none [.int .i64, .int .i64] x0)]), (.int .i64 x1)]).bind fun r1 =>
 cond (!(decide ((asI (nth (asT r1) 1)) = (0 : Int))))
  (some (.tup [(.agg [(.int .i64 (0 : Int)), (.int .i64 (0 : Int))]), (.int .i64 (asI (nth (asT r1) 1)))]))
  ((ev (envF N) k F_lake_table_levelAt [(.agg [(.sl none [.int .i64, .int .i64] (asL (nth (asA (nth (asT r1) 0)) 0)))]), (.int .i64 x1)]).bind fun r3 =>
   some (.tup [(.agg [(.int .i64 (asI (nth (asA r3) 0))), (.int .i64 (w64 ((asI (nth (asA r3) 0)) + ((imin (asI (nth (asA r3) 1)) (1 : Int))))))]), (.int .i64 (0 : Int))]))) := by kernel_rfl

/-- Loop 8 of lake_RunOf. -/
noncomputable def L_lake_RunOf_8 (N k n8  : Nat) (x0 : List (List PV)) (x1 : List (List PV)) (x2 : Int) (x3 : Int) (x4 : List (List PV)) (x5 : List (List PV)) (x6 : Int) (x7 : Int) (x8 : Int) (x9 : Int) (x10 : Int) (x11 : List (List PV)) (x12 : List (List PV)) (x13 : Int) (x14 : Int) (x15 : Int) : Option PV := loopAt (envF N) (ev (envF N) k) F_lake_RunOf Go.Proofs.Try.f41 [.r, .r, .r, .r, .r, .l, .r, .b] n8 { slots := (und 4 ((.ptr 4 0) :: und 2 ((.ptr 7 0) :: und 1 ((.ptr 9 0) :: und 1 ((.sl (some (11, 0)) [.int .i64, .int .i64] x0) :: (.ptr 12 0) :: und 20 ((.sl none [.int .i64, .int .i64, .int .i64] x1) :: (.int .i64 x2) :: (.int .i64 x3) :: und 33 [])))))), boxes := (nos 3 ((some (.cells [(.sl none [.int .i64, .int .i64] x4), (.sl none [.int .i64, .int .i64] x5), (.int .i64 x6)] false)) :: (some (.cells [(.int .i64 x7), (.int .i64 x8)] false)) :: nos 2 ((some (.cells [(.int .i64 x9), (.int .i64 x10)] false)) :: nos 1 ((some (.cells [(.sl none [.int .i64, .int .i64] x11), (.sl none [.int .i64, .int .i64] x12), (.int .i64 x13)] false)) :: nos 2 ((some (.cells [(.int .i64 x14), (.int .i64 x15)] false)) :: nos 56 []))))), vers := List.replicate 69 0 }
theorem L_lake_RunOf_8_eq (N k n8  : Nat) (x0 : List (List PV)) (x1 : List (List PV)) (x2 : Int) (x3 : Int) (x4 : List (List PV)) (x5 : List (List PV)) (x6 : Int) (x7 : Int) (x8 : Int) (x9 : Int) (x10 : Int) (x11 : List (List PV)) (x12 : List (List PV)) (x13 : Int) (x14 : Int) (x15 : Int) : L_lake_RunOf_8 N k (n8 + 1)  x0 x1 x2 x3 x4 x5 x6 x7 x8 x9 x10 x11 x12 x13 x14 x15 =
 (cond (decide (x3 < x2))
 (cond (decide ((0 : Int) ≤ x3))
  (cond (decide (x3 < ((List.length x1) : Int)))
   ((ev (envF N) k F_lake_pair_step [(.agg [(.sl none [.int .i64, .int .i64] x11), (.sl none [.int .i64, .int .i64] x12), (.int .i64 x13)]), (.agg [(.int .i64 x7), (.int .i64 x8)]), (.agg [(.int .i64 (asI (nth (nths x1 (Int.toNat x3)) 0))), (.int .i64 (asI (nth (nths x1 (Int.toNat x3)) 1))), (.int .i64 (asI (nth (nths x1 (Int.toNat x3)) 2)))])]).bind fun r4 =>
    cond (!(asB (nth (asT r4) 2)))
     (some (.tup [(.sl none [.int .i64, .int .i64] []), (.agg [(.int .i64 (0 : Int)), (.int .i64 (0 : Int))]), (.int .i64 (22 : Int))]))
     (cond (room x0 [[(.int .i64 (asI (nth (asA (nth (asT r4) 0)) 0))), (.int .i64 (asI (nth (asA (nth (asT r4) 0)) 1)))]] 16)
      (L_lake_RunOf_8 N k n8  (x0 ++ [[(.int .i64 (asI (nth (asA (nth (asT r4) 0)) 0))), (.int .i64 (asI (nth (asA (nth (asT r4) 0)) 1)))]]) x1 x2 (w64 (x3 + (1 : Int))) x4 x5 x6 (asI (nth (asA (nth (asT r4) 0)) 0)) (asI (nth (asA (nth (asT r4) 0)) 1)) x9 x10 x11 x12 x13 (w64 (x14 + (asI (nth (asA (nth (asT r4) 1)) 0)))) (w64 (x15 + (asI (nth (asA (nth (asT r4) 1)) 1)))))
      (none)))
   (none))
  (none))
 (some (.tup [(.sl none [.int .i64, .int .i64] x0), (.agg [(.int .i64 x14), (.int .i64 x15)]), (.int .i64 (0 : Int))]))) := by kernel_rfl
theorem E_lake_RunOf (N k : Nat) (x0 : List (List PV)) (x1 : List (List PV)) (x2 : Int) (x3 : Int) (x4 : Int) (x5 : List (List PV)) : ev (envF N) (k + 1) F_lake_RunOf [(.agg [(.sl none [.int .i64, .int .i64] x0), (.sl none [.int .i64, .int .i64] x1), (.int .i64 x2)]), (.agg [(.int .i64 x3), (.int .i64 x4)]), (.sl none [.int .i64, .int .i64, .int .i64] x5)] =
 ((ev (envF N) k F_lake_openState [(.agg [(.sl none [.int .i64, .int .i64] x0), (.sl none [.int .i64, .int .i64] x1), (.int .i64 x2)]), (.agg [(.int .i64 x3), (.int .i64 x4)])]).bind fun r1 =>
 (ev (envF N) k F_lake_ticksErr [(.sl none [.int .i64, .int .i64, .int .i64] x5)]).bind fun r2 =>
  (ev (envF N) k F_lake_first [(.sl none [.int .i64] [[(.int .i64 (asI (nth (asT r1) 1)))], [(.int .i64 (asI r2))]])]).bind fun r3 =>
   cond (!(decide ((asI r3) = (0 : Int))))
    (some (.tup [(.sl none [.int .i64, .int .i64] []), (.agg [(.int .i64 (0 : Int)), (.int .i64 (0 : Int))]), (.int .i64 (asI r3))]))
    (L_lake_RunOf_8 N k N  [] x5 ((List.length x5) : Int) (0 : Int) x0 x1 x2 x3 x4 (0 : Int) (0 : Int) (asL (nth (asA (nth (asT r1) 0)) 0)) (asL (nth (asA (nth (asT r1) 0)) 1)) (asI (nth (asA (nth (asT r1) 0)) 2)) (0 : Int) (0 : Int))) := by kernel_rfl

theorem E_ref01_CopyList (N k : Nat) (x0 : List (List PV)) : ev (envF N) (k + 1) F_ref01_CopyList [(.sl none [.int .i64, .int .i64, .int .i64] x0)] =
 (cond (room [] x0 24)
 (some (.sl none [.int .i64, .int .i64, .int .i64] x0))
 (none)) := by kernel_rfl

/-- Loop 5 of lake_CheckTable. -/
noncomputable def L_lake_CheckTable_5 (N k n5  : Nat) (x0 : List (List PV)) (x1 : Int) (x2 : Int) (x3 : List (List PV)) : Option PV := loopAt (envF N) (ev (envF N) k) F_lake_CheckTable Go.Proofs.Try.f44 [.r, .r, .l, .r, .b] n5 { slots := (und 1 ((.ptr 1 0) :: und 22 ((.sl none [.int .i64, .int .i64] x0) :: (.int .i64 x1) :: (.int .i64 x2) :: und 55 []))), boxes := (nos 1 ((some (.cells [(.sl none [.int .i64, .int .i64] x3)] false)) :: nos 80 [])), vers := List.replicate 82 0 }
theorem L_lake_CheckTable_5_eq (N k n5  : Nat) (x0 : List (List PV)) (x1 : Int) (x2 : Int) (x3 : List (List PV)) : L_lake_CheckTable_5 N k (n5 + 1)  x0 x1 x2 x3 =
 (cond (decide (x2 < x1))
 (cond (decide ((0 : Int) ≤ x2))
  (cond (decide (x2 < ((List.length x0) : Int)))
   ((ev (envF N) k F_lake_within [(.int .i64 (asI (nth (nths x0 (Int.toNat x2)) 0))), (.int .i64 (0 : Int)), (.int .i64 (1000000 : Int))]).bind fun r4 =>
    cond (!(asB r4))
     (some (.tup [(.int .i64 x2), (.int .i64 (2 : Int))]))
     ((ev (envF N) k F_lake_within [(.int .i64 (asI (nth (nths x0 (Int.toNat x2)) 1))), (.int .i64 (0 : Int)), (.int .i64 (1000000000 : Int))]).bind fun r6 =>
      cond (!(asB r6))
       (some (.tup [(.int .i64 x2), (.int .i64 (2 : Int))]))
       (cond (decide (x2 = (0 : Int)))
        (L_lake_CheckTable_5 N k n5  x0 x1 (w64 (x2 + (1 : Int))) x3)
        (cond (decide ((0 : Int) ≤ (w64 (x2 - (1 : Int)))))
         (cond (decide ((w64 (x2 - (1 : Int))) < ((List.length x3) : Int)))
          ((ev (envF N) k F_lake_piece_height [(.agg [(.int .i64 (asI (nth (nths x3 (Int.toNat (w64 (x2 - (1 : Int))))) 0))), (.int .i64 (asI (nth (nths x3 (Int.toNat (w64 (x2 - (1 : Int))))) 1))), (.int .i64 (asI (nth (nths x0 (Int.toNat x2)) 0))), (.int .i64 (asI (nth (nths x0 (Int.toNat x2)) 1)))])]).bind fun r11 =>
           cond (decide ((asI r11) ≤ (0 : Int)))
            (some (.tup [(.int .i64 x2), (.int .i64 (9 : Int))]))
            ((ev (envF N) k F_lake_piece_volume [(.agg [(.int .i64 (asI (nth (nths x3 (Int.toNat (w64 (x2 - (1 : Int))))) 0))), (.int .i64 (asI (nth (nths x3 (Int.toNat (w64 (x2 - (1 : Int))))) 1))), (.int .i64 (asI (nth (nths x0 (Int.toNat x2)) 0))), (.int .i64 (asI (nth (nths x0 (Int.toNat x2)) 1)))])]).bind fun r13 =>
             cond (decide ((asI r13) ≤ (0 : Int)))
              (some (.tup [(.int .i64 x2), (.int .i64 (9 : Int))]))
              (cond (decide ((1 : Int) < x2))
               (cond (decide ((0 : Int) ≤ (w64 (x2 - (2 : Int)))))
                (cond (decide ((w64 (x2 - (2 : Int))) < ((List.length x3) : Int)))
                 (cond (decide ((0 : Int) ≤ (w64 (x2 - (1 : Int)))))
                  (cond (decide ((w64 (x2 - (1 : Int))) < ((List.length x3) : Int)))
                   ((ev (envF N) k F_lake_piece_narrower [(.agg [(.int .i64 (asI (nth (nths x3 (Int.toNat (w64 (x2 - (1 : Int))))) 0))), (.int .i64 (asI (nth (nths x3 (Int.toNat (w64 (x2 - (1 : Int))))) 1))), (.int .i64 (asI (nth (nths x0 (Int.toNat x2)) 0))), (.int .i64 (asI (nth (nths x0 (Int.toNat x2)) 1)))]), (.agg [(.int .i64 (asI (nth (nths x3 (Int.toNat (w64 (x2 - (2 : Int))))) 0))), (.int .i64 (asI (nth (nths x3 (Int.toNat (w64 (x2 - (2 : Int))))) 1))), (.int .i64 (asI (nth (nths x3 (Int.toNat (w64 (x2 - (1 : Int))))) 0))), (.int .i64 (asI (nth (nths x3 (Int.toNat (w64 (x2 - (1 : Int))))) 1)))])]).bind fun r20 =>
                    cond (asB r20)
                     (some (.tup [(.int .i64 x2), (.int .i64 (22 : Int))]))
                     (L_lake_CheckTable_5 N k n5  x0 x1 (w64 (x2 + (1 : Int))) x3))
                   (none))
                  (none))
                 (none))
                (none))
               (L_lake_CheckTable_5 N k n5  x0 x1 (w64 (x2 + (1 : Int))) x3))))
          (none))
         (none)))))
   (none))
  (none))
 (some (.tup [(.int .i64 (0 : Int)), (.int .i64 (0 : Int))]))) := by kernel_rfl
theorem E_lake_CheckTable (N k : Nat) (x0 : List (List PV)) : ev (envF N) (k + 1) F_lake_CheckTable [(.agg [(.sl none [.int .i64, .int .i64] x0)])] =
 ((ev (envF N) k F_lake_unless [(.bool (decide ((1 : Int) < ((List.length x0) : Int)))), (.int .i64 (10 : Int))]).bind fun r1 =>
 (ev (envF N) k F_lake_unless [(.bool (decide (((List.length x0) : Int) ≤ (10 : Int)))), (.int .i64 (8 : Int))]).bind fun r2 =>
  (ev (envF N) k F_lake_first [(.sl none [.int .i64] [[(.int .i64 (asI r1))], [(.int .i64 (asI r2))]])]).bind fun r3 =>
   cond (!(decide ((asI r3) = (0 : Int))))
    (some (.tup [(.int .i64 (0 : Int)), (.int .i64 (asI r3))]))
    (L_lake_CheckTable_5 N k N  x0 ((List.length x0) : Int) (0 : Int) x0)) := by kernel_rfl

theorem E_lake_VolumeAt (N k : Nat) (x0 : List (List PV)) (x1 : Int) : ev (envF N) (k + 1) F_lake_VolumeAt [(.agg [(.sl none [.int .i64, .int .i64] x0)]), (.int .i64 x1)] =
 ((ev (envF N) k F_lake_tableErr [(.agg [(.sl none [.int .i64, .int .i64] x0)])]).bind fun r1 =>
 cond (!(decide ((asI r1) = (0 : Int))))
  (some (.tup [(.agg [(.int .i64 (0 : Int)), (.int .i64 (0 : Int))]), (.int .i64 (asI r1))]))
  ((ev (envF N) k F_lake_table_bottom [(.agg [(.sl none [.int .i64, .int .i64] x0)])]).bind fun r3 =>
   (ev (envF N) k F_lake_table_top [(.agg [(.sl none [.int .i64, .int .i64] x0)])]).bind fun r4 =>
    (ev (envF N) k F_lake_within [(.int .i64 x1), (.int .i64 (asI (nth (asA r3) 0))), (.int .i64 (asI (nth (asA r4) 0)))]).bind fun r5 =>
     cond (!(asB r5))
      (some (.tup [(.agg [(.int .i64 (0 : Int)), (.int .i64 (0 : Int))]), (.int .i64 (2 : Int))]))
      ((ev (envF N) k F_lake_table_volumeAt [(.agg [(.sl none [.int .i64, .int .i64] x0)]), (.int .i64 x1)]).bind fun r7 =>
       some (.tup [(.agg [(.int .i64 (asI (nth (asA r7) 0))), (.int .i64 (asI (nth (asA r7) 1)))]), (.int .i64 (0 : Int))])))) := by kernel_rfl

theorem E_lake_AreaAt (N k : Nat) (x0 : List (List PV)) (x1 : Int) : ev (envF N) (k + 1) F_lake_AreaAt [(.agg [(.sl none [.int .i64, .int .i64] x0)]), (.int .i64 x1)] =
 ((ev (envF N) k F_lake_openVolume [(.agg [(.sl none [.int .i64, .int .i64] x0)]), (.int .i64 x1)]).bind fun r1 =>
 cond (!(decide ((asI (nth (asT r1) 1)) = (0 : Int))))
  (some (.tup [(.agg [(.int .i64 (0 : Int)), (.int .i64 (0 : Int))]), (.int .i64 (asI (nth (asT r1) 1)))]))
  ((ev (envF N) k F_lake_table_byVolume [(.agg [(.sl none [.int .i64, .int .i64] (asL (nth (asA (nth (asT r1) 0)) 0)))]), (.int .i64 x1)]).bind fun r3 =>
   (ev (envF N) k F_lake_piece_volume [(.agg [(.int .i64 (asI (nth (asA r3) 0))), (.int .i64 (asI (nth (asA r3) 1))), (.int .i64 (asI (nth (asA r3) 2))), (.int .i64 (asI (nth (asA r3) 3)))])]).bind fun r4 =>
    (ev (envF N) k F_lake_piece_height [(.agg [(.int .i64 (asI (nth (asA r3) 0))), (.int .i64 (asI (nth (asA r3) 1))), (.int .i64 (asI (nth (asA r3) 2))), (.int .i64 (asI (nth (asA r3) 3)))])]).bind fun r5 =>
     (ev (envF N) k F_lake_divisor [(.int .i64 (asI r4)), (.int .i64 (asI r5))]).bind fun r6 =>
      (ev (envF N) k F_lake_piece_volume [(.agg [(.int .i64 (asI (nth (asA r3) 0))), (.int .i64 (asI (nth (asA r3) 1))), (.int .i64 (asI (nth (asA r3) 2))), (.int .i64 (asI (nth (asA r3) 3)))])]).bind fun r7 =>
       cond (!(decide ((asI r6) = (0 : Int))))
        ((ev (envF N) k F_lake_piece_height [(.agg [(.int .i64 (asI (nth (asA r3) 0))), (.int .i64 (asI (nth (asA r3) 1))), (.int .i64 (asI (nth (asA r3) 2))), (.int .i64 (asI (nth (asA r3) 3)))])]).bind fun r9 =>
         cond (!(decide ((asI r6) = (0 : Int))))
          (some (.tup [(.agg [(.int .i64 (w64 (Int.tdiv (asI r7) (asI r6)))), (.int .i64 (w64 (Int.tdiv (asI r9) (asI r6))))]), (.int .i64 (0 : Int))]))
          (none))
        (none))) := by kernel_rfl

/-- Loop 6 of ref01_CheckTable. -/
noncomputable def L_ref01_CheckTable_6 (N k n6  : Nat) (x0 : Int) (x1 : List (List PV)) : Option PV := loopAt (envF N) (ev (envF N) k) F_ref01_CheckTable Go.Proofs.Try.f47 [.r, .r, .r, .l, .r, .b] n6 { slots := (und 1 ((.ptr 1 0) :: und 2 ((.int .i64 x0) :: und 71 []))), boxes := (nos 1 ((some (.cells [(.sl none [.int .i64, .int .i64] x1)] false)) :: nos 74 [])), vers := List.replicate 76 0 }
theorem L_ref01_CheckTable_6_eq (N k n6  : Nat) (x0 : Int) (x1 : List (List PV)) : L_ref01_CheckTable_6 N k (n6 + 1)  x0 x1 =
 (cond (decide (x0 < ((List.length x1) : Int)))
 (cond (decide ((0 : Int) ≤ x0))
  (cond (decide (x0 < ((List.length x1) : Int)))
   ((ev (envF N) k F_base_Within [(.int .i64 (asI (nth (nths x1 (Int.toNat x0)) 0))), (.int .i64 (0 : Int)), (.int .i64 (1000000 : Int))]).bind fun r4 =>
    cond (!(asB r4))
     (some (.tup [(.int .i64 x0), (.int .i64 (2 : Int))]))
     ((ev (envF N) k F_base_Within [(.int .i64 (asI (nth (nths x1 (Int.toNat x0)) 1))), (.int .i64 (0 : Int)), (.int .i64 (1000000000 : Int))]).bind fun r6 =>
      cond (!(asB r6))
       (some (.tup [(.int .i64 x0), (.int .i64 (2 : Int))]))
       (cond (decide (x0 = (0 : Int)))
        (L_ref01_CheckTable_6 N k n6  (w64 (x0 + (1 : Int))) x1)
        (cond (decide ((0 : Int) ≤ (w64 (x0 - (1 : Int)))))
         (cond (decide ((w64 (x0 - (1 : Int))) < ((List.length x1) : Int)))
          (cond (decide ((asI (nth (nths x1 (Int.toNat x0)) 0)) ≤ (asI (nth (nths x1 (Int.toNat (w64 (x0 - (1 : Int))))) 0))))
           (some (.tup [(.int .i64 x0), (.int .i64 (9 : Int))]))
           (cond (decide ((0 : Int) ≤ (w64 (x0 - (1 : Int)))))
            (cond (decide ((w64 (x0 - (1 : Int))) < ((List.length x1) : Int)))
             (cond (decide ((asI (nth (nths x1 (Int.toNat x0)) 1)) ≤ (asI (nth (nths x1 (Int.toNat (w64 (x0 - (1 : Int))))) 1))))
              (some (.tup [(.int .i64 x0), (.int .i64 (9 : Int))]))
              (cond (decide ((1 : Int) < x0))
               ((ev (envF N) k F_ref01_piece [(.agg [(.sl none [.int .i64, .int .i64] x1)]), (.int .i64 x0)]).bind fun r16 =>
                (ev (envF N) k F_ref01_piece [(.agg [(.sl none [.int .i64, .int .i64] x1)]), (.int .i64 (w64 (x0 - (1 : Int))))]).bind fun r17 =>
                 (ev (envF N) k F_base_RatioCmp [(.agg [(.int .i64 (asI (nth (asA r16) 0))), (.sl none [.int .i64] (asL (nth (asA r16) 1))), (.int .i64 (asI (nth (asA r16) 2))), (.sl none [.int .i64] (asL (nth (asA r16) 3)))]), (.agg [(.int .i64 (asI (nth (asA r17) 0))), (.sl none [.int .i64] (asL (nth (asA r17) 1))), (.int .i64 (asI (nth (asA r17) 2))), (.sl none [.int .i64] (asL (nth (asA r17) 3)))])]).bind fun r18 =>
                  cond (decide ((asI r18) < (0 : Int)))
                   (some (.tup [(.int .i64 x0), (.int .i64 (22 : Int))]))
                   (L_ref01_CheckTable_6 N k n6  (w64 (x0 + (1 : Int))) x1))
               (L_ref01_CheckTable_6 N k n6  (w64 (x0 + (1 : Int))) x1)))
             (none))
            (none)))
          (none))
         (none)))))
   (none))
  (none))
 (some (.tup [(.int .i64 (0 : Int)), (.int .i64 (0 : Int))]))) := by kernel_rfl
theorem E_ref01_CheckTable (N k : Nat) (x0 : List (List PV)) : ev (envF N) (k + 1) F_ref01_CheckTable [(.agg [(.sl none [.int .i64, .int .i64] x0)])] =
 (cond (decide (((List.length x0) : Int) < (2 : Int)))
 (some (.tup [(.int .i64 (0 : Int)), (.int .i64 (10 : Int))]))
 (cond (decide ((10 : Int) < ((List.length x0) : Int)))
  (some (.tup [(.int .i64 (0 : Int)), (.int .i64 (8 : Int))]))
  (L_ref01_CheckTable_6 N k N  (0 : Int) x0))) := by kernel_rfl

theorem E_ref01_IsLevel (N k : Nat) (x0 : List (List PV)) (x1 : Int) : ev (envF N) (k + 1) F_ref01_IsLevel [(.agg [(.sl none [.int .i64, .int .i64] x0)]), (.int .i64 x1)] =
 ((ev (envF N) k F_ref01_Bottom [(.agg [(.sl none [.int .i64, .int .i64] x0)])]).bind fun r1 =>
 (ev (envF N) k F_ref01_Top [(.agg [(.sl none [.int .i64, .int .i64] x0)])]).bind fun r2 =>
  (ev (envF N) k F_base_Within [(.int .i64 x1), (.int .i64 (asI (nth (asA r1) 0))), (.int .i64 (asI (nth (asA r2) 0)))]).bind fun r3 =>
   some (.bool (asB r3))) := by kernel_rfl

theorem E_ref01_VolumeAt (N k : Nat) (x0 : List (List PV)) (x1 : Int) : ev (envF N) (k + 1) F_ref01_VolumeAt [(.agg [(.sl none [.int .i64, .int .i64] x0)]), (.int .i64 x1)] =
 ((ev (envF N) k F_ref01_volume [(.agg [(.sl none [.int .i64, .int .i64] x0)]), (.int .i64 x1)]).bind fun r1 =>
 (ev (envF N) k F_ref01_rounded [(.agg [(.int .i64 (asI (nth (asA r1) 0))), (.sl none [.int .i64] (asL (nth (asA r1) 1))), (.int .i64 (asI (nth (asA r1) 2))), (.sl none [.int .i64] (asL (nth (asA r1) 3)))])]).bind fun r2 =>
  some (.agg [(.int .i64 (asI (nth (asA r2) 0))), (.int .i64 (asI (nth (asA r2) 1)))])) := by kernel_rfl

theorem E_ref01_IsVolume (N k : Nat) (x0 : List (List PV)) (x1 : Int) : ev (envF N) (k + 1) F_ref01_IsVolume [(.agg [(.sl none [.int .i64, .int .i64] x0)]), (.int .i64 x1)] =
 ((ev (envF N) k F_ref01_Bottom [(.agg [(.sl none [.int .i64, .int .i64] x0)])]).bind fun r1 =>
 (ev (envF N) k F_ref01_Top [(.agg [(.sl none [.int .i64, .int .i64] x0)])]).bind fun r2 =>
  (ev (envF N) k F_base_Within [(.int .i64 x1), (.int .i64 (asI (nth (asA r1) 1))), (.int .i64 (asI (nth (asA r2) 1)))]).bind fun r3 =>
   some (.bool (asB r3))) := by kernel_rfl

theorem E_ref01_LevelAt (N k : Nat) (x0 : List (List PV)) (x1 : Int) : ev (envF N) (k + 1) F_ref01_LevelAt [(.agg [(.sl none [.int .i64, .int .i64] x0)]), (.int .i64 x1)] =
 ((ev (envF N) k F_ref01_Level [(.agg [(.sl none [.int .i64, .int .i64] x0)]), (.int .i64 x1)]).bind fun r1 =>
 (ev (envF N) k F_ref01_rounded [(.agg [(.int .i64 (asI (nth (asA r1) 0))), (.sl none [.int .i64] (asL (nth (asA r1) 1))), (.int .i64 (asI (nth (asA r1) 2))), (.sl none [.int .i64] (asL (nth (asA r1) 3)))])]).bind fun r2 =>
  some (.agg [(.int .i64 (asI (nth (asA r2) 0))), (.int .i64 (asI (nth (asA r2) 1)))])) := by kernel_rfl

theorem E_ref01_AreaAt (N k : Nat) (x0 : List (List PV)) (x1 : Int) : ev (envF N) (k + 1) F_ref01_AreaAt [(.agg [(.sl none [.int .i64, .int .i64] x0)]), (.int .i64 x1)] =
 ((ev (envF N) k F_ref01_above [(.agg [(.sl none [.int .i64, .int .i64] x0)]), (.int .i64 x1)]).bind fun r1 =>
 cond (decide ((0 : Int) ≤ (w64 ((asI r1) - (1 : Int)))))
  (cond (decide ((w64 ((asI r1) - (1 : Int))) < ((List.length x0) : Int)))
   (cond (decide ((0 : Int) ≤ (asI r1)))
    (cond (decide ((asI r1) < ((List.length x0) : Int)))
     ((ev (envF N) k F_base_Lowest [(.int .i64 (w64 ((asI (nth (nths x0 (Int.toNat (asI r1))) 1)) - (asI (nth (nths x0 (Int.toNat (w64 (asI r1 - (1 : Int))))) 1))))), (.int .i64 (w64 ((asI (nth (nths x0 (Int.toNat (asI r1))) 0)) - (asI (nth (nths x0 (Int.toNat (w64 (asI r1 - (1 : Int))))) 0)))))]).bind fun r6 =>
      some (.agg [(.int .i64 (asI (nth (asA r6) 0))), (.int .i64 (asI (nth (asA r6) 1)))]))
     (none))
    (none))
   (none))
  (none)) := by kernel_rfl

theorem E_base_Size (N k : Nat) (x0 : Int) : ev (envF N) (k + 1) F_base_Size [(.int .i64 x0)] =
 (some (.int .i64 ((imax x0 (w64 ((0 : Int) - x0)))))) := by kernel_rfl

theorem E_ref01_TableErr (N k : Nat) (x0 : List (List PV)) : ev (envF N) (k + 1) F_ref01_TableErr [(.agg [(.sl none [.int .i64, .int .i64] x0)])] =
 ((ev (envF N) k F_ref01_CheckTable [(.agg [(.sl none [.int .i64, .int .i64] x0)])]).bind fun r1 =>
 some (.int .i64 (asI (nth (asT r1) 1)))) := by kernel_rfl

theorem E_ref01_Top (N k : Nat) (x0 : List (List PV)) : ev (envF N) (k + 1) F_ref01_Top [(.agg [(.sl none [.int .i64, .int .i64] x0)])] =
 (cond (decide ((0 : Int) ≤ (w64 (((List.length x0) : Int) - (1 : Int)))))
 (cond (decide ((w64 (((List.length x0) : Int) - (1 : Int))) < ((List.length x0) : Int)))
  (some (.agg [(.int .i64 (asI (nth (nths x0 (Int.toNat (w64 ((x0.length : Int) - (1 : Int))))) 0))), (.int .i64 (asI (nth (nths x0 (Int.toNat (w64 ((x0.length : Int) - (1 : Int))))) 1)))]))
  (none))
 (none)) := by kernel_rfl

theorem E_law01_small (N k : Nat) (x0 : Int) (x1 : Int) : ev (envF N) (k + 1) F_law01_small [(.agg [(.int .i64 x0), (.int .i64 x1)])] =
 ((ev (envF N) k F_base_IsLowest [(.agg [(.int .i64 x0), (.int .i64 x1)])]).bind fun r1 =>
 cond (asB r1)
  ((ev (envF N) k F_base_IsSmall [(.agg [(.int .i64 x0), (.int .i64 x1)])]).bind fun r3 =>
   some (.bool (asB r3)))
  (some (.bool (false)))) := by kernel_rfl

theorem E_base_Cmp (N k : Nat) (x0 : Int) (x1 : Int) (x2 : Int) (x3 : Int) : ev (envF N) (k + 1) F_base_Cmp [(.agg [(.int .i64 x0), (.int .i64 x1)]), (.agg [(.int .i64 x2), (.int .i64 x3)])] =
 (cond (decide ((w64 (x0 * x3)) < (w64 (x2 * x1))))
 (some (.int .i64 (-1 : Int)))
 (cond (decide ((w64 (x2 * x1)) < (w64 (x0 * x3))))
  (some (.int .i64 (1 : Int)))
  (some (.int .i64 (0 : Int))))) := by kernel_rfl

/-- Loop 5 of lake_MinimumOn. -/
noncomputable def L_lake_MinimumOn_5 (N k n5  : Nat) (x0 : List (List PV)) (x1 : Int) (x2 : List (List PV)) (x3 : Int) (x4 : Int) : Option PV := loopAt (envF N) (ev (envF N) k) F_lake_MinimumOn Go.Proofs.Try.f72 [.r, .r, .r, .l, .r, .b] n5 { slots := ((.sl none [.int .i64, .int .i64, .int .i64] x0) :: (.int .i64 x1) :: und 4 ((.fn F_lake_MinimumOn_c1 []) :: und 8 ((.sl none [.int .i64, .int .i64, .int .i64] x2) :: (.int .i64 x3) :: (.int .i64 x4) :: und 41 []))), boxes := (nos 59 []), vers := List.replicate 59 0 }
/-- Loop 14 of lake_MinimumOn. -/
noncomputable def L_lake_MinimumOn_14 (N k n14  : Nat) (x0 : Int) (x1 : Int) (x2 : List (List PV)) (x3 : Int) (x4 : Int) : Option PV := loopAt (envF N) (ev (envF N) k) F_lake_MinimumOn Go.Proofs.Try.f72 [.r, .r, .r, .r, .r, .r, .l, .r, .b] n14 { slots := (und 1 ((.int .i64 x0) :: und 7 ((.int .i64 x1) :: und 33 ((.sl none [.int .i64, .int .i64, .int .i64] x2) :: (.int .i64 x3) :: (.int .i64 x4) :: und 13 [])))), boxes := (nos 59 []), vers := List.replicate 59 0 }
theorem L_lake_MinimumOn_5_eq (N k n5  : Nat) (x0 : List (List PV)) (x1 : Int) (x2 : List (List PV)) (x3 : Int) (x4 : Int) : L_lake_MinimumOn_5 N k (n5 + 1)  x0 x1 x2 x3 x4 =
 (cond (decide (x4 < x3))
 (cond (decide ((0 : Int) ≤ x4))
  (cond (decide (x4 < ((List.length x2) : Int)))
   ((ev (envF N) k F_lake_MinimumOn_c1 [(.int .i64 (asI (nth (nths x2 (Int.toNat x4)) 0)))]).bind fun r4 =>
    cond (!(asB r4))
     (some (.tup [(.int .i64 (0 : Int)), (.int .i64 (2 : Int))]))
     ((ev (envF N) k F_lake_MinimumOn_c1 [(.int .i64 (asI (nth (nths x2 (Int.toNat x4)) 1)))]).bind fun r6 =>
      cond (!(asB r6))
       (some (.tup [(.int .i64 (0 : Int)), (.int .i64 (2 : Int))]))
       ((ev (envF N) k F_lake_within [(.int .i64 (asI (nth (nths x2 (Int.toNat x4)) 2))), (.int .i64 (0 : Int)), (.int .i64 (1000000 : Int))]).bind fun r8 =>
        cond (!(asB r8))
         (some (.tup [(.int .i64 (0 : Int)), (.int .i64 (2 : Int))]))
         (L_lake_MinimumOn_5 N k n5  x0 x1 x2 x3 (w64 (x4 + (1 : Int)))))))
   (none))
  (none))
 ((ev (envF N) k F_lake_within [(.int .i64 x1), (.int .i64 (0 : Int)), (.int .i64 (100000 : Int))]).bind fun r2 =>
  cond (!(asB r2))
   (some (.tup [(.int .i64 (0 : Int)), (.int .i64 (2 : Int))]))
   (L_lake_MinimumOn_14 N k N  x1 (0 : Int) x0 ((List.length x0) : Int) (0 : Int)))) := by kernel_rfl
theorem L_lake_MinimumOn_14_eq (N k n14  : Nat) (x0 : Int) (x1 : Int) (x2 : List (List PV)) (x3 : Int) (x4 : Int) : L_lake_MinimumOn_14 N k (n14 + 1)  x0 x1 x2 x3 x4 =
 (cond (decide (x4 < x3))
 (cond (decide ((0 : Int) ≤ x4))
  (cond (decide (x4 < ((List.length x2) : Int)))
   ((ev (envF N) k F_lake_contains [(.agg [(.int .i64 (asI (nth (nths x2 (Int.toNat x4)) 0))), (.int .i64 (asI (nth (nths x2 (Int.toNat x4)) 1))), (.int .i64 (asI (nth (nths x2 (Int.toNat x4)) 2)))]), (.int .i64 (Int.tmod x0 (365 : Int)))]).bind fun r4 =>
    cond (asB r4)
     (L_lake_MinimumOn_14 N k n14  x0 ((imax x1 (asI (nth (nths x2 (Int.toNat x4)) 2)))) x2 x3 (w64 (x4 + (1 : Int))))
     (L_lake_MinimumOn_14 N k n14  x0 x1 x2 x3 (w64 (x4 + (1 : Int)))))
   (none))
  (none))
 (some (.tup [(.int .i64 x1), (.int .i64 (0 : Int))]))) := by kernel_rfl
theorem E_lake_MinimumOn (N k : Nat) (x0 : List (List PV)) (x1 : Int) : ev (envF N) (k + 1) F_lake_MinimumOn [(.sl none [.int .i64, .int .i64, .int .i64] x0), (.int .i64 x1)] =
 (cond (decide ((12 : Int) < ((List.length x0) : Int)))
 (some (.tup [(.int .i64 (0 : Int)), (.int .i64 (8 : Int))]))
 (L_lake_MinimumOn_5 N k N  x0 x1 x0 ((List.length x0) : Int) (0 : Int))) := by kernel_rfl

theorem E_ref01_CopySeasons (N k : Nat) (x0 : List (List PV)) : ev (envF N) (k + 1) F_ref01_CopySeasons [(.sl none [.int .i64, .int .i64, .int .i64] x0)] =
 (cond (room [] x0 24)
 (some (.sl none [.int .i64, .int .i64, .int .i64] x0))
 (none)) := by kernel_rfl

/-- Loop 4 of ref01_MinimumOn. -/
noncomputable def L_ref01_MinimumOn_4 (N k n4  : Nat) (x0 : List (List PV)) (x1 : Int) (x2 : Int) : Option PV := loopAt (envF N) (ev (envF N) k) F_ref01_MinimumOn Go.Proofs.Try.f74 [.r, .r, .l, .r, .b] n4 { slots := ((.sl none [.int .i64, .int .i64, .int .i64] x0) :: (.int .i64 x1) :: und 4 ((.int .i64 x2) :: und 97 [])), boxes := (nos 104 []), vers := List.replicate 104 0 }
/-- Loop 12 of ref01_MinimumOn. -/
noncomputable def L_ref01_MinimumOn_12 (N k n12  : Nat) (x0 : List (List PV)) (x1 : Int) (x2 : Int) (x3 : Int) : Option PV := loopAt (envF N) (ev (envF N) k) F_ref01_MinimumOn Go.Proofs.Try.f74 [.r, .r, .r, .r, .r, .l, .r, .b] n12 { slots := ((.sl none [.int .i64, .int .i64, .int .i64] x0) :: und 6 ((.int .i64 x1) :: (.int .i64 x2) :: (.int .i64 x3) :: und 94 [])), boxes := (nos 104 []), vers := List.replicate 104 0 }
theorem L_ref01_MinimumOn_4_eq (N k n4  : Nat) (x0 : List (List PV)) (x1 : Int) (x2 : Int) : L_ref01_MinimumOn_4 N k (n4 + 1)  x0 x1 x2 =
 (cond (decide (x2 < ((List.length x0) : Int)))
 (cond (decide ((0 : Int) ≤ x2))
  (cond (decide (x2 < ((List.length x0) : Int)))
   ((ev (envF N) k F_base_Within [(.int .i64 (asI (nth (nths x0 (Int.toNat x2)) 0))), (.int .i64 (0 : Int)), (.int .i64 (364 : Int))]).bind fun r4 =>
    cond (!(asB r4))
     (some (.tup [(.int .i64 (0 : Int)), (.int .i64 (2 : Int))]))
     (cond (decide ((0 : Int) ≤ x2))
      (cond (decide (x2 < ((List.length x0) : Int)))
       ((ev (envF N) k F_base_Within [(.int .i64 (asI (nth (nths x0 (Int.toNat x2)) 1))), (.int .i64 (0 : Int)), (.int .i64 (364 : Int))]).bind fun r8 =>
        cond (!(asB r8))
         (some (.tup [(.int .i64 (0 : Int)), (.int .i64 (2 : Int))]))
         (cond (decide ((0 : Int) ≤ x2))
          (cond (decide (x2 < ((List.length x0) : Int)))
           ((ev (envF N) k F_base_Within [(.int .i64 (asI (nth (nths x0 (Int.toNat x2)) 2))), (.int .i64 (0 : Int)), (.int .i64 (1000000 : Int))]).bind fun r12 =>
            cond (!(asB r12))
             (some (.tup [(.int .i64 (0 : Int)), (.int .i64 (2 : Int))]))
             (L_ref01_MinimumOn_4 N k n4  x0 x1 (w64 (x2 + (1 : Int)))))
           (none))
          (none)))
       (none))
      (none)))
   (none))
  (none))
 ((ev (envF N) k F_base_Within [(.int .i64 x1), (.int .i64 (0 : Int)), (.int .i64 (100000 : Int))]).bind fun r2 =>
  cond (!(asB r2))
   (some (.tup [(.int .i64 (0 : Int)), (.int .i64 (2 : Int))]))
   (L_ref01_MinimumOn_12 N k N  x0 (Int.tmod x1 (365 : Int)) (0 : Int) (0 : Int)))) := by kernel_rfl
theorem L_ref01_MinimumOn_12_eq (N k n12  : Nat) (x0 : List (List PV)) (x1 : Int) (x2 : Int) (x3 : Int) : L_ref01_MinimumOn_12 N k (n12 + 1)  x0 x1 x2 x3 =
 (cond (decide (x3 < ((List.length x0) : Int)))
 (cond (decide ((0 : Int) ≤ x3))
  (cond (decide (x3 < ((List.length x0) : Int)))
   (cond (decide ((0 : Int) ≤ x3))
    (cond (decide (x3 < ((List.length x0) : Int)))
     ((ev (envF N) k F_base_Within [(.int .i64 x1), (.int .i64 (asI (nth (nths x0 (Int.toNat x3)) 0))), (.int .i64 (asI (nth (nths x0 (Int.toNat x3)) 1)))]).bind fun r6 =>
      cond (decide ((0 : Int) ≤ x3))
       (cond (decide (x3 < ((List.length x0) : Int)))
        (cond (decide ((0 : Int) ≤ x3))
         (cond (decide (x3 < ((List.length x0) : Int)))
          (cond (decide ((asI (nth (nths x0 (Int.toNat x3)) 1)) < (asI (nth (nths x0 (Int.toNat x3)) 0))))
           (cond (decide ((0 : Int) ≤ x3))
            (cond (decide (x3 < ((List.length x0) : Int)))
             (cond (decide ((asI (nth (nths x0 (Int.toNat x3)) 0)) ≤ x1))
              (cond (decide ((0 : Int) ≤ x3))
               (cond (decide (x3 < ((List.length x0) : Int)))
                (L_ref01_MinimumOn_12 N k n12  x0 x1 ((imax x2 (asI (nth (nths x0 (Int.toNat x3)) 2)))) (w64 (x3 + (1 : Int))))
                (none))
               (none))
              (cond (decide ((0 : Int) ≤ x3))
               (cond (decide (x3 < ((List.length x0) : Int)))
                (cond (decide (x1 ≤ (asI (nth (nths x0 (Int.toNat x3)) 1))))
                 (cond (decide ((0 : Int) ≤ x3))
                  (cond (decide (x3 < ((List.length x0) : Int)))
                   (L_ref01_MinimumOn_12 N k n12  x0 x1 ((imax x2 (asI (nth (nths x0 (Int.toNat x3)) 2)))) (w64 (x3 + (1 : Int))))
                   (none))
                  (none))
                 (L_ref01_MinimumOn_12 N k n12  x0 x1 x2 (w64 (x3 + (1 : Int)))))
                (none))
               (none)))
             (none))
            (none))
           (cond (asB r6)
            (cond (decide ((0 : Int) ≤ x3))
             (cond (decide (x3 < ((List.length x0) : Int)))
              (L_ref01_MinimumOn_12 N k n12  x0 x1 ((imax x2 (asI (nth (nths x0 (Int.toNat x3)) 2)))) (w64 (x3 + (1 : Int))))
              (none))
             (none))
            (L_ref01_MinimumOn_12 N k n12  x0 x1 x2 (w64 (x3 + (1 : Int))))))
          (none))
         (none))
        (none))
       (none))
     (none))
    (none))
   (none))
  (none))
 (some (.tup [(.int .i64 x2), (.int .i64 (0 : Int))]))) := by kernel_rfl
theorem E_ref01_MinimumOn (N k : Nat) (x0 : List (List PV)) (x1 : Int) : ev (envF N) (k + 1) F_ref01_MinimumOn [(.sl none [.int .i64, .int .i64, .int .i64] x0), (.int .i64 x1)] =
 (cond (decide ((12 : Int) < ((List.length x0) : Int)))
 (some (.tup [(.int .i64 (0 : Int)), (.int .i64 (8 : Int))]))
 (L_ref01_MinimumOn_4 N k N  x0 x1 (0 : Int))) := by kernel_rfl

/-- Loop 4 of ref01_ListErr. -/
noncomputable def L_ref01_ListErr_4 (N k n4  : Nat) (x0 : List (List PV)) (x1 : Int) : Option PV := loopAt (envF N) (ev (envF N) k) F_ref01_ListErr Go.Proofs.Try.f75 [.r, .r, .l, .r, .b] n4 { slots := ((.sl none [.int .i64, .int .i64, .int .i64] x0) :: und 2 ((.int .i64 x1) :: und 18 [])), boxes := (nos 22 []), vers := List.replicate 22 0 }
theorem L_ref01_ListErr_4_eq (N k n4  : Nat) (x0 : List (List PV)) (x1 : Int) : L_ref01_ListErr_4 N k (n4 + 1)  x0 x1 =
 (cond (decide (x1 < ((List.length x0) : Int)))
 (cond (decide ((0 : Int) ≤ x1))
  (cond (decide (x1 < ((List.length x0) : Int)))
   ((ev (envF N) k F_ref01_FlowsErr [(.agg [(.int .i64 (asI (nth (nths x0 (Int.toNat x1)) 0))), (.int .i64 (asI (nth (nths x0 (Int.toNat x1)) 1))), (.int .i64 (asI (nth (nths x0 (Int.toNat x1)) 2)))])]).bind fun r4 =>
    cond (!(decide ((asI r4) = (0 : Int))))
     (some (.int .i64 (asI r4)))
     (L_ref01_ListErr_4 N k n4  x0 (w64 (x1 + (1 : Int)))))
   (none))
  (none))
 (some (.int .i64 (0 : Int)))) := by kernel_rfl
theorem E_ref01_ListErr (N k : Nat) (x0 : List (List PV)) : ev (envF N) (k + 1) F_ref01_ListErr [(.sl none [.int .i64, .int .i64, .int .i64] x0)] =
 (cond (decide ((200 : Int) < ((List.length x0) : Int)))
 (some (.int .i64 (8 : Int)))
 (L_ref01_ListErr_4 N k N  x0 (0 : Int))) := by kernel_rfl

end Go.PevTab
