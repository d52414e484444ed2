/- EQUATIONS OF FUNCTIONS, by the kernel's own reckoning; written by a program. -/
import Derived.Test.YtfjnpgbjcgjecaaPevNums
namespace Go.PevTab
open Go.Pev Go
set_option maxRecDepth 100000
set_option linter.unusedVariables false

/-- Loop 4 of ref01_RunOf. -/
noncomputable def L_ref01_RunOf_4 (N k n4  : Nat) (x0 : List (List PV)) (x1 : List (List PV)) (x2 : Int) (x3 : List (List PV)) (x4 : List (List PV)) (x5 : Int) (x6 : Int) (x7 : Int) (x8 : Int) (x9 : Int) (x10 : Int) (x11 : Int) : Option PV := loopAt (envF N) (ev (envF N) k) F_ref01_RunOf Go.Proofs.Try.f76 [.r, .r, .r, .l, .r, .b] n4 { slots := (und 2 ((.sl none [.int .i64, .int .i64, .int .i64] x0) :: (.ptr 3 0) :: (.ptr 4 0) :: und 2 ((.ptr 7 0) :: und 1 ((.sl (some (9, 0)) [.int .i64, .int .i64] x1) :: (.ptr 10 0) :: (.int .i64 x2) :: und 42 [])))), boxes := (nos 3 ((some (.cells [(.sl none [.int .i64, .int .i64] x3), (.sl none [.int .i64, .int .i64] x4), (.int .i64 x5)] false)) :: (some (.cells [(.int .i64 x6), (.int .i64 x7)] false)) :: nos 2 ((some (.cells [(.int .i64 x8), (.int .i64 x9)] false)) :: nos 2 ((some (.cells [(.int .i64 x10), (.int .i64 x11)] false)) :: nos 43 [])))), vers := List.replicate 54 0 }
theorem L_ref01_RunOf_4_eq (N k n4  : Nat) (x0 : List (List PV)) (x1 : List (List PV)) (x2 : Int) (x3 : List (List PV)) (x4 : List (List PV)) (x5 : Int) (x6 : Int) (x7 : Int) (x8 : Int) (x9 : Int) (x10 : Int) (x11 : Int) : L_ref01_RunOf_4 N k (n4 + 1)  x0 x1 x2 x3 x4 x5 x6 x7 x8 x9 x10 x11 =
 (cond (decide (x2 < ((List.length x0) : Int)))
 (cond (decide ((0 : Int) ≤ x2))
  (cond (decide (x2 < ((List.length x0) : Int)))
   ((ev (envF N) k F_ref01_Step [(.agg [(.sl none [.int .i64, .int .i64] x3), (.sl none [.int .i64, .int .i64] x4), (.int .i64 x5)]), (.agg [(.int .i64 x6), (.int .i64 x7)]), (.agg [(.int .i64 (asI (nth (nths x0 (Int.toNat x2)) 0))), (.int .i64 (asI (nth (nths x0 (Int.toNat x2)) 1))), (.int .i64 (asI (nth (nths x0 (Int.toNat x2)) 2)))])]).bind fun r4 =>
    cond (!(asB (nth (asT r4) 2)))
     (some (.tup [(.sl none [.int .i64, .int .i64] x1), (.agg [(.int .i64 x10), (.int .i64 x11)]), (.bool (false))]))
     (cond (room x1 [[(.int .i64 (asI (nth (asA (nth (asT r4) 0)) 0))), (.int .i64 (asI (nth (asA (nth (asT r4) 0)) 1)))]] 16)
      (L_ref01_RunOf_4 N k n4  x0 (x1 ++ [[(.int .i64 (asI (nth (asA (nth (asT r4) 0)) 0))), (.int .i64 (asI (nth (asA (nth (asT r4) 0)) 1)))]]) (w64 (x2 + (1 : Int))) x3 x4 x5 (asI (nth (asA (nth (asT r4) 0)) 0)) (asI (nth (asA (nth (asT r4) 0)) 1)) x8 x9 (w64 (x10 + (asI (nth (asA (nth (asT r4) 1)) 0)))) (w64 (x11 + (asI (nth (asA (nth (asT r4) 1)) 1)))))
      (none)))
   (none))
  (none))
 (some (.tup [(.sl none [.int .i64, .int .i64] x1), (.agg [(.int .i64 x10), (.int .i64 x11)]), (.bool (true))]))) := by kernel_rfl
theorem E_ref01_RunOf (N k : Nat) (x0 : List (List PV)) (x1 : List (List PV)) (x2 : Int) (x3 : Int) (x4 : Int) (x5 : List (List PV)) : ev (envF N) (k + 1) F_ref01_RunOf [(.agg [(.sl none [.int .i64, .int .i64] x0), (.sl none [.int .i64, .int .i64] x1), (.int .i64 x2)]), (.agg [(.int .i64 x3), (.int .i64 x4)]), (.sl none [.int .i64, .int .i64, .int .i64] x5)] =
 (L_ref01_RunOf_4 N k N  x5 [] (0 : Int) x0 x1 x2 x3 x4 (0 : Int) (0 : Int) (0 : Int) (0 : Int)) := by kernel_rfl

/-- Loop 4 of ref01_SameStates. -/
noncomputable def L_ref01_SameStates_4 (N k n4  : Nat) (x0 : List (List PV)) (x1 : List (List PV)) (x2 : Int) : Option PV := loopAt (envF N) (ev (envF N) k) F_ref01_SameStates Go.Proofs.Try.f77 [.r, .r, .l, .r, .b] n4 { slots := ((.sl none [.int .i64, .int .i64] x0) :: (.sl none [.int .i64, .int .i64] x1) :: und 3 ((.int .i64 x2) :: und 20 [])), boxes := (nos 26 []), vers := List.replicate 26 0 }
theorem L_ref01_SameStates_4_eq (N k n4  : Nat) (x0 : List (List PV)) (x1 : List (List PV)) (x2 : Int) : L_ref01_SameStates_4 N k (n4 + 1)  x0 x1 x2 =
 (cond (decide (x2 < ((List.length x0) : Int)))
 (cond (decide ((0 : Int) ≤ x2))
  (cond (decide (x2 < ((List.length x0) : Int)))
   (cond (decide ((0 : Int) ≤ x2))
    (cond (decide (x2 < ((List.length x1) : Int)))
     (cond (!((decide ((asI (nth (nths x0 (Int.toNat x2)) 0)) = (asI (nth (nths x1 (Int.toNat x2)) 0)))) && (decide ((asI (nth (nths x0 (Int.toNat x2)) 1)) = (asI (nth (nths x1 (Int.toNat x2)) 1))))))
      (some (.bool (false)))
      (L_ref01_SameStates_4 N k n4  x0 x1 (w64 (x2 + (1 : Int)))))
     (none))
    (none))
   (none))
  (none))
 (some (.bool (true)))) := by kernel_rfl
theorem E_ref01_SameStates (N k : Nat) (x0 : List (List PV)) (x1 : List (List PV)) : ev (envF N) (k + 1) F_ref01_SameStates [(.sl none [.int .i64, .int .i64] x0), (.sl none [.int .i64, .int .i64] x1)] =
 (cond (!(decide (((List.length x0) : Int) = ((List.length x1) : Int))))
 (some (.bool (false)))
 (L_ref01_SameStates_4 N k N  x0 x1 (0 : Int))) := by kernel_rfl

theorem E_ref01_StateErr (N k : Nat) (x0 : List (List PV)) (x1 : List (List PV)) (x2 : Int) (x3 : Int) (x4 : Int) : ev (envF N) (k + 1) F_ref01_StateErr [(.agg [(.sl none [.int .i64, .int .i64] x0), (.sl none [.int .i64, .int .i64] x1), (.int .i64 x2)]), (.agg [(.int .i64 x3), (.int .i64 x4)])] =
 ((ev (envF N) k F_ref01_IsVolume [(.agg [(.sl none [.int .i64, .int .i64] x0)]), (.int .i64 x3)]).bind fun r1 =>
 cond (!(asB r1))
  (some (.int .i64 (2 : Int)))
  ((ev (envF N) k F_ref01_IsVolume [(.agg [(.sl none [.int .i64, .int .i64] x1)]), (.int .i64 x4)]).bind fun r3 =>
   cond (!(asB r3))
    (some (.int .i64 (2 : Int)))
    (some (.int .i64 (0 : Int))))) := by kernel_rfl

theorem E_lake_openState (N k : Nat) (x0 : List (List PV)) (x1 : List (List PV)) (x2 : Int) (x3 : Int) (x4 : Int) : ev (envF N) (k + 1) F_lake_openState [(.agg [(.sl none [.int .i64, .int .i64] x0), (.sl none [.int .i64, .int .i64] x1), (.int .i64 x2)]), (.agg [(.int .i64 x3), (.int .i64 x4)])] =
 ((ev (envF N) k F_lake_openPair [(.agg [(.sl none [.int .i64, .int .i64] x0), (.sl none [.int .i64, .int .i64] x1), (.int .i64 x2)])]).bind fun r1 =>
 cond (decide ((asI (nth (asT r1) 1)) = (0 : Int)))
  ((ev (envF N) k F_lake_pair_stateErr [(.agg [(.sl none [.int .i64, .int .i64] (asL (nth (asA (nth (asT r1) 0)) 0))), (.sl none [.int .i64, .int .i64] (asL (nth (asA (nth (asT r1) 0)) 1))), (.int .i64 (asI (nth (asA (nth (asT r1) 0)) 2)))]), (.agg [(.int .i64 x3), (.int .i64 x4)])]).bind fun r3 =>
   some (.tup [(.agg [(.sl none [.int .i64, .int .i64] (asL (nth (asA (nth (asT r1) 0)) 0))), (.sl none [.int .i64, .int .i64] (asL (nth (asA (nth (asT r1) 0)) 1))), (.int .i64 (asI (nth (asA (nth (asT r1) 0)) 2)))]), (.int .i64 (asI r3))]))
  (some (.tup [(.agg [(.sl none [.int .i64, .int .i64] (asL (nth (asA (nth (asT r1) 0)) 0))), (.sl none [.int .i64, .int .i64] (asL (nth (asA (nth (asT r1) 0)) 1))), (.int .i64 (asI (nth (asA (nth (asT r1) 0)) 2)))]), (.int .i64 (asI (nth (asT r1) 1)))]))) := by kernel_rfl

theorem E_lake_table_bottom (N k : Nat) (x0 : List (List PV)) : ev (envF N) (k + 1) F_lake_table_bottom [(.agg [(.sl none [.int .i64, .int .i64] x0)])] =
 (cond (decide ((0 : Int) < ((List.length x0) : Int)))
 (some (.agg [(.int .i64 (asI (nth (nths x0 (Int.toNat (0 : Int))) 0))), (.int .i64 (asI (nth (nths x0 (Int.toNat (0 : Int))) 1)))]))
 (none)) := by kernel_rfl

theorem E_lake_table_top (N k : Nat) (x0 : List (List PV)) : ev (envF N) (k + 1) F_lake_table_top [(.agg [(.sl none [.int .i64, .int .i64] x0)])] =
 (cond (decide ((0 : Int) ≤ (w64 (((List.length x0) : Int) - (1 : Int)))))
 (cond (decide ((w64 (((List.length x0) : Int) - (1 : Int))) < ((List.length x0) : Int)))
  (some (.agg [(.int .i64 (asI (nth (nths x0 (Int.toNat (w64 ((x0.length : Int) - (1 : Int))))) 0))), (.int .i64 (asI (nth (nths x0 (Int.toNat (w64 ((x0.length : Int) - (1 : Int))))) 1)))]))
  (none))
 (none)) := by kernel_rfl

/-- Loop 2 of lake_first. -/
noncomputable def L_lake_first_2 (N k n2  : Nat) (x0 : List (List PV)) (x1 : Int) (x2 : Int) : Option PV := loopAt (envF N) (ev (envF N) k) F_lake_first Go.Proofs.Try.f84 [.r, .l, .r, .b] n2 { slots := (und 5 ((.sl none [.int .i64] x0) :: (.int .i64 x1) :: (.int .i64 x2) :: und 7 [])), boxes := (nos 15 []), vers := List.replicate 15 0 }
theorem L_lake_first_2_eq (N k n2  : Nat) (x0 : List (List PV)) (x1 : Int) (x2 : Int) : L_lake_first_2 N k (n2 + 1)  x0 x1 x2 =
 (cond (decide (x2 < x1))
 (cond (decide ((0 : Int) ≤ x2))
  (cond (decide (x2 < ((List.length x0) : Int)))
   (cond (!(decide ((asI (nth (nths x0 (Int.toNat x2)) 0)) = (0 : Int))))
    (some (.int .i64 (asI (nth (nths x0 (Int.toNat x2)) 0))))
    (L_lake_first_2 N k n2  x0 x1 (w64 (x2 + (1 : Int)))))
   (none))
  (none))
 (some (.int .i64 (0 : Int)))) := by kernel_rfl
theorem E_lake_first (N k : Nat) (x0 : List (List PV)) : ev (envF N) (k + 1) F_lake_first [(.sl none [.int .i64] x0)] =
 (L_lake_first_2 N k N  x0 ((List.length x0) : Int) (0 : Int)) := by kernel_rfl

theorem E_lake_flowsErr (N k : Nat) (x0 : Int) (x1 : Int) (x2 : Int) : ev (envF N) (k + 1) F_lake_flowsErr [(.agg [(.int .i64 x0), (.int .i64 x1), (.int .i64 x2)])] =
 ((ev (envF N) k F_lake_flowsErr_c1 [(.int .i64 x0)]).bind fun r1 =>
 cond (asB r1)
  ((ev (envF N) k F_lake_flowsErr_c1 [(.int .i64 x1)]).bind fun r3 =>
   cond (asB r3)
    ((ev (envF N) k F_lake_within [(.int .i64 x2), (.int .i64 (-10000000 : Int)), (.int .i64 (10000000 : Int))]).bind fun r5 =>
     (ev (envF N) k F_lake_unless [(.bool (asB r5)), (.int .i64 (2 : Int))]).bind fun r6 =>
      some (.int .i64 (asI r6)))
    ((ev (envF N) k F_lake_unless [(.bool (false)), (.int .i64 (2 : Int))]).bind fun r5 =>
     some (.int .i64 (asI r5))))
  ((ev (envF N) k F_lake_unless [(.bool (false)), (.int .i64 (2 : Int))]).bind fun r3 =>
   some (.int .i64 (asI r3)))) := by kernel_rfl

theorem E_lake_pair_step (N k : Nat) (x0 : List (List PV)) (x1 : List (List PV)) (x2 : Int) (x3 : Int) (x4 : Int) (x5 : Int) (x6 : Int) (x7 : Int) : ev (envF (N + 3)) (k + 1) F_lake_pair_step [(.agg [(.sl none [.int .i64, .int .i64] x0), (.sl none [.int .i64, .int .i64] x1), (.int .i64 x2)]), (.agg [(.int .i64 x3), (.int .i64 x4)]), (.agg [(.int .i64 x5), (.int .i64 x6), (.int .i64 x7)])] =
 ((ev (envF (N + 3)) k F_lake_table_evaporated [(.agg [(.sl none [.int .i64, .int .i64] x0)]), (.int .i64 x3), (.int .i64 x2)]).bind fun r1 =>
 (ev (envF (N + 3)) k F_lake_table_bottom [(.agg [(.sl none [.int .i64, .int .i64] x0)])]).bind fun r2 =>
  cond (decide ((w64 (x3 + (w64 ((w64 (x5 + x7)) - (asI r1))))) < (asI (nth (asA r2) 1))))
   (some (.tup [(.agg [(.int .i64 (0 : Int)), (.int .i64 (0 : Int))]), (.agg [(.int .i64 (0 : Int)), (.int .i64 (0 : Int))]), (.bool (false))]))
   ((ev (envF (N + 3)) k F_lake_table_top [(.agg [(.sl none [.int .i64, .int .i64] x0)])]).bind fun r4 =>
    (ev (envF (N + 3)) k F_lake_table_evaporated [(.agg [(.sl none [.int .i64, .int .i64] x1)]), (.int .i64 x4), (.int .i64 x2)]).bind fun r5 =>
     (ev (envF (N + 3)) k F_lake_table_bottom [(.agg [(.sl none [.int .i64, .int .i64] x1)])]).bind fun r6 =>
      cond (decide ((w64 (x4 + (w64 ((w64 (x6 - x7)) - (asI r5))))) < (asI (nth (asA r6) 1))))
       (some (.tup [(.agg [(.int .i64 (0 : Int)), (.int .i64 (0 : Int))]), (.agg [(.int .i64 (0 : Int)), (.int .i64 (0 : Int))]), (.bool (false))]))
       ((ev (envF (N + 3)) k F_lake_table_top [(.agg [(.sl none [.int .i64, .int .i64] x1)])]).bind fun r8 =>
        some (.tup [(.agg [(.int .i64 (w64 ((w64 (x3 + (w64 ((w64 (x5 + x7)) - (asI r1))))) - ((imax (0 : Int) (w64 ((w64 (x3 + (w64 ((w64 (x5 + x7)) - (asI r1))))) - (asI (nth (asA r4) 1))))))))), (.int .i64 (w64 ((w64 (x4 + (w64 ((w64 (x6 - x7)) - (asI r5))))) - ((imax (0 : Int) (w64 ((w64 (x4 + (w64 ((w64 (x6 - x7)) - (asI r5))))) - (asI (nth (asA r8) 1)))))))))]), (.agg [(.int .i64 (w64 ((w64 ((0 : Int) + (asI r1))) + (asI r5)))), (.int .i64 (w64 ((w64 ((0 : Int) + ((imax (0 : Int) (w64 ((w64 (x3 + (w64 ((w64 (x5 + x7)) - (asI r1))))) - (asI (nth (asA r4) 1)))))))) + ((imax (0 : Int) (w64 ((w64 (x4 + (w64 ((w64 (x6 - x7)) - (asI r5))))) - (asI (nth (asA r8) 1)))))))))]), (.bool (true))])))) := by kernel_rfl

theorem E_lake_unless (N k : Nat) (x0 : Bool) (x1 : Int) : ev (envF N) (k + 1) F_lake_unless [(.bool x0), (.int .i64 x1)] =
 (cond x0
 (some (.int .i64 (0 : Int)))
 (some (.int .i64 x1))) := by kernel_rfl

theorem E_lake_tableErr (N k : Nat) (x0 : List (List PV)) : ev (envF N) (k + 1) F_lake_tableErr [(.agg [(.sl none [.int .i64, .int .i64] x0)])] =
 ((ev (envF N) k F_lake_CheckTable [(.agg [(.sl none [.int .i64, .int .i64] x0)])]).bind fun r1 =>
 some (.int .i64 (asI (nth (asT r1) 1)))) := by kernel_rfl

theorem E_lake_within (N k : Nat) (x0 : Int) (x1 : Int) (x2 : Int) : ev (envF N) (k + 1) F_lake_within [(.int .i64 x0), (.int .i64 x1), (.int .i64 x2)] =
 (cond (decide (x1 ≤ x0))
 (some (.bool (decide (x0 ≤ x2))))
 (some (.bool (false)))) := by kernel_rfl

theorem E_ref01_Bottom (N k : Nat) (x0 : List (List PV)) : ev (envF N) (k + 1) F_ref01_Bottom [(.agg [(.sl none [.int .i64, .int .i64] x0)])] =
 (cond (decide ((0 : Int) < ((List.length x0) : Int)))
 (some (.agg [(.int .i64 (asI (nth (nths x0 (Int.toNat (0 : Int))) 0))), (.int .i64 (asI (nth (nths x0 (Int.toNat (0 : Int))) 1)))]))
 (none)) := by kernel_rfl

theorem E_ref01_evaporated (N k : Nat) (x0 : List (List PV)) (x1 : Int) (x2 : Int) : ev (envF N) (k + 1) F_ref01_evaporated [(.agg [(.sl none [.int .i64, .int .i64] x0)]), (.int .i64 x1), (.int .i64 x2)] =
 ((ev (envF N) k F_ref01_above [(.agg [(.sl none [.int .i64, .int .i64] x0)]), (.int .i64 x2)]).bind fun r1 =>
 (ev (envF N) k F_base_RatioInt [(.int .i64 x1)]).bind fun r2 =>
  (ev (envF N) k F_ref01_piece [(.agg [(.sl none [.int .i64, .int .i64] x0)]), (.int .i64 (asI r1))]).bind fun r3 =>
   (ev (envF N) k F_base_RatioMul [(.agg [(.int .i64 (asI (nth (asA r2) 0))), (.sl none [.int .i64] (asL (nth (asA r2) 1))), (.int .i64 (asI (nth (asA r2) 2))), (.sl none [.int .i64] (asL (nth (asA r2) 3)))]), (.agg [(.int .i64 (asI (nth (asA r3) 0))), (.sl none [.int .i64] (asL (nth (asA r3) 1))), (.int .i64 (asI (nth (asA r3) 2))), (.sl none [.int .i64] (asL (nth (asA r3) 3)))])]).bind fun r4 =>
    (ev (envF N) k F_base_RatioInt [(.int .i64 (1000 : Int))]).bind fun r5 =>
     (ev (envF N) k F_base_RatioDiv [(.agg [(.int .i64 (asI (nth (asA r4) 0))), (.sl none [.int .i64] (asL (nth (asA r4) 1))), (.int .i64 (asI (nth (asA r4) 2))), (.sl none [.int .i64] (asL (nth (asA r4) 3)))]), (.agg [(.int .i64 (asI (nth (asA r5) 0))), (.sl none [.int .i64] (asL (nth (asA r5) 1))), (.int .i64 (asI (nth (asA r5) 2))), (.sl none [.int .i64] (asL (nth (asA r5) 3)))])]).bind fun r6 =>
      (ev (envF N) k F_ref01_rounded [(.agg [(.int .i64 (asI (nth (asA r6) 0))), (.sl none [.int .i64] (asL (nth (asA r6) 1))), (.int .i64 (asI (nth (asA r6) 2))), (.sl none [.int .i64] (asL (nth (asA r6) 3)))])]).bind fun r7 =>
       (ev (envF N) k F_ref01_Bottom [(.agg [(.sl none [.int .i64, .int .i64] x0)])]).bind fun r8 =>
        some (.int .i64 ((imin (asI (nth (asA r7) 0)) (w64 (x2 - (asI (nth (asA r8) 1)))))))) := by kernel_rfl

/-- Loop 10 of lake_permitted. -/
noncomputable def L_lake_permitted_10 (N k n10  : Nat) (x0 : List (List PV)) (x1 : List (List PV)) (x2 : List (List PV)) (x3 : Int) (x4 : Int) (x5 : List (List PV)) (x6 : List (List PV)) : Option PV := loopAt (envF N) (ev (envF N) k) F_lake_permitted Go.Proofs.Try.f92 [.r, .r, .r, .r, .r, .l, .r, .b] n10 { slots := (und 1 ((.sl none [.int .i64] x0) :: und 7 ((.ptr 9 0) :: und 1 ((.sl (some (11, 0)) [.int .i64, .int .i64] x1) :: und 23 ((.sl none [.int .i64, .int .i64, .int .i64] x2) :: (.int .i64 x3) :: (.int .i64 x4) :: und 38 []))))), boxes := (nos 3 ((some (.cells [(.sl none [.int .i64, .int .i64] x5)] false)) :: nos 5 ((some (.cells [(.sl none [.int .i64, .int .i64] x6)] false)) :: nos 66 []))), vers := List.replicate 76 0 }
/-- Loop 14 of lake_permitted. -/
noncomputable def L_lake_permitted_14 (N k n14 n10 : Nat) (x0 : List (List PV)) (x1 : List (List PV)) (x2 : Int) (x3 : List (List PV)) (x4 : Int) (x5 : Int) (x6 : List (List PV)) (x7 : Int) (x8 : Int) (x9 : List (List PV)) (x10 : List (List PV)) (x11 : Int) (x12 : Int) (x13 : Int) : Option PV := loopAt (envF N) (ev (envF N) k) F_lake_permitted Go.Proofs.Try.f92 [.r, .r, .r, .r, .r, .l, .r, .b, .p n10, .r, .r, .l, .b, .r, .r, .l, .r, .b] n14 { slots := (und 1 ((.sl none [.int .i64] x0) :: und 7 ((.ptr 9 0) :: und 1 ((.sl (some (11, 0)) [.int .i64, .int .i64] x1) :: und 1 ((.ptr 13 0) :: (.int .i64 x2) :: und 20 ((.sl none [.int .i64, .int .i64, .int .i64] x3) :: (.int .i64 x4) :: (.int .i64 x5) :: und 6 ((.sl none [.int .i64] x6) :: (.int .i64 x7) :: (.int .i64 x8) :: und 29 []))))))), boxes := (nos 3 ((some (.cells [(.sl none [.int .i64, .int .i64] x9)] false)) :: nos 5 ((some (.cells [(.sl none [.int .i64, .int .i64] x10)] false)) :: nos 3 ((some (.cells [(.int .i64 x11), (.int .i64 x12), (.int .i64 x13)] false)) :: nos 62 [])))), vers := List.replicate 76 0 }
theorem L_lake_permitted_10_eq (N k n10  : Nat) (x0 : List (List PV)) (x1 : List (List PV)) (x2 : List (List PV)) (x3 : Int) (x4 : Int) (x5 : List (List PV)) (x6 : List (List PV)) : L_lake_permitted_10 N k (n10 + 1)  x0 x1 x2 x3 x4 x5 x6 =
 (cond (decide (x4 < x3))
 (cond (decide ((0 : Int) ≤ x4))
  (cond (decide (x4 < ((List.length x2) : Int)))
   (cond (decide ((0 : Int) ≤ (asI (nth (nths x2 (Int.toNat x4)) 0))))
    (cond (decide ((asI (nth (nths x2 (Int.toNat x4)) 0)) ≤ ((List.length x0) : Int)))
     (L_lake_permitted_14 N k N n10 x0 x1 (0 : Int) x2 x3 x4 (List.drop 0 (List.take (Int.toNat (asI (nth (nths x2 (Int.toNat x4)) 0))) x0)) ((List.length (List.drop 0 (List.take (Int.toNat (asI (nth (nths x2 (Int.toNat x4)) 0))) x0))) : Int) (0 : Int) x5 x6 (asI (nth (nths x2 (Int.toNat x4)) 0)) (asI (nth (nths x2 (Int.toNat x4)) 1)) (asI (nth (nths x2 (Int.toNat x4)) 2)))
     (none))
    (none))
   (none))
  (none))
 (some (.tup [(.sl none [.int .i64, .int .i64] x1), (.int .i64 (0 : Int))]))) := by kernel_rfl
theorem L_lake_permitted_14_eq (N k n14 n10 : Nat) (x0 : List (List PV)) (x1 : List (List PV)) (x2 : Int) (x3 : List (List PV)) (x4 : Int) (x5 : Int) (x6 : List (List PV)) (x7 : Int) (x8 : Int) (x9 : List (List PV)) (x10 : List (List PV)) (x11 : Int) (x12 : Int) (x13 : Int) : L_lake_permitted_14 N k (n14 + 1) n10 x0 x1 x2 x3 x4 x5 x6 x7 x8 x9 x10 x11 x12 x13 =
 (cond (decide (x8 < x7))
 (cond (decide ((0 : Int) ≤ x8))
  (cond (decide (x8 < ((List.length x6) : Int)))
   (L_lake_permitted_14 N k n14 n10 x0 x1 (w64 (x2 + (asI (nth (nths x6 (Int.toNat x8)) 0)))) x3 x4 x5 x6 x7 (w64 (x8 + (1 : Int))) x9 x10 x11 x12 x13)
   (none))
  (none))
 ((ev (envF N) k F_lake_table_volumeAt [(.agg [(.sl none [.int .i64, .int .i64] x10)]), (.int .i64 x12)]).bind fun r2 =>
  (ev (envF N) k F_lake_table_volumeAt [(.agg [(.sl none [.int .i64, .int .i64] x10)]), (.int .i64 x13)]).bind fun r3 =>
   cond (room x1 [[(.int .i64 (w64 ((asI (nth (asA r2) 1)) - x2))), (.int .i64 (w64 ((asI (nth (asA r3) 0)) - x2)))]] 16)
    (L_lake_permitted_10 N k n10  x0 (x1 ++ [[(.int .i64 (w64 ((asI (nth (asA r2) 1)) - x2))), (.int .i64 (w64 ((asI (nth (asA r3) 0)) - x2)))]]) x3 x4 (w64 (x5 + (1 : Int))) x9 x10)
    (none))) := by kernel_rfl
theorem E_lake_permitted (N k : Nat) (x0 : List (List PV)) (x1 : List (List PV)) (x2 : List (List PV)) : ev (envF N) (k + 1) F_lake_permitted [(.agg [(.sl none [.int .i64, .int .i64] x0)]), (.sl none [.int .i64] x1), (.sl none [.int .i64, .int .i64, .int .i64] x2)] =
 ((ev (envF N) k F_lake_tableErr [(.agg [(.sl none [.int .i64, .int .i64] x0)])]).bind fun r1 =>
 (ev (envF N) k F_lake_netErr [(.sl none [.int .i64] x1)]).bind fun r2 =>
  (ev (envF N) k F_lake_first [(.sl none [.int .i64] [[(.int .i64 (asI r1))], [(.int .i64 (asI r2))]])]).bind fun r3 =>
   cond (!(decide ((asI r3) = (0 : Int))))
    (some (.tup [(.sl none [.int .i64, .int .i64] []), (.int .i64 (asI r3))]))
    ((ev (envF N) k F_lake_table_readingsErr [(.agg [(.sl none [.int .i64, .int .i64] x0)]), (.sl none [.int .i64] x1), (.sl none [.int .i64, .int .i64, .int .i64] x2)]).bind fun r5 =>
     cond (!(decide ((asI r5) = (0 : Int))))
      (some (.tup [(.sl none [.int .i64, .int .i64] []), (.int .i64 (asI r5))]))
      (L_lake_permitted_10 N k N  x1 [] x2 ((List.length x2) : Int) (0 : Int) x0 x0))) := by kernel_rfl

/-- Loop 3 of lake_common. -/
noncomputable def L_lake_common_3 (N k n3  : Nat) (x0 : List (List PV)) (x1 : Int) (x2 : Int) (x3 : Int) (x4 : Int) (x5 : Int) (x6 : Int) : Option PV := loopAt (envF N) (ev (envF N) k) F_lake_common Go.Proofs.Try.f93 [.r, .r, .l, .r, .b] n3 { slots := (und 2 ((.ptr 2 0) :: und 1 ((.ptr 4 0) :: und 6 ((.sl none [.int .i64, .int .i64] x0) :: (.int .i64 x1) :: (.int .i64 x2) :: und 21 [])))), boxes := (nos 2 ((some (.cells [(.int .i64 x3), (.int .i64 x4)] false)) :: nos 1 ((some (.cells [(.int .i64 x5), (.int .i64 x6)] false)) :: nos 30 []))), vers := List.replicate 35 0 }
theorem L_lake_common_3_eq (N k n3  : Nat) (x0 : List (List PV)) (x1 : Int) (x2 : Int) (x3 : Int) (x4 : Int) (x5 : Int) (x6 : Int) : L_lake_common_3 N k (n3 + 1)  x0 x1 x2 x3 x4 x5 x6 =
 (cond (decide (x2 < x1))
 (cond (decide ((0 : Int) ≤ x2))
  (cond (decide (x2 < ((List.length x0) : Int)))
   (L_lake_common_3 N k n3  x0 x1 (w64 (x2 + (1 : Int))) x3 x4 ((imax x5 (asI (nth (nths x0 (Int.toNat x2)) 0)))) ((imin x6 (asI (nth (nths x0 (Int.toNat x2)) 1)))))
   (none))
  (none))
 (some (.tup [(.agg [(.int .i64 x5), (.int .i64 x6)]), (.bool (decide (x5 ≤ x6)))]))) := by kernel_rfl
theorem E_lake_common (N k : Nat) (x0 : List (List PV)) : ev (envF N) (k + 1) F_lake_common [(.sl none [.int .i64, .int .i64] x0)] =
 (cond (decide ((0 : Int) < ((List.length x0) : Int)))
 (cond (decide ((1 : Int) ≤ ((List.length x0) : Int)))
  (L_lake_common_3 N k N  (List.drop (Int.toNat (1 : Int)) (List.take (List.length x0) x0)) ((List.length (List.drop (Int.toNat (1 : Int)) (List.take (List.length x0) x0))) : Int) (0 : Int) (0 : Int) (0 : Int) (asI (nth (nths x0 (Int.toNat (0 : Int))) 0)) (asI (nth (nths x0 (Int.toNat (0 : Int))) 1)))
  (none))
 (none)) := by kernel_rfl

/-- Loop 4 of ref01_NetErr. -/
noncomputable def L_ref01_NetErr_4 (N k n4  : Nat) (x0 : List (List PV)) (x1 : Int) : Option PV := loopAt (envF N) (ev (envF N) k) F_ref01_NetErr Go.Proofs.Try.f94 [.r, .r, .l, .r, .b] n4 { slots := ((.sl none [.int .i64] x0) :: und 2 ((.int .i64 x1) :: und 15 [])), boxes := (nos 19 []), vers := List.replicate 19 0 }
theorem L_ref01_NetErr_4_eq (N k n4  : Nat) (x0 : List (List PV)) (x1 : Int) : L_ref01_NetErr_4 N k (n4 + 1)  x0 x1 =
 (cond (decide (x1 < ((List.length x0) : Int)))
 (cond (decide ((0 : Int) ≤ x1))
  (cond (decide (x1 < ((List.length x0) : Int)))
   ((ev (envF N) k F_base_Within [(.int .i64 (asI (nth (nths x0 (Int.toNat x1)) 0))), (.int .i64 (-10000000 : Int)), (.int .i64 (10000000 : Int))]).bind fun r4 =>
    cond (!(asB r4))
     (some (.int .i64 (2 : Int)))
     (L_ref01_NetErr_4 N k n4  x0 (w64 (x1 + (1 : Int)))))
   (none))
  (none))
 (some (.int .i64 (0 : Int)))) := by kernel_rfl
theorem E_ref01_NetErr (N k : Nat) (x0 : List (List PV)) : ev (envF N) (k + 1) F_ref01_NetErr [(.sl none [.int .i64] x0)] =
 (cond (decide ((200 : Int) < ((List.length x0) : Int)))
 (some (.int .i64 (8 : Int)))
 (L_ref01_NetErr_4 N k N  x0 (0 : Int))) := by kernel_rfl

/-- Loop 6 of ref01_ReadingsErr. -/
noncomputable def L_ref01_ReadingsErr_6 (N k n6  : Nat) (x0 : List (List PV)) (x1 : List (List PV)) (x2 : Int) (x3 : List (List PV)) : Option PV := loopAt (envF N) (ev (envF N) k) F_ref01_ReadingsErr Go.Proofs.Try.f95 [.r, .r, .r, .l, .r, .b] n6 { slots := (und 1 ((.sl none [.int .i64] x0) :: (.sl none [.int .i64, .int .i64, .int .i64] x1) :: (.ptr 3 0) :: und 3 ((.int .i64 x2) :: und 56 []))), boxes := (nos 3 ((some (.cells [(.sl none [.int .i64, .int .i64] x3)] false)) :: nos 60 [])), vers := List.replicate 64 0 }
theorem L_ref01_ReadingsErr_6_eq (N k n6  : Nat) (x0 : List (List PV)) (x1 : List (List PV)) (x2 : Int) (x3 : List (List PV)) : L_ref01_ReadingsErr_6 N k (n6 + 1)  x0 x1 x2 x3 =
 (cond (decide (x2 < ((List.length x1) : Int)))
 (cond (decide ((0 : Int) ≤ x2))
  (cond (decide (x2 < ((List.length x1) : Int)))
   ((ev (envF N) k F_base_Within [(.int .i64 (asI (nth (nths x1 (Int.toNat x2)) 0))), (.int .i64 (0 : Int)), (.int .i64 ((List.length x0) : Int))]).bind fun r4 =>
    cond (!(asB r4))
     (some (.int .i64 (2 : Int)))
     (cond (decide ((0 : Int) ≤ x2))
      (cond (decide (x2 < ((List.length x1) : Int)))
       ((ev (envF N) k F_ref01_IsLevel [(.agg [(.sl none [.int .i64, .int .i64] x3)]), (.int .i64 (asI (nth (nths x1 (Int.toNat x2)) 1)))]).bind fun r8 =>
        cond (!(asB r8))
         (some (.int .i64 (2 : Int)))
         (cond (decide ((0 : Int) ≤ x2))
          (cond (decide (x2 < ((List.length x1) : Int)))
           ((ev (envF N) k F_ref01_IsLevel [(.agg [(.sl none [.int .i64, .int .i64] x3)]), (.int .i64 (asI (nth (nths x1 (Int.toNat x2)) 2)))]).bind fun r12 =>
            cond (!(asB r12))
             (some (.int .i64 (2 : Int)))
             (cond (decide ((0 : Int) ≤ x2))
              (cond (decide (x2 < ((List.length x1) : Int)))
               (cond (decide ((0 : Int) ≤ x2))
                (cond (decide (x2 < ((List.length x1) : Int)))
                 (cond (decide ((asI (nth (nths x1 (Int.toNat x2)) 2)) < (asI (nth (nths x1 (Int.toNat x2)) 1))))
                  (some (.int .i64 (9 : Int)))
                  (L_ref01_ReadingsErr_6 N k n6  x0 x1 (w64 (x2 + (1 : Int))) x3))
                 (none))
                (none))
               (none))
              (none)))
           (none))
          (none)))
       (none))
      (none)))
   (none))
  (none))
 (some (.int .i64 (0 : Int)))) := by kernel_rfl
theorem E_ref01_ReadingsErr (N k : Nat) (x0 : List (List PV)) (x1 : List (List PV)) (x2 : List (List PV)) : ev (envF N) (k + 1) F_ref01_ReadingsErr [(.agg [(.sl none [.int .i64, .int .i64] x0)]), (.sl none [.int .i64] x1), (.sl none [.int .i64, .int .i64, .int .i64] x2)] =
 (cond (decide (((List.length x2) : Int) = (0 : Int)))
 (some (.int .i64 (10 : Int)))
 (cond (decide ((10 : Int) < ((List.length x2) : Int)))
  (some (.int .i64 (8 : Int)))
  (L_ref01_ReadingsErr_6 N k N  x1 x2 (0 : Int) x0))) := by kernel_rfl

/-- Loop 3 of ref01_permitted. -/
noncomputable def L_ref01_permitted_3 (N k n3  : Nat) (x0 : List (List PV)) (x1 : Int) (x2 : Int) (x3 : List (List PV)) (x4 : Int) (x5 : Int) (x6 : Int) (x7 : Int) (x8 : Int) : Option PV := loopAt (envF N) (ev (envF N) k) F_ref01_permitted Go.Proofs.Try.f96 [.r, .r, .l, .r, .b] n3 { slots := (und 1 ((.sl none [.int .i64] x0) :: und 1 ((.ptr 3 0) :: und 1 ((.ptr 5 0) :: (.ptr 6 0) :: (.int .i64 x1) :: (.int .i64 x2) :: und 29 [])))), boxes := (nos 3 ((some (.cells [(.sl none [.int .i64, .int .i64] x3)] false)) :: nos 1 ((some (.cells [(.int .i64 x4), (.int .i64 x5), (.int .i64 x6)] false)) :: (some (.cells [(.int .i64 x7), (.int .i64 x8)] false)) :: nos 31 []))), vers := List.replicate 38 0 }
theorem L_ref01_permitted_3_eq (N k n3  : Nat) (x0 : List (List PV)) (x1 : Int) (x2 : Int) (x3 : List (List PV)) (x4 : Int) (x5 : Int) (x6 : Int) (x7 : Int) (x8 : Int) : L_ref01_permitted_3 N k (n3 + 1)  x0 x1 x2 x3 x4 x5 x6 x7 x8 =
 (cond (decide (x2 < x4))
 (cond (decide ((0 : Int) ≤ x2))
  (cond (decide (x2 < ((List.length x0) : Int)))
   (L_ref01_permitted_3 N k n3  x0 (w64 (x1 + (asI (nth (nths x0 (Int.toNat x2)) 0)))) (w64 (x2 + (1 : Int))) x3 x4 x5 x6 x7 x8)
   (none))
  (none))
 ((ev (envF N) k F_ref01_VolumeAt [(.agg [(.sl none [.int .i64, .int .i64] x3)]), (.int .i64 x5)]).bind fun r2 =>
  (ev (envF N) k F_ref01_VolumeAt [(.agg [(.sl none [.int .i64, .int .i64] x3)]), (.int .i64 x6)]).bind fun r3 =>
   some (.agg [(.int .i64 (w64 ((asI (nth (asA r2) 1)) - x1))), (.int .i64 (w64 ((asI (nth (asA r3) 0)) - x1)))]))) := by kernel_rfl
theorem E_ref01_permitted (N k : Nat) (x0 : List (List PV)) (x1 : List (List PV)) (x2 : Int) (x3 : Int) (x4 : Int) : ev (envF N) (k + 1) F_ref01_permitted [(.agg [(.sl none [.int .i64, .int .i64] x0)]), (.sl none [.int .i64] x1), (.agg [(.int .i64 x2), (.int .i64 x3), (.int .i64 x4)])] =
 (L_ref01_permitted_3 N k N  x1 (0 : Int) (0 : Int) x0 x2 x3 x4 (0 : Int) (0 : Int)) := by kernel_rfl

theorem E_lake_openVolume (N k : Nat) (x0 : List (List PV)) (x1 : Int) : ev (envF N) (k + 1) F_lake_openVolume [(.agg [(.sl none [.int .i64, .int .i64] x0)]), (.int .i64 x1)] =
 ((ev (envF N) k F_lake_tableErr [(.agg [(.sl none [.int .i64, .int .i64] x0)])]).bind fun r1 =>
 cond (!(decide ((asI r1) = (0 : Int))))
  (some (.tup [(.agg [(.sl none [.int .i64, .int .i64] [])]), (.int .i64 (asI r1))]))
  ((ev (envF N) k F_lake_table_holds [(.agg [(.sl none [.int .i64, .int .i64] x0)]), (.int .i64 x1)]).bind fun r3 =>
   (ev (envF N) k F_lake_unless [(.bool (asB r3)), (.int .i64 (2 : Int))]).bind fun r4 =>
    some (.tup [(.agg [(.sl none [.int .i64, .int .i64] x0)]), (.int .i64 (asI r4))]))) := by kernel_rfl

theorem E_lake_table_levelAt (N k : Nat) (x0 : List (List PV)) (x1 : Int) : ev (envF N) (k + 1) F_lake_table_levelAt [(.agg [(.sl none [.int .i64, .int .i64] x0)]), (.int .i64 x1)] =
 ((ev (envF N) k F_lake_table_byVolume [(.agg [(.sl none [.int .i64, .int .i64] x0)]), (.int .i64 x1)]).bind fun r1 =>
 (ev (envF N) k F_lake_piece_height [(.agg [(.int .i64 (asI (nth (asA r1) 0))), (.int .i64 (asI (nth (asA r1) 1))), (.int .i64 (asI (nth (asA r1) 2))), (.int .i64 (asI (nth (asA r1) 3)))])]).bind fun r2 =>
  (ev (envF N) k F_lake_piece_volume [(.agg [(.int .i64 (asI (nth (asA r1) 0))), (.int .i64 (asI (nth (asA r1) 1))), (.int .i64 (asI (nth (asA r1) 2))), (.int .i64 (asI (nth (asA r1) 3)))])]).bind fun r3 =>
   cond (!(decide ((asI r3) = (0 : Int))))
    ((ev (envF N) k F_lake_piece_volume [(.agg [(.int .i64 (asI (nth (asA r1) 0))), (.int .i64 (asI (nth (asA r1) 1))), (.int .i64 (asI (nth (asA r1) 2))), (.int .i64 (asI (nth (asA r1) 3)))])]).bind fun r5 =>
     cond (!(decide ((asI r5) = (0 : Int))))
      ((ev (envF N) k F_lake_piece_volume [(.agg [(.int .i64 (asI (nth (asA r1) 0))), (.int .i64 (asI (nth (asA r1) 1))), (.int .i64 (asI (nth (asA r1) 2))), (.int .i64 (asI (nth (asA r1) 3)))])]).bind fun r7 =>
       some (.agg [(.int .i64 (w64 ((asI (nth (asA r1) 0)) + (w64 (Int.tdiv (w64 ((w64 (x1 - (asI (nth (asA r1) 1)))) * (asI r2))) (asI r3)))))), (.int .i64 (Int.tmod (w64 ((w64 (x1 - (asI (nth (asA r1) 1)))) * (asI r2))) (asI r5))), (.int .i64 (asI r7))]))
      (none))
    (none)) := by kernel_rfl

/-- Loop 4 of lake_ticksErr. -/
noncomputable def L_lake_ticksErr_4 (N k n4  : Nat) (x0 : List (List PV)) (x1 : Int) (x2 : Int) : Option PV := loopAt (envF N) (ev (envF N) k) F_lake_ticksErr Go.Proofs.Try.f100 [.r, .r, .l, .r, .b] n4 { slots := (und 9 ((.sl none [.int .i64, .int .i64, .int .i64] x0) :: (.int .i64 x1) :: (.int .i64 x2) :: und 9 [])), boxes := (nos 21 []), vers := List.replicate 21 0 }
theorem L_lake_ticksErr_4_eq (N k n4  : Nat) (x0 : List (List PV)) (x1 : Int) (x2 : Int) : L_lake_ticksErr_4 N k (n4 + 1)  x0 x1 x2 =
 (cond (decide (x2 < x1))
 (cond (decide ((0 : Int) ≤ x2))
  (cond (decide (x2 < ((List.length x0) : Int)))
   ((ev (envF N) k F_lake_flowsErr [(.agg [(.int .i64 (asI (nth (nths x0 (Int.toNat x2)) 0))), (.int .i64 (asI (nth (nths x0 (Int.toNat x2)) 1))), (.int .i64 (asI (nth (nths x0 (Int.toNat x2)) 2)))])]).bind fun r4 =>
    cond (!(decide ((asI r4) = (0 : Int))))
     (some (.int .i64 (asI r4)))
     (L_lake_ticksErr_4 N k n4  x0 x1 (w64 (x2 + (1 : Int)))))
   (none))
  (none))
 (some (.int .i64 (0 : Int)))) := by kernel_rfl
theorem E_lake_ticksErr (N k : Nat) (x0 : List (List PV)) : ev (envF N) (k + 1) F_lake_ticksErr [(.sl none [.int .i64, .int .i64, .int .i64] x0)] =
 (cond (decide ((200 : Int) < ((List.length x0) : Int)))
 (some (.int .i64 (8 : Int)))
 (L_lake_ticksErr_4 N k N  x0 ((List.length x0) : Int) (0 : Int))) := by kernel_rfl

theorem E_lake_piece_height (N k : Nat) (x0 : Int) (x1 : Int) (x2 : Int) (x3 : Int) : ev (envF N) (k + 1) F_lake_piece_height [(.agg [(.int .i64 x0), (.int .i64 x1), (.int .i64 x2), (.int .i64 x3)])] =
 (some (.int .i64 (w64 (x2 - x0)))) := by kernel_rfl

theorem E_lake_piece_volume (N k : Nat) (x0 : Int) (x1 : Int) (x2 : Int) (x3 : Int) : ev (envF N) (k + 1) F_lake_piece_volume [(.agg [(.int .i64 x0), (.int .i64 x1), (.int .i64 x2), (.int .i64 x3)])] =
 (some (.int .i64 (w64 (x3 - x1)))) := by kernel_rfl

theorem E_lake_piece_narrower (N k : Nat) (x0 : Int) (x1 : Int) (x2 : Int) (x3 : Int) (x4 : Int) (x5 : Int) (x6 : Int) (x7 : Int) : ev (envF N) (k + 1) F_lake_piece_narrower [(.agg [(.int .i64 x0), (.int .i64 x1), (.int .i64 x2), (.int .i64 x3)]), (.agg [(.int .i64 x4), (.int .i64 x5), (.int .i64 x6), (.int .i64 x7)])] =
 ((ev (envF N) k F_lake_piece_volume [(.agg [(.int .i64 x0), (.int .i64 x1), (.int .i64 x2), (.int .i64 x3)])]).bind fun r1 =>
 (ev (envF N) k F_lake_piece_height [(.agg [(.int .i64 x4), (.int .i64 x5), (.int .i64 x6), (.int .i64 x7)])]).bind fun r2 =>
  (ev (envF N) k F_lake_piece_volume [(.agg [(.int .i64 x4), (.int .i64 x5), (.int .i64 x6), (.int .i64 x7)])]).bind fun r3 =>
   (ev (envF N) k F_lake_piece_height [(.agg [(.int .i64 x0), (.int .i64 x1), (.int .i64 x2), (.int .i64 x3)])]).bind fun r4 =>
    some (.bool (decide ((w64 ((asI r1) * (asI r2))) < (w64 ((asI r3) * (asI r4))))))) := by kernel_rfl

theorem E_lake_table_volumeAt (N k : Nat) (x0 : List (List PV)) (x1 : Int) : ev (envF N) (k + 1) F_lake_table_volumeAt [(.agg [(.sl none [.int .i64, .int .i64] x0)]), (.int .i64 x1)] =
 ((ev (envF N) k F_lake_table_pieceTo [(.agg [(.sl none [.int .i64, .int .i64] x0)]), (.fn F_lake_table_volumeAt_c1 [(.rp [(.int .i64 x1)] 0)])]).bind fun r1 =>
 (ev (envF N) k F_lake_piece_volume [(.agg [(.int .i64 (asI (nth (asA r1) 0))), (.int .i64 (asI (nth (asA r1) 1))), (.int .i64 (asI (nth (asA r1) 2))), (.int .i64 (asI (nth (asA r1) 3)))])]).bind fun r2 =>
  (ev (envF N) k F_lake_piece_height [(.agg [(.int .i64 (asI (nth (asA r1) 0))), (.int .i64 (asI (nth (asA r1) 1))), (.int .i64 (asI (nth (asA r1) 2))), (.int .i64 (asI (nth (asA r1) 3)))])]).bind fun r3 =>
   (ev (envF N) k F_lake_floor [(.int .i64 (w64 ((w64 (x1 - (asI (nth (asA r1) 0)))) * (asI r2)))), (.int .i64 (asI r3))]).bind fun r4 =>
    (ev (envF N) k F_lake_piece_height [(.agg [(.int .i64 (asI (nth (asA r1) 0))), (.int .i64 (asI (nth (asA r1) 1))), (.int .i64 (asI (nth (asA r1) 2))), (.int .i64 (asI (nth (asA r1) 3)))])]).bind fun r5 =>
     (ev (envF N) k F_lake_ceil [(.int .i64 (w64 ((w64 (x1 - (asI (nth (asA r1) 0)))) * (asI r2)))), (.int .i64 (asI r5))]).bind fun r6 =>
      some (.agg [(.int .i64 (w64 ((asI (nth (asA r1) 1)) + (asI r4)))), (.int .i64 (w64 ((asI (nth (asA r1) 1)) + (asI r6))))])) := by kernel_rfl

theorem E_lake_table_byVolume (N k : Nat) (x0 : List (List PV)) (x1 : Int) : ev (envF N) (k + 1) F_lake_table_byVolume [(.agg [(.sl none [.int .i64, .int .i64] x0)]), (.int .i64 x1)] =
 ((ev (envF N) k F_lake_table_pieceTo [(.agg [(.sl none [.int .i64, .int .i64] x0)]), (.fn F_lake_table_byVolume_c1 [(.rp [(.int .i64 x1)] 0)])]).bind fun r1 =>
 some (.agg [(.int .i64 (asI (nth (asA r1) 0))), (.int .i64 (asI (nth (asA r1) 1))), (.int .i64 (asI (nth (asA r1) 2))), (.int .i64 (asI (nth (asA r1) 3)))])) := by kernel_rfl

/-- Loop 1 of lake_divisor. -/
noncomputable def L_lake_divisor_1 (N k n1  : Nat) (x0 : Int) (x1 : Int) : Option PV := loopAt (envF N) (ev (envF N) k) F_lake_divisor Go.Proofs.Try.f109 [.r, .l, .b] n1 { slots := ((.int .i64 x0) :: (.int .i64 x1) :: und 10 []), boxes := (nos 12 []), vers := List.replicate 12 0 }
theorem L_lake_divisor_1_eq (N k n1  : Nat) (x0 : Int) (x1 : Int) : L_lake_divisor_1 N k (n1 + 1)  x0 x1 =
 (cond (!(decide (x1 = (0 : Int))))
 (cond (!(decide (x1 = (0 : Int))))
  (L_lake_divisor_1 N k n1  x1 (Int.tmod x0 x1))
  (none))
 (some (.int .i64 x0))) := by kernel_rfl
theorem E_lake_divisor (N k : Nat) (x0 : Int) (x1 : Int) : ev (envF N) (k + 1) F_lake_divisor [(.int .i64 x0), (.int .i64 x1)] =
 (L_lake_divisor_1 N k N  x0 x1) := by kernel_rfl

theorem E_base_RatioCmp (N k : Nat) (x0 : Int) (x1 : List (List PV)) (x2 : Int) (x3 : List (List PV)) (x4 : Int) (x5 : List (List PV)) (x6 : Int) (x7 : List (List PV)) : ev (envF N) (k + 1) F_base_RatioCmp [(.agg [(.int .i64 x0), (.sl none [.int .i64] x1), (.int .i64 x2), (.sl none [.int .i64] x3)]), (.agg [(.int .i64 x4), (.sl none [.int .i64] x5), (.int .i64 x6), (.sl none [.int .i64] x7)])] =
 ((ev (envF N) k F_base_WideMul [(.agg [(.int .i64 x0), (.sl none [.int .i64] x1)]), (.agg [(.int .i64 x6), (.sl none [.int .i64] x7)])]).bind fun r1 =>
 (ev (envF N) k F_base_WideMul [(.agg [(.int .i64 x4), (.sl none [.int .i64] x5)]), (.agg [(.int .i64 x2), (.sl none [.int .i64] x3)])]).bind fun r2 =>
  (ev (envF N) k F_base_WideCmp [(.agg [(.int .i64 (asI (nth (asA r1) 0))), (.sl none [.int .i64] (asL (nth (asA r1) 1)))]), (.agg [(.int .i64 (asI (nth (asA r2) 0))), (.sl none [.int .i64] (asL (nth (asA r2) 1)))])]).bind fun r3 =>
   some (.int .i64 (asI r3))) := by kernel_rfl

theorem E_ref01_piece (N k : Nat) (x0 : List (List PV)) (x1 : Int) : ev (envF N) (k + 1) F_ref01_piece [(.agg [(.sl none [.int .i64, .int .i64] x0)]), (.int .i64 x1)] =
 (cond (decide ((0 : Int) ≤ (w64 (x1 - (1 : Int)))))
 (cond (decide ((w64 (x1 - (1 : Int))) < ((List.length x0) : Int)))
  (cond (decide ((0 : Int) ≤ x1))
   (cond (decide (x1 < ((List.length x0) : Int)))
    ((ev (envF N) k F_base_RatioOf [(.int .i64 (w64 ((asI (nth (nths x0 (Int.toNat x1)) 1)) - (asI (nth (nths x0 (Int.toNat (w64 (x1 - (1 : Int))))) 1))))), (.int .i64 (w64 ((asI (nth (nths x0 (Int.toNat x1)) 0)) - (asI (nth (nths x0 (Int.toNat (w64 (x1 - (1 : Int))))) 0)))))]).bind fun r5 =>
     some (.agg [(.int .i64 (asI (nth (asA r5) 0))), (.sl none [.int .i64] (asL (nth (asA r5) 1))), (.int .i64 (asI (nth (asA r5) 2))), (.sl none [.int .i64] (asL (nth (asA r5) 3)))]))
    (none))
   (none))
  (none))
 (none)) := by kernel_rfl

theorem E_ref01_rounded (N k : Nat) (x0 : Int) (x1 : List (List PV)) (x2 : Int) (x3 : List (List PV)) : ev (envF N) (k + 1) F_ref01_rounded [(.agg [(.int .i64 x0), (.sl none [.int .i64] x1), (.int .i64 x2), (.sl none [.int .i64] x3)])] =
 ((ev (envF N) k F_base_RatioFloor [(.agg [(.int .i64 x0), (.sl none [.int .i64] x1), (.int .i64 x2), (.sl none [.int .i64] x3)])]).bind fun r1 =>
 (ev (envF N) k F_base_WideInt [(.agg [(.int .i64 (asI (nth (asA r1) 0))), (.sl none [.int .i64] (asL (nth (asA r1) 1)))])]).bind fun r2 =>
  (ev (envF N) k F_base_RatioCeil [(.agg [(.int .i64 x0), (.sl none [.int .i64] x1), (.int .i64 x2), (.sl none [.int .i64] x3)])]).bind fun r3 =>
   (ev (envF N) k F_base_WideInt [(.agg [(.int .i64 (asI (nth (asA r3) 0))), (.sl none [.int .i64] (asL (nth (asA r3) 1)))])]).bind fun r4 =>
    some (.agg [(.int .i64 (asI (nth (asT r2) 0))), (.int .i64 (asI (nth (asT r4) 0)))])) := by kernel_rfl

/-- Loop 2 of ref01_volume. -/
noncomputable def L_ref01_volume_2 (N k n2  : Nat) (x0 : Int) (x1 : Int) (x2 : List (List PV)) (x3 : Int) (x4 : List (List PV)) (x5 : Int) (x6 : List (List PV)) : Option PV := loopAt (envF N) (ev (envF N) k) F_ref01_volume Go.Proofs.Try.f113 [.r, .r, .l, .b] n2 { slots := (und 1 ((.int .i64 x0) :: (.ptr 2 0) :: und 1 ((.ptr 4 0) :: (.int .i64 x1) :: und 30 []))), boxes := (nos 2 ((some (.cells [(.sl none [.int .i64, .int .i64] x2)] false)) :: nos 1 ((some (.cells [(.int .i64 x3), (.sl none [.int .i64] x4), (.int .i64 x5), (.sl none [.int .i64] x6)] false)) :: nos 31 []))), vers := List.replicate 36 0 }
theorem L_ref01_volume_2_eq (N k n2  : Nat) (x0 : Int) (x1 : Int) (x2 : List (List PV)) (x3 : Int) (x4 : List (List PV)) (x5 : Int) (x6 : List (List PV)) : L_ref01_volume_2 N k (n2 + 1)  x0 x1 x2 x3 x4 x5 x6 =
 (cond (decide ((0 : Int) ≤ x1))
 (cond (decide (x1 < ((List.length x2) : Int)))
  (cond (decide ((asI (nth (nths x2 (Int.toNat x1)) 0)) < x0))
   (L_ref01_volume_2 N k n2  x0 (w64 (x1 + (1 : Int))) x2 x3 x4 x5 x6)
   (cond (decide ((0 : Int) ≤ (w64 (x1 - (1 : Int)))))
    (cond (decide ((w64 (x1 - (1 : Int))) < ((List.length x2) : Int)))
     ((ev (envF N) k F_base_RatioInt [(.int .i64 (asI (nth (nths x2 (Int.toNat (w64 (x1 - (1 : Int))))) 1)))]).bind fun r6 =>
      (ev (envF N) k F_base_RatioInt [(.int .i64 (w64 (x0 - (asI (nth (nths x2 (Int.toNat (w64 (x1 - (1 : Int))))) 0)))))]).bind fun r7 =>
       (ev (envF N) k F_ref01_piece [(.agg [(.sl none [.int .i64, .int .i64] x2)]), (.int .i64 x1)]).bind fun r8 =>
        (ev (envF N) k F_base_RatioMul [(.agg [(.int .i64 (asI (nth (asA r7) 0))), (.sl none [.int .i64] (asL (nth (asA r7) 1))), (.int .i64 (asI (nth (asA r7) 2))), (.sl none [.int .i64] (asL (nth (asA r7) 3)))]), (.agg [(.int .i64 (asI (nth (asA r8) 0))), (.sl none [.int .i64] (asL (nth (asA r8) 1))), (.int .i64 (asI (nth (asA r8) 2))), (.sl none [.int .i64] (asL (nth (asA r8) 3)))])]).bind fun r9 =>
         (ev (envF N) k F_base_RatioAdd [(.agg [(.int .i64 (asI (nth (asA r6) 0))), (.sl none [.int .i64] (asL (nth (asA r6) 1))), (.int .i64 (asI (nth (asA r6) 2))), (.sl none [.int .i64] (asL (nth (asA r6) 3)))]), (.agg [(.int .i64 (asI (nth (asA r9) 0))), (.sl none [.int .i64] (asL (nth (asA r9) 1))), (.int .i64 (asI (nth (asA r9) 2))), (.sl none [.int .i64] (asL (nth (asA r9) 3)))])]).bind fun r10 =>
          some (.agg [(.int .i64 (asI (nth (asA r10) 0))), (.sl none [.int .i64] (asL (nth (asA r10) 1))), (.int .i64 (asI (nth (asA r10) 2))), (.sl none [.int .i64] (asL (nth (asA r10) 3)))]))
     (none))
    (none)))
  (none))
 (none)) := by kernel_rfl
theorem E_ref01_volume (N k : Nat) (x0 : List (List PV)) (x1 : Int) : ev (envF N) (k + 1) F_ref01_volume [(.agg [(.sl none [.int .i64, .int .i64] x0)]), (.int .i64 x1)] =
 (L_ref01_volume_2 N k N  x1 (1 : Int) x0 (0 : Int) [] (0 : Int) []) := by kernel_rfl

theorem E_ref01_Level (N k : Nat) (x0 : List (List PV)) (x1 : Int) : ev (envF N) (k + 1) F_ref01_Level [(.agg [(.sl none [.int .i64, .int .i64] x0)]), (.int .i64 x1)] =
 ((ev (envF N) k F_ref01_above [(.agg [(.sl none [.int .i64, .int .i64] x0)]), (.int .i64 x1)]).bind fun r1 =>
 cond (decide ((0 : Int) ≤ (w64 ((asI r1) - (1 : Int)))))
  (cond (decide ((w64 ((asI r1) - (1 : Int))) < ((List.length x0) : Int)))
   ((ev (envF N) k F_base_RatioInt [(.int .i64 (asI (nth (nths x0 (Int.toNat (w64 (asI r1 - (1 : Int))))) 0)))]).bind fun r4 =>
    (ev (envF N) k F_base_RatioInt [(.int .i64 (w64 (x1 - (asI (nth (nths x0 (Int.toNat (w64 (asI r1 - (1 : Int))))) 1)))))]).bind fun r5 =>
     (ev (envF N) k F_ref01_piece [(.agg [(.sl none [.int .i64, .int .i64] x0)]), (.int .i64 (asI r1))]).bind fun r6 =>
      (ev (envF N) k F_base_RatioDiv [(.agg [(.int .i64 (asI (nth (asA r5) 0))), (.sl none [.int .i64] (asL (nth (asA r5) 1))), (.int .i64 (asI (nth (asA r5) 2))), (.sl none [.int .i64] (asL (nth (asA r5) 3)))]), (.agg [(.int .i64 (asI (nth (asA r6) 0))), (.sl none [.int .i64] (asL (nth (asA r6) 1))), (.int .i64 (asI (nth (asA r6) 2))), (.sl none [.int .i64] (asL (nth (asA r6) 3)))])]).bind fun r7 =>
       (ev (envF N) k F_base_RatioAdd [(.agg [(.int .i64 (asI (nth (asA r4) 0))), (.sl none [.int .i64] (asL (nth (asA r4) 1))), (.int .i64 (asI (nth (asA r4) 2))), (.sl none [.int .i64] (asL (nth (asA r4) 3)))]), (.agg [(.int .i64 (asI (nth (asA r7) 0))), (.sl none [.int .i64] (asL (nth (asA r7) 1))), (.int .i64 (asI (nth (asA r7) 2))), (.sl none [.int .i64] (asL (nth (asA r7) 3)))])]).bind fun r8 =>
        some (.agg [(.int .i64 (asI (nth (asA r8) 0))), (.sl none [.int .i64] (asL (nth (asA r8) 1))), (.int .i64 (asI (nth (asA r8) 2))), (.sl none [.int .i64] (asL (nth (asA r8) 3)))]))
   (none))
  (none)) := by kernel_rfl

/-- Loop 2 of ref01_above. -/
noncomputable def L_ref01_above_2 (N k n2  : Nat) (x0 : Int) (x1 : Int) (x2 : List (List PV)) : Option PV := loopAt (envF N) (ev (envF N) k) F_ref01_above Go.Proofs.Try.f115 [.r, .r, .l, .b] n2 { slots := (und 1 ((.int .i64 x0) :: (.ptr 2 0) :: und 2 ((.int .i64 x1) :: und 11 []))), boxes := (nos 2 ((some (.cells [(.sl none [.int .i64, .int .i64] x2)] false)) :: nos 14 [])), vers := List.replicate 17 0 }
theorem L_ref01_above_2_eq (N k n2  : Nat) (x0 : Int) (x1 : Int) (x2 : List (List PV)) : L_ref01_above_2 N k (n2 + 1)  x0 x1 x2 =
 (cond (decide ((0 : Int) ≤ x1))
 (cond (decide (x1 < ((List.length x2) : Int)))
  (cond (decide ((asI (nth (nths x2 (Int.toNat x1)) 1)) < x0))
   (L_ref01_above_2 N k n2  x0 (w64 (x1 + (1 : Int))) x2)
   (some (.int .i64 x1)))
  (none))
 (none)) := by kernel_rfl
theorem E_ref01_above (N k : Nat) (x0 : List (List PV)) (x1 : Int) : ev (envF N) (k + 1) F_ref01_above [(.agg [(.sl none [.int .i64, .int .i64] x0)]), (.int .i64 x1)] =
 (L_ref01_above_2 N k N  x1 (1 : Int) x0) := by kernel_rfl

theorem E_base_Lowest (N k : Nat) (x0 : Int) (x1 : Int) : ev (envF N) (k + 1) F_base_Lowest [(.int .i64 x0), (.int .i64 x1)] =
 ((ev (envF N) k F_base_Gcd [(.int .i64 x0), (.int .i64 x1)]).bind fun r1 =>
 cond (decide (x1 < (0 : Int)))
  (cond (!(decide ((w64 ((0 : Int) - (asI r1))) = (0 : Int))))
   (cond (!(decide ((w64 ((0 : Int) - (asI r1))) = (0 : Int))))
    (some (.agg [(.int .i64 (w64 (Int.tdiv x0 (w64 ((0 : Int) - (asI r1)))))), (.int .i64 (w64 (Int.tdiv x1 (w64 ((0 : Int) - (asI r1))))))]))
    (none))
   (none))
  (cond (!(decide ((asI r1) = (0 : Int))))
   (cond (!(decide ((asI r1) = (0 : Int))))
    (some (.agg [(.int .i64 (w64 (Int.tdiv x0 (asI r1)))), (.int .i64 (w64 (Int.tdiv x1 (asI r1))))]))
    (none))
   (none))) := by kernel_rfl

theorem E_base_IsLowest (N k : Nat) (x0 : Int) (x1 : Int) : ev (envF N) (k + 1) F_base_IsLowest [(.agg [(.int .i64 x0), (.int .i64 x1)])] =
 (cond (decide ((0 : Int) < x1))
 ((ev (envF N) k F_base_Gcd [(.int .i64 x0), (.int .i64 x1)]).bind fun r2 =>
  some (.bool (decide ((asI r2) = (1 : Int)))))
 (some (.bool (false)))) := by kernel_rfl

theorem E_base_IsSmall (N k : Nat) (x0 : Int) (x1 : Int) : ev (envF N) (k + 1) F_base_IsSmall [(.agg [(.int .i64 x0), (.int .i64 x1)])] =
 ((ev (envF N) k F_base_Within [(.int .i64 x0), (.int .i64 (-1000000000 : Int)), (.int .i64 (1000000000 : Int))]).bind fun r1 =>
 cond (asB r1)
  ((ev (envF N) k F_base_Within [(.int .i64 x1), (.int .i64 (1 : Int)), (.int .i64 (1000000000 : Int))]).bind fun r3 =>
   some (.bool (asB r3)))
  (some (.bool (false)))) := by kernel_rfl

theorem E_lake_MinimumOn_c1 (N k : Nat) (x0 : Int) : ev (envF N) (k + 1) F_lake_MinimumOn_c1 [(.int .i64 x0)] =
 ((ev (envF N) k F_lake_within [(.int .i64 x0), (.int .i64 (0 : Int)), (.int .i64 (364 : Int))]).bind fun r1 =>
 some (.bool (asB r1))) := by kernel_rfl

theorem E_lake_contains (N k : Nat) (x0 : Int) (x1 : Int) (x2 : Int) (x3 : Int) : ev (envF N) (k + 1) F_lake_contains [(.agg [(.int .i64 x0), (.int .i64 x1), (.int .i64 x2)]), (.int .i64 x3)] =
 (cond (decide (x0 ≤ x1))
 ((ev (envF N) k F_lake_within [(.int .i64 x3), (.int .i64 x0), (.int .i64 x1)]).bind fun r2 =>
  some (.bool (asB r2)))
 (cond (decide (x0 ≤ x3))
  (some (.bool (true)))
  (some (.bool (decide (x3 ≤ x1)))))) := by kernel_rfl

theorem E_lake_openPair (N k : Nat) (x0 : List (List PV)) (x1 : List (List PV)) (x2 : Int) : ev (envF N) (k + 1) F_lake_openPair [(.agg [(.sl none [.int .i64, .int .i64] x0), (.sl none [.int .i64, .int .i64] x1), (.int .i64 x2)])] =
 ((ev (envF N) k F_lake_CheckPair [(.agg [(.sl none [.int .i64, .int .i64] x0), (.sl none [.int .i64, .int .i64] x1), (.int .i64 x2)])]).bind fun r1 =>
 some (.tup [(.agg [(.sl none [.int .i64, .int .i64] x0), (.sl none [.int .i64, .int .i64] x1), (.int .i64 x2)]), (.int .i64 (asI r1))])) := by kernel_rfl

theorem E_lake_pair_stateErr (N k : Nat) (x0 : List (List PV)) (x1 : List (List PV)) (x2 : Int) (x3 : Int) (x4 : Int) : ev (envF N) (k + 1) F_lake_pair_stateErr [(.agg [(.sl none [.int .i64, .int .i64] x0), (.sl none [.int .i64, .int .i64] x1), (.int .i64 x2)]), (.agg [(.int .i64 x3), (.int .i64 x4)])] =
 ((ev (envF N) k F_lake_table_holds [(.agg [(.sl none [.int .i64, .int .i64] x0)]), (.int .i64 x3)]).bind fun r1 =>
 cond (asB r1)
  ((ev (envF N) k F_lake_table_holds [(.agg [(.sl none [.int .i64, .int .i64] x1)]), (.int .i64 x4)]).bind fun r3 =>
   (ev (envF N) k F_lake_unless [(.bool (asB r3)), (.int .i64 (2 : Int))]).bind fun r4 =>
    some (.int .i64 (asI r4)))
  ((ev (envF N) k F_lake_unless [(.bool (false)), (.int .i64 (2 : Int))]).bind fun r3 =>
   some (.int .i64 (asI r3)))) := by kernel_rfl

theorem E_lake_flowsErr_c1 (N k : Nat) (x0 : Int) : ev (envF N) (k + 1) F_lake_flowsErr_c1 [(.int .i64 x0)] =
 ((ev (envF N) k F_lake_within [(.int .i64 x0), (.int .i64 (0 : Int)), (.int .i64 (10000000 : Int))]).bind fun r1 =>
 some (.bool (asB r1))) := by kernel_rfl

theorem E_lake_table_evaporated (N k : Nat) (x0 : List (List PV)) (x1 : Int) (x2 : Int) : ev (envF N) (k + 1) F_lake_table_evaporated [(.agg [(.sl none [.int .i64, .int .i64] x0)]), (.int .i64 x1), (.int .i64 x2)] =
 ((ev (envF N) k F_lake_table_byVolume [(.agg [(.sl none [.int .i64, .int .i64] x0)]), (.int .i64 x1)]).bind fun r1 =>
 (ev (envF N) k F_lake_piece_volume [(.agg [(.int .i64 (asI (nth (asA r1) 0))), (.int .i64 (asI (nth (asA r1) 1))), (.int .i64 (asI (nth (asA r1) 2))), (.int .i64 (asI (nth (asA r1) 3)))])]).bind fun r2 =>
  (ev (envF N) k F_lake_piece_height [(.agg [(.int .i64 (asI (nth (asA r1) 0))), (.int .i64 (asI (nth (asA r1) 1))), (.int .i64 (asI (nth (asA r1) 2))), (.int .i64 (asI (nth (asA r1) 3)))])]).bind fun r3 =>
   cond (!(decide ((w64 ((1000 : Int) * (asI r3))) = (0 : Int))))
    ((ev (envF N) k F_lake_table_bottom [(.agg [(.sl none [.int .i64, .int .i64] x0)])]).bind fun r5 =>
     some (.int .i64 (imin (w64 (Int.tdiv (w64 (x2 * (asI r2))) (w64 ((1000 : Int) * (asI r3))))) (w64 (x1 - (asI (nth (asA r5) 1)))))))
    (none)) := by kernel_rfl

theorem E_base_RatioDiv (N k : Nat) (x0 : Int) (x1 : List (List PV)) (x2 : Int) (x3 : List (List PV)) (x4 : Int) (x5 : List (List PV)) (x6 : Int) (x7 : List (List PV)) : ev (envF N) (k + 1) F_base_RatioDiv [(.agg [(.int .i64 x0), (.sl none [.int .i64] x1), (.int .i64 x2), (.sl none [.int .i64] x3)]), (.agg [(.int .i64 x4), (.sl none [.int .i64] x5), (.int .i64 x6), (.sl none [.int .i64] x7)])] =
 ((ev (envF N) k F_base_WideMul [(.agg [(.int .i64 x0), (.sl none [.int .i64] x1)]), (.agg [(.int .i64 x6), (.sl none [.int .i64] x7)])]).bind fun r1 =>
 (ev (envF N) k F_base_WideMul [(.agg [(.int .i64 x2), (.sl none [.int .i64] x3)]), (.agg [(.int .i64 x4), (.sl none [.int .i64] x5)])]).bind fun r2 =>
  (ev (envF N) k F_base_RatioMake [(.agg [(.int .i64 (asI (nth (asA r1) 0))), (.sl none [.int .i64] (asL (nth (asA r1) 1)))]), (.agg [(.int .i64 (asI (nth (asA r2) 0))), (.sl none [.int .i64] (asL (nth (asA r2) 1)))])]).bind fun r3 =>
   some (.agg [(.int .i64 (asI (nth (asA r3) 0))), (.sl none [.int .i64] (asL (nth (asA r3) 1))), (.int .i64 (asI (nth (asA r3) 2))), (.sl none [.int .i64] (asL (nth (asA r3) 3)))])) := by kernel_rfl

theorem E_base_RatioMul (N k : Nat) (x0 : Int) (x1 : List (List PV)) (x2 : Int) (x3 : List (List PV)) (x4 : Int) (x5 : List (List PV)) (x6 : Int) (x7 : List (List PV)) : ev (envF N) (k + 1) F_base_RatioMul [(.agg [(.int .i64 x0), (.sl none [.int .i64] x1), (.int .i64 x2), (.sl none [.int .i64] x3)]), (.agg [(.int .i64 x4), (.sl none [.int .i64] x5), (.int .i64 x6), (.sl none [.int .i64] x7)])] =
 ((ev (envF N) k F_base_WideMul [(.agg [(.int .i64 x0), (.sl none [.int .i64] x1)]), (.agg [(.int .i64 x4), (.sl none [.int .i64] x5)])]).bind fun r1 =>
 (ev (envF N) k F_base_WideMul [(.agg [(.int .i64 x2), (.sl none [.int .i64] x3)]), (.agg [(.int .i64 x6), (.sl none [.int .i64] x7)])]).bind fun r2 =>
  (ev (envF N) k F_base_RatioMake [(.agg [(.int .i64 (asI (nth (asA r1) 0))), (.sl none [.int .i64] (asL (nth (asA r1) 1)))]), (.agg [(.int .i64 (asI (nth (asA r2) 0))), (.sl none [.int .i64] (asL (nth (asA r2) 1)))])]).bind fun r3 =>
   some (.agg [(.int .i64 (asI (nth (asA r3) 0))), (.sl none [.int .i64] (asL (nth (asA r3) 1))), (.int .i64 (asI (nth (asA r3) 2))), (.sl none [.int .i64] (asL (nth (asA r3) 3)))])) := by kernel_rfl

theorem E_base_RatioInt (N k : Nat) (x0 : Int) : ev (envF N) (k + 1) F_base_RatioInt [(.int .i64 x0)] =
 ((ev (envF N) k F_base_WideOf [(.int .i64 x0)]).bind fun r1 =>
 (ev (envF N) k F_base_WideOf [(.int .i64 (1 : Int))]).bind fun r2 =>
  some (.agg [(.int .i64 (asI (nth (asA r1) 0))), (.sl none [.int .i64] (asL (nth (asA r1) 1))), (.int .i64 (asI (nth (asA r2) 0))), (.sl none [.int .i64] (asL (nth (asA r2) 1)))])) := by kernel_rfl

theorem E_lake_netErr (N k : Nat) (x0 : List (List PV)) : ev (envF N) (k + 1) F_lake_netErr [(.sl none [.int .i64] x0)] =
 (cond (decide ((200 : Int) < ((List.length x0) : Int)))
 (some (.int .i64 (8 : Int)))
 ((ev (envF N) k F_slices_ContainsFunc_int [(.sl none [.int .i64] x0), (.fn F_lake_netErr_c1 [])]).bind fun r2 =>
  (ev (envF N) k F_lake_unless [(.bool (!(asB r2))), (.int .i64 (2 : Int))]).bind fun r3 =>
   some (.int .i64 (asI r3)))) := by kernel_rfl

/-- Loop 6 of lake_table_readingsErr. -/
noncomputable def L_lake_table_readingsErr_6 (N k n6  : Nat) (x0 : List (List PV)) (x1 : List (List PV)) (x2 : List (List PV)) (x3 : Int) (x4 : Int) (x5 : List (List PV)) : Option PV := loopAt (envF N) (ev (envF N) k) F_lake_table_readingsErr Go.Proofs.Try.f142 [.r, .r, .r, .l, .r, .b] n6 { slots := (und 1 ((.sl none [.int .i64] x0) :: und 6 ((.fn F_lake_table_readingsErr_c1 [(.rp [(.sl none [.int .i64, .int .i64] x1)] 0)]) :: und 18 ((.sl none [.int .i64, .int .i64, .int .i64] x2) :: (.int .i64 x3) :: (.int .i64 x4) :: und 38 [])))), boxes := (nos 3 ((some (.cells [(.sl none [.int .i64, .int .i64] x5)] true)) :: nos 64 [])), vers := List.replicate 68 0 }
theorem L_lake_table_readingsErr_6_eq (N k n6  : Nat) (x0 : List (List PV)) (x1 : List (List PV)) (x2 : List (List PV)) (x3 : Int) (x4 : Int) (x5 : List (List PV)) : L_lake_table_readingsErr_6 N k (n6 + 1)  x0 x1 x2 x3 x4 x5 =
 (cond (decide (x4 < x3))
 (cond (decide ((0 : Int) ≤ x4))
  (cond (decide (x4 < ((List.length x2) : Int)))
   ((ev (envF N) k F_lake_within [(.int .i64 (asI (nth (nths x2 (Int.toNat x4)) 0))), (.int .i64 (0 : Int)), (.int .i64 ((List.length x0) : Int))]).bind fun r4 =>
    cond (asB r4)
     ((ev (envF N) k F_lake_table_readingsErr_c1 [(.int .i64 (asI (nth (nths x2 (Int.toNat x4)) 1))), (.rp [(.sl none [.int .i64, .int .i64] x1)] 0)]).bind fun r6 =>
      cond (asB r6)
       ((ev (envF N) k F_lake_table_readingsErr_c1 [(.int .i64 (asI (nth (nths x2 (Int.toNat x4)) 2))), (.rp [(.sl none [.int .i64, .int .i64] x1)] 0)]).bind fun r8 =>
        (ev (envF N) k F_lake_unless [(.bool (asB r8)), (.int .i64 (2 : Int))]).bind fun r9 =>
         (ev (envF N) k F_lake_unless [(.bool (decide ((asI (nth (nths x2 (Int.toNat x4)) 1)) ≤ (asI (nth (nths x2 (Int.toNat x4)) 2))))), (.int .i64 (9 : Int))]).bind fun r10 =>
          (ev (envF N) k F_lake_first [(.sl none [.int .i64] [[(.int .i64 (asI r9))], [(.int .i64 (asI r10))]])]).bind fun r11 =>
           cond (!(decide ((asI r11) = (0 : Int))))
            (some (.int .i64 (asI r11)))
            (L_lake_table_readingsErr_6 N k n6  x0 x1 x2 x3 (w64 (x4 + (1 : Int))) x5))
       ((ev (envF N) k F_lake_unless [(.bool (false)), (.int .i64 (2 : Int))]).bind fun r8 =>
        (ev (envF N) k F_lake_unless [(.bool (decide ((asI (nth (nths x2 (Int.toNat x4)) 1)) ≤ (asI (nth (nths x2 (Int.toNat x4)) 2))))), (.int .i64 (9 : Int))]).bind fun r9 =>
         (ev (envF N) k F_lake_first [(.sl none [.int .i64] [[(.int .i64 (asI r8))], [(.int .i64 (asI r9))]])]).bind fun r10 =>
          cond (!(decide ((asI r10) = (0 : Int))))
           (some (.int .i64 (asI r10)))
           (L_lake_table_readingsErr_6 N k n6  x0 x1 x2 x3 (w64 (x4 + (1 : Int))) x5)))
     ((ev (envF N) k F_lake_unless [(.bool (false)), (.int .i64 (2 : Int))]).bind fun r6 =>
      (ev (envF N) k F_lake_unless [(.bool (decide ((asI (nth (nths x2 (Int.toNat x4)) 1)) ≤ (asI (nth (nths x2 (Int.toNat x4)) 2))))), (.int .i64 (9 : Int))]).bind fun r7 =>
       (ev (envF N) k F_lake_first [(.sl none [.int .i64] [[(.int .i64 (asI r6))], [(.int .i64 (asI r7))]])]).bind fun r8 =>
        cond (!(decide ((asI r8) = (0 : Int))))
         (some (.int .i64 (asI r8)))
         (L_lake_table_readingsErr_6 N k n6  x0 x1 x2 x3 (w64 (x4 + (1 : Int))) x5)))
   (none))
  (none))
 (some (.int .i64 (0 : Int)))) := by kernel_rfl
theorem E_lake_table_readingsErr (N k : Nat) (x0 : List (List PV)) (x1 : List (List PV)) (x2 : List (List PV)) : ev (envF N) (k + 1) F_lake_table_readingsErr [(.agg [(.sl none [.int .i64, .int .i64] x0)]), (.sl none [.int .i64] x1), (.sl none [.int .i64, .int .i64, .int .i64] x2)] =
 ((ev (envF N) k F_lake_unless [(.bool (decide ((0 : Int) < ((List.length x2) : Int)))), (.int .i64 (10 : Int))]).bind fun r1 =>
 (ev (envF N) k F_lake_unless [(.bool (decide (((List.length x2) : Int) ≤ (10 : Int)))), (.int .i64 (8 : Int))]).bind fun r2 =>
  (ev (envF N) k F_lake_first [(.sl none [.int .i64] [[(.int .i64 (asI r1))], [(.int .i64 (asI r2))]])]).bind fun r3 =>
   cond (!(decide ((asI r3) = (0 : Int))))
    (some (.int .i64 (asI r3)))
    (L_lake_table_readingsErr_6 N k N  x1 x0 x2 ((List.length x2) : Int) (0 : Int) x0)) := by kernel_rfl

theorem E_lake_table_holds (N k : Nat) (x0 : List (List PV)) (x1 : Int) : ev (envF N) (k + 1) F_lake_table_holds [(.agg [(.sl none [.int .i64, .int .i64] x0)]), (.int .i64 x1)] =
 ((ev (envF N) k F_lake_table_bottom [(.agg [(.sl none [.int .i64, .int .i64] x0)])]).bind fun r1 =>
 (ev (envF N) k F_lake_table_top [(.agg [(.sl none [.int .i64, .int .i64] x0)])]).bind fun r2 =>
  (ev (envF N) k F_lake_within [(.int .i64 x1), (.int .i64 (asI (nth (asA r1) 1))), (.int .i64 (asI (nth (asA r2) 1)))]).bind fun r3 =>
   some (.bool (asB r3))) := by kernel_rfl

theorem E_lake_table_pieceTo (N k : Nat) (x0 : List (List PV)) (x1 : Int) : ev (envF N) (k + 1) F_lake_table_pieceTo [(.agg [(.sl none [.int .i64, .int .i64] x0)]), (.fn F_lake_table_byVolume_c1 [(.rp [(.int .i64 x1)] 0)])] =
 (cond (decide ((1 : Int) ≤ ((List.length x0) : Int)))
 ((ev (envF N) k F_slices_IndexFunc_LakeKnot [(.sl none [.int .i64, .int .i64] (List.drop (Int.toNat (1 : Int)) (List.take (List.length x0) x0))), (.fn F_lake_table_byVolume_c1 [(.rp [(.int .i64 x1)] 0)])]).bind fun r2 =>
  cond (decide ((0 : Int) ≤ (w64 ((w64 ((1 : Int) + (asI r2))) - (1 : Int)))))
   (cond (decide ((w64 ((w64 ((1 : Int) + (asI r2))) - (1 : Int))) < ((List.length x0) : Int)))
    (cond (decide ((0 : Int) ≤ (w64 ((1 : Int) + (asI r2)))))
     (cond (decide ((w64 ((1 : Int) + (asI r2))) < ((List.length x0) : Int)))
      (some (.agg [(.int .i64 (asI (nth (nths x0 (Int.toNat (w64 (w64 ((1 : Int) + asI r2) - (1 : Int))))) 0))), (.int .i64 (asI (nth (nths x0 (Int.toNat (w64 (w64 ((1 : Int) + asI r2) - (1 : Int))))) 1))), (.int .i64 (asI (nth (nths x0 (Int.toNat (w64 ((1 : Int) + asI r2)))) 0))), (.int .i64 (asI (nth (nths x0 (Int.toNat (w64 ((1 : Int) + asI r2)))) 1)))]))
      (none))
     (none))
    (none))
   (none))
 (none)) := by kernel_rfl

theorem E_lake_table_pieceTo_v1 (N k : Nat) (x0 : List (List PV)) (x1 : Int) : ev (envF N) (k + 1) F_lake_table_pieceTo [(.agg [(.sl none [.int .i64, .int .i64] x0)]), (.fn F_lake_table_volumeAt_c1 [(.rp [(.int .i64 x1)] 0)])] =
 (cond (decide ((1 : Int) ≤ ((List.length x0) : Int)))
 ((ev (envF N) k F_slices_IndexFunc_LakeKnot [(.sl none [.int .i64, .int .i64] (List.drop (Int.toNat (1 : Int)) (List.take (List.length x0) x0))), (.fn F_lake_table_volumeAt_c1 [(.rp [(.int .i64 x1)] 0)])]).bind fun r2 =>
  cond (decide ((0 : Int) ≤ (w64 ((w64 ((1 : Int) + (asI r2))) - (1 : Int)))))
   (cond (decide ((w64 ((w64 ((1 : Int) + (asI r2))) - (1 : Int))) < ((List.length x0) : Int)))
    (cond (decide ((0 : Int) ≤ (w64 ((1 : Int) + (asI r2)))))
     (cond (decide ((w64 ((1 : Int) + (asI r2))) < ((List.length x0) : Int)))
      (some (.agg [(.int .i64 (asI (nth (nths x0 (Int.toNat (w64 (w64 ((1 : Int) + asI r2) - (1 : Int))))) 0))), (.int .i64 (asI (nth (nths x0 (Int.toNat (w64 (w64 ((1 : Int) + asI r2) - (1 : Int))))) 1))), (.int .i64 (asI (nth (nths x0 (Int.toNat (w64 ((1 : Int) + asI r2)))) 0))), (.int .i64 (asI (nth (nths x0 (Int.toNat (w64 ((1 : Int) + asI r2)))) 1)))]))
      (none))
     (none))
    (none))
   (none))
 (none)) := by kernel_rfl

theorem E_lake_table_volumeAt_c1 (N k : Nat) (x0 : Int) (x1 : Int) (x2 : Int) : ev (envF N) (k + 1) F_lake_table_volumeAt_c1 [(.agg [(.int .i64 x0), (.int .i64 x1)]), (.rp [(.int .i64 x2)] 0)] =
 (some (.bool (decide (x2 ≤ x0)))) := by kernel_rfl

theorem E_lake_floor (N k : Nat) (x0 : Int) (x1 : Int) : ev (envF N) (k + 1) F_lake_floor [(.int .i64 x0), (.int .i64 x1)] =
 (cond (!(decide (x1 = (0 : Int))))
 (cond (!(decide (x1 = (0 : Int))))
  (cond (decide ((Int.tmod x0 x1) < (0 : Int)))
   (some (.int .i64 (w64 ((w64 (Int.tdiv x0 x1)) - (1 : Int)))))
   (some (.int .i64 (w64 (Int.tdiv x0 x1)))))
  (none))
 (none)) := by kernel_rfl

end Go.PevTab
