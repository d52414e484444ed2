/- EQUATIONS OF FUNCTIONS, by the kernel's own reckoning; written by a program. -/
/- EQUATIONS OF FUNCTIONS, by the kernel's own reckoning; written by a program. -/
/- WHOLE NUMBERS OF ANY SIZE: what the functions on digits give. -/
/- WHOLE NUMBERS OF ANY SIZE: sums, differences and products. -/
/- WHOLE NUMBERS OF ANY SIZE: products. -/
import Derived.Test.YtfjnpgbjcgjecaaPewG4

namespace Go.PewTab
set_option linter.unusedSimpArgs false
set_option linter.unusedVariables false
open Go.Pew Go
set_option maxRecDepth 100000
set_option linter.unusedVariables false

/-- Loop 4 of ref01_RunOf. -/
noncomputable def L_ref01_RunOf_4 (N k n4  : Nat) (x0 : List (List PV)) (x1 : List (List PV)) (x2 : Int) (x3 : List (List PV)) (x4 : List (List PV)) (x5 : Int) (x6 : Int) (x7 : Int) (x8 : Int) (x9 : Int) (x10 : Int) (x11 : Int) : Option PV := loopAt (envF N) (ev (envF N) k) (evI (envF N) k) F_ref01_RunOf Go.Proofs.Try.f76 [.r, .r, .r, .l, .r, .b] n4 { slots := (und 2 ((.sl none [.int .i64, .int .i64, .int .i64] x0) :: (.ptr 3 0) :: (.ptr 4 0) :: und 2 ((.ptr 7 0) :: und 1 ((.sl (some (9, 0)) [.int .i64, .int .i64] x1) :: (.ptr 10 0) :: (.int .i64 x2) :: und 42 [])))), boxes := (nos 3 ((some (.cells [(.sl none [.int .i64, .int .i64] x3), (.sl none [.int .i64, .int .i64] x4), (.int .i64 x5)] false)) :: (some (.cells [(.int .i64 x6), (.int .i64 x7)] false)) :: nos 2 ((some (.cells [(.int .i64 x8), (.int .i64 x9)] false)) :: nos 2 ((some (.cells [(.int .i64 x10), (.int .i64 x11)] false)) :: nos 43 [])))), vers := List.replicate 54 0 }
theorem L_ref01_RunOf_4_eq (N k n4  : Nat) (x0 : List (List PV)) (x1 : List (List PV)) (x2 : Int) (x3 : List (List PV)) (x4 : List (List PV)) (x5 : Int) (x6 : Int) (x7 : Int) (x8 : Int) (x9 : Int) (x10 : Int) (x11 : Int) : L_ref01_RunOf_4 N k (n4 + 1)  x0 x1 x2 x3 x4 x5 x6 x7 x8 x9 x10 x11 =
 (cond (decide (x2 < ((List.length x0) : Int)))
 (cond (decide ((0 : Int) ≤ x2))
  (cond (decide (x2 < ((List.length x0) : Int)))
   ((ev (envF N) k F_ref01_Step [(.agg [(.sl none [.int .i64, .int .i64] x3), (.sl none [.int .i64, .int .i64] x4), (.int .i64 x5)]), (.agg [(.int .i64 x6), (.int .i64 x7)]), (.agg [(.int .i64 (asI (nth (nths x0 (Int.toNat x2)) 0))), (.int .i64 (asI (nth (nths x0 (Int.toNat x2)) 1))), (.int .i64 (asI (nth (nths x0 (Int.toNat x2)) 2)))])]).bind fun r4 =>
    cond (!(asB (nth (asT r4) 2)))
     (some (.tup [(.sl none [.int .i64, .int .i64] x1), (.agg [(.int .i64 x10), (.int .i64 x11)]), (.bool (false))]))
     (cond (room x1 [[(.int .i64 (asI (nth (asA (nth (asT r4) 0)) 0))), (.int .i64 (asI (nth (asA (nth (asT r4) 0)) 1)))]] 16)
      (L_ref01_RunOf_4 N k n4  x0 (x1 ++ [[(.int .i64 (asI (nth (asA (nth (asT r4) 0)) 0))), (.int .i64 (asI (nth (asA (nth (asT r4) 0)) 1)))]]) (w64 (x2 + (1 : Int))) x3 x4 x5 (asI (nth (asA (nth (asT r4) 0)) 0)) (asI (nth (asA (nth (asT r4) 0)) 1)) x8 x9 (w64 (x10 + (asI (nth (asA (nth (asT r4) 1)) 0)))) (w64 (x11 + (asI (nth (asA (nth (asT r4) 1)) 1)))))
      (none)))
   (none))
  (none))
 (some (.tup [(.sl none [.int .i64, .int .i64] x1), (.agg [(.int .i64 x10), (.int .i64 x11)]), (.bool (true))]))) := by kernel_rfl
theorem E_ref01_RunOf (N k : Nat) (x0 : List (List PV)) (x1 : List (List PV)) (x2 : Int) (x3 : Int) (x4 : Int) (x5 : List (List PV)) : ev (envF N) (k + 1) F_ref01_RunOf [(.agg [(.sl none [.int .i64, .int .i64] x0), (.sl none [.int .i64, .int .i64] x1), (.int .i64 x2)]), (.agg [(.int .i64 x3), (.int .i64 x4)]), (.sl none [.int .i64, .int .i64, .int .i64] x5)] =
 (L_ref01_RunOf_4 N k N  x5 [] (0 : Int) x0 x1 x2 x3 x4 (0 : Int) (0 : Int) (0 : Int) (0 : Int)) := by kernel_rfl

/-- Loop 4 of ref01_SameStates. -/
noncomputable def L_ref01_SameStates_4 (N k n4  : Nat) (x0 : List (List PV)) (x1 : List (List PV)) (x2 : Int) : Option PV := loopAt (envF N) (ev (envF N) k) (evI (envF N) k) F_ref01_SameStates Go.Proofs.Try.f77 [.r, .r, .l, .r, .b] n4 { slots := ((.sl none [.int .i64, .int .i64] x0) :: (.sl none [.int .i64, .int .i64] x1) :: und 3 ((.int .i64 x2) :: und 20 [])), boxes := (nos 26 []), vers := List.replicate 26 0 }
theorem L_ref01_SameStates_4_eq (N k n4  : Nat) (x0 : List (List PV)) (x1 : List (List PV)) (x2 : Int) : L_ref01_SameStates_4 N k (n4 + 1)  x0 x1 x2 =
 (cond (decide (x2 < ((List.length x0) : Int)))
 (cond (decide ((0 : Int) ≤ x2))
  (cond (decide (x2 < ((List.length x0) : Int)))
   (cond (decide ((0 : Int) ≤ x2))
    (cond (decide (x2 < ((List.length x1) : Int)))
     (cond (!((decide ((asI (nth (nths x0 (Int.toNat x2)) 0)) = (asI (nth (nths x1 (Int.toNat x2)) 0)))) && (decide ((asI (nth (nths x0 (Int.toNat x2)) 1)) = (asI (nth (nths x1 (Int.toNat x2)) 1))))))
      (some (.bool (false)))
      (L_ref01_SameStates_4 N k n4  x0 x1 (w64 (x2 + (1 : Int)))))
     (none))
    (none))
   (none))
  (none))
 (some (.bool (true)))) := by kernel_rfl
theorem E_ref01_SameStates (N k : Nat) (x0 : List (List PV)) (x1 : List (List PV)) : ev (envF N) (k + 1) F_ref01_SameStates [(.sl none [.int .i64, .int .i64] x0), (.sl none [.int .i64, .int .i64] x1)] =
 (cond (!(decide (((List.length x0) : Int) = ((List.length x1) : Int))))
 (some (.bool (false)))
 (L_ref01_SameStates_4 N k N  x0 x1 (0 : Int))) := by kernel_rfl

theorem E_ref01_StateErr (N k : Nat) (x0 : List (List PV)) (x1 : List (List PV)) (x2 : Int) (x3 : Int) (x4 : Int) : ev (envF N) (k + 1) F_ref01_StateErr [(.agg [(.sl none [.int .i64, .int .i64] x0), (.sl none [.int .i64, .int .i64] x1), (.int .i64 x2)]), (.agg [(.int .i64 x3), (.int .i64 x4)])] =
 ((ev (envF N) k F_ref01_IsVolume [(.agg [(.sl none [.int .i64, .int .i64] x0)]), (.int .i64 x3)]).bind fun r1 =>
 cond (!(asB r1))
  (some (.int .i64 (2 : Int)))
  ((ev (envF N) k F_ref01_IsVolume [(.agg [(.sl none [.int .i64, .int .i64] x1)]), (.int .i64 x4)]).bind fun r3 =>
   cond (!(asB r3))
    (some (.int .i64 (2 : Int)))
    (some (.int .i64 (0 : Int))))) := by kernel_rfl

theorem E_lake_openState (N k : Nat) (x0 : List (List PV)) (x1 : List (List PV)) (x2 : Int) (x3 : Int) (x4 : Int) : ev (envF N) (k + 1) F_lake_openState [(.agg [(.sl none [.int .i64, .int .i64] x0), (.sl none [.int .i64, .int .i64] x1), (.int .i64 x2)]), (.agg [(.int .i64 x3), (.int .i64 x4)])] =
 ((ev (envF N) k F_lake_openPair [(.agg [(.sl none [.int .i64, .int .i64] x0), (.sl none [.int .i64, .int .i64] x1), (.int .i64 x2)])]).bind fun r1 =>
 cond (decide ((asI (nth (asT r1) 1)) = (0 : Int)))
  ((ev (envF N) k F_lake_pair_stateErr [(.agg [(.sl none [.int .i64, .int .i64] (asL (nth (asA (nth (asT r1) 0)) 0))), (.sl none [.int .i64, .int .i64] (asL (nth (asA (nth (asT r1) 0)) 1))), (.int .i64 (asI (nth (asA (nth (asT r1) 0)) 2)))]), (.agg [(.int .i64 x3), (.int .i64 x4)])]).bind fun r3 =>
   some (.tup [(.agg [(.sl none [.int .i64, .int .i64] (asL (nth (asA (nth (asT r1) 0)) 0))), (.sl none [.int .i64, .int .i64] (asL (nth (asA (nth (asT r1) 0)) 1))), (.int .i64 (asI (nth (asA (nth (asT r1) 0)) 2)))]), (.int .i64 (asI r3))]))
  (some (.tup [(.agg [(.sl none [.int .i64, .int .i64] (asL (nth (asA (nth (asT r1) 0)) 0))), (.sl none [.int .i64, .int .i64] (asL (nth (asA (nth (asT r1) 0)) 1))), (.int .i64 (asI (nth (asA (nth (asT r1) 0)) 2)))]), (.int .i64 (asI (nth (asT r1) 1)))]))) := by kernel_rfl

theorem E_lake_table_bottom (N k : Nat) (x0 : List (List PV)) : ev (envF N) (k + 1) F_lake_table_bottom [(.agg [(.sl none [.int .i64, .int .i64] x0)])] =
 (cond (decide ((0 : Int) < ((List.length x0) : Int)))
 (some (.agg [(.int .i64 (asI (nth (nths x0 (Int.toNat (0 : Int))) 0))), (.int .i64 (asI (nth (nths x0 (Int.toNat (0 : Int))) 1)))]))
 (none)) := by kernel_rfl

theorem E_lake_table_top (N k : Nat) (x0 : List (List PV)) : ev (envF N) (k + 1) F_lake_table_top [(.agg [(.sl none [.int .i64, .int .i64] x0)])] =
 (cond (decide ((0 : Int) ≤ (w64 (((List.length x0) : Int) - (1 : Int)))))
 (cond (decide ((w64 (((List.length x0) : Int) - (1 : Int))) < ((List.length x0) : Int)))
  (some (.agg [(.int .i64 (asI (nth (nths x0 (Int.toNat (w64 ((x0.length : Int) - (1 : Int))))) 0))), (.int .i64 (asI (nth (nths x0 (Int.toNat (w64 ((x0.length : Int) - (1 : Int))))) 1)))]))
  (none))
 (none)) := by kernel_rfl

/-- Loop 2 of lake_first. -/
noncomputable def L_lake_first_2 (N k n2  : Nat) (x0 : List (List PV)) (x1 : Int) (x2 : Int) : Option PV := loopAt (envF N) (ev (envF N) k) (evI (envF N) k) F_lake_first Go.Proofs.Try.f84 [.r, .l, .r, .b] n2 { slots := (und 5 ((.sl none [.int .i64] x0) :: (.int .i64 x1) :: (.int .i64 x2) :: und 7 [])), boxes := (nos 15 []), vers := List.replicate 15 0 }
theorem L_lake_first_2_eq (N k n2  : Nat) (x0 : List (List PV)) (x1 : Int) (x2 : Int) : L_lake_first_2 N k (n2 + 1)  x0 x1 x2 =
 (cond (decide (x2 < x1))
 (cond (decide ((0 : Int) ≤ x2))
  (cond (decide (x2 < ((List.length x0) : Int)))
   (cond (!(decide ((asI (nth (nths x0 (Int.toNat x2)) 0)) = (0 : Int))))
    (some (.int .i64 (asI (nth (nths x0 (Int.toNat x2)) 0))))
    (L_lake_first_2 N k n2  x0 x1 (w64 (x2 + (1 : Int)))))
   (none))
  (none))
 (some (.int .i64 (0 : Int)))) := by kernel_rfl
theorem E_lake_first (N k : Nat) (x0 : List (List PV)) : ev (envF N) (k + 1) F_lake_first [(.sl none [.int .i64] x0)] =
 (L_lake_first_2 N k N  x0 ((List.length x0) : Int) (0 : Int)) := by kernel_rfl

theorem E_lake_flowsErr (N k : Nat) (x0 : Int) (x1 : Int) (x2 : Int) : ev (envF N) (k + 1) F_lake_flowsErr [(.agg [(.int .i64 x0), (.int .i64 x1), (.int .i64 x2)])] =
 ((ev (envF N) k F_lake_flowsErr_c1 [(.int .i64 x0)]).bind fun r1 =>
 cond (asB r1)
  ((ev (envF N) k F_lake_flowsErr_c1 [(.int .i64 x1)]).bind fun r3 =>
   cond (asB r3)
    ((ev (envF N) k F_lake_within [(.int .i64 x2), (.int .i64 (-10000000 : Int)), (.int .i64 (10000000 : Int))]).bind fun r5 =>
     (ev (envF N) k F_lake_unless [(.bool (asB r5)), (.int .i64 (2 : Int))]).bind fun r6 =>
      some (.int .i64 (asI r6)))
    ((ev (envF N) k F_lake_unless [(.bool (false)), (.int .i64 (2 : Int))]).bind fun r5 =>
     some (.int .i64 (asI r5))))
  ((ev (envF N) k F_lake_unless [(.bool (false)), (.int .i64 (2 : Int))]).bind fun r3 =>
   some (.int .i64 (asI r3)))) := by kernel_rfl

theorem E_lake_pair_step (N k : Nat) (x0 : List (List PV)) (x1 : List (List PV)) (x2 : Int) (x3 : Int) (x4 : Int) (x5 : Int) (x6 : Int) (x7 : Int) : ev (envF (N + 3)) (k + 1) F_lake_pair_step [(.agg [(.sl none [.int .i64, .int .i64] x0), (.sl none [.int .i64, .int .i64] x1), (.int .i64 x2)]), (.agg [(.int .i64 x3), (.int .i64 x4)]), (.agg [(.int .i64 x5), (.int .i64 x6), (.int .i64 x7)])] =
 ((ev (envF (N + 3)) k F_lake_table_evaporated [(.agg [(.sl none [.int .i64, .int .i64] x0)]), (.int .i64 x3), (.int .i64 x2)]).bind fun r1 =>
 (ev (envF (N + 3)) k F_lake_table_bottom [(.agg [(.sl none [.int .i64, .int .i64] x0)])]).bind fun r2 =>
  cond (decide ((w64 (x3 + (w64 ((w64 (x5 + x7)) - (asI r1))))) < (asI (nth (asA r2) 1))))
   (some (.tup [(.agg [(.int .i64 (0 : Int)), (.int .i64 (0 : Int))]), (.agg [(.int .i64 (0 : Int)), (.int .i64 (0 : Int))]), (.bool (false))]))
   ((ev (envF (N + 3)) k F_lake_table_top [(.agg [(.sl none [.int .i64, .int .i64] x0)])]).bind fun r4 =>
    (ev (envF (N + 3)) k F_lake_table_evaporated [(.agg [(.sl none [.int .i64, .int .i64] x1)]), (.int .i64 x4), (.int .i64 x2)]).bind fun r5 =>
     (ev (envF (N + 3)) k F_lake_table_bottom [(.agg [(.sl none [.int .i64, .int .i64] x1)])]).bind fun r6 =>
      cond (decide ((w64 (x4 + (w64 ((w64 (x6 - x7)) - (asI r5))))) < (asI (nth (asA r6) 1))))
       (some (.tup [(.agg [(.int .i64 (0 : Int)), (.int .i64 (0 : Int))]), (.agg [(.int .i64 (0 : Int)), (.int .i64 (0 : Int))]), (.bool (false))]))
       ((ev (envF (N + 3)) k F_lake_table_top [(.agg [(.sl none [.int .i64, .int .i64] x1)])]).bind fun r8 =>
        some (.tup [(.agg [(.int .i64 (w64 ((w64 (x3 + (w64 ((w64 (x5 + x7)) - (asI r1))))) - ((imax (0 : Int) (w64 ((w64 (x3 + (w64 ((w64 (x5 + x7)) - (asI r1))))) - (asI (nth (asA r4) 1))))))))), (.int .i64 (w64 ((w64 (x4 + (w64 ((w64 (x6 - x7)) - (asI r5))))) - ((imax (0 : Int) (w64 ((w64 (x4 + (w64 ((w64 (x6 - x7)) - (asI r5))))) - (asI (nth (asA r8) 1)))))))))]), (.agg [(.int .i64 (w64 ((w64 ((0 : Int) + (asI r1))) + (asI r5)))), (.int .i64 (w64 ((w64 ((0 : Int) + ((imax (0 : Int) (w64 ((w64 (x3 + (w64 ((w64 (x5 + x7)) - (asI r1))))) - (asI (nth (asA r4) 1)))))))) + ((imax (0 : Int) (w64 ((w64 (x4 + (w64 ((w64 (x6 - x7)) - (asI r5))))) - (asI (nth (asA r8) 1)))))))))]), (.bool (true))])))) := by kernel_rfl

theorem E_lake_unless (N k : Nat) (x0 : Bool) (x1 : Int) : ev (envF N) (k + 1) F_lake_unless [(.bool x0), (.int .i64 x1)] =
 (cond x0
 (some (.int .i64 (0 : Int)))
 (some (.int .i64 x1))) := by kernel_rfl

theorem E_lake_tableErr (N k : Nat) (x0 : List (List PV)) : ev (envF N) (k + 1) F_lake_tableErr [(.agg [(.sl none [.int .i64, .int .i64] x0)])] =
 ((ev (envF N) k F_lake_CheckTable [(.agg [(.sl none [.int .i64, .int .i64] x0)])]).bind fun r1 =>
 some (.int .i64 (asI (nth (asT r1) 1)))) := by kernel_rfl

theorem E_lake_within (N k : Nat) (x0 : Int) (x1 : Int) (x2 : Int) : ev (envF N) (k + 1) F_lake_within [(.int .i64 x0), (.int .i64 x1), (.int .i64 x2)] =
 (cond (decide (x1 ≤ x0))
 (some (.bool (decide (x0 ≤ x2))))
 (some (.bool (false)))) := by kernel_rfl

theorem E_ref01_Bottom (N k : Nat) (x0 : List (List PV)) : ev (envF N) (k + 1) F_ref01_Bottom [(.agg [(.sl none [.int .i64, .int .i64] x0)])] =
 (cond (decide ((0 : Int) < ((List.length x0) : Int)))
 (some (.agg [(.int .i64 (asI (nth (nths x0 (Int.toNat (0 : Int))) 0))), (.int .i64 (asI (nth (nths x0 (Int.toNat (0 : Int))) 1)))]))
 (none)) := by kernel_rfl

theorem E_ref01_evaporated (N k : Nat) (x0 : List (List PV)) (x1 : Int) (x2 : Int) : ev (envF N) (k + 1) F_ref01_evaporated [(.agg [(.sl none [.int .i64, .int .i64] x0)]), (.int .i64 x1), (.int .i64 x2)] =
 ((ev (envF N) k F_ref01_above [(.agg [(.sl none [.int .i64, .int .i64] x0)]), (.int .i64 x2)]).bind fun r1 =>
 (ev (envF N) k F_base_RatioInt [(.int .i64 x1)]).bind fun r2 =>
  (ev (envF N) k F_ref01_piece [(.agg [(.sl none [.int .i64, .int .i64] x0)]), (.int .i64 (asI r1))]).bind fun r3 =>
   (ev (envF N) k F_base_RatioMul [(.agg [(.int .i64 (asI (nth (asA r2) 0))), (.sl none [.int .i64] (asL (nth (asA r2) 1))), (.int .i64 (asI (nth (asA r2) 2))), (.sl none [.int .i64] (asL (nth (asA r2) 3)))]), (.agg [(.int .i64 (asI (nth (asA r3) 0))), (.sl none [.int .i64] (asL (nth (asA r3) 1))), (.int .i64 (asI (nth (asA r3) 2))), (.sl none [.int .i64] (asL (nth (asA r3) 3)))])]).bind fun r4 =>
    (ev (envF N) k F_base_RatioInt [(.int .i64 (1000 : Int))]).bind fun r5 =>
     (ev (envF N) k F_base_RatioDiv [(.agg [(.int .i64 (asI (nth (asA r4) 0))), (.sl none [.int .i64] (asL (nth (asA r4) 1))), (.int .i64 (asI (nth (asA r4) 2))), (.sl none [.int .i64] (asL (nth (asA r4) 3)))]), (.agg [(.int .i64 (asI (nth (asA r5) 0))), (.sl none [.int .i64] (asL (nth (asA r5) 1))), (.int .i64 (asI (nth (asA r5) 2))), (.sl none [.int .i64] (asL (nth (asA r5) 3)))])]).bind fun r6 =>
      (ev (envF N) k F_ref01_rounded [(.agg [(.int .i64 (asI (nth (asA r6) 0))), (.sl none [.int .i64] (asL (nth (asA r6) 1))), (.int .i64 (asI (nth (asA r6) 2))), (.sl none [.int .i64] (asL (nth (asA r6) 3)))])]).bind fun r7 =>
       (ev (envF N) k F_ref01_Bottom [(.agg [(.sl none [.int .i64, .int .i64] x0)])]).bind fun r8 =>
        some (.int .i64 ((imin (asI (nth (asA r7) 0)) (w64 (x2 - (asI (nth (asA r8) 1)))))))) := by kernel_rfl

/-- Loop 10 of lake_permitted. -/
noncomputable def L_lake_permitted_10 (N k n10  : Nat) (x0 : List (List PV)) (x1 : List (List PV)) (x2 : List (List PV)) (x3 : Int) (x4 : Int) (x5 : List (List PV)) (x6 : List (List PV)) : Option PV := loopAt (envF N) (ev (envF N) k) (evI (envF N) k) F_lake_permitted Go.Proofs.Try.f92 [.r, .r, .r, .r, .r, .l, .r, .b] n10 { slots := (und 1 ((.sl none [.int .i64] x0) :: und 7 ((.ptr 9 0) :: und 1 ((.sl (some (11, 0)) [.int .i64, .int .i64] x1) :: und 23 ((.sl none [.int .i64, .int .i64, .int .i64] x2) :: (.int .i64 x3) :: (.int .i64 x4) :: und 38 []))))), boxes := (nos 3 ((some (.cells [(.sl none [.int .i64, .int .i64] x5)] false)) :: nos 5 ((some (.cells [(.sl none [.int .i64, .int .i64] x6)] false)) :: nos 66 []))), vers := List.replicate 76 0 }
/-- Loop 14 of lake_permitted. -/
noncomputable def L_lake_permitted_14 (N k n14 n10 : Nat) (x0 : List (List PV)) (x1 : List (List PV)) (x2 : Int) (x3 : List (List PV)) (x4 : Int) (x5 : Int) (x6 : List (List PV)) (x7 : Int) (x8 : Int) (x9 : List (List PV)) (x10 : List (List PV)) (x11 : Int) (x12 : Int) (x13 : Int) : Option PV := loopAt (envF N) (ev (envF N) k) (evI (envF N) k) F_lake_permitted Go.Proofs.Try.f92 [.r, .r, .r, .r, .r, .l, .r, .b, .p n10, .r, .r, .l, .b, .r, .r, .l, .r, .b] n14 { slots := (und 1 ((.sl none [.int .i64] x0) :: und 7 ((.ptr 9 0) :: und 1 ((.sl (some (11, 0)) [.int .i64, .int .i64] x1) :: und 1 ((.ptr 13 0) :: (.int .i64 x2) :: und 20 ((.sl none [.int .i64, .int .i64, .int .i64] x3) :: (.int .i64 x4) :: (.int .i64 x5) :: und 6 ((.sl none [.int .i64] x6) :: (.int .i64 x7) :: (.int .i64 x8) :: und 29 []))))))), boxes := (nos 3 ((some (.cells [(.sl none [.int .i64, .int .i64] x9)] false)) :: nos 5 ((some (.cells [(.sl none [.int .i64, .int .i64] x10)] false)) :: nos 3 ((some (.cells [(.int .i64 x11), (.int .i64 x12), (.int .i64 x13)] false)) :: nos 62 [])))), vers := List.replicate 76 0 }
theorem L_lake_permitted_10_eq (N k n10  : Nat) (x0 : List (List PV)) (x1 : List (List PV)) (x2 : List (List PV)) (x3 : Int) (x4 : Int) (x5 : List (List PV)) (x6 : List (List PV)) : L_lake_permitted_10 N k (n10 + 1)  x0 x1 x2 x3 x4 x5 x6 =
 (cond (decide (x4 < x3))
 (cond (decide ((0 : Int) ≤ x4))
  (cond (decide (x4 < ((List.length x2) : Int)))
   (cond (decide ((0 : Int) ≤ (asI (nth (nths x2 (Int.toNat x4)) 0))))
    (cond (decide ((asI (nth (nths x2 (Int.toNat x4)) 0)) ≤ ((List.length x0) : Int)))
     (L_lake_permitted_14 N k N n10 x0 x1 (0 : Int) x2 x3 x4 (List.drop 0 (List.take (Int.toNat (asI (nth (nths x2 (Int.toNat x4)) 0))) x0)) ((List.length (List.drop 0 (List.take (Int.toNat (asI (nth (nths x2 (Int.toNat x4)) 0))) x0))) : Int) (0 : Int) x5 x6 (asI (nth (nths x2 (Int.toNat x4)) 0)) (asI (nth (nths x2 (Int.toNat x4)) 1)) (asI (nth (nths x2 (Int.toNat x4)) 2)))
     (none))
    (none))
   (none))
  (none))
 (some (.tup [(.sl none [.int .i64, .int .i64] x1), (.int .i64 (0 : Int))]))) := by kernel_rfl
theorem L_lake_permitted_14_eq (N k n14 n10 : Nat) (x0 : List (List PV)) (x1 : List (List PV)) (x2 : Int) (x3 : List (List PV)) (x4 : Int) (x5 : Int) (x6 : List (List PV)) (x7 : Int) (x8 : Int) (x9 : List (List PV)) (x10 : List (List PV)) (x11 : Int) (x12 : Int) (x13 : Int) : L_lake_permitted_14 N k (n14 + 1) n10 x0 x1 x2 x3 x4 x5 x6 x7 x8 x9 x10 x11 x12 x13 =
 (cond (decide (x8 < x7))
 (cond (decide ((0 : Int) ≤ x8))
  (cond (decide (x8 < ((List.length x6) : Int)))
   (L_lake_permitted_14 N k n14 n10 x0 x1 (w64 (x2 + (asI (nth (nths x6 (Int.toNat x8)) 0)))) x3 x4 x5 x6 x7 (w64 (x8 + (1 : Int))) x9 x10 x11 x12 x13)
   (none))
  (none))
 ((ev (envF N) k F_lake_table_volumeAt [(.agg [(.sl none [.int .i64, .int .i64] x10)]), (.int .i64 x12)]).bind fun r2 =>
  (ev (envF N) k F_lake_table_volumeAt [(.agg [(.sl none [.int .i64, .int .i64] x10)]), (.int .i64 x13)]).bind fun r3 =>
   cond (room x1 [[(.int .i64 (w64 ((asI (nth (asA r2) 1)) - x2))), (.int .i64 (w64 ((asI (nth (asA r3) 0)) - x2)))]] 16)
    (L_lake_permitted_10 N k n10  x0 (x1 ++ [[(.int .i64 (w64 ((asI (nth (asA r2) 1)) - x2))), (.int .i64 (w64 ((asI (nth (asA r3) 0)) - x2)))]]) x3 x4 (w64 (x5 + (1 : Int))) x9 x10)
    (none))) := by kernel_rfl
theorem E_lake_permitted (N k : Nat) (x0 : List (List PV)) (x1 : List (List PV)) (x2 : List (List PV)) : ev (envF N) (k + 1) F_lake_permitted [(.agg [(.sl none [.int .i64, .int .i64] x0)]), (.sl none [.int .i64] x1), (.sl none [.int .i64, .int .i64, .int .i64] x2)] =
 ((ev (envF N) k F_lake_tableErr [(.agg [(.sl none [.int .i64, .int .i64] x0)])]).bind fun r1 =>
 (ev (envF N) k F_lake_netErr [(.sl none [.int .i64] x1)]).bind fun r2 =>
  (ev (envF N) k F_lake_first [(.sl none [.int .i64] [[(.int .i64 (asI r1))], [(.int .i64 (asI r2))]])]).bind fun r3 =>
   cond (!(decide ((asI r3) = (0 : Int))))
    (some (.tup [(.sl none [.int .i64, .int .i64] []), (.int .i64 (asI r3))]))
    ((ev (envF N) k F_lake_table_readingsErr [(.agg [(.sl none [.int .i64, .int .i64] x0)]), (.sl none [.int .i64] x1), (.sl none [.int .i64, .int .i64, .int .i64] x2)]).bind fun r5 =>
     cond (!(decide ((asI r5) = (0 : Int))))
      (some (.tup [(.sl none [.int .i64, .int .i64] []), (.int .i64 (asI r5))]))
      (L_lake_permitted_10 N k N  x1 [] x2 ((List.length x2) : Int) (0 : Int) x0 x0))) := by kernel_rfl

/-- Loop 3 of lake_common. -/
noncomputable def L_lake_common_3 (N k n3  : Nat) (x0 : List (List PV)) (x1 : Int) (x2 : Int) (x3 : Int) (x4 : Int) (x5 : Int) (x6 : Int) : Option PV := loopAt (envF N) (ev (envF N) k) (evI (envF N) k) F_lake_common Go.Proofs.Try.f93 [.r, .r, .l, .r, .b] n3 { slots := (und 2 ((.ptr 2 0) :: und 1 ((.ptr 4 0) :: und 6 ((.sl none [.int .i64, .int .i64] x0) :: (.int .i64 x1) :: (.int .i64 x2) :: und 21 [])))), boxes := (nos 2 ((some (.cells [(.int .i64 x3), (.int .i64 x4)] false)) :: nos 1 ((some (.cells [(.int .i64 x5), (.int .i64 x6)] false)) :: nos 30 []))), vers := List.replicate 35 0 }
theorem L_lake_common_3_eq (N k n3  : Nat) (x0 : List (List PV)) (x1 : Int) (x2 : Int) (x3 : Int) (x4 : Int) (x5 : Int) (x6 : Int) : L_lake_common_3 N k (n3 + 1)  x0 x1 x2 x3 x4 x5 x6 =
 (cond (decide (x2 < x1))
 (cond (decide ((0 : Int) ≤ x2))
  (cond (decide (x2 < ((List.length x0) : Int)))
   (L_lake_common_3 N k n3  x0 x1 (w64 (x2 + (1 : Int))) x3 x4 ((imax x5 (asI (nth (nths x0 (Int.toNat x2)) 0)))) ((imin x6 (asI (nth (nths x0 (Int.toNat x2)) 1)))))
   (none))
  (none))
 (some (.tup [(.agg [(.int .i64 x5), (.int .i64 x6)]), (.bool (decide (x5 ≤ x6)))]))) := by kernel_rfl
theorem E_lake_common (N k : Nat) (x0 : List (List PV)) : ev (envF N) (k + 1) F_lake_common [(.sl none [.int .i64, .int .i64] x0)] =
 (cond (decide ((0 : Int) < ((List.length x0) : Int)))
 (cond (decide ((1 : Int) ≤ ((List.length x0) : Int)))
  (L_lake_common_3 N k N  (List.drop (Int.toNat (1 : Int)) (List.take (List.length x0) x0)) ((List.length (List.drop (Int.toNat (1 : Int)) (List.take (List.length x0) x0))) : Int) (0 : Int) (0 : Int) (0 : Int) (asI (nth (nths x0 (Int.toNat (0 : Int))) 0)) (asI (nth (nths x0 (Int.toNat (0 : Int))) 1)))
  (none))
 (none)) := by kernel_rfl

/-- Loop 4 of ref01_NetErr. -/
noncomputable def L_ref01_NetErr_4 (N k n4  : Nat) (x0 : List (List PV)) (x1 : Int) : Option PV := loopAt (envF N) (ev (envF N) k) (evI (envF N) k) F_ref01_NetErr Go.Proofs.Try.f94 [.r, .r, .l, .r, .b] n4 { slots := ((.sl none [.int .i64] x0) :: und 2 ((.int .i64 x1) :: und 15 [])), boxes := (nos 19 []), vers := List.replicate 19 0 }
theorem L_ref01_NetErr_4_eq (N k n4  : Nat) (x0 : List (List PV)) (x1 : Int) : L_ref01_NetErr_4 N k (n4 + 1)  x0 x1 =
 (cond (decide (x1 < ((List.length x0) : Int)))
 (cond (decide ((0 : Int) ≤ x1))
  (cond (decide (x1 < ((List.length x0) : Int)))
   ((ev (envF N) k F_base_Within [(.int .i64 (asI (nth (nths x0 (Int.toNat x1)) 0))), (.int .i64 (-10000000 : Int)), (.int .i64 (10000000 : Int))]).bind fun r4 =>
    cond (!(asB r4))
     (some (.int .i64 (2 : Int)))
     (L_ref01_NetErr_4 N k n4  x0 (w64 (x1 + (1 : Int)))))
   (none))
  (none))
 (some (.int .i64 (0 : Int)))) := by kernel_rfl
theorem E_ref01_NetErr (N k : Nat) (x0 : List (List PV)) : ev (envF N) (k + 1) F_ref01_NetErr [(.sl none [.int .i64] x0)] =
 (cond (decide ((200 : Int) < ((List.length x0) : Int)))
 (some (.int .i64 (8 : Int)))
 (L_ref01_NetErr_4 N k N  x0 (0 : Int))) := by kernel_rfl

/-- Loop 6 of ref01_ReadingsErr. -/
noncomputable def L_ref01_ReadingsErr_6 (N k n6  : Nat) (x0 : List (List PV)) (x1 : List (List PV)) (x2 : Int) (x3 : List (List PV)) : Option PV := loopAt (envF N) (ev (envF N) k) (evI (envF N) k) F_ref01_ReadingsErr Go.Proofs.Try.f95 [.r, .r, .r, .l, .r, .b] n6 { slots := (und 1 ((.sl none [.int .i64] x0) :: (.sl none [.int .i64, .int .i64, .int .i64] x1) :: (.ptr 3 0) :: und 3 ((.int .i64 x2) :: und 56 []))), boxes := (nos 3 ((some (.cells [(.sl none [.int .i64, .int .i64] x3)] false)) :: nos 60 [])), vers := List.replicate 64 0 }
theorem L_ref01_ReadingsErr_6_eq (N k n6  : Nat) (x0 : List (List PV)) (x1 : List (List PV)) (x2 : Int) (x3 : List (List PV)) : L_ref01_ReadingsErr_6 N k (n6 + 1)  x0 x1 x2 x3 =
 (cond (decide (x2 < ((List.length x1) : Int)))
 (cond (decide ((0 : Int) ≤ x2))
  (cond (decide (x2 < ((List.length x1) : Int)))
   ((ev (envF N) k F_base_Within [(.int .i64 (asI (nth (nths x1 (Int.toNat x2)) 0))), (.int .i64 (0 : Int)), (.int .i64 ((List.length x0) : Int))]).bind fun r4 =>
    cond (!(asB r4))
     (some (.int .i64 (2 : Int)))
     (cond (decide ((0 : Int) ≤ x2))
      (cond (decide (x2 < ((List.length x1) : Int)))
       ((ev (envF N) k F_ref01_IsLevel [(.agg [(.sl none [.int .i64, .int .i64] x3)]), (.int .i64 (asI (nth (nths x1 (Int.toNat x2)) 1)))]).bind fun r8 =>
        cond (!(asB r8))
         (some (.int .i64 (2 : Int)))
         (cond (decide ((0 : Int) ≤ x2))
          (cond (decide (x2 < ((List.length x1) : Int)))
           ((ev (envF N) k F_ref01_IsLevel [(.agg [(.sl none [.int .i64, .int .i64] x3)]), (.int .i64 (asI (nth (nths x1 (Int.toNat x2)) 2)))]).bind fun r12 =>
            cond (!(asB r12))
             (some (.int .i64 (2 : Int)))
             (cond (decide ((0 : Int) ≤ x2))
              (cond (decide (x2 < ((List.length x1) : Int)))
               (cond (decide ((0 : Int) ≤ x2))
                (cond (decide (x2 < ((List.length x1) : Int)))
                 (cond (decide ((asI (nth (nths x1 (Int.toNat x2)) 2)) < (asI (nth (nths x1 (Int.toNat x2)) 1))))
                  (some (.int .i64 (9 : Int)))
                  (L_ref01_ReadingsErr_6 N k n6  x0 x1 (w64 (x2 + (1 : Int))) x3))
                 (none))
                (none))
               (none))
              (none)))
           (none))
          (none)))
       (none))
      (none)))
   (none))
  (none))
 (some (.int .i64 (0 : Int)))) := by kernel_rfl
theorem E_ref01_ReadingsErr (N k : Nat) (x0 : List (List PV)) (x1 : List (List PV)) (x2 : List (List PV)) : ev (envF N) (k + 1) F_ref01_ReadingsErr [(.agg [(.sl none [.int .i64, .int .i64] x0)]), (.sl none [.int .i64] x1), (.sl none [.int .i64, .int .i64, .int .i64] x2)] =
 (cond (decide (((List.length x2) : Int) = (0 : Int)))
 (some (.int .i64 (10 : Int)))
 (cond (decide ((10 : Int) < ((List.length x2) : Int)))
  (some (.int .i64 (8 : Int)))
  (L_ref01_ReadingsErr_6 N k N  x1 x2 (0 : Int) x0))) := by kernel_rfl

/-- Loop 3 of ref01_permitted. -/
noncomputable def L_ref01_permitted_3 (N k n3  : Nat) (x0 : List (List PV)) (x1 : Int) (x2 : Int) (x3 : List (List PV)) (x4 : Int) (x5 : Int) (x6 : Int) (x7 : Int) (x8 : Int) : Option PV := loopAt (envF N) (ev (envF N) k) (evI (envF N) k) F_ref01_permitted Go.Proofs.Try.f96 [.r, .r, .l, .r, .b] n3 { slots := (und 1 ((.sl none [.int .i64] x0) :: und 1 ((.ptr 3 0) :: und 1 ((.ptr 5 0) :: (.ptr 6 0) :: (.int .i64 x1) :: (.int .i64 x2) :: und 29 [])))), boxes := (nos 3 ((some (.cells [(.sl none [.int .i64, .int .i64] x3)] false)) :: nos 1 ((some (.cells [(.int .i64 x4), (.int .i64 x5), (.int .i64 x6)] false)) :: (some (.cells [(.int .i64 x7), (.int .i64 x8)] false)) :: nos 31 []))), vers := List.replicate 38 0 }
theorem L_ref01_permitted_3_eq (N k n3  : Nat) (x0 : List (List PV)) (x1 : Int) (x2 : Int) (x3 : List (List PV)) (x4 : Int) (x5 : Int) (x6 : Int) (x7 : Int) (x8 : Int) : L_ref01_permitted_3 N k (n3 + 1)  x0 x1 x2 x3 x4 x5 x6 x7 x8 =
 (cond (decide (x2 < x4))
 (cond (decide ((0 : Int) ≤ x2))
  (cond (decide (x2 < ((List.length x0) : Int)))
   (L_ref01_permitted_3 N k n3  x0 (w64 (x1 + (asI (nth (nths x0 (Int.toNat x2)) 0)))) (w64 (x2 + (1 : Int))) x3 x4 x5 x6 x7 x8)
   (none))
  (none))
 ((ev (envF N) k F_ref01_VolumeAt [(.agg [(.sl none [.int .i64, .int .i64] x3)]), (.int .i64 x5)]).bind fun r2 =>
  (ev (envF N) k F_ref01_VolumeAt [(.agg [(.sl none [.int .i64, .int .i64] x3)]), (.int .i64 x6)]).bind fun r3 =>
   some (.agg [(.int .i64 (w64 ((asI (nth (asA r2) 1)) - x1))), (.int .i64 (w64 ((asI (nth (asA r3) 0)) - x1)))]))) := by kernel_rfl
theorem E_ref01_permitted (N k : Nat) (x0 : List (List PV)) (x1 : List (List PV)) (x2 : Int) (x3 : Int) (x4 : Int) : ev (envF N) (k + 1) F_ref01_permitted [(.agg [(.sl none [.int .i64, .int .i64] x0)]), (.sl none [.int .i64] x1), (.agg [(.int .i64 x2), (.int .i64 x3), (.int .i64 x4)])] =
 (L_ref01_permitted_3 N k N  x1 (0 : Int) (0 : Int) x0 x2 x3 x4 (0 : Int) (0 : Int)) := by kernel_rfl

theorem E_lake_openVolume (N k : Nat) (x0 : List (List PV)) (x1 : Int) : ev (envF N) (k + 1) F_lake_openVolume [(.agg [(.sl none [.int .i64, .int .i64] x0)]), (.int .i64 x1)] =
 ((ev (envF N) k F_lake_tableErr [(.agg [(.sl none [.int .i64, .int .i64] x0)])]).bind fun r1 =>
 cond (!(decide ((asI r1) = (0 : Int))))
  (some (.tup [(.agg [(.sl none [.int .i64, .int .i64] [])]), (.int .i64 (asI r1))]))
  ((ev (envF N) k F_lake_table_holds [(.agg [(.sl none [.int .i64, .int .i64] x0)]), (.int .i64 x1)]).bind fun r3 =>
   (ev (envF N) k F_lake_unless [(.bool (asB r3)), (.int .i64 (2 : Int))]).bind fun r4 =>
    some (.tup [(.agg [(.sl none [.int .i64, .int .i64] x0)]), (.int .i64 (asI r4))]))) := by kernel_rfl

theorem E_lake_table_levelAt (N k : Nat) (x0 : List (List PV)) (x1 : Int) : ev (envF N) (k + 1) F_lake_table_levelAt [(.agg [(.sl none [.int .i64, .int .i64] x0)]), (.int .i64 x1)] =
 ((ev (envF N) k F_lake_table_byVolume [(.agg [(.sl none [.int .i64, .int .i64] x0)]), (.int .i64 x1)]).bind fun r1 =>
 (ev (envF N) k F_lake_piece_height [(.agg [(.int .i64 (asI (nth (asA r1) 0))), (.int .i64 (asI (nth (asA r1) 1))), (.int .i64 (asI (nth (asA r1) 2))), (.int .i64 (asI (nth (asA r1) 3)))])]).bind fun r2 =>
  (ev (envF N) k F_lake_piece_volume [(.agg [(.int .i64 (asI (nth (asA r1) 0))), (.int .i64 (asI (nth (asA r1) 1))), (.int .i64 (asI (nth (asA r1) 2))), (.int .i64 (asI (nth (asA r1) 3)))])]).bind fun r3 =>
   cond (!(decide ((asI r3) = (0 : Int))))
    ((ev (envF N) k F_lake_piece_volume [(.agg [(.int .i64 (asI (nth (asA r1) 0))), (.int .i64 (asI (nth (asA r1) 1))), (.int .i64 (asI (nth (asA r1) 2))), (.int .i64 (asI (nth (asA r1) 3)))])]).bind fun r5 =>
     cond (!(decide ((asI r5) = (0 : Int))))
      ((ev (envF N) k F_lake_piece_volume [(.agg [(.int .i64 (asI (nth (asA r1) 0))), (.int .i64 (asI (nth (asA r1) 1))), (.int .i64 (asI (nth (asA r1) 2))), (.int .i64 (asI (nth (asA r1) 3)))])]).bind fun r7 =>
       some (.agg [(.int .i64 (w64 ((asI (nth (asA r1) 0)) + (w64 (Int.tdiv (w64 ((w64 (x1 - (asI (nth (asA r1) 1)))) * (asI r2))) (asI r3)))))), (.int .i64 (Int.tmod (w64 ((w64 (x1 - (asI (nth (asA r1) 1)))) * (asI r2))) (asI r5))), (.int .i64 (asI r7))]))
      (none))
    (none)) := by kernel_rfl

/-- Loop 4 of lake_ticksErr. -/
noncomputable def L_lake_ticksErr_4 (N k n4  : Nat) (x0 : List (List PV)) (x1 : Int) (x2 : Int) : Option PV := loopAt (envF N) (ev (envF N) k) (evI (envF N) k) F_lake_ticksErr Go.Proofs.Try.f100 [.r, .r, .l, .r, .b] n4 { slots := (und 9 ((.sl none [.int .i64, .int .i64, .int .i64] x0) :: (.int .i64 x1) :: (.int .i64 x2) :: und 9 [])), boxes := (nos 21 []), vers := List.replicate 21 0 }
theorem L_lake_ticksErr_4_eq (N k n4  : Nat) (x0 : List (List PV)) (x1 : Int) (x2 : Int) : L_lake_ticksErr_4 N k (n4 + 1)  x0 x1 x2 =
 (cond (decide (x2 < x1))
 (cond (decide ((0 : Int) ≤ x2))
  (cond (decide (x2 < ((List.length x0) : Int)))
   ((ev (envF N) k F_lake_flowsErr [(.agg [(.int .i64 (asI (nth (nths x0 (Int.toNat x2)) 0))), (.int .i64 (asI (nth (nths x0 (Int.toNat x2)) 1))), (.int .i64 (asI (nth (nths x0 (Int.toNat x2)) 2)))])]).bind fun r4 =>
    cond (!(decide ((asI r4) = (0 : Int))))
     (some (.int .i64 (asI r4)))
     (L_lake_ticksErr_4 N k n4  x0 x1 (w64 (x2 + (1 : Int)))))
   (none))
  (none))
 (some (.int .i64 (0 : Int)))) := by kernel_rfl
theorem E_lake_ticksErr (N k : Nat) (x0 : List (List PV)) : ev (envF N) (k + 1) F_lake_ticksErr [(.sl none [.int .i64, .int .i64, .int .i64] x0)] =
 (cond (decide ((200 : Int) < ((List.length x0) : Int)))
 (some (.int .i64 (8 : Int)))
 (L_lake_ticksErr_4 N k N  x0 ((List.length x0) : Int) (0 : Int))) := by kernel_rfl

theorem E_lake_piece_height (N k : Nat) (x0 : Int) (x1 : Int) (x2 : Int) (x3 : Int) : ev (envF N) (k + 1) F_lake_piece_height [(.agg [(.int .i64 x0), (.int .i64 x1), (.int .i64 x2), (.int .i64 x3)])] =
 (some (.int .i64 (w64 (x2 - x0)))) := by kernel_rfl

theorem E_lake_piece_volume (N k : Nat) (x0 : Int) (x1 : Int) (x2 : Int) (x3 : Int) : ev (envF N) (k + 1) F_lake_piece_volume [(.agg [(.int .i64 x0), (.int .i64 x1), (.int .i64 x2), (.int .i64 x3)])] =
 (some (.int .i64 (w64 (x3 - x1)))) := by kernel_rfl

theorem E_lake_piece_narrower (N k : Nat) (x0 : Int) (x1 : Int) (x2 : Int) (x3 : Int) (x4 : Int) (x5 : Int) (x6 : Int) (x7 : Int) : ev (envF N) (k + 1) F_lake_piece_narrower [(.agg [(.int .i64 x0), (.int .i64 x1), (.int .i64 x2), (.int .i64 x3)]), (.agg [(.int .i64 x4), (.int .i64 x5), (.int .i64 x6), (.int .i64 x7)])] =
 ((ev (envF N) k F_lake_piece_volume [(.agg [(.int .i64 x0), (.int .i64 x1), (.int .i64 x2), (.int .i64 x3)])]).bind fun r1 =>
 (ev (envF N) k F_lake_piece_height [(.agg [(.int .i64 x4), (.int .i64 x5), (.int .i64 x6), (.int .i64 x7)])]).bind fun r2 =>
  (ev (envF N) k F_lake_piece_volume [(.agg [(.int .i64 x4), (.int .i64 x5), (.int .i64 x6), (.int .i64 x7)])]).bind fun r3 =>
   (ev (envF N) k F_lake_piece_height [(.agg [(.int .i64 x0), (.int .i64 x1), (.int .i64 x2), (.int .i64 x3)])]).bind fun r4 =>
    some (.bool (decide ((w64 ((asI r1) * (asI r2))) < (w64 ((asI r3) * (asI r4))))))) := by kernel_rfl

theorem E_lake_table_volumeAt (N k : Nat) (x0 : List (List PV)) (x1 : Int) : ev (envF N) (k + 1) F_lake_table_volumeAt [(.agg [(.sl none [.int .i64, .int .i64] x0)]), (.int .i64 x1)] =
 ((ev (envF N) k F_lake_table_pieceTo [(.agg [(.sl none [.int .i64, .int .i64] x0)]), (.fn F_lake_table_volumeAt_c1 [(.rp [(.int .i64 x1)] 0)])]).bind fun r1 =>
 (ev (envF N) k F_lake_piece_volume [(.agg [(.int .i64 (asI (nth (asA r1) 0))), (.int .i64 (asI (nth (asA r1) 1))), (.int .i64 (asI (nth (asA r1) 2))), (.int .i64 (asI (nth (asA r1) 3)))])]).bind fun r2 =>
  (ev (envF N) k F_lake_piece_height [(.agg [(.int .i64 (asI (nth (asA r1) 0))), (.int .i64 (asI (nth (asA r1) 1))), (.int .i64 (asI (nth (asA r1) 2))), (.int .i64 (asI (nth (asA r1) 3)))])]).bind fun r3 =>
   (ev (envF N) k F_lake_floor [(.int .i64 (w64 ((w64 (x1 - (asI (nth (asA r1) 0)))) * (asI r2)))), (.int .i64 (asI r3))]).bind fun r4 =>
    (ev (envF N) k F_lake_piece_height [(.agg [(.int .i64 (asI (nth (asA r1) 0))), (.int .i64 (asI (nth (asA r1) 1))), (.int .i64 (asI (nth (asA r1) 2))), (.int .i64 (asI (nth (asA r1) 3)))])]).bind fun r5 =>
     (ev (envF N) k F_lake_ceil [(.int .i64 (w64 ((w64 (x1 - (asI (nth (asA r1) 0)))) * (asI r2)))), (.int .i64 (asI r5))]).bind fun r6 =>
      some (.agg [(.int .i64 (w64 ((asI (nth (asA r1) 1)) + (asI r4)))), (.int .i64 (w64 ((asI (nth (asA r1) 1)) + (asI r6))))])) := by kernel_rfl

theorem E_lake_table_byVolume (N k : Nat) (x0 : List (List PV)) (x1 : Int) : ev (envF N) (k + 1) F_lake_table_byVolume [(.agg [(.sl none [.int .i64, .int .i64] x0)]), (.int .i64 x1)] =
 ((ev (envF N) k F_lake_table_pieceTo [(.agg [(.sl none [.int .i64, .int .i64] x0)]), (.fn F_lake_table_byVolume_c1 [(.rp [(.int .i64 x1)] 0)])]).bind fun r1 =>
 some (.agg [(.int .i64 (asI (nth (asA r1) 0))), (.int .i64 (asI (nth (asA r1) 1))), (.int .i64 (asI (nth (asA r1) 2))), (.int .i64 (asI (nth (asA r1) 3)))])) := by kernel_rfl

/-- Loop 1 of lake_divisor. -/
noncomputable def L_lake_divisor_1 (N k n1  : Nat) (x0 : Int) (x1 : Int) : Option PV := loopAt (envF N) (ev (envF N) k) (evI (envF N) k) F_lake_divisor Go.Proofs.Try.f109 [.r, .l, .b] n1 { slots := ((.int .i64 x0) :: (.int .i64 x1) :: und 10 []), boxes := (nos 12 []), vers := List.replicate 12 0 }
theorem L_lake_divisor_1_eq (N k n1  : Nat) (x0 : Int) (x1 : Int) : L_lake_divisor_1 N k (n1 + 1)  x0 x1 =
 (cond (!(decide (x1 = (0 : Int))))
 (cond (!(decide (x1 = (0 : Int))))
  (L_lake_divisor_1 N k n1  x1 (Int.tmod x0 x1))
  (none))
 (some (.int .i64 x0))) := by kernel_rfl
theorem E_lake_divisor (N k : Nat) (x0 : Int) (x1 : Int) : ev (envF N) (k + 1) F_lake_divisor [(.int .i64 x0), (.int .i64 x1)] =
 (L_lake_divisor_1 N k N  x0 x1) := by kernel_rfl

theorem E_base_RatioCmp (N k : Nat) (x0 : Int) (x1 : List (List PV)) (x2 : Int) (x3 : List (List PV)) (x4 : Int) (x5 : List (List PV)) (x6 : Int) (x7 : List (List PV)) : ev (envF N) (k + 1) F_base_RatioCmp [(.agg [(.int .i64 x0), (.sl none [.int .i64] x1), (.int .i64 x2), (.sl none [.int .i64] x3)]), (.agg [(.int .i64 x4), (.sl none [.int .i64] x5), (.int .i64 x6), (.sl none [.int .i64] x7)])] =
 ((ev (envF N) k F_base_WideMul [(.agg [(.int .i64 x0), (.sl none [.int .i64] x1)]), (.agg [(.int .i64 x6), (.sl none [.int .i64] x7)])]).bind fun r1 =>
 (ev (envF N) k F_base_WideMul [(.agg [(.int .i64 x4), (.sl none [.int .i64] x5)]), (.agg [(.int .i64 x2), (.sl none [.int .i64] x3)])]).bind fun r2 =>
  (ev (envF N) k F_base_WideCmp [(.agg [(.int .i64 (asI (nth (asA r1) 0))), (.sl none [.int .i64] (asL (nth (asA r1) 1)))]), (.agg [(.int .i64 (asI (nth (asA r2) 0))), (.sl none [.int .i64] (asL (nth (asA r2) 1)))])]).bind fun r3 =>
   some (.int .i64 (asI r3))) := by kernel_rfl

theorem E_ref01_piece (N k : Nat) (x0 : List (List PV)) (x1 : Int) : ev (envF N) (k + 1) F_ref01_piece [(.agg [(.sl none [.int .i64, .int .i64] x0)]), (.int .i64 x1)] =
 (cond (decide ((0 : Int) ≤ (w64 (x1 - (1 : Int)))))
 (cond (decide ((w64 (x1 - (1 : Int))) < ((List.length x0) : Int)))
  (cond (decide ((0 : Int) ≤ x1))
   (cond (decide (x1 < ((List.length x0) : Int)))
    ((ev (envF N) k F_base_RatioOf [(.int .i64 (w64 ((asI (nth (nths x0 (Int.toNat x1)) 1)) - (asI (nth (nths x0 (Int.toNat (w64 (x1 - (1 : Int))))) 1))))), (.int .i64 (w64 ((asI (nth (nths x0 (Int.toNat x1)) 0)) - (asI (nth (nths x0 (Int.toNat (w64 (x1 - (1 : Int))))) 0)))))]).bind fun r5 =>
     some (.agg [(.int .i64 (asI (nth (asA r5) 0))), (.sl none [.int .i64] (asL (nth (asA r5) 1))), (.int .i64 (asI (nth (asA r5) 2))), (.sl none [.int .i64] (asL (nth (asA r5) 3)))]))
    (none))
   (none))
  (none))
 (none)) := by kernel_rfl

theorem E_ref01_rounded (N k : Nat) (x0 : Int) (x1 : List (List PV)) (x2 : Int) (x3 : List (List PV)) : ev (envF N) (k + 1) F_ref01_rounded [(.agg [(.int .i64 x0), (.sl none [.int .i64] x1), (.int .i64 x2), (.sl none [.int .i64] x3)])] =
 ((ev (envF N) k F_base_RatioFloor [(.agg [(.int .i64 x0), (.sl none [.int .i64] x1), (.int .i64 x2), (.sl none [.int .i64] x3)])]).bind fun r1 =>
 (ev (envF N) k F_base_WideInt [(.agg [(.int .i64 (asI (nth (asA r1) 0))), (.sl none [.int .i64] (asL (nth (asA r1) 1)))])]).bind fun r2 =>
  (ev (envF N) k F_base_RatioCeil [(.agg [(.int .i64 x0), (.sl none [.int .i64] x1), (.int .i64 x2), (.sl none [.int .i64] x3)])]).bind fun r3 =>
   (ev (envF N) k F_base_WideInt [(.agg [(.int .i64 (asI (nth (asA r3) 0))), (.sl none [.int .i64] (asL (nth (asA r3) 1)))])]).bind fun r4 =>
    some (.agg [(.int .i64 (asI (nth (asT r2) 0))), (.int .i64 (asI (nth (asT r4) 0)))])) := by kernel_rfl

/-- Loop 2 of ref01_volume. -/
noncomputable def L_ref01_volume_2 (N k n2  : Nat) (x0 : Int) (x1 : Int) (x2 : List (List PV)) (x3 : Int) (x4 : List (List PV)) (x5 : Int) (x6 : List (List PV)) : Option PV := loopAt (envF N) (ev (envF N) k) (evI (envF N) k) F_ref01_volume Go.Proofs.Try.f113 [.r, .r, .l, .b] n2 { slots := (und 1 ((.int .i64 x0) :: (.ptr 2 0) :: und 1 ((.ptr 4 0) :: (.int .i64 x1) :: und 30 []))), boxes := (nos 2 ((some (.cells [(.sl none [.int .i64, .int .i64] x2)] false)) :: nos 1 ((some (.cells [(.int .i64 x3), (.sl none [.int .i64] x4), (.int .i64 x5), (.sl none [.int .i64] x6)] false)) :: nos 31 []))), vers := List.replicate 36 0 }
theorem L_ref01_volume_2_eq (N k n2  : Nat) (x0 : Int) (x1 : Int) (x2 : List (List PV)) (x3 : Int) (x4 : List (List PV)) (x5 : Int) (x6 : List (List PV)) : L_ref01_volume_2 N k (n2 + 1)  x0 x1 x2 x3 x4 x5 x6 =
 (cond (decide ((0 : Int) ≤ x1))
 (cond (decide (x1 < ((List.length x2) : Int)))
  (cond (decide ((asI (nth (nths x2 (Int.toNat x1)) 0)) < x0))
   (L_ref01_volume_2 N k n2  x0 (w64 (x1 + (1 : Int))) x2 x3 x4 x5 x6)
   (cond (decide ((0 : Int) ≤ (w64 (x1 - (1 : Int)))))
    (cond (decide ((w64 (x1 - (1 : Int))) < ((List.length x2) : Int)))
     ((ev (envF N) k F_base_RatioInt [(.int .i64 (asI (nth (nths x2 (Int.toNat (w64 (x1 - (1 : Int))))) 1)))]).bind fun r6 =>
      (ev (envF N) k F_base_RatioInt [(.int .i64 (w64 (x0 - (asI (nth (nths x2 (Int.toNat (w64 (x1 - (1 : Int))))) 0)))))]).bind fun r7 =>
       (ev (envF N) k F_ref01_piece [(.agg [(.sl none [.int .i64, .int .i64] x2)]), (.int .i64 x1)]).bind fun r8 =>
        (ev (envF N) k F_base_RatioMul [(.agg [(.int .i64 (asI (nth (asA r7) 0))), (.sl none [.int .i64] (asL (nth (asA r7) 1))), (.int .i64 (asI (nth (asA r7) 2))), (.sl none [.int .i64] (asL (nth (asA r7) 3)))]), (.agg [(.int .i64 (asI (nth (asA r8) 0))), (.sl none [.int .i64] (asL (nth (asA r8) 1))), (.int .i64 (asI (nth (asA r8) 2))), (.sl none [.int .i64] (asL (nth (asA r8) 3)))])]).bind fun r9 =>
         (ev (envF N) k F_base_RatioAdd [(.agg [(.int .i64 (asI (nth (asA r6) 0))), (.sl none [.int .i64] (asL (nth (asA r6) 1))), (.int .i64 (asI (nth (asA r6) 2))), (.sl none [.int .i64] (asL (nth (asA r6) 3)))]), (.agg [(.int .i64 (asI (nth (asA r9) 0))), (.sl none [.int .i64] (asL (nth (asA r9) 1))), (.int .i64 (asI (nth (asA r9) 2))), (.sl none [.int .i64] (asL (nth (asA r9) 3)))])]).bind fun r10 =>
          some (.agg [(.int .i64 (asI (nth (asA r10) 0))), (.sl none [.int .i64] (asL (nth (asA r10) 1))), (.int .i64 (asI (nth (asA r10) 2))), (.sl none [.int .i64] (asL (nth (asA r10) 3)))]))
     (none))
    (none)))
  (none))
 (none)) := by kernel_rfl
theorem E_ref01_volume (N k : Nat) (x0 : List (List PV)) (x1 : Int) : ev (envF N) (k + 1) F_ref01_volume [(.agg [(.sl none [.int .i64, .int .i64] x0)]), (.int .i64 x1)] =
 (L_ref01_volume_2 N k N  x1 (1 : Int) x0 (0 : Int) [] (0 : Int) []) := by kernel_rfl

theorem E_ref01_Level (N k : Nat) (x0 : List (List PV)) (x1 : Int) : ev (envF N) (k + 1) F_ref01_Level [(.agg [(.sl none [.int .i64, .int .i64] x0)]), (.int .i64 x1)] =
 ((ev (envF N) k F_ref01_above [(.agg [(.sl none [.int .i64, .int .i64] x0)]), (.int .i64 x1)]).bind fun r1 =>
 cond (decide ((0 : Int) ≤ (w64 ((asI r1) - (1 : Int)))))
  (cond (decide ((w64 ((asI r1) - (1 : Int))) < ((List.length x0) : Int)))
   ((ev (envF N) k F_base_RatioInt [(.int .i64 (asI (nth (nths x0 (Int.toNat (w64 (asI r1 - (1 : Int))))) 0)))]).bind fun r4 =>
    (ev (envF N) k F_base_RatioInt [(.int .i64 (w64 (x1 - (asI (nth (nths x0 (Int.toNat (w64 (asI r1 - (1 : Int))))) 1)))))]).bind fun r5 =>
     (ev (envF N) k F_ref01_piece [(.agg [(.sl none [.int .i64, .int .i64] x0)]), (.int .i64 (asI r1))]).bind fun r6 =>
      (ev (envF N) k F_base_RatioDiv [(.agg [(.int .i64 (asI (nth (asA r5) 0))), (.sl none [.int .i64] (asL (nth (asA r5) 1))), (.int .i64 (asI (nth (asA r5) 2))), (.sl none [.int .i64] (asL (nth (asA r5) 3)))]), (.agg [(.int .i64 (asI (nth (asA r6) 0))), (.sl none [.int .i64] (asL (nth (asA r6) 1))), (.int .i64 (asI (nth (asA r6) 2))), (.sl none [.int .i64] (asL (nth (asA r6) 3)))])]).bind fun r7 =>
       (ev (envF N) k F_base_RatioAdd [(.agg [(.int .i64 (asI (nth (asA r4) 0))), (.sl none [.int .i64] (asL (nth (asA r4) 1))), (.int .i64 (asI (nth (asA r4) 2))), (.sl none [.int .i64] (asL (nth (asA r4) 3)))]), (.agg [(.int .i64 (asI (nth (asA r7) 0))), (.sl none [.int .i64] (asL (nth (asA r7) 1))), (.int .i64 (asI (nth (asA r7) 2))), (.sl none [.int .i64] (asL (nth (asA r7) 3)))])]).bind fun r8 =>
        some (.agg [(.int .i64 (asI (nth (asA r8) 0))), (.sl none [.int .i64] (asL (nth (asA r8) 1))), (.int .i64 (asI (nth (asA r8) 2))), (.sl none [.int .i64] (asL (nth (asA r8) 3)))]))
   (none))
  (none)) := by kernel_rfl

/-- Loop 2 of ref01_above. -/
noncomputable def L_ref01_above_2 (N k n2  : Nat) (x0 : Int) (x1 : Int) (x2 : List (List PV)) : Option PV := loopAt (envF N) (ev (envF N) k) (evI (envF N) k) F_ref01_above Go.Proofs.Try.f115 [.r, .r, .l, .b] n2 { slots := (und 1 ((.int .i64 x0) :: (.ptr 2 0) :: und 2 ((.int .i64 x1) :: und 11 []))), boxes := (nos 2 ((some (.cells [(.sl none [.int .i64, .int .i64] x2)] false)) :: nos 14 [])), vers := List.replicate 17 0 }
theorem L_ref01_above_2_eq (N k n2  : Nat) (x0 : Int) (x1 : Int) (x2 : List (List PV)) : L_ref01_above_2 N k (n2 + 1)  x0 x1 x2 =
 (cond (decide ((0 : Int) ≤ x1))
 (cond (decide (x1 < ((List.length x2) : Int)))
  (cond (decide ((asI (nth (nths x2 (Int.toNat x1)) 1)) < x0))
   (L_ref01_above_2 N k n2  x0 (w64 (x1 + (1 : Int))) x2)
   (some (.int .i64 x1)))
  (none))
 (none)) := by kernel_rfl
theorem E_ref01_above (N k : Nat) (x0 : List (List PV)) (x1 : Int) : ev (envF N) (k + 1) F_ref01_above [(.agg [(.sl none [.int .i64, .int .i64] x0)]), (.int .i64 x1)] =
 (L_ref01_above_2 N k N  x1 (1 : Int) x0) := by kernel_rfl

theorem E_base_Lowest (N k : Nat) (x0 : Int) (x1 : Int) : ev (envF N) (k + 1) F_base_Lowest [(.int .i64 x0), (.int .i64 x1)] =
 ((ev (envF N) k F_base_Gcd [(.int .i64 x0), (.int .i64 x1)]).bind fun r1 =>
 cond (decide (x1 < (0 : Int)))
  (cond (!(decide ((w64 ((0 : Int) - (asI r1))) = (0 : Int))))
   (cond (!(decide ((w64 ((0 : Int) - (asI r1))) = (0 : Int))))
    (some (.agg [(.int .i64 (w64 (Int.tdiv x0 (w64 ((0 : Int) - (asI r1)))))), (.int .i64 (w64 (Int.tdiv x1 (w64 ((0 : Int) - (asI r1))))))]))
    (none))
   (none))
  (cond (!(decide ((asI r1) = (0 : Int))))
   (cond (!(decide ((asI r1) = (0 : Int))))
    (some (.agg [(.int .i64 (w64 (Int.tdiv x0 (asI r1)))), (.int .i64 (w64 (Int.tdiv x1 (asI r1))))]))
    (none))
   (none))) := by kernel_rfl

theorem E_base_IsLowest (N k : Nat) (x0 : Int) (x1 : Int) : ev (envF N) (k + 1) F_base_IsLowest [(.agg [(.int .i64 x0), (.int .i64 x1)])] =
 (cond (decide ((0 : Int) < x1))
 ((ev (envF N) k F_base_Gcd [(.int .i64 x0), (.int .i64 x1)]).bind fun r2 =>
  some (.bool (decide ((asI r2) = (1 : Int)))))
 (some (.bool (false)))) := by kernel_rfl

theorem E_base_IsSmall (N k : Nat) (x0 : Int) (x1 : Int) : ev (envF N) (k + 1) F_base_IsSmall [(.agg [(.int .i64 x0), (.int .i64 x1)])] =
 ((ev (envF N) k F_base_Within [(.int .i64 x0), (.int .i64 (-1000000000 : Int)), (.int .i64 (1000000000 : Int))]).bind fun r1 =>
 cond (asB r1)
  ((ev (envF N) k F_base_Within [(.int .i64 x1), (.int .i64 (1 : Int)), (.int .i64 (1000000000 : Int))]).bind fun r3 =>
   some (.bool (asB r3)))
  (some (.bool (false)))) := by kernel_rfl

theorem E_lake_MinimumOn_c1 (N k : Nat) (x0 : Int) : ev (envF N) (k + 1) F_lake_MinimumOn_c1 [(.int .i64 x0)] =
 ((ev (envF N) k F_lake_within [(.int .i64 x0), (.int .i64 (0 : Int)), (.int .i64 (364 : Int))]).bind fun r1 =>
 some (.bool (asB r1))) := by kernel_rfl

theorem E_lake_contains (N k : Nat) (x0 : Int) (x1 : Int) (x2 : Int) (x3 : Int) : ev (envF N) (k + 1) F_lake_contains [(.agg [(.int .i64 x0), (.int .i64 x1), (.int .i64 x2)]), (.int .i64 x3)] =
 (cond (decide (x0 ≤ x1))
 ((ev (envF N) k F_lake_within [(.int .i64 x3), (.int .i64 x0), (.int .i64 x1)]).bind fun r2 =>
  some (.bool (asB r2)))
 (cond (decide (x0 ≤ x3))
  (some (.bool (true)))
  (some (.bool (decide (x3 ≤ x1)))))) := by kernel_rfl

theorem E_lake_openPair (N k : Nat) (x0 : List (List PV)) (x1 : List (List PV)) (x2 : Int) : ev (envF N) (k + 1) F_lake_openPair [(.agg [(.sl none [.int .i64, .int .i64] x0), (.sl none [.int .i64, .int .i64] x1), (.int .i64 x2)])] =
 ((ev (envF N) k F_lake_CheckPair [(.agg [(.sl none [.int .i64, .int .i64] x0), (.sl none [.int .i64, .int .i64] x1), (.int .i64 x2)])]).bind fun r1 =>
 some (.tup [(.agg [(.sl none [.int .i64, .int .i64] x0), (.sl none [.int .i64, .int .i64] x1), (.int .i64 x2)]), (.int .i64 (asI r1))])) := by kernel_rfl

theorem E_lake_pair_stateErr (N k : Nat) (x0 : List (List PV)) (x1 : List (List PV)) (x2 : Int) (x3 : Int) (x4 : Int) : ev (envF N) (k + 1) F_lake_pair_stateErr [(.agg [(.sl none [.int .i64, .int .i64] x0), (.sl none [.int .i64, .int .i64] x1), (.int .i64 x2)]), (.agg [(.int .i64 x3), (.int .i64 x4)])] =
 ((ev (envF N) k F_lake_table_holds [(.agg [(.sl none [.int .i64, .int .i64] x0)]), (.int .i64 x3)]).bind fun r1 =>
 cond (asB r1)
  ((ev (envF N) k F_lake_table_holds [(.agg [(.sl none [.int .i64, .int .i64] x1)]), (.int .i64 x4)]).bind fun r3 =>
   (ev (envF N) k F_lake_unless [(.bool (asB r3)), (.int .i64 (2 : Int))]).bind fun r4 =>
    some (.int .i64 (asI r4)))
  ((ev (envF N) k F_lake_unless [(.bool (false)), (.int .i64 (2 : Int))]).bind fun r3 =>
   some (.int .i64 (asI r3)))) := by kernel_rfl

theorem E_lake_flowsErr_c1 (N k : Nat) (x0 : Int) : ev (envF N) (k + 1) F_lake_flowsErr_c1 [(.int .i64 x0)] =
 ((ev (envF N) k F_lake_within [(.int .i64 x0), (.int .i64 (0 : Int)), (.int .i64 (10000000 : Int))]).bind fun r1 =>
 some (.bool (asB r1))) := by kernel_rfl

theorem E_lake_table_evaporated (N k : Nat) (x0 : List (List PV)) (x1 : Int) (x2 : Int) : ev (envF N) (k + 1) F_lake_table_evaporated [(.agg [(.sl none [.int .i64, .int .i64] x0)]), (.int .i64 x1), (.int .i64 x2)] =
 ((ev (envF N) k F_lake_table_byVolume [(.agg [(.sl none [.int .i64, .int .i64] x0)]), (.int .i64 x1)]).bind fun r1 =>
 (ev (envF N) k F_lake_piece_volume [(.agg [(.int .i64 (asI (nth (asA r1) 0))), (.int .i64 (asI (nth (asA r1) 1))), (.int .i64 (asI (nth (asA r1) 2))), (.int .i64 (asI (nth (asA r1) 3)))])]).bind fun r2 =>
  (ev (envF N) k F_lake_piece_height [(.agg [(.int .i64 (asI (nth (asA r1) 0))), (.int .i64 (asI (nth (asA r1) 1))), (.int .i64 (asI (nth (asA r1) 2))), (.int .i64 (asI (nth (asA r1) 3)))])]).bind fun r3 =>
   cond (!(decide ((w64 ((1000 : Int) * (asI r3))) = (0 : Int))))
    ((ev (envF N) k F_lake_table_bottom [(.agg [(.sl none [.int .i64, .int .i64] x0)])]).bind fun r5 =>
     some (.int .i64 (imin (w64 (Int.tdiv (w64 (x2 * (asI r2))) (w64 ((1000 : Int) * (asI r3))))) (w64 (x1 - (asI (nth (asA r5) 1)))))))
    (none)) := by kernel_rfl

theorem E_base_RatioDiv (N k : Nat) (x0 : Int) (x1 : List (List PV)) (x2 : Int) (x3 : List (List PV)) (x4 : Int) (x5 : List (List PV)) (x6 : Int) (x7 : List (List PV)) : ev (envF N) (k + 1) F_base_RatioDiv [(.agg [(.int .i64 x0), (.sl none [.int .i64] x1), (.int .i64 x2), (.sl none [.int .i64] x3)]), (.agg [(.int .i64 x4), (.sl none [.int .i64] x5), (.int .i64 x6), (.sl none [.int .i64] x7)])] =
 ((ev (envF N) k F_base_WideMul [(.agg [(.int .i64 x0), (.sl none [.int .i64] x1)]), (.agg [(.int .i64 x6), (.sl none [.int .i64] x7)])]).bind fun r1 =>
 (ev (envF N) k F_base_WideMul [(.agg [(.int .i64 x2), (.sl none [.int .i64] x3)]), (.agg [(.int .i64 x4), (.sl none [.int .i64] x5)])]).bind fun r2 =>
  (ev (envF N) k F_base_RatioMake [(.agg [(.int .i64 (asI (nth (asA r1) 0))), (.sl none [.int .i64] (asL (nth (asA r1) 1)))]), (.agg [(.int .i64 (asI (nth (asA r2) 0))), (.sl none [.int .i64] (asL (nth (asA r2) 1)))])]).bind fun r3 =>
   some (.agg [(.int .i64 (asI (nth (asA r3) 0))), (.sl none [.int .i64] (asL (nth (asA r3) 1))), (.int .i64 (asI (nth (asA r3) 2))), (.sl none [.int .i64] (asL (nth (asA r3) 3)))])) := by kernel_rfl

theorem E_base_RatioMul (N k : Nat) (x0 : Int) (x1 : List (List PV)) (x2 : Int) (x3 : List (List PV)) (x4 : Int) (x5 : List (List PV)) (x6 : Int) (x7 : List (List PV)) : ev (envF N) (k + 1) F_base_RatioMul [(.agg [(.int .i64 x0), (.sl none [.int .i64] x1), (.int .i64 x2), (.sl none [.int .i64] x3)]), (.agg [(.int .i64 x4), (.sl none [.int .i64] x5), (.int .i64 x6), (.sl none [.int .i64] x7)])] =
 ((ev (envF N) k F_base_WideMul [(.agg [(.int .i64 x0), (.sl none [.int .i64] x1)]), (.agg [(.int .i64 x4), (.sl none [.int .i64] x5)])]).bind fun r1 =>
 (ev (envF N) k F_base_WideMul [(.agg [(.int .i64 x2), (.sl none [.int .i64] x3)]), (.agg [(.int .i64 x6), (.sl none [.int .i64] x7)])]).bind fun r2 =>
  (ev (envF N) k F_base_RatioMake [(.agg [(.int .i64 (asI (nth (asA r1) 0))), (.sl none [.int .i64] (asL (nth (asA r1) 1)))]), (.agg [(.int .i64 (asI (nth (asA r2) 0))), (.sl none [.int .i64] (asL (nth (asA r2) 1)))])]).bind fun r3 =>
   some (.agg [(.int .i64 (asI (nth (asA r3) 0))), (.sl none [.int .i64] (asL (nth (asA r3) 1))), (.int .i64 (asI (nth (asA r3) 2))), (.sl none [.int .i64] (asL (nth (asA r3) 3)))])) := by kernel_rfl

theorem E_base_RatioInt (N k : Nat) (x0 : Int) : ev (envF N) (k + 1) F_base_RatioInt [(.int .i64 x0)] =
 ((ev (envF N) k F_base_WideOf [(.int .i64 x0)]).bind fun r1 =>
 (ev (envF N) k F_base_WideOf [(.int .i64 (1 : Int))]).bind fun r2 =>
  some (.agg [(.int .i64 (asI (nth (asA r1) 0))), (.sl none [.int .i64] (asL (nth (asA r1) 1))), (.int .i64 (asI (nth (asA r2) 0))), (.sl none [.int .i64] (asL (nth (asA r2) 1)))])) := by kernel_rfl

theorem E_lake_netErr (N k : Nat) (x0 : List (List PV)) : ev (envF N) (k + 1) F_lake_netErr [(.sl none [.int .i64] x0)] =
 (cond (decide ((200 : Int) < ((List.length x0) : Int)))
 (some (.int .i64 (8 : Int)))
 ((ev (envF N) k F_slices_ContainsFunc_int [(.sl none [.int .i64] x0), (.fn F_lake_netErr_c1 [])]).bind fun r2 =>
  (ev (envF N) k F_lake_unless [(.bool (!(asB r2))), (.int .i64 (2 : Int))]).bind fun r3 =>
   some (.int .i64 (asI r3)))) := by kernel_rfl

/-- Loop 6 of lake_table_readingsErr. -/
noncomputable def L_lake_table_readingsErr_6 (N k n6  : Nat) (x0 : List (List PV)) (x1 : List (List PV)) (x2 : List (List PV)) (x3 : Int) (x4 : Int) (x5 : List (List PV)) : Option PV := loopAt (envF N) (ev (envF N) k) (evI (envF N) k) F_lake_table_readingsErr Go.Proofs.Try.f142 [.r, .r, .r, .l, .r, .b] n6 { slots := (und 1 ((.sl none [.int .i64] x0) :: und 6 ((.fn F_lake_table_readingsErr_c1 [(.rp [(.sl none [.int .i64, .int .i64] x1)] 0)]) :: und 18 ((.sl none [.int .i64, .int .i64, .int .i64] x2) :: (.int .i64 x3) :: (.int .i64 x4) :: und 38 [])))), boxes := (nos 3 ((some (.cells [(.sl none [.int .i64, .int .i64] x5)] true)) :: nos 64 [])), vers := List.replicate 68 0 }
theorem L_lake_table_readingsErr_6_eq (N k n6  : Nat) (x0 : List (List PV)) (x1 : List (List PV)) (x2 : List (List PV)) (x3 : Int) (x4 : Int) (x5 : List (List PV)) : L_lake_table_readingsErr_6 N k (n6 + 1)  x0 x1 x2 x3 x4 x5 =
 (cond (decide (x4 < x3))
 (cond (decide ((0 : Int) ≤ x4))
  (cond (decide (x4 < ((List.length x2) : Int)))
   ((ev (envF N) k F_lake_within [(.int .i64 (asI (nth (nths x2 (Int.toNat x4)) 0))), (.int .i64 (0 : Int)), (.int .i64 ((List.length x0) : Int))]).bind fun r4 =>
    cond (asB r4)
     ((ev (envF N) k F_lake_table_readingsErr_c1 [(.int .i64 (asI (nth (nths x2 (Int.toNat x4)) 1))), (.rp [(.sl none [.int .i64, .int .i64] x1)] 0)]).bind fun r6 =>
      cond (asB r6)
       ((ev (envF N) k F_lake_table_readingsErr_c1 [(.int .i64 (asI (nth (nths x2 (Int.toNat x4)) 2))), (.rp [(.sl none [.int .i64, .int .i64] x1)] 0)]).bind fun r8 =>
        (ev (envF N) k F_lake_unless [(.bool (asB r8)), (.int .i64 (2 : Int))]).bind fun r9 =>
         (ev (envF N) k F_lake_unless [(.bool (decide ((asI (nth (nths x2 (Int.toNat x4)) 1)) ≤ (asI (nth (nths x2 (Int.toNat x4)) 2))))), (.int .i64 (9 : Int))]).bind fun r10 =>
          (ev (envF N) k F_lake_first [(.sl none [.int .i64] [[(.int .i64 (asI r9))], [(.int .i64 (asI r10))]])]).bind fun r11 =>
           cond (!(decide ((asI r11) = (0 : Int))))
            (some (.int .i64 (asI r11)))
            (L_lake_table_readingsErr_6 N k n6  x0 x1 x2 x3 (w64 (x4 + (1 : Int))) x5))
       ((ev (envF N) k F_lake_unless [(.bool (false)), (.int .i64 (2 : Int))]).bind fun r8 =>
        (ev (envF N) k F_lake_unless [(.bool (decide ((asI (nth (nths x2 (Int.toNat x4)) 1)) ≤ (asI (nth (nths x2 (Int.toNat x4)) 2))))), (.int .i64 (9 : Int))]).bind fun r9 =>
         (ev (envF N) k F_lake_first [(.sl none [.int .i64] [[(.int .i64 (asI r8))], [(.int .i64 (asI r9))]])]).bind fun r10 =>
          cond (!(decide ((asI r10) = (0 : Int))))
           (some (.int .i64 (asI r10)))
           (L_lake_table_readingsErr_6 N k n6  x0 x1 x2 x3 (w64 (x4 + (1 : Int))) x5)))
     ((ev (envF N) k F_lake_unless [(.bool (false)), (.int .i64 (2 : Int))]).bind fun r6 =>
      (ev (envF N) k F_lake_unless [(.bool (decide ((asI (nth (nths x2 (Int.toNat x4)) 1)) ≤ (asI (nth (nths x2 (Int.toNat x4)) 2))))), (.int .i64 (9 : Int))]).bind fun r7 =>
       (ev (envF N) k F_lake_first [(.sl none [.int .i64] [[(.int .i64 (asI r6))], [(.int .i64 (asI r7))]])]).bind fun r8 =>
        cond (!(decide ((asI r8) = (0 : Int))))
         (some (.int .i64 (asI r8)))
         (L_lake_table_readingsErr_6 N k n6  x0 x1 x2 x3 (w64 (x4 + (1 : Int))) x5)))
   (none))
  (none))
 (some (.int .i64 (0 : Int)))) := by kernel_rfl
theorem E_lake_table_readingsErr (N k : Nat) (x0 : List (List PV)) (x1 : List (List PV)) (x2 : List (List PV)) : ev (envF N) (k + 1) F_lake_table_readingsErr [(.agg [(.sl none [.int .i64, .int .i64] x0)]), (.sl none [.int .i64] x1), (.sl none [.int .i64, .int .i64, .int .i64] x2)] =
 ((ev (envF N) k F_lake_unless [(.bool (decide ((0 : Int) < ((List.length x2) : Int)))), (.int .i64 (10 : Int))]).bind fun r1 =>
 (ev (envF N) k F_lake_unless [(.bool (decide (((List.length x2) : Int) ≤ (10 : Int)))), (.int .i64 (8 : Int))]).bind fun r2 =>
  (ev (envF N) k F_lake_first [(.sl none [.int .i64] [[(.int .i64 (asI r1))], [(.int .i64 (asI r2))]])]).bind fun r3 =>
   cond (!(decide ((asI r3) = (0 : Int))))
    (some (.int .i64 (asI r3)))
    (L_lake_table_readingsErr_6 N k N  x1 x0 x2 ((List.length x2) : Int) (0 : Int) x0)) := by kernel_rfl

theorem E_lake_table_holds (N k : Nat) (x0 : List (List PV)) (x1 : Int) : ev (envF N) (k + 1) F_lake_table_holds [(.agg [(.sl none [.int .i64, .int .i64] x0)]), (.int .i64 x1)] =
 ((ev (envF N) k F_lake_table_bottom [(.agg [(.sl none [.int .i64, .int .i64] x0)])]).bind fun r1 =>
 (ev (envF N) k F_lake_table_top [(.agg [(.sl none [.int .i64, .int .i64] x0)])]).bind fun r2 =>
  (ev (envF N) k F_lake_within [(.int .i64 x1), (.int .i64 (asI (nth (asA r1) 1))), (.int .i64 (asI (nth (asA r2) 1)))]).bind fun r3 =>
   some (.bool (asB r3))) := by kernel_rfl

theorem E_lake_table_pieceTo (N k : Nat) (x0 : List (List PV)) (x1 : Int) : ev (envF N) (k + 1) F_lake_table_pieceTo [(.agg [(.sl none [.int .i64, .int .i64] x0)]), (.fn F_lake_table_byVolume_c1 [(.rp [(.int .i64 x1)] 0)])] =
 (cond (decide ((1 : Int) ≤ ((List.length x0) : Int)))
 ((ev (envF N) k F_slices_IndexFunc_LakeKnot [(.sl none [.int .i64, .int .i64] (List.drop (Int.toNat (1 : Int)) (List.take (List.length x0) x0))), (.fn F_lake_table_byVolume_c1 [(.rp [(.int .i64 x1)] 0)])]).bind fun r2 =>
  cond (decide ((0 : Int) ≤ (w64 ((w64 ((1 : Int) + (asI r2))) - (1 : Int)))))
   (cond (decide ((w64 ((w64 ((1 : Int) + (asI r2))) - (1 : Int))) < ((List.length x0) : Int)))
    (cond (decide ((0 : Int) ≤ (w64 ((1 : Int) + (asI r2)))))
     (cond (decide ((w64 ((1 : Int) + (asI r2))) < ((List.length x0) : Int)))
      (some (.agg [(.int .i64 (asI (nth (nths x0 (Int.toNat (w64 (w64 ((1 : Int) + asI r2) - (1 : Int))))) 0))), (.int .i64 (asI (nth (nths x0 (Int.toNat (w64 (w64 ((1 : Int) + asI r2) - (1 : Int))))) 1))), (.int .i64 (asI (nth (nths x0 (Int.toNat (w64 ((1 : Int) + asI r2)))) 0))), (.int .i64 (asI (nth (nths x0 (Int.toNat (w64 ((1 : Int) + asI r2)))) 1)))]))
      (none))
     (none))
    (none))
   (none))
 (none)) := by kernel_rfl

theorem E_lake_table_pieceTo_v1 (N k : Nat) (x0 : List (List PV)) (x1 : Int) : ev (envF N) (k + 1) F_lake_table_pieceTo [(.agg [(.sl none [.int .i64, .int .i64] x0)]), (.fn F_lake_table_volumeAt_c1 [(.rp [(.int .i64 x1)] 0)])] =
 (cond (decide ((1 : Int) ≤ ((List.length x0) : Int)))
 ((ev (envF N) k F_slices_IndexFunc_LakeKnot [(.sl none [.int .i64, .int .i64] (List.drop (Int.toNat (1 : Int)) (List.take (List.length x0) x0))), (.fn F_lake_table_volumeAt_c1 [(.rp [(.int .i64 x1)] 0)])]).bind fun r2 =>
  cond (decide ((0 : Int) ≤ (w64 ((w64 ((1 : Int) + (asI r2))) - (1 : Int)))))
   (cond (decide ((w64 ((w64 ((1 : Int) + (asI r2))) - (1 : Int))) < ((List.length x0) : Int)))
    (cond (decide ((0 : Int) ≤ (w64 ((1 : Int) + (asI r2)))))
     (cond (decide ((w64 ((1 : Int) + (asI r2))) < ((List.length x0) : Int)))
      (some (.agg [(.int .i64 (asI (nth (nths x0 (Int.toNat (w64 (w64 ((1 : Int) + asI r2) - (1 : Int))))) 0))), (.int .i64 (asI (nth (nths x0 (Int.toNat (w64 (w64 ((1 : Int) + asI r2) - (1 : Int))))) 1))), (.int .i64 (asI (nth (nths x0 (Int.toNat (w64 ((1 : Int) + asI r2)))) 0))), (.int .i64 (asI (nth (nths x0 (Int.toNat (w64 ((1 : Int) + asI r2)))) 1)))]))
      (none))
     (none))
    (none))
   (none))
 (none)) := by kernel_rfl

theorem E_lake_table_volumeAt_c1 (N k : Nat) (x0 : Int) (x1 : Int) (x2 : Int) : ev (envF N) (k + 1) F_lake_table_volumeAt_c1 [(.agg [(.int .i64 x0), (.int .i64 x1)]), (.rp [(.int .i64 x2)] 0)] =
 (some (.bool (decide (x2 ≤ x0)))) := by kernel_rfl

theorem E_lake_floor (N k : Nat) (x0 : Int) (x1 : Int) : ev (envF N) (k + 1) F_lake_floor [(.int .i64 x0), (.int .i64 x1)] =
 (cond (!(decide (x1 = (0 : Int))))
 (cond (!(decide (x1 = (0 : Int))))
  (cond (decide ((Int.tmod x0 x1) < (0 : Int)))
   (some (.int .i64 (w64 ((w64 (Int.tdiv x0 x1)) - (1 : Int)))))
   (some (.int .i64 (w64 (Int.tdiv x0 x1)))))
  (none))
 (none)) := by kernel_rfl

end Go.PewTab

namespace Go.PewTab
set_option linter.unusedSimpArgs false
set_option linter.unusedVariables false
open Go.Pew Go
set_option maxRecDepth 100000
set_option linter.unusedVariables false

theorem E_lake_ceil (N k : Nat) (x0 : Int) (x1 : Int) : ev (envF N) (k + 1) F_lake_ceil [(.int .i64 x0), (.int .i64 x1)] =
 ((ev (envF N) k F_lake_floor [(.int .i64 (w64 ((0 : Int) - x0))), (.int .i64 x1)]).bind fun r1 =>
 some (.int .i64 (w64 ((0 : Int) - (asI r1))))) := by kernel_rfl

theorem E_lake_table_byVolume_c1 (N k : Nat) (x0 : Int) (x1 : Int) (x2 : Int) : ev (envF N) (k + 1) F_lake_table_byVolume_c1 [(.agg [(.int .i64 x0), (.int .i64 x1)]), (.rp [(.int .i64 x2)] 0)] =
 (some (.bool (decide (x2 ≤ x1)))) := by kernel_rfl

theorem E_base_WideCmp (N k : Nat) (x0 : Int) (x1 : List (List PV)) (x2 : Int) (x3 : List (List PV)) : ev (envF N) (k + 1) F_base_WideCmp [(.agg [(.int .i64 x0), (.sl none [.int .i64] x1)]), (.agg [(.int .i64 x2), (.sl none [.int .i64] x3)])] =
 ((ev (envF N) k F_base_WideSub [(.agg [(.int .i64 x0), (.sl none [.int .i64] x1)]), (.agg [(.int .i64 x2), (.sl none [.int .i64] x3)])]).bind fun r1 =>
 some (.int .i64 (asI (nth (asA r1) 0)))) := by kernel_rfl

/-- Loop 3 of base_WideMul. -/
noncomputable def L_base_WideMul_3 (N k n3  : Nat) (x0 : Int) (x1 : Int) (x2 : List (List PV)) (x3 : Int) (x4 : List (List PV)) (x5 : Int) (x6 : List (List PV)) (x7 : List (List PV)) : Option PV := loopAt (envF N) (ev (envF N) k) (evI (envF N) k) F_base_WideMul Go.Proofs.Try.f155 [.r, .r, .l, .r, .b] n3 { slots := (und 2 ((.ptr 2 0) :: (.ptr 3 0) :: (.ptr 4 0) :: (.row 18) :: (.int .i64 x0) :: und 79 [])), boxes := (nos 2 ((some (.cells [(.int .i64 x1), (.sl none [.int .i64] x2)] false)) :: (some (.cells [(.int .i64 x3), (.sl none [.int .i64] x4)] false)) :: (some (.cells [(.int .i64 x5), (.sl none [.int .i64] x6)] false)) :: nos 13 ((some (.row [.int .i64] x7 false)) :: nos 67 []))), vers := List.replicate 86 0 }
/-- Loop 7 of base_WideMul. -/
noncomputable def L_base_WideMul_7 (N k n7 n3 : Nat) (x0 : Int) (x1 : Int) (x2 : Int) (x3 : Int) (x4 : List (List PV)) (x5 : Int) (x6 : List (List PV)) (x7 : Int) (x8 : List (List PV)) (x9 : List (List PV)) : Option PV := loopAt (envF N) (ev (envF N) k) (evI (envF N) k) F_base_WideMul Go.Proofs.Try.f155 [.r, .r, .l, .r, .b, .p n3, .r, .l, .b, .r, .l, .r, .b] n7 { slots := (und 2 ((.ptr 2 0) :: (.ptr 3 0) :: (.ptr 4 0) :: (.row 18) :: (.int .i64 x0) :: (.int .i64 x1) :: (.int .i64 x2) :: und 77 [])), boxes := (nos 2 ((some (.cells [(.int .i64 x3), (.sl none [.int .i64] x4)] false)) :: (some (.cells [(.int .i64 x5), (.sl none [.int .i64] x6)] false)) :: (some (.cells [(.int .i64 x7), (.sl none [.int .i64] x8)] false)) :: nos 13 ((some (.row [.int .i64] x9 false)) :: nos 67 []))), vers := List.replicate 86 0 }
theorem L_base_WideMul_3_eq (N k n3  : Nat) (x0 : Int) (x1 : Int) (x2 : List (List PV)) (x3 : Int) (x4 : List (List PV)) (x5 : Int) (x6 : List (List PV)) (x7 : List (List PV)) : L_base_WideMul_3 N k (n3 + 1)  x0 x1 x2 x3 x4 x5 x6 x7 =
 (cond (decide (x0 < ((List.length x2) : Int)))
 (L_base_WideMul_7 N k N n3 x0 (0 : Int) (0 : Int) x1 x2 x3 x4 x5 x6 x7)
 ((ev (envF N) k F_base_wideOf [(.int .i64 (w64 (x1 * x3))), (.sl none [.int .i64] x7)]).bind fun r2 =>
  some (.agg [(.int .i64 (asI (nth (asA r2) 0))), (.sl none [.int .i64] (asL (nth (asA r2) 1)))]))) := by kernel_rfl
theorem L_base_WideMul_7_eq (N k n7 n3 : Nat) (x0 : Int) (x1 : Int) (x2 : Int) (x3 : Int) (x4 : List (List PV)) (x5 : Int) (x6 : List (List PV)) (x7 : Int) (x8 : List (List PV)) (x9 : List (List PV)) : L_base_WideMul_7 N k (n7 + 1) n3 x0 x1 x2 x3 x4 x5 x6 x7 x8 x9 =
 (cond (decide (x2 < ((List.length x6) : Int)))
 (cond (decide ((0 : Int) ≤ (w64 (x0 + x2))))
  (cond (decide ((w64 (x0 + x2)) < ((List.length x9) : Int)))
   (cond (decide ((0 : Int) ≤ x0))
    (cond (decide (x0 < ((List.length x4) : Int)))
     (cond (decide ((0 : Int) ≤ x2))
      (cond (decide (x2 < ((List.length x6) : Int)))
       (cond (decide ((0 : Int) ≤ (w64 (x0 + x2))))
        (cond (decide ((w64 (x0 + x2)) < ((List.length x9) : Int)))
         (L_base_WideMul_7 N k n7 n3 x0 (w64 (Int.tdiv (w64 ((w64 ((asI (nth (nths x9 (Int.toNat (w64 (x0 + x2)))) 0)) + (w64 ((asI (nth (nths x4 (Int.toNat x0)) 0)) * (asI (nth (nths x6 (Int.toNat x2)) 0)))))) + x1)) (1000000000 : Int))) (w64 (x2 + (1 : Int))) x3 x4 x5 x6 x7 x8 (List.set x9 (Int.toNat (w64 (x0 + x2))) (List.set (nths x9 (Int.toNat (w64 (x0 + x2)))) 0 (.int .i64 (Int.tmod (w64 ((w64 ((asI (nth (nths x9 (Int.toNat (w64 (x0 + x2)))) 0)) + (w64 ((asI (nth (nths x4 (Int.toNat x0)) 0)) * (asI (nth (nths x6 (Int.toNat x2)) 0)))))) + x1)) (1000000000 : Int))))))
         (none))
        (none))
       (none))
      (none))
     (none))
    (none))
   (none))
  (none))
 (cond (decide ((0 : Int) ≤ (w64 (x0 + ((List.length x6) : Int)))))
  (cond (decide ((w64 (x0 + ((List.length x6) : Int))) < ((List.length x9) : Int)))
   (cond (decide ((0 : Int) ≤ (w64 (x0 + ((List.length x6) : Int)))))
    (cond (decide ((w64 (x0 + ((List.length x6) : Int))) < ((List.length x9) : Int)))
     (L_base_WideMul_3 N k n3  (w64 (x0 + (1 : Int))) x3 x4 x5 x6 x7 x8 (List.set x9 (Int.toNat (w64 (x0 + (x6.length : Int)))) (List.set (nths x9 (Int.toNat (w64 (x0 + (x6.length : Int))))) 0 (.int .i64 (w64 ((asI (nth (nths x9 (Int.toNat (w64 (x0 + (x6.length : Int))))) 0)) + x1))))))
     (none))
    (none))
   (none))
  (none))) := by kernel_rfl
theorem E_base_WideMul (N k : Nat) (x0 : Int) (x1 : List (List PV)) (x2 : Int) (x3 : List (List PV)) : ev (envF N) (k + 1) F_base_WideMul [(.agg [(.int .i64 x0), (.sl none [.int .i64] x1)]), (.agg [(.int .i64 x2), (.sl none [.int .i64] x3)])] =
 (cond (decide ((w64 ((w64 (((List.length x1) : Int) + ((List.length x3) : Int))) + (1 : Int))) = (w64 ((w64 (((List.length x1) : Int) + ((List.length x3) : Int))) + (1 : Int)))))
 (cond (decide ((0 : Int) ≤ (w64 ((w64 (((List.length x1) : Int) + ((List.length x3) : Int))) + (1 : Int)))))
  (cond (decide (((w64 ((w64 (((List.length x1) : Int) + ((List.length x3) : Int))) + (1 : Int))) * (8 : Int)) ≤ (140737488355328 : Int)))
   (L_base_WideMul_3 N k N  (0 : Int) x0 x1 x2 x3 (0 : Int) [] (List.replicate (Int.toNat (w64 (w64 ((x1.length : Int) + (x3.length : Int)) + (1 : Int)))) ([.int .i64 0])))
   (none))
  (none))
 (none)) := by kernel_rfl

theorem E_base_RatioOf (N k : Nat) (x0 : Int) (x1 : Int) : ev (envF N) (k + 1) F_base_RatioOf [(.int .i64 x0), (.int .i64 x1)] =
 ((ev (envF N) k F_base_WideOf [(.int .i64 x0)]).bind fun r1 =>
 (ev (envF N) k F_base_WideOf [(.int .i64 x1)]).bind fun r2 =>
  (ev (envF N) k F_base_RatioMake [(.agg [(.int .i64 (asI (nth (asA r1) 0))), (.sl none [.int .i64] (asL (nth (asA r1) 1)))]), (.agg [(.int .i64 (asI (nth (asA r2) 0))), (.sl none [.int .i64] (asL (nth (asA r2) 1)))])]).bind fun r3 =>
   some (.agg [(.int .i64 (asI (nth (asA r3) 0))), (.sl none [.int .i64] (asL (nth (asA r3) 1))), (.int .i64 (asI (nth (asA r3) 2))), (.sl none [.int .i64] (asL (nth (asA r3) 3)))])) := by kernel_rfl

/-- Loop 5 of base_WideInt. -/
noncomputable def L_base_WideInt_5 (N k n5  : Nat) (x0 : Int) (x1 : Int) (x2 : Int) (x3 : List (List PV)) : Option PV := loopAt (envF N) (ev (envF N) k) (evI (envF N) k) F_base_WideInt Go.Proofs.Try.f157 [.r, .r, .r, .l, .r, .b] n5 { slots := (und 1 ((.ptr 1 0) :: und 2 ((.int .i64 x0) :: (.int .i64 x1) :: und 24 []))), boxes := (nos 1 ((some (.cells [(.int .i64 x2), (.sl none [.int .i64] x3)] false)) :: nos 28 [])), vers := List.replicate 30 0 }
theorem L_base_WideInt_5_eq (N k n5  : Nat) (x0 : Int) (x1 : Int) (x2 : Int) (x3 : List (List PV)) : L_base_WideInt_5 N k (n5 + 1)  x0 x1 x2 x3 =
 (cond (decide ((0 : Int) ≤ x1))
 (cond (decide ((0 : Int) ≤ x1))
  (cond (decide (x1 < ((List.length x3) : Int)))
   (L_base_WideInt_5 N k n5  (w64 ((w64 (x0 * (1000000000 : Int))) + (asI (nth (nths x3 (Int.toNat x1)) 0)))) (w64 (x1 - (1 : Int))) x2 x3)
   (none))
  (none))
 (some (.tup [(.int .i64 (w64 (x2 * x0))), (.bool (true))]))) := by kernel_rfl
theorem E_base_WideInt (N k : Nat) (x0 : Int) (x1 : List (List PV)) : ev (envF N) (k + 1) F_base_WideInt [(.agg [(.int .i64 x0), (.sl none [.int .i64] x1)])] =
 (cond (decide ((2 : Int) < ((List.length x1) : Int)))
 (some (.tup [(.int .i64 (0 : Int)), (.bool (false))]))
 (L_base_WideInt_5 N k N  (0 : Int) (w64 (((List.length x1) : Int) - (1 : Int))) x0 x1)) := by kernel_rfl

theorem E_base_RatioFloor (N k : Nat) (x0 : Int) (x1 : List (List PV)) (x2 : Int) (x3 : List (List PV)) : ev (envF N) (k + 1) F_base_RatioFloor [(.agg [(.int .i64 x0), (.sl none [.int .i64] x1), (.int .i64 x2), (.sl none [.int .i64] x3)])] =
 ((ev (envF N) k F_base_WideFloor [(.agg [(.int .i64 x0), (.sl none [.int .i64] x1)]), (.agg [(.int .i64 x2), (.sl none [.int .i64] x3)])]).bind fun r1 =>
 some (.agg [(.int .i64 (asI (nth (asA r1) 0))), (.sl none [.int .i64] (asL (nth (asA r1) 1)))])) := by kernel_rfl

theorem E_base_RatioCeil (N k : Nat) (x0 : Int) (x1 : List (List PV)) (x2 : Int) (x3 : List (List PV)) : ev (envF N) (k + 1) F_base_RatioCeil [(.agg [(.int .i64 x0), (.sl none [.int .i64] x1), (.int .i64 x2), (.sl none [.int .i64] x3)])] =
 ((ev (envF N) k F_base_WideNeg [(.agg [(.int .i64 x0), (.sl none [.int .i64] x1)])]).bind fun r1 =>
 (ev (envF N) k F_base_WideFloor [(.agg [(.int .i64 (asI (nth (asA r1) 0))), (.sl none [.int .i64] (asL (nth (asA r1) 1)))]), (.agg [(.int .i64 x2), (.sl none [.int .i64] x3)])]).bind fun r2 =>
  (ev (envF N) k F_base_WideNeg [(.agg [(.int .i64 (asI (nth (asA r2) 0))), (.sl none [.int .i64] (asL (nth (asA r2) 1)))])]).bind fun r3 =>
   some (.agg [(.int .i64 (asI (nth (asA r3) 0))), (.sl none [.int .i64] (asL (nth (asA r3) 1)))])) := by kernel_rfl

theorem E_base_RatioAdd (N k : Nat) (x0 : Int) (x1 : List (List PV)) (x2 : Int) (x3 : List (List PV)) (x4 : Int) (x5 : List (List PV)) (x6 : Int) (x7 : List (List PV)) : ev (envF N) (k + 1) F_base_RatioAdd [(.agg [(.int .i64 x0), (.sl none [.int .i64] x1), (.int .i64 x2), (.sl none [.int .i64] x3)]), (.agg [(.int .i64 x4), (.sl none [.int .i64] x5), (.int .i64 x6), (.sl none [.int .i64] x7)])] =
 ((ev (envF N) k F_base_WideMul [(.agg [(.int .i64 x0), (.sl none [.int .i64] x1)]), (.agg [(.int .i64 x6), (.sl none [.int .i64] x7)])]).bind fun r1 =>
 (ev (envF N) k F_base_WideMul [(.agg [(.int .i64 x4), (.sl none [.int .i64] x5)]), (.agg [(.int .i64 x2), (.sl none [.int .i64] x3)])]).bind fun r2 =>
  (ev (envF N) k F_base_WideAdd [(.agg [(.int .i64 (asI (nth (asA r1) 0))), (.sl none [.int .i64] (asL (nth (asA r1) 1)))]), (.agg [(.int .i64 (asI (nth (asA r2) 0))), (.sl none [.int .i64] (asL (nth (asA r2) 1)))])]).bind fun r3 =>
   (ev (envF N) k F_base_WideMul [(.agg [(.int .i64 x2), (.sl none [.int .i64] x3)]), (.agg [(.int .i64 x6), (.sl none [.int .i64] x7)])]).bind fun r4 =>
    (ev (envF N) k F_base_RatioMake [(.agg [(.int .i64 (asI (nth (asA r3) 0))), (.sl none [.int .i64] (asL (nth (asA r3) 1)))]), (.agg [(.int .i64 (asI (nth (asA r4) 0))), (.sl none [.int .i64] (asL (nth (asA r4) 1)))])]).bind fun r5 =>
     some (.agg [(.int .i64 (asI (nth (asA r5) 0))), (.sl none [.int .i64] (asL (nth (asA r5) 1))), (.int .i64 (asI (nth (asA r5) 2))), (.sl none [.int .i64] (asL (nth (asA r5) 3)))])) := by kernel_rfl

/-- Loop 1 of base_Gcd. -/
noncomputable def L_base_Gcd_1 (N k n1  : Nat) (x0 : Int) (x1 : Int) : Option PV := loopAt (envF N) (ev (envF N) k) (evI (envF N) k) F_base_Gcd Go.Proofs.Try.f161 [.r, .l, .b] n1 { slots := ((.int .i64 x0) :: (.int .i64 x1) :: und 11 []), boxes := (nos 13 []), vers := List.replicate 13 0 }
theorem L_base_Gcd_1_eq (N k n1  : Nat) (x0 : Int) (x1 : Int) : L_base_Gcd_1 N k (n1 + 1)  x0 x1 =
 (cond (!(decide (x1 = (0 : Int))))
 (cond (!(decide (x1 = (0 : Int))))
  (L_base_Gcd_1 N k n1  x1 (Int.tmod x0 x1))
  (none))
 ((ev (envF N) k F_base_Size [(.int .i64 x0)]).bind fun r2 =>
  some (.int .i64 (asI r2)))) := by kernel_rfl
theorem E_base_Gcd (N k : Nat) (x0 : Int) (x1 : Int) : ev (envF N) (k + 1) F_base_Gcd [(.int .i64 x0), (.int .i64 x1)] =
 (L_base_Gcd_1 N k N  x0 x1) := by kernel_rfl

theorem E_slices_ContainsFunc_int (N k : Nat) (x0 : List (List PV)) : ev (envF N) (k + 1) F_slices_ContainsFunc_int [(.sl none [.int .i64] x0), (.fn F_lake_netErr_c1 [])] =
 ((ev (envF N) k F_slices_IndexFunc_int [(.sl none [.int .i64] x0), (.fn F_lake_netErr_c1 [])]).bind fun r1 =>
 some (.bool (decide ((0 : Int) ≤ (asI r1))))) := by kernel_rfl

theorem E_base_RatioMake (N k : Nat) (x0 : Int) (x1 : List (List PV)) (x2 : Int) (x3 : List (List PV)) : ev (envF N) (k + 1) F_base_RatioMake [(.agg [(.int .i64 x0), (.sl none [.int .i64] x1)]), (.agg [(.int .i64 x2), (.sl none [.int .i64] x3)])] =
 ((ev (envF N) k F_base_WideSign [(.agg [(.int .i64 x2), (.sl none [.int .i64] x3)])]).bind fun r1 =>
 cond (decide ((asI r1) < (0 : Int)))
  ((ev (envF N) k F_base_WideNeg [(.agg [(.int .i64 x0), (.sl none [.int .i64] x1)])]).bind fun r3 =>
   (ev (envF N) k F_base_WideNeg [(.agg [(.int .i64 x2), (.sl none [.int .i64] x3)])]).bind fun r4 =>
    (ev (envF N) k F_base_wideGcd [(.agg [(.int .i64 (asI (nth (asA r3) 0))), (.sl none [.int .i64] (asL (nth (asA r3) 1)))]), (.agg [(.int .i64 (asI (nth (asA r4) 0))), (.sl none [.int .i64] (asL (nth (asA r4) 1)))])]).bind fun r5 =>
     (ev (envF N) k F_base_WideOf [(.int .i64 (1 : Int))]).bind fun r6 =>
      (ev (envF N) k F_base_WideCmp [(.agg [(.int .i64 (asI (nth (asA r5) 0))), (.sl none [.int .i64] (asL (nth (asA r5) 1)))]), (.agg [(.int .i64 (asI (nth (asA r6) 0))), (.sl none [.int .i64] (asL (nth (asA r6) 1)))])]).bind fun r7 =>
       cond (decide ((asI r7) = (0 : Int)))
        (some (.agg [(.int .i64 (asI (nth (asA r3) 0))), (.sl none [.int .i64] (asL (nth (asA r3) 1))), (.int .i64 (asI (nth (asA r4) 0))), (.sl none [.int .i64] (asL (nth (asA r4) 1)))]))
        ((ev (envF N) k F_base_WideFloor [(.agg [(.int .i64 (asI (nth (asA r3) 0))), (.sl none [.int .i64] (asL (nth (asA r3) 1)))]), (.agg [(.int .i64 (asI (nth (asA r5) 0))), (.sl none [.int .i64] (asL (nth (asA r5) 1)))])]).bind fun r9 =>
         (ev (envF N) k F_base_WideFloor [(.agg [(.int .i64 (asI (nth (asA r4) 0))), (.sl none [.int .i64] (asL (nth (asA r4) 1)))]), (.agg [(.int .i64 (asI (nth (asA r5) 0))), (.sl none [.int .i64] (asL (nth (asA r5) 1)))])]).bind fun r10 =>
          some (.agg [(.int .i64 (asI (nth (asA r9) 0))), (.sl none [.int .i64] (asL (nth (asA r9) 1))), (.int .i64 (asI (nth (asA r10) 0))), (.sl none [.int .i64] (asL (nth (asA r10) 1)))])))
  ((ev (envF N) k F_base_wideGcd [(.agg [(.int .i64 x0), (.sl none [.int .i64] x1)]), (.agg [(.int .i64 x2), (.sl none [.int .i64] x3)])]).bind fun r3 =>
   (ev (envF N) k F_base_WideOf [(.int .i64 (1 : Int))]).bind fun r4 =>
    (ev (envF N) k F_base_WideCmp [(.agg [(.int .i64 (asI (nth (asA r3) 0))), (.sl none [.int .i64] (asL (nth (asA r3) 1)))]), (.agg [(.int .i64 (asI (nth (asA r4) 0))), (.sl none [.int .i64] (asL (nth (asA r4) 1)))])]).bind fun r5 =>
     cond (decide ((asI r5) = (0 : Int)))
      (some (.agg [(.int .i64 x0), (.sl none [.int .i64] x1), (.int .i64 x2), (.sl none [.int .i64] x3)]))
      ((ev (envF N) k F_base_WideFloor [(.agg [(.int .i64 x0), (.sl none [.int .i64] x1)]), (.agg [(.int .i64 (asI (nth (asA r3) 0))), (.sl none [.int .i64] (asL (nth (asA r3) 1)))])]).bind fun r7 =>
       (ev (envF N) k F_base_WideFloor [(.agg [(.int .i64 x2), (.sl none [.int .i64] x3)]), (.agg [(.int .i64 (asI (nth (asA r3) 0))), (.sl none [.int .i64] (asL (nth (asA r3) 1)))])]).bind fun r8 =>
        some (.agg [(.int .i64 (asI (nth (asA r7) 0))), (.sl none [.int .i64] (asL (nth (asA r7) 1))), (.int .i64 (asI (nth (asA r8) 0))), (.sl none [.int .i64] (asL (nth (asA r8) 1)))])))) := by kernel_rfl

/-- Loop 5 of base_WideOf. -/
noncomputable def L_base_WideOf_5 (N k n5  : Nat) (x0 : Int) (x1 : Int) (x2 : List (List PV)) (x3 : Int) (x4 : List (List PV)) : Option PV := loopAt (envF N) (ev (envF N) k) (evI (envF N) k) F_base_WideOf Go.Proofs.Try.f176 [.r, .r, .r, .r, .l, .b] n5 { slots := ((.int .i64 x0) :: und 1 ((.ptr 2 0) :: (.int .i64 x1) :: (.sl (some (4, 0)) [.int .i64] x2) :: und 15 [])), boxes := (nos 2 ((some (.cells [(.int .i64 x3), (.sl none [.int .i64] x4)] false)) :: nos 17 [])), vers := List.replicate 20 0 }
theorem L_base_WideOf_5_eq (N k n5  : Nat) (x0 : Int) (x1 : Int) (x2 : List (List PV)) (x3 : Int) (x4 : List (List PV)) : L_base_WideOf_5 N k (n5 + 1)  x0 x1 x2 x3 x4 =
 (cond (!(decide (x0 = (0 : Int))))
 ((ev (envF N) k F_base_Size [(.int .i64 (Int.tmod x0 (1000000000 : Int)))]).bind fun r2 =>
  cond (room x2 [[(.int .i64 (asI r2))]] 8)
   (L_base_WideOf_5 N k n5  (w64 (Int.tdiv x0 (1000000000 : Int))) x1 (x2 ++ [[(.int .i64 (asI r2))]]) x3 x4)
   (none))
 ((ev (envF N) k F_base_wideOf [(.int .i64 x1), (.sl none [.int .i64] x2)]).bind fun r2 =>
  some (.agg [(.int .i64 (asI (nth (asA r2) 0))), (.sl none [.int .i64] (asL (nth (asA r2) 1)))]))) := by kernel_rfl
theorem E_base_WideOf (N k : Nat) (x0 : Int) : ev (envF N) (k + 1) F_base_WideOf [(.int .i64 x0)] =
 (cond (decide (x0 < (0 : Int)))
 (L_base_WideOf_5 N k N  x0 (-1 : Int) [] (0 : Int) [])
 (L_base_WideOf_5 N k N  x0 (1 : Int) [] (0 : Int) [])) := by kernel_rfl

theorem E_lake_netErr_c1 (N k : Nat) (x0 : Int) : ev (envF N) (k + 1) F_lake_netErr_c1 [(.int .i64 x0)] =
 ((ev (envF N) k F_lake_within [(.int .i64 x0), (.int .i64 (-10000000 : Int)), (.int .i64 (10000000 : Int))]).bind fun r1 =>
 some (.bool (!(asB r1)))) := by kernel_rfl

theorem E_lake_table_readingsErr_c1 (N k : Nat) (x0 : Int) (x1 : List (List PV)) : ev (envF N) (k + 1) F_lake_table_readingsErr_c1 [(.int .i64 x0), (.rp [(.sl none [.int .i64, .int .i64] x1)] 0)] =
 ((ev (envF N) k F_lake_table_bottom [(.agg [(.sl none [.int .i64, .int .i64] x1)])]).bind fun r1 =>
 (ev (envF N) k F_lake_table_top [(.agg [(.sl none [.int .i64, .int .i64] x1)])]).bind fun r2 =>
  (ev (envF N) k F_lake_within [(.int .i64 x0), (.int .i64 (asI (nth (asA r1) 0))), (.int .i64 (asI (nth (asA r2) 0)))]).bind fun r3 =>
   some (.bool (asB r3))) := by kernel_rfl

/-- Loop 2 of slices_IndexFunc_LakeKnot. -/
noncomputable def L_slices_IndexFunc_LakeKnot_2 (N k n2  : Nat) (x0 : List (List PV)) (x1 : Int) (x2 : Int) (x3 : Int) : Option PV := loopAt (envF N) (ev (envF N) k) (evI (envF N) k) F_slices_IndexFunc_LakeKnot Go.Proofs.Try.f183 [.r, .l, .r, .b] n2 { slots := ((.sl none [.int .i64, .int .i64] x0) :: (.fn F_lake_table_byVolume_c1 [(.rp [(.int .i64 x1)] 0)]) :: und 5 ((.int .i64 x2) :: (.int .i64 x3) :: und 10 [])), boxes := (nos 19 []), vers := List.replicate 19 0 }
theorem L_slices_IndexFunc_LakeKnot_2_eq (N k n2  : Nat) (x0 : List (List PV)) (x1 : Int) (x2 : Int) (x3 : Int) : L_slices_IndexFunc_LakeKnot_2 N k (n2 + 1)  x0 x1 x2 x3 =
 (cond (decide (x3 < x2))
 (cond (decide ((0 : Int) ≤ x3))
  (cond (decide (x3 < ((List.length x0) : Int)))
   ((ev (envF N) k F_lake_table_byVolume_c1 [(.agg [(.int .i64 (asI (nth (nths x0 (Int.toNat x3)) 0))), (.int .i64 (asI (nth (nths x0 (Int.toNat x3)) 1)))]), (.rp [(.int .i64 x1)] 0)]).bind fun r4 =>
    cond (asB r4)
     (some (.int .i64 x3))
     (L_slices_IndexFunc_LakeKnot_2 N k n2  x0 x1 x2 (w64 (x3 + (1 : Int)))))
   (none))
  (none))
 (some (.int .i64 (-1 : Int)))) := by kernel_rfl
theorem E_slices_IndexFunc_LakeKnot (N k : Nat) (x0 : List (List PV)) (x1 : Int) : ev (envF N) (k + 1) F_slices_IndexFunc_LakeKnot [(.sl none [.int .i64, .int .i64] x0), (.fn F_lake_table_byVolume_c1 [(.rp [(.int .i64 x1)] 0)])] =
 (L_slices_IndexFunc_LakeKnot_2 N k N  x0 x1 ((List.length x0) : Int) (0 : Int)) := by kernel_rfl

/-- Loop 2 of slices_IndexFunc_LakeKnot. -/
noncomputable def L_slices_IndexFunc_LakeKnot_v1_2 (N k n2  : Nat) (x0 : List (List PV)) (x1 : Int) (x2 : Int) (x3 : Int) : Option PV := loopAt (envF N) (ev (envF N) k) (evI (envF N) k) F_slices_IndexFunc_LakeKnot Go.Proofs.Try.f183 [.r, .l, .r, .b] n2 { slots := ((.sl none [.int .i64, .int .i64] x0) :: (.fn F_lake_table_volumeAt_c1 [(.rp [(.int .i64 x1)] 0)]) :: und 5 ((.int .i64 x2) :: (.int .i64 x3) :: und 10 [])), boxes := (nos 19 []), vers := List.replicate 19 0 }
theorem L_slices_IndexFunc_LakeKnot_v1_2_eq (N k n2  : Nat) (x0 : List (List PV)) (x1 : Int) (x2 : Int) (x3 : Int) : L_slices_IndexFunc_LakeKnot_v1_2 N k (n2 + 1)  x0 x1 x2 x3 =
 (cond (decide (x3 < x2))
 (cond (decide ((0 : Int) ≤ x3))
  (cond (decide (x3 < ((List.length x0) : Int)))
   ((ev (envF N) k F_lake_table_volumeAt_c1 [(.agg [(.int .i64 (asI (nth (nths x0 (Int.toNat x3)) 0))), (.int .i64 (asI (nth (nths x0 (Int.toNat x3)) 1)))]), (.rp [(.int .i64 x1)] 0)]).bind fun r4 =>
    cond (asB r4)
     (some (.int .i64 x3))
     (L_slices_IndexFunc_LakeKnot_v1_2 N k n2  x0 x1 x2 (w64 (x3 + (1 : Int)))))
   (none))
  (none))
 (some (.int .i64 (-1 : Int)))) := by kernel_rfl
theorem E_slices_IndexFunc_LakeKnot_v1 (N k : Nat) (x0 : List (List PV)) (x1 : Int) : ev (envF N) (k + 1) F_slices_IndexFunc_LakeKnot [(.sl none [.int .i64, .int .i64] x0), (.fn F_lake_table_volumeAt_c1 [(.rp [(.int .i64 x1)] 0)])] =
 (L_slices_IndexFunc_LakeKnot_v1_2 N k N  x0 x1 ((List.length x0) : Int) (0 : Int)) := by kernel_rfl

theorem E_base_WideSub (N k : Nat) (x0 : Int) (x1 : List (List PV)) (x2 : Int) (x3 : List (List PV)) : ev (envF N) (k + 1) F_base_WideSub [(.agg [(.int .i64 x0), (.sl none [.int .i64] x1)]), (.agg [(.int .i64 x2), (.sl none [.int .i64] x3)])] =
 ((ev (envF N) k F_base_WideNeg [(.agg [(.int .i64 x2), (.sl none [.int .i64] x3)])]).bind fun r1 =>
 (ev (envF N) k F_base_WideAdd [(.agg [(.int .i64 x0), (.sl none [.int .i64] x1)]), (.agg [(.int .i64 (asI (nth (asA r1) 0))), (.sl none [.int .i64] (asL (nth (asA r1) 1)))])]).bind fun r2 =>
  some (.agg [(.int .i64 (asI (nth (asA r2) 0))), (.sl none [.int .i64] (asL (nth (asA r2) 1)))])) := by kernel_rfl

theorem E_base_wideOf (N k : Nat) (x0 : Int) (x1 : List (List PV)) : ev (envF N) (k + 1) F_base_wideOf [(.int .i64 x0), (.sl none [.int .i64] x1)] =
 ((ev (envF N) k F_base_trimmed [(.sl none [.int .i64] x1)]).bind fun r1 =>
 cond (decide (((List.length (asL r1)) : Int) = (0 : Int)))
  (some (.agg [(.int .i64 (0 : Int)), (.sl none [.int .i64] (asL r1))]))
  (some (.agg [(.int .i64 x0), (.sl none [.int .i64] (asL r1))]))) := by kernel_rfl

/-- Loop 5 of base_WideFloor. -/
noncomputable def L_base_WideFloor_5 (N k n5  : Nat) (x0 : List (List PV)) (x1 : Int) (x2 : Int) (x3 : List (List PV)) (x4 : Int) (x5 : List (List PV)) (x6 : Int) (x7 : List (List PV)) (x8 : List (List PV)) : Option PV := loopAt (envF N) (ev (envF N) k) (evI (envF N) k) F_base_WideFloor Go.Proofs.Try.f186 [.r, .r, .r, .l, .r, .b] n5 { slots := (und 2 ((.ptr 2 0) :: (.ptr 3 0) :: (.ptr 4 0) :: (.row 19) :: (.sl none [.int .i64] x0) :: (.int .i64 x1) :: und 80 [])), boxes := (nos 2 ((some (.cells [(.int .i64 x2), (.sl none [.int .i64] x3)] false)) :: (some (.cells [(.int .i64 x4), (.sl none [.int .i64] x5)] false)) :: (some (.cells [(.int .i64 x6), (.sl none [.int .i64] x7)] false)) :: nos 14 ((some (.row [.int .i64] x8 false)) :: nos 68 []))), vers := List.replicate 88 0 }
/-- Loop 9 of base_WideFloor. -/
noncomputable def L_base_WideFloor_9 (N k n9 n5 : Nat) (x0 : List (List PV)) (x1 : Int) (x2 : Int) (x3 : Int) (x4 : Int) (x5 : List (List PV)) (x6 : Int) (x7 : List (List PV)) (x8 : Int) (x9 : List (List PV)) (x10 : List (List PV)) : Option PV := loopAt (envF N) (ev (envF N) k) (evI (envF N) k) F_base_WideFloor Go.Proofs.Try.f186 [.r, .r, .r, .l, .r, .b, .p n5, .r, .l, .b, .r, .r, .l, .b] n9 { slots := (und 2 ((.ptr 2 0) :: (.ptr 3 0) :: (.ptr 4 0) :: (.row 19) :: (.sl none [.int .i64] x0) :: (.int .i64 x1) :: (.int .i64 x2) :: (.int .i64 x3) :: und 78 [])), boxes := (nos 2 ((some (.cells [(.int .i64 x4), (.sl none [.int .i64] x5)] false)) :: (some (.cells [(.int .i64 x6), (.sl none [.int .i64] x7)] false)) :: (some (.cells [(.int .i64 x8), (.sl none [.int .i64] x9)] false)) :: nos 14 ((some (.row [.int .i64] x10 false)) :: nos 68 []))), vers := List.replicate 88 0 }
theorem L_base_WideFloor_5_eq (N k n5  : Nat) (x0 : List (List PV)) (x1 : Int) (x2 : Int) (x3 : List (List PV)) (x4 : Int) (x5 : List (List PV)) (x6 : Int) (x7 : List (List PV)) (x8 : List (List PV)) : L_base_WideFloor_5 N k (n5 + 1)  x0 x1 x2 x3 x4 x5 x6 x7 x8 =
 (cond (decide ((0 : Int) ≤ x1))
 (cond (decide ((0 : Int) ≤ x1))
  (cond (decide (x1 < ((List.length x3) : Int)))
   (cond (room [[(.int .i64 (asI (nth (nths x3 (Int.toNat x1)) 0)))]] x0 8)
    ((ev (envF N) k F_base_trimmed [(.sl none [.int .i64] ([[(.int .i64 (asI (nth (nths x3 (Int.toNat x1)) 0)))]] ++ x0))]).bind fun r5 =>
     L_base_WideFloor_9 N k N n5 (asL r5) x1 (0 : Int) (999999999 : Int) x2 x3 x4 x5 x6 x7 x8)
    (none))
   (none))
  (none))
 ((ev (envF N) k F_base_wideOf [(.int .i64 x2), (.sl none [.int .i64] x8)]).bind fun r2 =>
  cond (decide (x2 < (0 : Int)))
   (cond (decide ((0 : Int) < ((List.length x0) : Int)))
    ((ev (envF N) k F_base_WideOf [(.int .i64 (1 : Int))]).bind fun r5 =>
     (ev (envF N) k F_base_WideSub [(.agg [(.int .i64 (asI (nth (asA r2) 0))), (.sl none [.int .i64] (asL (nth (asA r2) 1)))]), (.agg [(.int .i64 (asI (nth (asA r5) 0))), (.sl none [.int .i64] (asL (nth (asA r5) 1)))])]).bind fun r6 =>
      some (.agg [(.int .i64 (asI (nth (asA r6) 0))), (.sl none [.int .i64] (asL (nth (asA r6) 1)))]))
    (some (.agg [(.int .i64 (asI (nth (asA r2) 0))), (.sl none [.int .i64] (asL (nth (asA r2) 1)))])))
   (some (.agg [(.int .i64 (asI (nth (asA r2) 0))), (.sl none [.int .i64] (asL (nth (asA r2) 1)))])))) := by kernel_rfl
theorem L_base_WideFloor_9_eq (N k n9 n5 : Nat) (x0 : List (List PV)) (x1 : Int) (x2 : Int) (x3 : Int) (x4 : Int) (x5 : List (List PV)) (x6 : Int) (x7 : List (List PV)) (x8 : Int) (x9 : List (List PV)) (x10 : List (List PV)) : L_base_WideFloor_9 N k (n9 + 1) n5 x0 x1 x2 x3 x4 x5 x6 x7 x8 x9 x10 =
 (cond (decide (x2 < x3))
 ((ev (envF N) k F_base_wideOf [(.int .i64 (1 : Int)), (.sl none [.int .i64] x7)]).bind fun r2 =>
  (ev (envF N) k F_base_WideOf [(.int .i64 (w64 (Int.tdiv (w64 ((w64 (x2 + x3)) + (1 : Int))) (2 : Int))))]).bind fun r3 =>
   (ev (envF N) k F_base_WideMul [(.agg [(.int .i64 (asI (nth (asA r2) 0))), (.sl none [.int .i64] (asL (nth (asA r2) 1)))]), (.agg [(.int .i64 (asI (nth (asA r3) 0))), (.sl none [.int .i64] (asL (nth (asA r3) 1)))])]).bind fun r4 =>
    (ev (envF N) k F_base_cmpDigits [(.sl none [.int .i64] (asL (nth (asA r4) 1))), (.sl none [.int .i64] x0)]).bind fun r5 =>
     cond (decide ((asI r5) ≤ (0 : Int)))
      (L_base_WideFloor_9 N k n9 n5 x0 x1 (w64 (Int.tdiv (w64 ((w64 (x2 + x3)) + (1 : Int))) (2 : Int))) x3 x4 x5 x6 x7 x8 x9 x10)
      (L_base_WideFloor_9 N k n9 n5 x0 x1 x2 (w64 ((w64 (Int.tdiv (w64 ((w64 (x2 + x3)) + (1 : Int))) (2 : Int))) - (1 : Int))) x4 x5 x6 x7 x8 x9 x10))
 (cond (decide ((0 : Int) ≤ x1))
  (cond (decide (x1 < ((List.length x10) : Int)))
   ((ev (envF N) k F_base_wideOf [(.int .i64 (1 : Int)), (.sl none [.int .i64] x7)]).bind fun r4 =>
    (ev (envF N) k F_base_WideOf [(.int .i64 x2)]).bind fun r5 =>
     (ev (envF N) k F_base_WideMul [(.agg [(.int .i64 (asI (nth (asA r4) 0))), (.sl none [.int .i64] (asL (nth (asA r4) 1)))]), (.agg [(.int .i64 (asI (nth (asA r5) 0))), (.sl none [.int .i64] (asL (nth (asA r5) 1)))])]).bind fun r6 =>
      (ev (envF N) k F_base_subDigits [(.sl none [.int .i64] x0), (.sl none [.int .i64] (asL (nth (asA r6) 1)))]).bind fun r7 =>
       L_base_WideFloor_5 N k n5  (asL r7) (w64 (x1 - (1 : Int))) x4 x5 x6 x7 x8 x9 (List.set x10 (Int.toNat x1) (List.set (nths x10 (Int.toNat x1)) 0 (.int .i64 x2))))
   (none))
  (none))) := by kernel_rfl
theorem E_base_WideFloor (N k : Nat) (x0 : Int) (x1 : List (List PV)) (x2 : Int) (x3 : List (List PV)) : ev (envF N) (k + 1) F_base_WideFloor [(.agg [(.int .i64 x0), (.sl none [.int .i64] x1)]), (.agg [(.int .i64 x2), (.sl none [.int .i64] x3)])] =
 (cond (decide (x0 = (0 : Int)))
 (some (.agg [(.int .i64 (0 : Int)), (.sl none [.int .i64] [])]))
 (cond (decide (((List.length x1) : Int) = ((List.length x1) : Int)))
  (cond (decide ((((List.length x1) : Int) * (8 : Int)) ≤ (140737488355328 : Int)))
   (L_base_WideFloor_5 N k N  [] (w64 (((List.length x1) : Int) - (1 : Int))) x0 x1 x2 x3 (0 : Int) [] (List.replicate (Int.toNat (x1.length : Int)) ([.int .i64 0])))
   (none))
  (none))) := by kernel_rfl

theorem E_base_WideNeg (N k : Nat) (x0 : Int) (x1 : List (List PV)) : ev (envF N) (k + 1) F_base_WideNeg [(.agg [(.int .i64 x0), (.sl none [.int .i64] x1)])] =
 (some (.agg [(.int .i64 (w64 ((0 : Int) - x0))), (.sl none [.int .i64] x1)])) := by kernel_rfl

theorem E_base_WideAdd (N k : Nat) (x0 : Int) (x1 : List (List PV)) (x2 : Int) (x3 : List (List PV)) : ev (envF N) (k + 1) F_base_WideAdd [(.agg [(.int .i64 x0), (.sl none [.int .i64] x1)]), (.agg [(.int .i64 x2), (.sl none [.int .i64] x3)])] =
 (cond (decide (x0 = (0 : Int)))
 (some (.agg [(.int .i64 x2), (.sl none [.int .i64] x3)]))
 (cond (decide (x2 = (0 : Int)))
  (some (.agg [(.int .i64 x0), (.sl none [.int .i64] x1)]))
  (cond (decide (x0 = x2))
   ((ev (envF N) k F_base_addDigits [(.sl none [.int .i64] x1), (.sl none [.int .i64] x3)]).bind fun r4 =>
    (ev (envF N) k F_base_wideOf [(.int .i64 x0), (.sl none [.int .i64] (asL r4))]).bind fun r5 =>
     some (.agg [(.int .i64 (asI (nth (asA r5) 0))), (.sl none [.int .i64] (asL (nth (asA r5) 1)))]))
   ((ev (envF N) k F_base_cmpDigits [(.sl none [.int .i64] x1), (.sl none [.int .i64] x3)]).bind fun r4 =>
    cond (decide ((asI r4) = (0 : Int)))
     (some (.agg [(.int .i64 (0 : Int)), (.sl none [.int .i64] [])]))
     (cond (decide ((0 : Int) < (asI r4)))
      ((ev (envF N) k F_base_subDigits [(.sl none [.int .i64] x1), (.sl none [.int .i64] x3)]).bind fun r7 =>
       (ev (envF N) k F_base_wideOf [(.int .i64 x0), (.sl none [.int .i64] (asL r7))]).bind fun r8 =>
        some (.agg [(.int .i64 (asI (nth (asA r8) 0))), (.sl none [.int .i64] (asL (nth (asA r8) 1)))]))
      ((ev (envF N) k F_base_subDigits [(.sl none [.int .i64] x3), (.sl none [.int .i64] x1)]).bind fun r7 =>
       (ev (envF N) k F_base_wideOf [(.int .i64 x2), (.sl none [.int .i64] (asL r7))]).bind fun r8 =>
        some (.agg [(.int .i64 (asI (nth (asA r8) 0))), (.sl none [.int .i64] (asL (nth (asA r8) 1)))]))))))) := by kernel_rfl

/-- Loop 2 of slices_IndexFunc_int. -/
noncomputable def L_slices_IndexFunc_int_2 (N k n2  : Nat) (x0 : List (List PV)) (x1 : Int) (x2 : Int) : Option PV := loopAt (envF N) (ev (envF N) k) (evI (envF N) k) F_slices_IndexFunc_int Go.Proofs.Try.f197 [.r, .l, .r, .b] n2 { slots := ((.sl none [.int .i64] x0) :: (.fn F_lake_netErr_c1 []) :: und 5 ((.int .i64 x1) :: (.int .i64 x2) :: und 10 [])), boxes := (nos 19 []), vers := List.replicate 19 0 }
theorem L_slices_IndexFunc_int_2_eq (N k n2  : Nat) (x0 : List (List PV)) (x1 : Int) (x2 : Int) : L_slices_IndexFunc_int_2 N k (n2 + 1)  x0 x1 x2 =
 (cond (decide (x2 < x1))
 (cond (decide ((0 : Int) ≤ x2))
  (cond (decide (x2 < ((List.length x0) : Int)))
   ((ev (envF N) k F_lake_netErr_c1 [(.int .i64 (asI (nth (nths x0 (Int.toNat x2)) 0)))]).bind fun r4 =>
    cond (asB r4)
     (some (.int .i64 x2))
     (L_slices_IndexFunc_int_2 N k n2  x0 x1 (w64 (x2 + (1 : Int)))))
   (none))
  (none))
 (some (.int .i64 (-1 : Int)))) := by kernel_rfl
theorem E_slices_IndexFunc_int (N k : Nat) (x0 : List (List PV)) : ev (envF N) (k + 1) F_slices_IndexFunc_int [(.sl none [.int .i64] x0), (.fn F_lake_netErr_c1 [])] =
 (L_slices_IndexFunc_int_2 N k N  x0 ((List.length x0) : Int) (0 : Int)) := by kernel_rfl

theorem E_base_WideSign (N k : Nat) (x0 : Int) (x1 : List (List PV)) : ev (envF N) (k + 1) F_base_WideSign [(.agg [(.int .i64 x0), (.sl none [.int .i64] x1)])] =
 (some (.int .i64 x0)) := by kernel_rfl

/-- Loop 2 of base_wideGcd. -/
noncomputable def L_base_wideGcd_2 (N k n2  : Nat) (x0 : Int) (x1 : List (List PV)) (x2 : Int) (x3 : List (List PV)) (x4 : Int) (x5 : List (List PV)) : Option PV := loopAt (envF N) (ev (envF N) k) (evI (envF N) k) F_base_wideGcd Go.Proofs.Try.f199 [.r, .r, .l, .b] n2 { slots := (und 2 ((.ptr 2 0) :: (.ptr 3 0) :: (.ptr 4 0) :: und 18 [])), boxes := (nos 2 ((some (.cells [(.int .i64 x0), (.sl none [.int .i64] x1)] false)) :: (some (.cells [(.int .i64 x2), (.sl none [.int .i64] x3)] false)) :: (some (.cells [(.int .i64 x4), (.sl none [.int .i64] x5)] false)) :: nos 18 [])), vers := List.replicate 23 0 }
theorem L_base_wideGcd_2_eq (N k n2  : Nat) (x0 : Int) (x1 : List (List PV)) (x2 : Int) (x3 : List (List PV)) (x4 : Int) (x5 : List (List PV)) : L_base_wideGcd_2 N k (n2 + 1)  x0 x1 x2 x3 x4 x5 =
 ((ev (envF N) k F_base_WideSign [(.agg [(.int .i64 x2), (.sl none [.int .i64] x3)])]).bind fun r1 =>
 cond (!(decide ((asI r1) = (0 : Int))))
  ((ev (envF N) k F_base_WideFloor [(.agg [(.int .i64 x0), (.sl none [.int .i64] x1)]), (.agg [(.int .i64 x2), (.sl none [.int .i64] x3)])]).bind fun r3 =>
   (ev (envF N) k F_base_WideMul [(.agg [(.int .i64 (asI (nth (asA r3) 0))), (.sl none [.int .i64] (asL (nth (asA r3) 1)))]), (.agg [(.int .i64 x2), (.sl none [.int .i64] x3)])]).bind fun r4 =>
    (ev (envF N) k F_base_WideSub [(.agg [(.int .i64 x0), (.sl none [.int .i64] x1)]), (.agg [(.int .i64 (asI (nth (asA r4) 0))), (.sl none [.int .i64] (asL (nth (asA r4) 1)))])]).bind fun r5 =>
     L_base_wideGcd_2 N k n2  x2 x3 (asI (nth (asA r5) 0)) (asL (nth (asA r5) 1)) x4 x5)
  (some (.agg [(.int .i64 x0), (.sl none [.int .i64] x1)]))) := by kernel_rfl
theorem E_base_wideGcd (N k : Nat) (x0 : Int) (x1 : List (List PV)) (x2 : Int) (x3 : List (List PV)) : ev (envF N) (k + 1) F_base_wideGcd [(.agg [(.int .i64 x0), (.sl none [.int .i64] x1)]), (.agg [(.int .i64 x2), (.sl none [.int .i64] x3)])] =
 ((ev (envF N) k F_base_wideSize [(.agg [(.int .i64 x0), (.sl none [.int .i64] x1)])]).bind fun r1 =>
 (ev (envF N) k F_base_wideSize [(.agg [(.int .i64 x2), (.sl none [.int .i64] x3)])]).bind fun r2 =>
  L_base_wideGcd_2 N k N  (asI (nth (asA r1) 0)) (asL (nth (asA r1) 1)) (asI (nth (asA r2) 0)) (asL (nth (asA r2) 1)) (0 : Int) []) := by kernel_rfl

/-- Loop 2 of base_trimmed. -/
noncomputable def L_base_trimmed_2 (N k n2  : Nat) (x0 : List (List PV)) (x1 : Int) : Option PV := loopAt (envF N) (ev (envF N) k) (evI (envF N) k) F_base_trimmed Go.Proofs.Try.f202 [.r, .r, .l, .b] n2 { slots := ((.sl none [.int .i64] x0) :: und 2 ((.int .i64 x1) :: und 17 [])), boxes := (nos 21 []), vers := List.replicate 21 0 }
theorem L_base_trimmed_2_eq (N k n2  : Nat) (x0 : List (List PV)) (x1 : Int) : L_base_trimmed_2 N k (n2 + 1)  x0 x1 =
 (cond (decide ((0 : Int) < x1))
 (cond (decide ((0 : Int) ≤ (w64 (x1 - (1 : Int)))))
  (cond (decide ((w64 (x1 - (1 : Int))) < ((List.length x0) : Int)))
   (cond (decide ((asI (nth (nths x0 (Int.toNat (w64 (x1 - (1 : Int))))) 0)) = (0 : Int)))
    (L_base_trimmed_2 N k n2  x0 (w64 (x1 - (1 : Int))))
    (cond (decide ((0 : Int) ≤ x1))
     (cond (decide (x1 ≤ ((List.length x0) : Int)))
      (some (.sl none [.int .i64] (List.drop 0 (List.take (Int.toNat x1) x0))))
      (none))
     (none)))
   (none))
  (none))
 (cond (decide ((0 : Int) ≤ x1))
  (cond (decide (x1 ≤ ((List.length x0) : Int)))
   (some (.sl none [.int .i64] (List.drop 0 (List.take (Int.toNat x1) x0))))
   (none))
  (none))) := by kernel_rfl
theorem E_base_trimmed (N k : Nat) (x0 : List (List PV)) : ev (envF N) (k + 1) F_base_trimmed [(.sl none [.int .i64] x0)] =
 (L_base_trimmed_2 N k N  x0 ((List.length x0) : Int)) := by kernel_rfl

/-- Loop 6 of base_cmpDigits. -/
noncomputable def L_base_cmpDigits_6 (N k n6  : Nat) (x0 : List (List PV)) (x1 : List (List PV)) (x2 : Int) : Option PV := loopAt (envF N) (ev (envF N) k) (evI (envF N) k) F_base_cmpDigits Go.Proofs.Try.f203 [.r, .r, .l, .r, .b] n6 { slots := ((.sl none [.int .i64] x0) :: (.sl none [.int .i64] x1) :: und 3 ((.int .i64 x2) :: und 35 [])), boxes := (nos 41 []), vers := List.replicate 41 0 }
theorem L_base_cmpDigits_6_eq (N k n6  : Nat) (x0 : List (List PV)) (x1 : List (List PV)) (x2 : Int) : L_base_cmpDigits_6 N k (n6 + 1)  x0 x1 x2 =
 (cond (decide ((0 : Int) ≤ x2))
 (cond (decide ((0 : Int) ≤ x2))
  (cond (decide (x2 < ((List.length x0) : Int)))
   (cond (decide ((0 : Int) ≤ x2))
    (cond (decide (x2 < ((List.length x1) : Int)))
     (cond (decide ((asI (nth (nths x0 (Int.toNat x2)) 0)) < (asI (nth (nths x1 (Int.toNat x2)) 0))))
      (some (.int .i64 (-1 : Int)))
      (cond (decide ((0 : Int) ≤ x2))
       (cond (decide (x2 < ((List.length x0) : Int)))
        (cond (decide ((0 : Int) ≤ x2))
         (cond (decide (x2 < ((List.length x1) : Int)))
          (cond (decide ((asI (nth (nths x1 (Int.toNat x2)) 0)) < (asI (nth (nths x0 (Int.toNat x2)) 0))))
           (some (.int .i64 (1 : Int)))
           (L_base_cmpDigits_6 N k n6  x0 x1 (w64 (x2 - (1 : Int)))))
          (none))
         (none))
        (none))
       (none)))
     (none))
    (none))
   (none))
  (none))
 (some (.int .i64 (0 : Int)))) := by kernel_rfl
theorem E_base_cmpDigits (N k : Nat) (x0 : List (List PV)) (x1 : List (List PV)) : ev (envF N) (k + 1) F_base_cmpDigits [(.sl none [.int .i64] x0), (.sl none [.int .i64] x1)] =
 (cond (!(decide (((List.length x0) : Int) = ((List.length x1) : Int))))
 (cond (decide (((List.length x0) : Int) < ((List.length x1) : Int)))
  (some (.int .i64 (-1 : Int)))
  (some (.int .i64 (1 : Int))))
 (L_base_cmpDigits_6 N k N  x0 x1 (w64 (((List.length x0) : Int) - (1 : Int))))) := by kernel_rfl

/-- Loop 4 of base_subDigits. -/
noncomputable def L_base_subDigits_4 (N k n4  : Nat) (x0 : List (List PV)) (x1 : List (List PV)) (x2 : List (List PV)) (x3 : Int) (x4 : Int) : Option PV := loopAt (envF N) (ev (envF N) k) (evI (envF N) k) F_base_subDigits Go.Proofs.Try.f204 [.r, .r, .r, .l, .r, .b] n4 { slots := ((.sl none [.int .i64] x0) :: (.sl none [.int .i64] x1) :: und 3 ((.sl (some (5, 0)) [.int .i64] x2) :: (.int .i64 x3) :: (.int .i64 x4) :: und 27 [])), boxes := (nos 35 []), vers := List.replicate 35 0 }
theorem L_base_subDigits_4_eq (N k n4  : Nat) (x0 : List (List PV)) (x1 : List (List PV)) (x2 : List (List PV)) (x3 : Int) (x4 : Int) : L_base_subDigits_4 N k (n4 + 1)  x0 x1 x2 x3 x4 =
 (cond (decide (x4 < ((List.length x0) : Int)))
 (cond (decide ((0 : Int) ≤ x4))
  (cond (decide (x4 < ((List.length x0) : Int)))
   ((ev (envF N) k F_base_digit [(.sl none [.int .i64] x1), (.int .i64 x4)]).bind fun r4 =>
    cond (decide ((w64 ((w64 ((asI (nth (nths x0 (Int.toNat x4)) 0)) - (asI r4))) - x3)) < (0 : Int)))
     (cond (room x2 [[(.int .i64 (w64 ((w64 ((w64 ((asI (nth (nths x0 (Int.toNat x4)) 0)) - (asI r4))) - x3)) + (1000000000 : Int))))]] 8)
      (L_base_subDigits_4 N k n4  x0 x1 (x2 ++ [[(.int .i64 (w64 ((w64 ((w64 ((asI (nth (nths x0 (Int.toNat x4)) 0)) - (asI r4))) - x3)) + (1000000000 : Int))))]]) (1 : Int) (w64 (x4 + (1 : Int))))
      (none))
     (cond (room x2 [[(.int .i64 (w64 ((w64 ((asI (nth (nths x0 (Int.toNat x4)) 0)) - (asI r4))) - x3)))]] 8)
      (L_base_subDigits_4 N k n4  x0 x1 (x2 ++ [[(.int .i64 (w64 ((w64 ((asI (nth (nths x0 (Int.toNat x4)) 0)) - (asI r4))) - x3)))]]) (0 : Int) (w64 (x4 + (1 : Int))))
      (none)))
   (none))
  (none))
 ((ev (envF N) k F_base_trimmed [(.sl none [.int .i64] x2)]).bind fun r2 =>
  some (.sl none [.int .i64] (asL r2)))) := by kernel_rfl
theorem E_base_subDigits (N k : Nat) (x0 : List (List PV)) (x1 : List (List PV)) : ev (envF N) (k + 1) F_base_subDigits [(.sl none [.int .i64] x0), (.sl none [.int .i64] x1)] =
 (L_base_subDigits_4 N k N  x0 x1 [] (0 : Int) (0 : Int)) := by kernel_rfl

/-- Loop 4 of base_addDigits. -/
noncomputable def L_base_addDigits_4 (N k n4  : Nat) (x0 : List (List PV)) (x1 : List (List PV)) (x2 : List (List PV)) (x3 : Int) (x4 : Int) : Option PV := loopAt (envF N) (ev (envF N) k) (evI (envF N) k) F_base_addDigits Go.Proofs.Try.f205 [.r, .r, .r, .l, .r, .b] n4 { slots := ((.sl none [.int .i64] x0) :: (.sl none [.int .i64] x1) :: und 3 ((.sl (some (5, 0)) [.int .i64] x2) :: (.int .i64 x3) :: (.int .i64 x4) :: und 34 [])), boxes := (nos 42 []), vers := List.replicate 42 0 }
theorem L_base_addDigits_4_eq (N k n4  : Nat) (x0 : List (List PV)) (x1 : List (List PV)) (x2 : List (List PV)) (x3 : Int) (x4 : Int) : L_base_addDigits_4 N k (n4 + 1)  x0 x1 x2 x3 x4 =
 (cond (decide (x4 < ((List.length x0) : Int)))
 ((ev (envF N) k F_base_digit [(.sl none [.int .i64] x0), (.int .i64 x4)]).bind fun r2 =>
  (ev (envF N) k F_base_digit [(.sl none [.int .i64] x1), (.int .i64 x4)]).bind fun r3 =>
   cond (room x2 [[(.int .i64 (Int.tmod (w64 ((w64 ((asI r2) + (asI r3))) + x3)) (1000000000 : Int)))]] 8)
    (L_base_addDigits_4 N k n4  x0 x1 (x2 ++ [[(.int .i64 (Int.tmod (w64 ((w64 ((asI r2) + (asI r3))) + x3)) (1000000000 : Int)))]]) (w64 (Int.tdiv (w64 ((w64 ((asI r2) + (asI r3))) + x3)) (1000000000 : Int))) (w64 (x4 + (1 : Int))))
    (none))
 (cond (decide (x4 < ((List.length x1) : Int)))
  ((ev (envF N) k F_base_digit [(.sl none [.int .i64] x0), (.int .i64 x4)]).bind fun r3 =>
   (ev (envF N) k F_base_digit [(.sl none [.int .i64] x1), (.int .i64 x4)]).bind fun r4 =>
    cond (room x2 [[(.int .i64 (Int.tmod (w64 ((w64 ((asI r3) + (asI r4))) + x3)) (1000000000 : Int)))]] 8)
     (L_base_addDigits_4 N k n4  x0 x1 (x2 ++ [[(.int .i64 (Int.tmod (w64 ((w64 ((asI r3) + (asI r4))) + x3)) (1000000000 : Int)))]]) (w64 (Int.tdiv (w64 ((w64 ((asI r3) + (asI r4))) + x3)) (1000000000 : Int))) (w64 (x4 + (1 : Int))))
     (none))
  (cond (decide ((0 : Int) < x3))
   ((ev (envF N) k F_base_digit [(.sl none [.int .i64] x0), (.int .i64 x4)]).bind fun r4 =>
    (ev (envF N) k F_base_digit [(.sl none [.int .i64] x1), (.int .i64 x4)]).bind fun r5 =>
     cond (room x2 [[(.int .i64 (Int.tmod (w64 ((w64 ((asI r4) + (asI r5))) + x3)) (1000000000 : Int)))]] 8)
      (L_base_addDigits_4 N k n4  x0 x1 (x2 ++ [[(.int .i64 (Int.tmod (w64 ((w64 ((asI r4) + (asI r5))) + x3)) (1000000000 : Int)))]]) (w64 (Int.tdiv (w64 ((w64 ((asI r4) + (asI r5))) + x3)) (1000000000 : Int))) (w64 (x4 + (1 : Int))))
      (none))
   (some (.sl none [.int .i64] x2))))) := by kernel_rfl
theorem E_base_addDigits (N k : Nat) (x0 : List (List PV)) (x1 : List (List PV)) : ev (envF N) (k + 1) F_base_addDigits [(.sl none [.int .i64] x0), (.sl none [.int .i64] x1)] =
 (L_base_addDigits_4 N k N  x0 x1 [] (0 : Int) (0 : Int)) := by kernel_rfl

theorem E_base_wideSize (N k : Nat) (x0 : Int) (x1 : List (List PV)) : ev (envF N) (k + 1) F_base_wideSize [(.agg [(.int .i64 x0), (.sl none [.int .i64] x1)])] =
 (cond (decide (x0 < (0 : Int)))
 ((ev (envF N) k F_base_WideNeg [(.agg [(.int .i64 x0), (.sl none [.int .i64] x1)])]).bind fun r2 =>
  some (.agg [(.int .i64 (asI (nth (asA r2) 0))), (.sl none [.int .i64] (asL (nth (asA r2) 1)))]))
 (some (.agg [(.int .i64 x0), (.sl none [.int .i64] x1)]))) := by kernel_rfl

theorem E_base_digit (N k : Nat) (x0 : List (List PV)) (x1 : Int) : ev (envF N) (k + 1) F_base_digit [(.sl none [.int .i64] x0), (.int .i64 x1)] =
 (cond (decide (x1 < ((List.length x0) : Int)))
 (cond (decide ((0 : Int) ≤ x1))
  (cond (decide (x1 < ((List.length x0) : Int)))
   (some (.int .i64 (asI (nth (nths x0 (Int.toNat x1)) 0))))
   (none))
  (none))
 (some (.int .i64 (0 : Int)))) := by kernel_rfl

end Go.PewTab

namespace Go.PewTab
set_option linter.unusedSimpArgs false
set_option linter.unusedVariables false
open Go.Pew Go.Num

section
variable {N k : Nat}

theorem imax_eq (a b : Int) : imax a b = max a b := by unfold imax; split <;> omega
theorem imin_eq (a b : Int) : imin a b = min a b := by unfold imin; split <;> omega

theorem room_one (xs : List (List PV)) (y : List PV) (h : xs.length ≤ 1000000) : room xs [y] 8 = true := by
  unfold room
  rw [decide_eq_true_eq]
  simp only [List.length_cons, List.length_nil]
  omega

/-- The digits' value. -/
abbrev vD (l : List Nat) : PV := .sl none [.int .i64] (l.map cD)
/-- A whole number's value. -/
abbrev vW (z : Int) : PV := .agg [.int .i64 z.sign, .sl none [.int .i64] ((digs z.natAbs).map cD)]

theorem trimmed_loop (l : List Nat) (hl : Dig l) (hlen : l.length ≤ 1000000) : ∀ (m n : Nat), m ≤ l.length → val (l.take m) = val l → m < n →
    L_base_trimmed_2 N k n (l.map cD) (m : Int) = some (vD (digs (val l)))
  | 0, n + 1, _, hv, _ => by
    rw [L_base_trimmed_2_eq]
    have h1 : ¬ ((0 : Int) < ((0 : Nat) : Int)) := by omega
    have h2 : ((0 : Int) ≤ ((0 : Nat) : Int)) := by omega
    have h3 : (((0 : Nat) : Int) ≤ ((List.map cD l).length : Int)) := by omega
    simp only [cond_dec, h1, h2, h3, if_true, if_false]
    rw [← hv]
    simp [val, digs_zero]
  | m + 1, n + 1, hm, hv, hn => by
    rw [L_base_trimmed_2_eq]
    have h1 : ((0 : Int) < ((m + 1 : Nat) : Int)) := by omega
    have e : w64 (((m + 1 : Nat) : Int) - 1) = (m : Int) := by rw [w64_id] <;> omega
    have h2 : ((0 : Int) ≤ (m : Int)) := by omega
    have h3 : ((m : Int) < (l.length : Int)) := by omega
    have h4 : ((0 : Int) ≤ ((m + 1 : Nat) : Int)) := by omega
    have h5 : (((m + 1 : Nat) : Int) ≤ (l.length : Int)) := by omega
    simp only [cond_dec, List.length_map, h1, e, h2, h3, h4, h5, if_true, Int.toNat_natCast, leaf_cD]
    have hs := val_take_succ l m
    by_cases h0 : l.getD m 0 = 0
    · rw [if_pos (by omega)]
      refine trimmed_loop l hl hlen m n (by omega) ?_ (by omega)
      rw [h0] at hs
      omega
    · rw [if_neg (by omega), List.drop_zero, ← List.map_take, ← hv]
      congr 4
      refine eq_digs (hl.take _) fun _ => ?_
      rw [List.length_take, Nat.min_eq_left hm, Nat.add_sub_cancel, List.getD_eq_getElem?_getD, List.getElem?_take_of_lt (by omega), ← List.getD_eq_getElem?_getD]
      exact h0

theorem trimmed_spec (hN : 1000000 ≤ N) {l : List Nat} (hl : Dig l) (hlen : l.length ≤ 10000) : ev (envF N) (k + 1) F_base_trimmed [vD l] = some (vD (digs (val l))) := by
  rw [E_base_trimmed, List.length_map]
  exact trimmed_loop l hl (by omega) _ N (Nat.le_refl _) (by rw [List.take_length]) (by omega)

theorem wideOf_spec (hN : 1000000 ≤ N) {l : List Nat} (hl : Dig l) (hlen : l.length ≤ 10000) (s : Int) : ev (envF N) (k + 2) F_base_wideOf [.int .i64 s, vD l] = some (.agg [.int .i64 (if val l = 0 then 0 else s), vD (digs (val l))]) := by
  rw [E_base_wideOf, trimmed_spec hN hl hlen]
  simp only [obind, asL_sl, List.length_map, cond_dec]
  by_cases h : val l = 0
  · simp [h, digs_zero]
  · rw [if_neg h, digs_pos h, if_neg (by rw [List.length_cons]; omega)]

/-- A sign and digits that tell a number. -/
theorem vW_of {z : Int} {m : Nat} {s : Int} (h1 : z.natAbs = m) (h2 : z.sign = if m = 0 then 0 else s) : PV.agg [.int .i64 (if m = 0 then 0 else s), vD (digs m)] = vW z := by
  rw [← h2, ← h1]

theorem Size_spec {x : Int} (h : -9223372036854775807 ≤ x ∧ x ≤ 9223372036854775807) : ev (envF N) (k + 1) F_base_Size [.int .i64 x] = some (.int .i64 (x.natAbs : Int)) := by
  rw [E_base_Size, imax_eq, w64_id (by omega) (by omega)]
  congr 2
  omega

theorem tmod_natAbs (x : Int) : (x.tmod 1000000000).natAbs = x.natAbs % 1000000000 := by
  rw [Int.natAbs_tmod]; rfl
theorem tdiv_natAbs (x : Int) : (x.tdiv 1000000000).natAbs = x.natAbs / 1000000000 := by
  rw [Int.natAbs_tdiv]; rfl

theorem WideOf_loop (hN : 1000000 ≤ N) (s : Int) : ∀ (d : Nat) (n : Nat) (x : Int) (l : List Nat) (x3 : Int) (x4 : List (List PV)), x.natAbs < 1000000000 ^ d → d < n → I64 x → Dig l → l.length + d ≤ 10000 → (x = 0 → l ≠ [] → l.getD (l.length - 1) 0 ≠ 0) →
    L_base_WideOf_5 N (k + 2) n x s (l.map cD) x3 x4 = some (.agg [.int .i64 (if val l + 1000000000 ^ l.length * x.natAbs = 0 then 0 else s), vD (digs (val l + 1000000000 ^ l.length * x.natAbs))])
  | 0, n + 1, x, l, x3, x4, hx, hn, hi, hl, hlen, hz => by
    have : x = 0 := by simp at hx; exact hx
    subst this
    rw [L_base_WideOf_5_eq]
    simp only [Int.natAbs_zero, Nat.mul_zero, Nat.add_zero]
    have h1 : ¬ (¬ (0 : Int) = 0) := by simp
    simp only [cond_ndec, if_true, wideOf_spec (k := k) hN hl (by omega) s, obind, asA_agg, nth_zero, nth_one, asI_int, asL_sl]
  | d + 1, n + 1, x, l, x3, x4, hx, hn, hi, hl, hlen, hz => by
    rw [L_base_WideOf_5_eq]
    by_cases h0 : x = 0
    · subst h0
      simp only [Int.natAbs_zero, Nat.mul_zero, Nat.add_zero]
      simp only [cond_ndec, if_true, wideOf_spec (k := k) hN hl (by omega) s, obind, asA_agg, nth_zero, nth_one, asI_int, asL_sl]
    · have hm : -9223372036854775807 ≤ x.tmod 1000000000 ∧ x.tmod 1000000000 ≤ 9223372036854775807 := by
        have := tmod_natAbs x
        have := Nat.mod_lt x.natAbs (show 0 < 1000000000 by decide)
        omega
      have hd : w64 (x.tdiv 1000000000) = x.tdiv 1000000000 := by
        have := tdiv_natAbs x
        have := Nat.div_le_self x.natAbs 1000000000
        rw [w64_id] <;> omega
      have e2 : (l.map cD ++ [[PV.int .i64 ((x.tmod 1000000000).natAbs : Int)]]) = (l ++ [x.natAbs % 1000000000]).map cD := by
        rw [List.map_append, tmod_natAbs]; rfl
      simp only [cond_ndec, h0, if_false, Size_spec hm, obind, asI_int, room_one _ _ (show (l.map cD).length ≤ 1000000 by rw [List.length_map]; omega), cond_t, hd, e2]
      have hdig : Dig (l ++ [x.natAbs % 1000000000]) := hl.append fun y hy => by
        rw [List.mem_singleton.1 hy]; exact Nat.mod_lt _ (by decide)
      have hlt : (x.tdiv 1000000000).natAbs < 1000000000 ^ d := by
        rw [tdiv_natAbs, Nat.div_lt_iff_lt_mul (by decide), ← Nat.pow_succ]
        exact hx
      have hle := tdiv_natAbs x
      rw [WideOf_loop hN s d n _ _ x3 x4 hlt (by omega) (by omega) hdig (by simp; omega) (fun hq _ => ?_)]
      · have key : val (l ++ [x.natAbs % 1000000000]) + 1000000000 ^ (l ++ [x.natAbs % 1000000000]).length * (x.tdiv 1000000000).natAbs = val l + 1000000000 ^ l.length * x.natAbs := by
          rw [val_append, List.length_append, List.length_singleton, Nat.pow_succ, tdiv_natAbs, Nat.mul_assoc, Nat.add_assoc, ← Nat.mul_add]
          congr 2
          simp only [val]
          omega
        rw [key]
      · simp only [List.length_append, List.length_singleton, Nat.add_sub_cancel]
        have h3 := tdiv_natAbs x
        rw [hq, Int.natAbs_zero] at h3
        rw [List.getD_eq_getElem?_getD, List.getElem?_append_right (Nat.le_refl _)]
        simp
        omega

theorem WideOf_spec (hN : 1000000 ≤ N) {x : Int} (h : I64 x) : ev (envF N) (k + 3) F_base_WideOf [.int .i64 x] = some (vW x) := by
  have hlt : x.natAbs < 1000000000 ^ 3 := by have : (1000000000 : Nat) ^ 3 = 1000000000000000000000000000 := by decide
                                             omega
  have key (s : Int) (hs : x.sign = if x.natAbs = 0 then 0 else s) : L_base_WideOf_5 N (k + 2) N x s [] 0 [] = some (vW x) := by
    have := WideOf_loop (k := k) hN s 3 N x [] 0 [] hlt (by omega) h (by intro y hy; cases hy) (by simp) (fun _ h => absurd rfl h)
    simp only [List.map_nil] at this
    rw [this]
    simp only [val, List.length_nil, Nat.pow_zero, Nat.one_mul, Nat.zero_add]
    rw [vW_of rfl hs]
  rw [E_base_WideOf, cond_dec]
  by_cases h0 : x < 0
  · rw [if_pos h0]
    exact key _ (by rw [Int.sign_eq_neg_one_of_neg h0, if_neg (by omega)])
  · rw [if_neg h0]
    refine key _ ?_
    by_cases h1 : x = 0
    · simp [h1]
    · rw [Int.sign_eq_one_of_pos (by omega), if_neg (by omega)]

theorem cmpDigits_loop (l m : List Nat) (hl : Dig l) (hm : Dig m) (he : l.length = m.length) (hlen : l.length ≤ 10000) : ∀ (d n : Nat), d ≤ l.length → (∀ i, d ≤ i → l.getD i 0 = m.getD i 0) → d < n →
    L_base_cmpDigits_6 N k n (l.map cD) (m.map cD) ((d : Int) - 1) = some (.int .i64 (if val l < val m then -1 else if val m < val l then 1 else 0))
  | 0, n + 1, _, hs, _ => by
    rw [L_base_cmpDigits_6_eq]
    have h1 : ¬ ((0 : Int) ≤ ((0 : Nat) : Int) - 1) := by omega
    simp only [cond_dec, h1, if_false]
    have : l = m := List.ext_getElem he fun i h1 h2 => by
      have := hs i (by omega)
      simpa [List.getD_eq_getElem?_getD, h1, h2] using this
    subst this
    simp
  | d + 1, n + 1, hd, hs, hn => by
    rw [L_base_cmpDigits_6_eq]
    have e0 : ((d + 1 : Nat) : Int) - 1 = (d : Int) := by omega
    have h1 : ((0 : Int) ≤ (d : Int)) := by omega
    have h2 : ((d : Int) < (l.length : Int)) := by omega
    have h3 : ((d : Int) < (m.length : Int)) := by omega
    have e1 : w64 ((d : Int) - 1) = (d : Int) - 1 := by rw [w64_id] <;> omega
    simp only [e0, cond_dec, List.length_map, h1, h2, h3, if_true, Int.toNat_natCast, leaf_cD, e1]
    by_cases c1 : l.getD d 0 < m.getD d 0
    · have := val_lt_of hl hm he (n := d) (by omega) c1 (fun i hi => hs i (by omega))
      rw [if_pos (by omega), if_pos this]
    · by_cases c2 : m.getD d 0 < l.getD d 0
      · have := val_lt_of hm hl he.symm (n := d) (by omega) c2 (fun i hi => (hs i (by omega)).symm)
        rw [if_neg (by omega), if_pos (by omega), if_neg (by omega), if_pos this]
      · rw [if_neg (by omega), if_neg (by omega)]
        exact cmpDigits_loop l m hl hm he hlen d n (by omega) (fun i hi => by
          by_cases hh : i = d
          · subst hh; omega
          · exact hs i (by omega)) (by omega)

theorem cmpDigits_spec (hN : 1000000 ≤ N) (a b : Nat) (ha : (digs a).length ≤ 10000) (hb : (digs b).length ≤ 10000) : ev (envF N) (k + 1) F_base_cmpDigits [vD (digs a), vD (digs b)] = some (.int .i64 (if a < b then -1 else if b < a then 1 else 0)) := by
  rw [E_base_cmpDigits, List.length_map, List.length_map]
  by_cases h : (digs a).length = (digs b).length
  · have e : w64 (((digs a).length : Int) - 1) = ((digs a).length : Int) - 1 := by rw [w64_id] <;> omega
    rw [cond_ndec, if_pos (by omega), e, cmpDigits_loop _ _ (dig_digs a) (dig_digs b) h ha _ N (Nat.le_refl _) (fun i hi => ?_) (by omega), val_digs, val_digs]
    rw [List.getD_eq_getElem?_getD, List.getElem?_eq_none hi, List.getD_eq_getElem?_getD, List.getElem?_eq_none (by omega)]
  · rw [cond_ndec, if_neg (by omega), cond_dec]
    by_cases h1 : (digs a).length < (digs b).length
    · rw [if_pos (by omega), if_pos (digs_len_lt h1)]
    · have := digs_len_lt (a := b) (b := a) (by omega)
      rw [if_neg (by omega), if_neg (by omega), if_pos this]

theorem digit_spec (l : List Nat) (i : Nat) (hlen : l.length ≤ 10000) : ev (envF N) (k + 1) F_base_digit [vD l, .int .i64 (i : Int)] = some (.int .i64 (l.getD i 0 : Nat)) := by
  rw [E_base_digit]
  have h2 : ((0 : Int) ≤ (i : Int)) := by omega
  simp only [cond_dec, List.length_map, h2, if_true, Int.toNat_natCast, leaf_cD]
  by_cases h : i < l.length
  · rw [if_pos (by omega), if_pos (by omega)]
  · rw [if_neg (by omega), List.getD_eq_getElem?_getD, List.getElem?_eq_none (by omega)]
    rfl

end
end Go.PewTab

namespace Go.PewTab
set_option linter.unusedSimpArgs false
set_option linter.unusedVariables false
open Go.Pew Go.Num

section
variable {N k : Nat}

theorem tmod_nat (s : Nat) : Int.tmod (s : Int) 1000000000 = ((s % 1000000000 : Nat) : Int) := rfl
theorem tdiv_nat (s : Nat) : Int.tdiv (s : Int) 1000000000 = ((s / 1000000000 : Nat) : Int) := rfl

theorem addDigits_loop (a b : List Nat) (ha : Dig a) (hb : Dig b) (hla : a.length ≤ 10000) (hlb : b.length ≤ 10000) : ∀ (d n : Nat) (out : List Nat) (c i : Nat), max a.length b.length + 1 ≤ i + d → i ≤ max a.length b.length + 1 → c ≤ 1 → (c = 1 → i ≤ max a.length b.length) → out.length + d ≤ 100000 → d < n →
    ∃ r, Dig r ∧ r.length ≤ d ∧ val r = val (a.drop i) + val (b.drop i) + c ∧ L_base_addDigits_4 N (k + 1) n (a.map cD) (b.map cD) (out.map cD) (c : Int) (i : Int) = some (vD (out ++ r))
  | d, n + 1, out, c, i, h1, h1', h2, h3, h4, h5 => by
    rw [L_base_addDigits_4_eq]
    by_cases he : max a.length b.length ≤ i ∧ c = 0
    · obtain ⟨he, rfl⟩ := he
      refine ⟨[], (by intro x hx; cases hx), by simp, ?_, ?_⟩
      · rw [List.drop_eq_nil_of_le (by omega), List.drop_eq_nil_of_le (by omega)]; rfl
      · simp only [cond_dec, List.length_map]
        rw [if_neg (by omega), if_neg (by omega), if_neg (by omega), List.append_nil]
    · obtain ⟨d, rfl⟩ : ∃ m, d = m + 1 := ⟨d - 1, by omega⟩
      have hai := ha.getD i
      have hbi := hb.getD i
      obtain ⟨s, hs⟩ : ∃ s, a.getD i 0 + b.getD i 0 + c = s := ⟨_, rfl⟩
      have hlt : s < 2000000000 := by omega
      have hw : w64 (w64 (((a.getD i 0 : Nat) : Int) + ((b.getD i 0 : Nat) : Int)) + (c : Int)) = (s : Int) := by
        rw [w64_id (x := ((a.getD i 0 : Nat) : Int) + ((b.getD i 0 : Nat) : Int)) (by omega) (by omega), w64_id (by omega) (by omega)]
        omega
      have hq : w64 ((s / 1000000000 : Nat) : Int) = ((s / 1000000000 : Nat) : Int) := by
        rw [w64_id] <;> omega
      have hi : w64 ((i : Int) + 1) = ((i + 1 : Nat) : Int) := by rw [w64_id] <;> omega
      have hr : room (out.map cD) [[.int .i64 ((s % 1000000000 : Nat) : Int)]] 8 = true := room_one _ _ (by rw [List.length_map]; omega)
      have hdig : Dig (out ++ [s % 1000000000]) ∨ True := .inr trivial
      have eo : (out.map cD ++ [[PV.int .i64 ((s % 1000000000 : Nat) : Int)]]) = (out ++ [s % 1000000000]).map cD := by rw [List.map_append]; rfl
      obtain ⟨r, r1, r2, r3, r4⟩ := addDigits_loop a b ha hb hla hlb d n (out ++ [s % 1000000000]) (s / 1000000000) (i + 1) (by omega) (by omega) (by omega) (fun h => by
        by_cases hh : i < max a.length b.length
        · omega
        · have e1 : a.getD i 0 = 0 := by rw [List.getD_eq_getElem?_getD, List.getElem?_eq_none (by omega)]; rfl
          have e2 : b.getD i 0 = 0 := by rw [List.getD_eq_getElem?_getD, List.getElem?_eq_none (by omega)]; rfl
          omega) (by simp; omega) (by omega)
      refine ⟨s % 1000000000 :: r, ?_, by simp; omega, ?_, ?_⟩
      · intro x hx
        rcases List.mem_cons.1 hx with rfl | hx
        · exact Nat.mod_lt _ (by decide)
        · exact r1 x hx
      · rw [val, r3, val_drop a i, val_drop b i]
        omega
      · have body : (((ev (envF N) (k + 1) F_base_digit [vD a, .int .i64 (i : Int)]).bind fun r2 => (ev (envF N) (k + 1) F_base_digit [vD b, .int .i64 (i : Int)]).bind fun r3 =>
            cond (room (out.map cD) [[(.int .i64 (Int.tmod (w64 ((w64 ((asI r2) + (asI r3))) + (c : Int))) (1000000000 : Int)))]] 8)
              (L_base_addDigits_4 N (k + 1) n (a.map cD) (b.map cD) (out.map cD ++ [[(.int .i64 (Int.tmod (w64 ((w64 ((asI r2) + (asI r3))) + (c : Int))) (1000000000 : Int)))]]) (w64 (Int.tdiv (w64 ((w64 ((asI r2) + (asI r3))) + (c : Int))) (1000000000 : Int))) (w64 ((i : Int) + (1 : Int))))
              none)) = some (vD (out ++ s % 1000000000 :: r)) := by
          rw [digit_spec a i hla, digit_spec b i hlb]
          simp only [obind, asI_int, hw, tmod_nat, tdiv_nat, hq, hi, hr, cond_t, eo]
          rw [r4, List.append_assoc]
          rfl
        simp only [cond_dec, List.length_map]
        by_cases c1 : i < a.length
        · rw [if_pos (by omega)]; exact body
        · by_cases c2 : i < b.length
          · rw [if_neg (by omega), if_pos (by omega)]; exact body
          · rw [if_neg (by omega), if_neg (by omega), if_pos (by omega)]; exact body

theorem addDigits_spec (hN : 1000000 ≤ N) {a b : List Nat} (ha : Dig a) (hb : Dig b) (hla : a.length ≤ 5000) (hlb : b.length ≤ 5000) :
    ∃ r, Dig r ∧ r.length ≤ max a.length b.length + 1 ∧ val r = val a + val b ∧ ev (envF N) (k + 2) F_base_addDigits [vD a, vD b] = some (vD r) := by
  obtain ⟨r, h1, h2, h3, h4⟩ := addDigits_loop (N := N) (k := k) a b ha hb (by omega) (by omega) (max a.length b.length + 1) N [] 0 0 (by omega) (by omega) (by omega) (by omega) (by simp; omega) (by omega)
  refine ⟨r, h1, h2, by simpa using h3, ?_⟩
  rw [E_base_addDigits]
  exact h4

theorem subDigits_loop (hN : 1000000 ≤ N) (a b : List Nat) (ha : Dig a) (hb : Dig b) (hla : a.length ≤ 5000) (hlb : b.length ≤ 5000) : ∀ (d n : Nat) (out : List Nat) (c i : Nat), i + d = a.length → Dig out → out.length = i → c ≤ 1 → val (b.drop i) + c ≤ val (a.drop i) → d < n →
    ∃ r, L_base_subDigits_4 N (k + 1) n (a.map cD) (b.map cD) (out.map cD) (c : Int) (i : Int) = some (vD (digs (val out + 1000000000 ^ i * r))) ∧ r + (val (b.drop i) + c) = val (a.drop i)
  | 0, n + 1, out, c, i, h1, h2, h3, h4, h5, h6 => by
    have e1 : val (a.drop i) = 0 := by rw [List.drop_eq_nil_of_le (by omega)]; rfl
    refine ⟨0, ?_, by omega⟩
    rw [L_base_subDigits_4_eq, cond_dec, List.length_map, if_neg (by omega), trimmed_spec hN h2 (by omega)]
    simp only [obind, asL_sl, Nat.mul_zero, Nat.add_zero]
  | d + 1, n + 1, out, c, i, h1, h2, h3, h4, h5, h6 => by
    have hai := ha.getD i
    have hbi := hb.getD i
    have va := val_drop a i
    have vb := val_drop b i
    have hi : w64 ((i : Int) + 1) = ((i + 1 : Nat) : Int) := by rw [w64_id] <;> omega
    have hw : w64 (w64 (((a.getD i 0 : Nat) : Int) - ((b.getD i 0 : Nat) : Int)) - (c : Int)) = ((a.getD i 0 : Nat) : Int) - ((b.getD i 0 : Nat) : Int) - (c : Int) := by
      rw [w64_id (x := ((a.getD i 0 : Nat) : Int) - ((b.getD i 0 : Nat) : Int)) (by omega) (by omega), w64_id (by omega) (by omega)]
    have hlt : (i : Int) < (a.length : Int) := by omega
    have h0 : (0 : Int) ≤ (i : Int) := by omega
    have step : ∀ (x c' : Nat), x < 1000000000 → c' ≤ 1 → (x : Int) = ((a.getD i 0 : Nat) : Int) - ((b.getD i 0 : Nat) : Int) - (c : Int) + 1000000000 * c' →
        ∃ r, L_base_subDigits_4 N (k + 1) n (a.map cD) (b.map cD) ((out ++ [x]).map cD) (c' : Int) ((i + 1 : Nat) : Int) = some (vD (digs (val out + 1000000000 ^ i * r))) ∧ r + (val (b.drop i) + c) = val (a.drop i) := by
      intro x c' hx hc hxe
      obtain ⟨r, r1, r2⟩ := subDigits_loop hN a b ha hb hla hlb d n (out ++ [x]) c' (i + 1) (by omega) (h2.append fun y hy => by rw [List.mem_singleton.1 hy]; exact hx) (by simp; omega) hc (by omega) (by omega)
      refine ⟨x + 1000000000 * r, ?_, by omega⟩
      rw [r1, val_append, h3, Nat.pow_succ, Nat.mul_add, Nat.mul_assoc, Nat.add_assoc]
      simp [val]
    rw [L_base_subDigits_4_eq]
    simp only [cond_dec, List.length_map, hlt, h0, if_true, Int.toNat_natCast, leaf_cD, digit_spec b i (show b.length ≤ 10000 by omega), obind, asI_int, hw, hi]
    by_cases cn : ((a.getD i 0 : Nat) : Int) - ((b.getD i 0 : Nat) : Int) - (c : Int) < 0
    · obtain ⟨x, hx⟩ : ∃ x : Nat, (x : Int) = ((a.getD i 0 : Nat) : Int) - ((b.getD i 0 : Nat) : Int) - (c : Int) + 1000000000 := ⟨(((a.getD i 0 : Nat) : Int) - ((b.getD i 0 : Nat) : Int) - (c : Int) + 1000000000).toNat, by omega⟩
      have hw2 : w64 (((a.getD i 0 : Nat) : Int) - ((b.getD i 0 : Nat) : Int) - (c : Int) + 1000000000) = (x : Int) := by rw [w64_id, ← hx] <;> omega
      rw [if_pos cn, hw2, room_one _ _ (by rw [List.length_map]; omega), cond_t]
      have := step x 1 (by omega) (by omega) (by omega)
      rwa [List.map_append] at this
    · obtain ⟨x, hx⟩ : ∃ x : Nat, (x : Int) = ((a.getD i 0 : Nat) : Int) - ((b.getD i 0 : Nat) : Int) - (c : Int) := ⟨(((a.getD i 0 : Nat) : Int) - ((b.getD i 0 : Nat) : Int) - (c : Int)).toNat, by omega⟩
      rw [if_neg cn, ← hx, room_one _ _ (by rw [List.length_map]; omega), cond_t]
      have := step x 0 (by omega) (by omega) (by omega)
      rwa [List.map_append] at this

theorem subDigits_spec (hN : 1000000 ≤ N) {a b : Nat} (hab : b ≤ a) (hla : (digs a).length ≤ 5000) (hlb : (digs b).length ≤ 5000) : ev (envF N) (k + 2) F_base_subDigits [vD (digs a), vD (digs b)] = some (vD (digs (a - b))) := by
  obtain ⟨r, h1, h2⟩ := subDigits_loop (k := k) hN (digs a) (digs b) (dig_digs a) (dig_digs b) hla hlb (digs a).length N [] 0 0 (by omega) (by intro x hx; cases hx) rfl (by omega) (by simpa [val_digs] using hab) (by omega)
  rw [E_base_subDigits]
  refine h1.trans ?_
  simp only [List.drop_zero, val_digs] at h2
  simp only [val, Nat.pow_zero, Nat.one_mul, Nat.zero_add]
  rw [show r = a - b by omega]

/-- A number of at most m digits. -/
def Sz (m : Nat) (z : Int) : Prop := z.natAbs < 1000000000 ^ m
theorem Sz.len {m : Nat} {z : Int} (h : Sz m z) : (digs z.natAbs).length ≤ m := digs_len _ _ h
theorem Sz.neg {m : Nat} {z : Int} (h : Sz m z) : Sz m (-z) := by unfold Sz at *; rwa [Int.natAbs_neg]
theorem Sz.mono {m n : Nat} {z : Int} (h : Sz m z) (hmn : m ≤ n) : Sz n z := Nat.lt_of_lt_of_le h (Nat.pow_le_pow_right (by decide) hmn)
theorem Sz.le {m : Nat} {y z : Int} (h : Sz m z) (hy : y.natAbs ≤ z.natAbs) : Sz m y := Nat.lt_of_le_of_lt hy h
theorem Sz.mul {m n : Nat} {y z : Int} (hy : Sz m y) (hz : Sz n z) : Sz (m + n) (y * z) := by
  unfold Sz at *
  rw [Int.natAbs_mul, Nat.pow_add]
  exact Nat.mul_lt_mul_of_lt_of_le hy (Nat.le_of_lt hz) (Nat.pow_pos (by decide))
theorem Sz.add {m : Nat} {y z : Int} (hy : Sz m y) (hz : Sz m z) : Sz (m + 1) (y + z) := by
  unfold Sz at *
  rw [Nat.pow_succ]
  have := Int.natAbs_add_le y z
  omega
theorem sz_int {x : Int} (h : I64 x) : Sz 3 x := by
  unfold Sz
  have : (1000000000 : Nat) ^ 3 = 1000000000000000000000000000 := by decide
  omega

theorem WideNeg_spec (z : Int) : ev (envF N) (k + 1) F_base_WideNeg [vW z] = some (vW (-z)) := by
  rw [E_base_WideNeg]
  have e : w64 (0 - z.sign) = (-z).sign := by
    rw [Int.sign_neg, w64_id]
    · omega
    · rcases Int.sign_trichotomy z with h | h | h <;> omega
    · rcases Int.sign_trichotomy z with h | h | h <;> omega
  rw [e]
  simp only [vW, Int.natAbs_neg]

theorem eta_vW (z : Int) : PV.agg [.int .i64 (asI (nth (asA (vW z)) 0)), .sl none [.int .i64] (asL (nth (asA (vW z)) 1))] = vW z := rfl

theorem WideAdd_spec (hN : 1000000 ≤ N) {y z : Int} (hy : Sz 4000 y) (hz : Sz 4000 z) : ev (envF N) (k + 3) F_base_WideAdd [vW y, vW z] = some (vW (y + z)) := by
  have ly := hy.len
  have lz := hz.len
  rw [E_base_WideAdd]
  simp only [cond_dec, Int.sign_eq_zero_iff_zero]
  by_cases h1 : y = 0
  · subst h1
    rw [if_pos rfl, Int.zero_add]
  · rw [if_neg h1]
    by_cases h2 : z = 0
    · subst h2
      rw [if_pos rfl, Int.add_zero]
    · rw [if_neg h2]
      by_cases h3 : y.sign = z.sign
      · rw [if_pos h3]
        obtain ⟨r, r1, r2, r3, r4⟩ := addDigits_spec (N := N) (k := k) hN (dig_digs y.natAbs) (dig_digs z.natAbs) (by omega) (by omega)
        rw [r4]
        simp only [obind, asL_sl, wideOf_spec (k := k) hN r1 (by omega) y.sign]
        rw [val_digs, val_digs] at r3
        have e1 : (y + z).natAbs = val r := by
          rw [r3]
          rcases Int.lt_or_le y 0 with a | a
          · have : z.sign = -1 := by rw [← h3]; exact Int.sign_eq_neg_one_of_neg a
            have := Int.sign_eq_neg_one_iff_neg.1 this
            omega
          · have : z.sign = 1 := by rw [← h3]; exact Int.sign_eq_one_of_pos (by omega)
            have := Int.sign_eq_one_iff_pos.1 this
            omega
        rw [vW_of (s := y.sign) e1 ?sgn]
        case sgn =>
         rw [if_neg (by omega)]
         rcases Int.lt_or_le y 0 with a | a
         · have : z.sign = -1 := by rw [← h3]; exact Int.sign_eq_neg_one_of_neg a
           have := Int.sign_eq_neg_one_iff_neg.1 this
           rw [Int.sign_eq_neg_one_of_neg a, Int.sign_eq_neg_one_of_neg (by omega)]
         · have : z.sign = 1 := by rw [← h3]; exact Int.sign_eq_one_of_pos (by omega)
           have := Int.sign_eq_one_iff_pos.1 this
           rw [Int.sign_eq_one_of_pos (by omega), Int.sign_eq_one_of_pos (by omega)]
        rfl
      · rw [if_neg h3, cmpDigits_spec (k := k + 1) hN _ _ (by omega) (by omega)]
        simp only [obind, asI_int]
        have opp : (y < 0 ∧ 0 < z) ∨ (0 < y ∧ z < 0) := by
          rcases Int.lt_or_le y 0 with a | a
          · rcases Int.lt_or_le z 0 with b | b
            · exact absurd (by rw [Int.sign_eq_neg_one_of_neg a, Int.sign_eq_neg_one_of_neg b]) h3
            · omega
          · rcases Int.lt_or_le z 0 with b | b
            · omega
            · exact absurd (by rw [Int.sign_eq_one_of_pos (by omega), Int.sign_eq_one_of_pos (by omega)]) h3
        by_cases c1 : y.natAbs < z.natAbs
        · rw [if_pos c1, if_neg (show ¬ ((-1 : Int) = 0) by decide), if_neg (show ¬ ((0 : Int) < -1) by decide), subDigits_spec (k := k) hN (by omega) (by omega) (by omega)]
          have := digs_len (z.natAbs - y.natAbs) 4000 (Nat.lt_of_le_of_lt (Nat.sub_le _ _) hz)
          simp only [obind, asL_sl, wideOf_spec (k := k) hN (dig_digs _) (show (digs (z.natAbs - y.natAbs)).length ≤ 10000 by omega) z.sign, val_digs]
          have e1 : (y + z).natAbs = z.natAbs - y.natAbs := by omega
          rw [vW_of (s := z.sign) e1 ?sgn]
          case sgn =>
            rw [if_neg (by omega)]
            rcases opp with ⟨a, b⟩ | ⟨a, b⟩
            · rw [Int.sign_eq_one_of_pos b, Int.sign_eq_one_of_pos (by omega)]
            · rw [Int.sign_eq_neg_one_of_neg b, Int.sign_eq_neg_one_of_neg (by omega)]
          rfl
        · rw [if_neg c1]
          by_cases c2 : z.natAbs < y.natAbs
          · rw [if_pos c2, if_neg (show ¬ ((1 : Int) = 0) by decide), if_pos (show (0 : Int) < 1 by decide), subDigits_spec (k := k) hN (by omega) (by omega) (by omega)]
            have := digs_len (y.natAbs - z.natAbs) 4000 (Nat.lt_of_le_of_lt (Nat.sub_le _ _) hy)
            simp only [obind, asL_sl, wideOf_spec (k := k) hN (dig_digs _) (show (digs (y.natAbs - z.natAbs)).length ≤ 10000 by omega) y.sign, val_digs]
            have e1 : (y + z).natAbs = y.natAbs - z.natAbs := by omega
            rw [vW_of (s := y.sign) e1 ?sgn]
            case sgn =>
              rw [if_neg (by omega)]
              rcases opp with ⟨a, b⟩ | ⟨a, b⟩
              · rw [Int.sign_eq_neg_one_of_neg a, Int.sign_eq_neg_one_of_neg (by omega)]
              · rw [Int.sign_eq_one_of_pos a, Int.sign_eq_one_of_pos (by omega)]
            rfl
          · have e : y + z = 0 := by omega
            rw [if_neg c2, if_pos rfl, e]
            simp [digs_zero]

theorem WideSub_spec (hN : 1000000 ≤ N) {y z : Int} (hy : Sz 4000 y) (hz : Sz 4000 z) : ev (envF N) (k + 4) F_base_WideSub [vW y, vW z] = some (vW (y - z)) := by
  rw [E_base_WideSub, WideNeg_spec (k := k + 2)]
  simp only [obind, eta_vW]
  have := WideAdd_spec (N := N) (k := k) hN hy hz.neg
  rw [this]
  simp only [obind, Int.sub_eq_add_neg, eta_vW]

theorem WideCmp_spec (hN : 1000000 ≤ N) {y z : Int} (hy : Sz 4000 y) (hz : Sz 4000 z) : ev (envF N) (k + 5) F_base_WideCmp [vW y, vW z] = some (.int .i64 (y - z).sign) := by
  rw [E_base_WideCmp, WideSub_spec (k := k) hN hy hz]
  rfl

theorem WideSign_spec (z : Int) : ev (envF N) (k + 1) F_base_WideSign [vW z] = some (.int .i64 z.sign) := by
  rw [E_base_WideSign]

end
end Go.PewTab

namespace Go.PewTab
set_option linter.unusedSimpArgs false
set_option linter.unusedVariables false
open Go.Pew Go.Num

section
variable {N k : Nat}

theorem set_cD (l : List Nat) (j x : Nat) (h : j < l.length) : List.set (l.map cD) j (List.set (nths (l.map cD) j) 0 (.int .i64 (x : Int))) = (l.set j x).map cD := by
  rw [nths_map cD l j h, List.map_set]
  rfl

theorem getD_set (l : List Nat) (j x i : Nat) (h : i ≠ j) : (l.set j x).getD i 0 = l.getD i 0 := by
  rw [List.getD_eq_getElem?_getD, List.getElem?_set_ne (Ne.symm h), ← List.getD_eq_getElem?_getD]

theorem WideMul_inner (a b : List Nat) (ha : Dig a) (hb : Dig b) (hla : a.length ≤ 5000) (hlb : b.length ≤ 5000) (sa sb : Int) (x7 : Int) (x8 : List (List PV)) (n3 i : Nat) (hi : i < a.length) : ∀ (d n kk c : Nat) (out : List Nat), kk + d = b.length → Dig out → out.length = a.length + b.length + 1 → c < 1000000000 → (∀ j, i + b.length ≤ j → out.getD j 0 = 0) → d < n →
    ∃ out', L_base_WideMul_7 N k n n3 (i : Int) (c : Int) (kk : Int) sa (a.map cD) sb (b.map cD) x7 x8 (out.map cD) = L_base_WideMul_3 N k n3 ((i + 1 : Nat) : Int) sa (a.map cD) sb (b.map cD) x7 x8 (out'.map cD) ∧
      Dig out' ∧ out'.length = a.length + b.length + 1 ∧ (∀ j, i + 1 + b.length ≤ j → out'.getD j 0 = 0) ∧ val out' = val out + 1000000000 ^ (i + kk) * (c + a.getD i 0 * val (b.drop kk))
  | 0, n + 1, kk, c, out, h1, h2, h3, h4, h5, h6 => by
    have hk : kk = b.length := by omega
    subst hk
    rw [L_base_WideMul_7_eq]
    have e1 : w64 ((i : Int) + ((b.length : Nat) : Int)) = ((i + b.length : Nat) : Int) := by rw [w64_id] <;> omega
    have e2 : w64 ((i : Int) + 1) = ((i + 1 : Nat) : Int) := by rw [w64_id] <;> omega
    have e3 : w64 (((out.getD (i + b.length) 0 : Nat) : Int) + (c : Int)) = (c : Int) := by rw [h5 _ (Nat.le_refl _), w64_id] <;> omega
    have c1 : ¬ ((b.length : Int) < (b.length : Int)) := by omega
    have c2 : (0 : Int) ≤ ((i + b.length : Nat) : Int) := by omega
    have c3 : ((i + b.length : Nat) : Int) < (out.length : Int) := by omega
    have hs : List.set (out.map cD) (i + b.length) (List.set (nths (out.map cD) (i + b.length)) 0 (.int .i64 (c : Int))) = (out.set (i + b.length) c).map cD := set_cD _ _ _ (by omega)
    refine ⟨out.set (i + b.length) c, ?_, h2.set _ h4, by simpa using h3, ?_, ?_⟩
    · simp only [cond_dec, List.length_map, e1, e2, c1, c2, c3, if_true, if_false, Int.toNat_natCast, leaf_cD, e3, hs]
    · intro j hj
      rw [getD_set _ _ _ _ (by omega)]
      exact h5 j (by omega)
    · have := val_set out (i + b.length) c (by omega)
      rw [h5 _ (Nat.le_refl _), Nat.mul_zero, Nat.add_zero] at this
      rw [this, List.drop_length]
      simp [val]
  | d + 1, n + 1, kk, c, out, h1, h2, h3, h4, h5, h6 => by
    have hai := ha.getD i
    have hbi := hb.getD kk
    have hoi := h2.getD (i + kk)
    obtain ⟨p, hp⟩ : ∃ p, a.getD i 0 * b.getD kk 0 = p := ⟨_, rfl⟩
    have hple : p ≤ 999999999 * 999999999 := by rw [← hp]; exact Nat.mul_le_mul (by omega) (by omega)
    obtain ⟨s, hs⟩ : ∃ s, out.getD (i + kk) 0 + p + c = s := ⟨_, rfl⟩
    have hslt : s / 1000000000 < 1000000000 := by omega
    have e1 : w64 ((i : Int) + (kk : Int)) = ((i + kk : Nat) : Int) := by rw [w64_id] <;> omega
    have e2 : w64 ((kk : Int) + 1) = ((kk + 1 : Nat) : Int) := by rw [w64_id] <;> omega
    have ep : ((a.getD i 0 : Nat) : Int) * ((b.getD kk 0 : Nat) : Int) = (p : Int) := by rw [← hp, Int.natCast_mul]
    have e3 : w64 (w64 (((out.getD (i + kk) 0 : Nat) : Int) + w64 (((a.getD i 0 : Nat) : Int) * ((b.getD kk 0 : Nat) : Int))) + (c : Int)) = (s : Int) := by
      rw [ep, w64_id (x := (p : Int)) (by omega) (by omega), w64_id (x := ((out.getD (i + kk) 0 : Nat) : Int) + (p : Int)) (by omega) (by omega), w64_id (by omega) (by omega)]
      omega
    have e4 : w64 ((s / 1000000000 : Nat) : Int) = ((s / 1000000000 : Nat) : Int) := by rw [w64_id] <;> omega
    have c1 : ((kk : Int) < (b.length : Int)) := by omega
    have c2 : (0 : Int) ≤ ((i + kk : Nat) : Int) := by omega
    have c3 : ((i + kk : Nat) : Int) < (out.length : Int) := by omega
    have c4 : (0 : Int) ≤ (i : Int) := by omega
    have c5 : (i : Int) < (a.length : Int) := by omega
    have c6 : (0 : Int) ≤ (kk : Int) := by omega
    have hset : List.set (out.map cD) (i + kk) (List.set (nths (out.map cD) (i + kk)) 0 (.int .i64 ((s % 1000000000 : Nat) : Int))) = (out.set (i + kk) (s % 1000000000)).map cD := set_cD _ _ _ (by omega)
    have hm : s % 1000000000 < 1000000000 := Nat.mod_lt _ (by decide)
    obtain ⟨out', r1, r2, r3, r4, r5⟩ := WideMul_inner a b ha hb hla hlb sa sb x7 x8 n3 i hi d n (kk + 1) (s / 1000000000) (out.set (i + kk) (s % 1000000000)) (by omega) (h2.set _ hm) (by simpa using h3) hslt (fun j hj => by
      rw [getD_set _ _ _ _ (by omega)]
      exact h5 j hj) (by omega)
    refine ⟨out', ?_, r2, r3, r4, ?_⟩
    · rw [L_base_WideMul_7_eq]
      simp only [cond_dec, List.length_map, e1, e2, c1, c2, c3, c4, c5, c6, if_true, Int.toNat_natCast, leaf_cD, e3, tmod_nat, tdiv_nat, e4, hset]
      exact r1
    · have hv := val_set out (i + kk) (s % 1000000000) (by omega)
      have hd := val_drop b kk
      rw [r5, hd]
      have key : 1000000000 ^ (i + (kk + 1)) = 1000000000 ^ (i + kk) * 1000000000 := by rw [← Nat.add_assoc, Nat.pow_succ]
      rw [key, Nat.mul_assoc]
      have split1 : 1000000000 * (s / 1000000000 + a.getD i 0 * val (b.drop (kk + 1))) + s % 1000000000 = out.getD (i + kk) 0 + (c + a.getD i 0 * (b.getD kk 0 + 1000000000 * val (b.drop (kk + 1)))) := by
        have : a.getD i 0 * (b.getD kk 0 + 1000000000 * val (b.drop (kk + 1))) = p + 1000000000 * (a.getD i 0 * val (b.drop (kk + 1))) := by
          rw [Nat.mul_add, hp, Nat.mul_left_comm]
        rw [this]
        omega
      have e5 := congrArg (1000000000 ^ (i + kk) * ·) split1
      rw [Nat.mul_add, Nat.mul_add (1000000000 ^ (i + kk)) (out.getD (i + kk) 0)] at e5
      omega

theorem WideMul_outer (hN : 1000000 ≤ N) (a b : List Nat) (ha : Dig a) (hb : Dig b) (hla : a.length ≤ 4000) (hlb : b.length ≤ 4000) (sa sb : Int) (x5 : Int) (x6 : List (List PV)) : ∀ (d n i : Nat) (out : List Nat), i + d = a.length → Dig out → out.length = a.length + b.length + 1 → (∀ j, i + b.length ≤ j → out.getD j 0 = 0) → val out = val (a.take i) * val b → d < n →
    L_base_WideMul_3 N (k + 2) n (i : Int) sa (a.map cD) sb (b.map cD) x5 x6 (out.map cD) = some (.agg [.int .i64 (if val a * val b = 0 then 0 else w64 (sa * sb)), vD (digs (val a * val b))])
  | 0, n + 1, i, out, h1, h2, h3, h4, h5, h6 => by
    have hi : i = a.length := by omega
    subst hi
    rw [List.take_length] at h5
    rw [L_base_WideMul_3_eq, cond_dec, List.length_map, if_neg (by omega), wideOf_spec hN h2 (by omega)]
    simp only [obind, asA_agg, nth_zero, nth_one, asI_int, asL_sl, h5]
  | d + 1, n + 1, i, out, h1, h2, h3, h4, h5, h6 => by
    obtain ⟨out', r1, r2, r3, r4, r5⟩ := WideMul_inner (N := N) (k := k + 2) a b ha hb (by omega) (by omega) sa sb x5 x6 n i (by omega) b.length N 0 0 out (by omega) h2 h3 (by decide) h4 (by omega)
    rw [L_base_WideMul_3_eq, cond_dec, List.length_map, if_pos (by omega)]
    refine r1.trans (WideMul_outer hN a b ha hb hla hlb sa sb x5 x6 d n (i + 1) out' (by omega) r2 r3 r4 ?_ (by omega))
    rw [r5, h5, val_take_succ, List.drop_zero, Nat.zero_add, Nat.add_zero, Nat.add_mul, Nat.mul_assoc]

theorem WideMul_spec (hN : 1000000 ≤ N) {y z : Int} (hy : Sz 2000 y) (hz : Sz 2000 z) : ev (envF N) (k + 3) F_base_WideMul [vW y, vW z] = some (vW (y * z)) := by
  have ly := hy.len
  have lz := hz.len
  rw [E_base_WideMul]
  have e1 : w64 (w64 (((digs y.natAbs).length : Int) + ((digs z.natAbs).length : Int)) + 1) = (((digs y.natAbs).length + (digs z.natAbs).length + 1 : Nat) : Int) := by
    rw [w64_id (x := ((digs y.natAbs).length : Int) + ((digs z.natAbs).length : Int)) (by omega) (by omega), w64_id (by omega) (by omega)]
    omega
  have c1 : (0 : Int) ≤ (((digs y.natAbs).length + (digs z.natAbs).length + 1 : Nat) : Int) := by omega
  have c2 : (((digs y.natAbs).length + (digs z.natAbs).length + 1 : Nat) : Int) * 8 ≤ 140737488355328 := by omega
  have er (m : Nat) : List.replicate m [PV.int .i64 0] = (List.replicate m 0).map cD := by rw [List.map_replicate]; rfl
  simp only [cond_dec, List.length_map, e1, c1, c2, if_true, Int.toNat_natCast, er]
  have := WideMul_outer (k := k) hN (digs y.natAbs) (digs z.natAbs) (dig_digs _) (dig_digs _) (by omega) (by omega) y.sign z.sign 0 [] (digs y.natAbs).length N 0 (List.replicate ((digs y.natAbs).length + (digs z.natAbs).length + 1) 0) (by omega) (dig_replicate _) (by simp) (fun j _ => by
    rw [List.getD_eq_getElem?_getD, List.getElem?_replicate]; split <;> rfl) (by rw [val_replicate]; simp [val]) (by omega)
  refine this.trans ?_
  rw [val_digs, val_digs]
  refine congrArg some (vW_of (by rw [Int.natAbs_mul]) ?_)
  rw [Int.sign_mul, w64_id]
  · by_cases h1 : y = 0
    · simp [h1]
    · by_cases h2 : z = 0
      · simp [h2]
      · have : y.natAbs * z.natAbs ≠ 0 := by
          intro h
          rcases Nat.mul_eq_zero.1 h with h | h <;> omega
        rw [if_neg this]
  · rcases Int.sign_trichotomy y with h | h | h <;> rcases Int.sign_trichotomy z with h' | h' | h' <;> rw [h, h'] <;> decide
  · rcases Int.sign_trichotomy y with h | h | h <;> rcases Int.sign_trichotomy z with h' | h' | h' <;> rw [h, h'] <;> decide

end
end Go.PewTab
