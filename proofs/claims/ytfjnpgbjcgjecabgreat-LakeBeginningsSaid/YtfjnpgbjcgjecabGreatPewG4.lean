/- EQUATIONS OF FUNCTIONS, by the kernel's own reckoning; written by a program. -/
/- EQUATIONS OF FUNCTIONS, by the kernel's own reckoning; written by a program. -/
import Derived.Test.YtfjnpgbjcgjecabGreatPewG3

namespace Go.PewTab
set_option linter.unusedSimpArgs false
set_option linter.unusedVariables false
open Go.Pew Go
set_option maxRecDepth 100000
set_option linter.unusedVariables false

theorem E_law01_FewPair (N k : Nat) (x0 : List (List PV)) (x1 : List (List PV)) (x2 : Int) : ev (envF N) (k + 1) F_law01_FewPair [(.agg [(.sl none [.int .i64, .int .i64] x0), (.sl none [.int .i64, .int .i64] x1), (.int .i64 x2)])] =
 ((ev (envF N) k F_law01_Few [(.agg [(.sl none [.int .i64, .int .i64] x0)])]).bind fun r1 =>
 cond (asB r1)
  ((ev (envF N) k F_law01_Few [(.agg [(.sl none [.int .i64, .int .i64] x1)])]).bind fun r3 =>
   some (.bool (asB r3)))
  (some (.bool (false)))) := by kernel_rfl

theorem E_law01_short (N k : Nat) (x0 : Int) : ev (envF N) (k + 1) F_law01_short [(.int .i64 x0)] =
 (cond (decide (x0 ≤ (24 : Int)))
 (some (.bool (true)))
 (cond (decide ((200 : Int) < x0))
  (some (.bool (decide (x0 ≤ (202 : Int)))))
  (some (.bool (false))))) := by kernel_rfl

/-- The loop over an iterator 7 of lake_ViolationOf. -/
noncomputable def R_lake_ViolationOf_7 (N k : Nat) (rest : List (List PV)) (x0 : List (List PV)) (x1 : List (List PV)) (x2 : Int) (x3 : Int) (x4 : Int) (x5 : Int) (x6 : Int) (x7 : Int) (x8 : Int) (x9 : Int) (x10 : Int) (x11 : Int) (x12 : Int) (x13 : Int) (x14 : Int) (x15 : List (List PV)) (x16 : Int) (x17 : List (List PV)) (x18 : List (List PV)) (x19 : Int) (x20 : Int) (x21 : List (List PV)) (x22 : List (List PV)) (x23 : Int) (x24 : Int) (x25 : Int) (x26 : Int) (x27 : Int) (x28 : Int) (x29 : Int) (x30 : Int) (x31 : Int) (x32 : Int) (x33 : Int) (x34 : Int) (x35 : Int) (x36 : List (List PV)) (x37 : List (List PV)) (x38 : List (List PV)) (x39 : Int) (x40 : Int) (x41 : List (List PV)) (x42 : List (List PV)) (x43 : Int) (x44 : Int) (x45 : Int) (x46 : Bool) (x47 : List (List PV)) (x48 : List (List PV)) (x49 : Int) (x50 : Int) (x51 : Int) (x52 : Int) (x53 : Int) (x54 : Int) (x55 : Int) (x56 : Int) (x57 : Int) (x58 : Int) (x59 : Int) (x60 : Int) (x61 : Int) (x62 : List (List PV)) (x63 : List (List PV)) (x64 : List (List PV)) (x65 : List (List PV)) (x66 : Int) (x67 : Int) (x68 : Int) (x69 : Int) (x70 : Int) (x71 : Int) (x72 : Int) (x73 : Int) (x74 : Int) (x75 : Int) (x76 : Int) (x77 : Int) (x78 : Int) (x79 : List (List PV)) (x80 : Int) (x81 : Int) (x82 : Int) (x83 : Int) (x84 : List (List PV)) (x85 : List (List PV)) (x86 : Int) : Option PV := rangeAt (envF N) (ev (envF N) k) (evI (envF N) k) F_lake_ViolationOf Go.Proofs.Tryz.f9 [.r, .r, .r, .l, .r, .b] [30] rest { slots := ((.agg [(.sl none [.int .i64, .int .i64] x0), (.sl none [.int .i64, .int .i64] x1), (.int .i64 x2)]) :: (.agg [(.int .i64 x3), (.int .i64 x4)]) :: (.agg [(.int .i64 x5), (.int .i64 x6), (.int .i64 x7), (.int .i64 x8), (.int .i64 x9), (.int .i64 x10), (.int .i64 x11), (.int .i64 x12), (.int .i64 x13), (.int .i64 x14), (.sl none [.int .i64, .int .i64, .int .i64] x15)]) :: (.ptr 3 0) :: (.ptr 4 0) :: (.ptr 5 0) :: (.ptr 6 0) :: (.ptr 7 0) :: (.ptr 8 0) :: (.int .i64 x16) :: und 2 ((.tup [(.agg [(.sl none [.int .i64, .int .i64] x17), (.sl none [.int .i64, .int .i64] x18), (.int .i64 x19)]), (.int .i64 x20)]) :: (.agg [(.sl none [.int .i64, .int .i64] x21), (.sl none [.int .i64, .int .i64] x22), (.int .i64 x23)]) :: (.agg [(.int .i64 x24), (.int .i64 x25)]) :: (.agg [(.int .i64 x26), (.int .i64 x27), (.int .i64 x28), (.int .i64 x29), (.int .i64 x30), (.int .i64 x31), (.int .i64 x32), (.int .i64 x33), (.int .i64 x34), (.int .i64 x35), (.sl none [.int .i64, .int .i64, .int .i64] x36)]) :: (.tup [(.agg [(.sl none [.int .i64, .int .i64] x37), (.sl none [.int .i64, .int .i64] x38), (.int .i64 x39)]), (.int .i64 x40)]) :: (.agg [(.sl none [.int .i64, .int .i64] x41), (.sl none [.int .i64, .int .i64] x42), (.int .i64 x43)]) :: (.int .i64 x44) :: (.int .i64 x45) :: (.bool x46) :: und 2 ((.agg [(.sl none [.int .i64, .int .i64] x47), (.sl none [.int .i64, .int .i64] x48), (.int .i64 x49)]) :: (.agg [(.int .i64 x50), (.int .i64 x51)]) :: (.ptr 5 0) :: (.agg [(.int .i64 x52), (.int .i64 x53), (.int .i64 x54), (.int .i64 x55), (.int .i64 x56), (.int .i64 x57), (.int .i64 x58), (.int .i64 x59), (.int .i64 x60), (.int .i64 x61)]) :: (.ptr 5 10) :: (.sl none [.int .i64, .int .i64, .int .i64] x62) :: (.fn F_slices_Values_LakeFlows_c1 [(.rp [(.sl none [.int .i64, .int .i64, .int .i64] x63)] 0)]) :: und 12 []))), boxes := (nos 3 ((some (.cells [(.sl none [.int .i64, .int .i64] x64), (.sl none [.int .i64, .int .i64] x65), (.int .i64 x66)] false)) :: (some (.cells [(.int .i64 x67), (.int .i64 x68)] false)) :: (some (.cells [(.int .i64 x69), (.int .i64 x70), (.int .i64 x71), (.int .i64 x72), (.int .i64 x73), (.int .i64 x74), (.int .i64 x75), (.int .i64 x76), (.int .i64 x77), (.int .i64 x78), (.sl none [.int .i64, .int .i64, .int .i64] x79)] false)) :: (some (.cells [(.int .i64 x80), (.int .i64 x81), (.int .i64 x82)] false)) :: (some (.cells [(.int .i64 x83)] false)) :: (some (.cells [(.sl none [.int .i64, .int .i64] x84), (.sl none [.int .i64, .int .i64] x85), (.int .i64 x86)] false)) :: nos 33 [])), vers := List.replicate 42 0 }
theorem R_lake_ViolationOf_7_eq0 (N k : Nat) (rest : List (List PV)) (x0 : List (List PV)) (x1 : List (List PV)) (x2 : Int) (x3 : Int) (x4 : Int) (x5 : Int) (x6 : Int) (x7 : Int) (x8 : Int) (x9 : Int) (x10 : Int) (x11 : Int) (x12 : Int) (x13 : Int) (x14 : Int) (x15 : List (List PV)) (x16 : Int) (x17 : List (List PV)) (x18 : List (List PV)) (x19 : Int) (x20 : Int) (x21 : List (List PV)) (x22 : List (List PV)) (x23 : Int) (x24 : Int) (x25 : Int) (x26 : Int) (x27 : Int) (x28 : Int) (x29 : Int) (x30 : Int) (x31 : Int) (x32 : Int) (x33 : Int) (x34 : Int) (x35 : Int) (x36 : List (List PV)) (x37 : List (List PV)) (x38 : List (List PV)) (x39 : Int) (x40 : Int) (x41 : List (List PV)) (x42 : List (List PV)) (x43 : Int) (x44 : Int) (x45 : Int) (x46 : Bool) (x47 : List (List PV)) (x48 : List (List PV)) (x49 : Int) (x50 : Int) (x51 : Int) (x52 : Int) (x53 : Int) (x54 : Int) (x55 : Int) (x56 : Int) (x57 : Int) (x58 : Int) (x59 : Int) (x60 : Int) (x61 : Int) (x62 : List (List PV)) (x63 : List (List PV)) (x64 : List (List PV)) (x65 : List (List PV)) (x66 : Int) (x67 : Int) (x68 : Int) (x69 : Int) (x70 : Int) (x71 : Int) (x72 : Int) (x73 : Int) (x74 : Int) (x75 : Int) (x76 : Int) (x77 : Int) (x78 : Int) (x79 : List (List PV)) (x80 : Int) (x81 : Int) (x82 : Int) (x83 : Int) (x84 : List (List PV)) (x85 : List (List PV)) (x86 : Int) (b0 : Bool) : R_lake_ViolationOf_7 N k ([(.bool b0), .nilp] :: rest) x0 x1 x2 x3 x4 x5 x6 x7 x8 x9 x10 x11 x12 x13 x14 x15 x16 x17 x18 x19 x20 x21 x22 x23 x24 x25 x26 x27 x28 x29 x30 x31 x32 x33 x34 x35 x36 x37 x38 x39 x40 x41 x42 x43 x44 x45 x46 x47 x48 x49 x50 x51 x52 x53 x54 x55 x56 x57 x58 x59 x60 x61 x62 x63 x64 x65 x66 x67 x68 x69 x70 x71 x72 x73 x74 x75 x76 x77 x78 x79 x80 x81 x82 x83 x84 x85 x86 =
 (cond (!b0)
 (some (.tup [(.agg [(.int .i64 (0 : Int)), (.int .i64 (0 : Int)), (.int .i64 (0 : Int))]), (.int .i64 (22 : Int))]))
 (R_lake_ViolationOf_7 N k rest x0 x1 x2 x3 x4 x5 x6 x7 x8 x9 x10 x11 x12 x13 x14 x15 x16 x17 x18 x19 x20 x21 x22 x23 x24 x25 x26 x27 x28 x29 x30 x31 x32 x33 x34 x35 x36 x37 x38 x39 x40 x41 x42 x43 x44 x45 x46 x47 x48 x49 x50 x51 x52 x53 x54 x55 x56 x57 x58 x59 x60 x61 x62 x63 x64 x65 x66 x67 x68 x69 x70 x71 x72 x73 x74 x75 x76 x77 x78 x79 x80 x81 x82 x83 x84 x85 x86)) := by kernel_rfl
theorem R_lake_ViolationOf_7_eq1 (N k : Nat) (rest : List (List PV)) (x0 : List (List PV)) (x1 : List (List PV)) (x2 : Int) (x3 : Int) (x4 : Int) (x5 : Int) (x6 : Int) (x7 : Int) (x8 : Int) (x9 : Int) (x10 : Int) (x11 : Int) (x12 : Int) (x13 : Int) (x14 : Int) (x15 : List (List PV)) (x16 : Int) (x17 : List (List PV)) (x18 : List (List PV)) (x19 : Int) (x20 : Int) (x21 : List (List PV)) (x22 : List (List PV)) (x23 : Int) (x24 : Int) (x25 : Int) (x26 : Int) (x27 : Int) (x28 : Int) (x29 : Int) (x30 : Int) (x31 : Int) (x32 : Int) (x33 : Int) (x34 : Int) (x35 : Int) (x36 : List (List PV)) (x37 : List (List PV)) (x38 : List (List PV)) (x39 : Int) (x40 : Int) (x41 : List (List PV)) (x42 : List (List PV)) (x43 : Int) (x44 : Int) (x45 : Int) (x46 : Bool) (x47 : List (List PV)) (x48 : List (List PV)) (x49 : Int) (x50 : Int) (x51 : Int) (x52 : Int) (x53 : Int) (x54 : Int) (x55 : Int) (x56 : Int) (x57 : Int) (x58 : Int) (x59 : Int) (x60 : Int) (x61 : Int) (x62 : List (List PV)) (x63 : List (List PV)) (x64 : List (List PV)) (x65 : List (List PV)) (x66 : Int) (x67 : Int) (x68 : Int) (x69 : Int) (x70 : Int) (x71 : Int) (x72 : Int) (x73 : Int) (x74 : Int) (x75 : Int) (x76 : Int) (x77 : Int) (x78 : Int) (x79 : List (List PV)) (x80 : Int) (x81 : Int) (x82 : Int) (x83 : Int) (x84 : List (List PV)) (x85 : List (List PV)) (x86 : Int) (b0 : Bool) (y0 : Int) (y1 : Int) (y2 : Int) : R_lake_ViolationOf_7 N k ([(.bool b0), (.rp [(.int .i64 y0), (.int .i64 y1), (.int .i64 y2)] 0)] :: rest) x0 x1 x2 x3 x4 x5 x6 x7 x8 x9 x10 x11 x12 x13 x14 x15 x16 x17 x18 x19 x20 x21 x22 x23 x24 x25 x26 x27 x28 x29 x30 x31 x32 x33 x34 x35 x36 x37 x38 x39 x40 x41 x42 x43 x44 x45 x46 x47 x48 x49 x50 x51 x52 x53 x54 x55 x56 x57 x58 x59 x60 x61 x62 x63 x64 x65 x66 x67 x68 x69 x70 x71 x72 x73 x74 x75 x76 x77 x78 x79 x80 x81 x82 x83 x84 x85 x86 =
 (cond (!b0)
 (some (.tup [(.agg [(.int .i64 (0 : Int)), (.int .i64 (0 : Int)), (.int .i64 (0 : Int))]), (.int .i64 (22 : Int))]))
 (some (.tup [(.agg [(.int .i64 y0), (.int .i64 y1), (.int .i64 y2)]), (.int .i64 (0 : Int))]))) := by kernel_rfl
theorem R_lake_ViolationOf_7_end (N k : Nat) (x0 : List (List PV)) (x1 : List (List PV)) (x2 : Int) (x3 : Int) (x4 : Int) (x5 : Int) (x6 : Int) (x7 : Int) (x8 : Int) (x9 : Int) (x10 : Int) (x11 : Int) (x12 : Int) (x13 : Int) (x14 : Int) (x15 : List (List PV)) (x16 : Int) (x17 : List (List PV)) (x18 : List (List PV)) (x19 : Int) (x20 : Int) (x21 : List (List PV)) (x22 : List (List PV)) (x23 : Int) (x24 : Int) (x25 : Int) (x26 : Int) (x27 : Int) (x28 : Int) (x29 : Int) (x30 : Int) (x31 : Int) (x32 : Int) (x33 : Int) (x34 : Int) (x35 : Int) (x36 : List (List PV)) (x37 : List (List PV)) (x38 : List (List PV)) (x39 : Int) (x40 : Int) (x41 : List (List PV)) (x42 : List (List PV)) (x43 : Int) (x44 : Int) (x45 : Int) (x46 : Bool) (x47 : List (List PV)) (x48 : List (List PV)) (x49 : Int) (x50 : Int) (x51 : Int) (x52 : Int) (x53 : Int) (x54 : Int) (x55 : Int) (x56 : Int) (x57 : Int) (x58 : Int) (x59 : Int) (x60 : Int) (x61 : Int) (x62 : List (List PV)) (x63 : List (List PV)) (x64 : List (List PV)) (x65 : List (List PV)) (x66 : Int) (x67 : Int) (x68 : Int) (x69 : Int) (x70 : Int) (x71 : Int) (x72 : Int) (x73 : Int) (x74 : Int) (x75 : Int) (x76 : Int) (x77 : Int) (x78 : Int) (x79 : List (List PV)) (x80 : Int) (x81 : Int) (x82 : Int) (x83 : Int) (x84 : List (List PV)) (x85 : List (List PV)) (x86 : Int) : R_lake_ViolationOf_7 N k [] x0 x1 x2 x3 x4 x5 x6 x7 x8 x9 x10 x11 x12 x13 x14 x15 x16 x17 x18 x19 x20 x21 x22 x23 x24 x25 x26 x27 x28 x29 x30 x31 x32 x33 x34 x35 x36 x37 x38 x39 x40 x41 x42 x43 x44 x45 x46 x47 x48 x49 x50 x51 x52 x53 x54 x55 x56 x57 x58 x59 x60 x61 x62 x63 x64 x65 x66 x67 x68 x69 x70 x71 x72 x73 x74 x75 x76 x77 x78 x79 x80 x81 x82 x83 x84 x85 x86 =
 (some (.tup [(.agg [(.int .i64 (0 : Int)), (.int .i64 (0 : Int)), (.int .i64 (0 : Int))]), (.int .i64 (12 : Int))])) := by kernel_rfl
theorem E_lake_ViolationOf (N k : Nat) (x0 : List (List PV)) (x1 : List (List PV)) (x2 : Int) (x3 : Int) (x4 : Int) (x5 : Int) (x6 : Int) (x7 : Int) (x8 : Int) (x9 : Int) (x10 : Int) (x11 : Int) (x12 : Int) (x13 : Int) (x14 : Int) (x15 : List (List PV)) : ev (envF N) (k + 1) F_lake_ViolationOf [(.agg [(.sl none [.int .i64, .int .i64] x0), (.sl none [.int .i64, .int .i64] x1), (.int .i64 x2)]), (.agg [(.int .i64 x3), (.int .i64 x4)]), (.agg [(.int .i64 x5), (.int .i64 x6), (.int .i64 x7), (.int .i64 x8), (.int .i64 x9), (.int .i64 x10), (.int .i64 x11), (.int .i64 x12), (.int .i64 x13), (.int .i64 x14), (.sl none [.int .i64, .int .i64, .int .i64] x15)])] =
 ((ev (envF N) k F_lake_openTask [(.agg [(.sl none [.int .i64, .int .i64] x0), (.sl none [.int .i64, .int .i64] x1), (.int .i64 x2)]), (.agg [(.int .i64 x3), (.int .i64 x4)]), (.agg [(.int .i64 x5), (.int .i64 x6), (.int .i64 x7), (.int .i64 x8), (.int .i64 x9), (.int .i64 x10), (.int .i64 x11), (.int .i64 x12), (.int .i64 x13), (.int .i64 x14), (.sl none [.int .i64, .int .i64, .int .i64] x15)])]).bind fun r1 =>
 cond (!(decide ((asI (nth (asT r1) 1)) = (0 : Int))))
  (some (.tup [(.agg [(.int .i64 (0 : Int)), (.int .i64 (0 : Int)), (.int .i64 (0 : Int))]), (.int .i64 (asI (nth (asT r1) 1)))]))
  ((evI (envF N) k F_lake_pair_watch_c1 [(.rp [(.sl none [.int .i64, .int .i64] (asL (nth (asA (nth (asT r1) 0)) 0))), (.sl none [.int .i64, .int .i64] (asL (nth (asA (nth (asT r1) 0)) 1))), (.int .i64 (asI (nth (asA (nth (asT r1) 0)) 2)))] 0)] (some [(.int .i64 x3), (.int .i64 x4)]) [(.rp [(.fn F_slices_Values_LakeFlows_c1 [(.rp [(.sl none [.int .i64, .int .i64, .int .i64] x15)] 0)])] 0), (.rp [(.int .i64 x5), (.int .i64 x6), (.int .i64 x7), (.int .i64 x8), (.int .i64 x9), (.int .i64 x10), (.int .i64 x11), (.int .i64 x12), (.int .i64 x13), (.int .i64 x14)] 0)]).bind fun r3 =>
   R_lake_ViolationOf_7 N k r3 x0 x1 x2 x3 x4 x5 x6 x7 x8 x9 x10 x11 x12 x13 x14 x15 (asI (nth (asT r1) 1)) (asL (nth (asA (nth (asT r1) 0)) 0)) (asL (nth (asA (nth (asT r1) 0)) 1)) (asI (nth (asA (nth (asT r1) 0)) 2)) (asI (nth (asT r1) 1)) x0 x1 x2 x3 x4 x5 x6 x7 x8 x9 x10 x11 x12 x13 x14 x15 (asL (nth (asA (nth (asT r1) 0)) 0)) (asL (nth (asA (nth (asT r1) 0)) 1)) (asI (nth (asA (nth (asT r1) 0)) 2)) (asI (nth (asT r1) 1)) (asL (nth (asA (nth (asT r1) 0)) 0)) (asL (nth (asA (nth (asT r1) 0)) 1)) (asI (nth (asA (nth (asT r1) 0)) 2)) (asI (nth (asT r1) 1)) (asI (nth (asT r1) 1)) (false) (asL (nth (asA (nth (asT r1) 0)) 0)) (asL (nth (asA (nth (asT r1) 0)) 1)) (asI (nth (asA (nth (asT r1) 0)) 2)) x3 x4 x5 x6 x7 x8 x9 x10 x11 x12 x13 x14 x15 x15 x0 x1 x2 x3 x4 x5 x6 x7 x8 x9 x10 x11 x12 x13 x14 x15 (0 : Int) (0 : Int) (0 : Int) (0 : Int) (asL (nth (asA (nth (asT r1) 0)) 0)) (asL (nth (asA (nth (asT r1) 0)) 1)) (asI (nth (asA (nth (asT r1) 0)) 2)))) := by kernel_rfl

theorem E_ref01_CopyPair (N k : Nat) (x0 : List (List PV)) (x1 : List (List PV)) (x2 : Int) : ev (envF N) (k + 1) F_ref01_CopyPair [(.agg [(.sl none [.int .i64, .int .i64] x0), (.sl none [.int .i64, .int .i64] x1), (.int .i64 x2)])] =
 ((ev (envF N) k F_ref01_Copy [(.agg [(.sl none [.int .i64, .int .i64] x0)])]).bind fun r1 =>
 (ev (envF N) k F_ref01_Copy [(.agg [(.sl none [.int .i64, .int .i64] x1)])]).bind fun r2 =>
  some (.agg [(.sl none [.int .i64, .int .i64] (asL (nth (asA r1) 0))), (.sl none [.int .i64, .int .i64] (asL (nth (asA r2) 0))), (.int .i64 x2)])) := by kernel_rfl

theorem E_ref01_CopyTask (N k : Nat) (x0 : Int) (x1 : Int) (x2 : Int) (x3 : Int) (x4 : Int) (x5 : Int) (x6 : Int) (x7 : Int) (x8 : Int) (x9 : Int) (x10 : List (List PV)) : ev (envF N) (k + 1) F_ref01_CopyTask [(.agg [(.int .i64 x0), (.int .i64 x1), (.int .i64 x2), (.int .i64 x3), (.int .i64 x4), (.int .i64 x5), (.int .i64 x6), (.int .i64 x7), (.int .i64 x8), (.int .i64 x9), (.sl none [.int .i64, .int .i64, .int .i64] x10)])] =
 ((ev (envF N) k F_ref01_CopyList [(.sl none [.int .i64, .int .i64, .int .i64] x10)]).bind fun r1 =>
 some (.agg [(.int .i64 x0), (.int .i64 x1), (.int .i64 x2), (.int .i64 x3), (.int .i64 x4), (.int .i64 x5), (.int .i64 x6), (.int .i64 x7), (.int .i64 x8), (.int .i64 x9), (.sl none [.int .i64, .int .i64, .int .i64] (asL r1))])) := by kernel_rfl

theorem E_ref01_PairErr (N k : Nat) (x0 : List (List PV)) (x1 : List (List PV)) (x2 : Int) : ev (envF N) (k + 1) F_ref01_PairErr [(.agg [(.sl none [.int .i64, .int .i64] x0), (.sl none [.int .i64, .int .i64] x1), (.int .i64 x2)])] =
 ((ev (envF N) k F_ref01_TableErr [(.agg [(.sl none [.int .i64, .int .i64] x0)])]).bind fun r1 =>
 cond (!(decide ((asI r1) = (0 : Int))))
  (some (.int .i64 (asI r1)))
  ((ev (envF N) k F_ref01_TableErr [(.agg [(.sl none [.int .i64, .int .i64] x1)])]).bind fun r3 =>
   cond (!(decide ((asI r3) = (0 : Int))))
    (some (.int .i64 (asI r3)))
    ((ev (envF N) k F_base_Within [(.int .i64 x2), (.int .i64 (0 : Int)), (.int .i64 (1000 : Int))]).bind fun r5 =>
     cond (!(asB r5))
      (some (.int .i64 (2 : Int)))
      (some (.int .i64 (0 : Int)))))) := by kernel_rfl

theorem E_ref01_LimitsErr (N k : Nat) (x0 : List (List PV)) (x1 : List (List PV)) (x2 : Int) (x3 : Int) (x4 : Int) (x5 : Int) (x6 : Int) (x7 : Int) (x8 : Int) (x9 : Int) (x10 : Int) (x11 : Int) (x12 : Int) : ev (envF N) (k + 1) F_ref01_LimitsErr [(.agg [(.sl none [.int .i64, .int .i64] x0), (.sl none [.int .i64, .int .i64] x1), (.int .i64 x2)]), (.agg [(.int .i64 x3), (.int .i64 x4), (.int .i64 x5), (.int .i64 x6), (.int .i64 x7), (.int .i64 x8), (.int .i64 x9), (.int .i64 x10), (.int .i64 x11), (.int .i64 x12)])] =
 ((ev (envF N) k F_ref01_limitErr [(.agg [(.sl none [.int .i64, .int .i64] x0)]), (.agg [(.int .i64 x3), (.int .i64 x4), (.int .i64 x5), (.int .i64 x6), (.int .i64 x7)])]).bind fun r1 =>
 cond (!(decide ((asI r1) = (0 : Int))))
  (some (.int .i64 (asI r1)))
  ((ev (envF N) k F_ref01_limitErr [(.agg [(.sl none [.int .i64, .int .i64] x1)]), (.agg [(.int .i64 x8), (.int .i64 x9), (.int .i64 x10), (.int .i64 x11), (.int .i64 x12)])]).bind fun r3 =>
   some (.int .i64 (asI r3)))) := by kernel_rfl

theorem E_lake_CheckLimits (N k : Nat) (x0 : List (List PV)) (x1 : List (List PV)) (x2 : Int) (x3 : Int) (x4 : Int) (x5 : Int) (x6 : Int) (x7 : Int) (x8 : Int) (x9 : Int) (x10 : Int) (x11 : Int) (x12 : Int) : ev (envF N) (k + 1) F_lake_CheckLimits [(.agg [(.sl none [.int .i64, .int .i64] x0), (.sl none [.int .i64, .int .i64] x1), (.int .i64 x2)]), (.agg [(.int .i64 x3), (.int .i64 x4), (.int .i64 x5), (.int .i64 x6), (.int .i64 x7), (.int .i64 x8), (.int .i64 x9), (.int .i64 x10), (.int .i64 x11), (.int .i64 x12)])] =
 ((ev (envF N) k F_lake_openPair [(.agg [(.sl none [.int .i64, .int .i64] x0), (.sl none [.int .i64, .int .i64] x1), (.int .i64 x2)])]).bind fun r1 =>
 cond (decide ((asI (nth (asT r1) 1)) = (0 : Int)))
  ((ev (envF N) k F_lake_pair_limitsErr [(.agg [(.sl none [.int .i64, .int .i64] (asL (nth (asA (nth (asT r1) 0)) 0))), (.sl none [.int .i64, .int .i64] (asL (nth (asA (nth (asT r1) 0)) 1))), (.int .i64 (asI (nth (asA (nth (asT r1) 0)) 2)))]), (.agg [(.int .i64 x3), (.int .i64 x4), (.int .i64 x5), (.int .i64 x6), (.int .i64 x7), (.int .i64 x8), (.int .i64 x9), (.int .i64 x10), (.int .i64 x11), (.int .i64 x12)])]).bind fun r3 =>
   some (.int .i64 (asI r3)))
  (some (.int .i64 (asI (nth (asT r1) 1))))) := by kernel_rfl

theorem E_ref01_BothErr (N k : Nat) (x0 : List (List PV)) (x1 : List (List PV)) (x2 : Int) (x3 : Int) (x4 : Int) : ev (envF N) (k + 1) F_ref01_BothErr [(.agg [(.sl none [.int .i64, .int .i64] x0), (.sl none [.int .i64, .int .i64] x1), (.int .i64 x2)]), (.agg [(.int .i64 x3), (.int .i64 x4)])] =
 ((ev (envF N) k F_ref01_PairErr [(.agg [(.sl none [.int .i64, .int .i64] x0), (.sl none [.int .i64, .int .i64] x1), (.int .i64 x2)])]).bind fun r1 =>
 cond (!(decide ((asI r1) = (0 : Int))))
  (some (.int .i64 (asI r1)))
  ((ev (envF N) k F_ref01_StateErr [(.agg [(.sl none [.int .i64, .int .i64] x0), (.sl none [.int .i64, .int .i64] x1), (.int .i64 x2)]), (.agg [(.int .i64 x3), (.int .i64 x4)])]).bind fun r3 =>
   some (.int .i64 (asI r3)))) := by kernel_rfl

theorem E_ref01_TaskErr (N k : Nat) (x0 : List (List PV)) (x1 : List (List PV)) (x2 : Int) (x3 : Int) (x4 : Int) (x5 : Int) (x6 : Int) (x7 : Int) (x8 : Int) (x9 : Int) (x10 : Int) (x11 : Int) (x12 : Int) (x13 : List (List PV)) : ev (envF N) (k + 1) F_ref01_TaskErr [(.agg [(.sl none [.int .i64, .int .i64] x0), (.sl none [.int .i64, .int .i64] x1), (.int .i64 x2)]), (.agg [(.int .i64 x3), (.int .i64 x4), (.int .i64 x5), (.int .i64 x6), (.int .i64 x7), (.int .i64 x8), (.int .i64 x9), (.int .i64 x10), (.int .i64 x11), (.int .i64 x12), (.sl none [.int .i64, .int .i64, .int .i64] x13)])] =
 ((ev (envF N) k F_ref01_LimitsErr [(.agg [(.sl none [.int .i64, .int .i64] x0), (.sl none [.int .i64, .int .i64] x1), (.int .i64 x2)]), (.agg [(.int .i64 x3), (.int .i64 x4), (.int .i64 x5), (.int .i64 x6), (.int .i64 x7), (.int .i64 x8), (.int .i64 x9), (.int .i64 x10), (.int .i64 x11), (.int .i64 x12)])]).bind fun r1 =>
 cond (!(decide ((asI r1) = (0 : Int))))
  (some (.int .i64 (asI r1)))
  ((ev (envF N) k F_ref01_ListErr [(.sl none [.int .i64, .int .i64, .int .i64] x13)]).bind fun r3 =>
   some (.int .i64 (asI r3)))) := by kernel_rfl

/-- Loop 4 of ref01_ViolationOf. -/
noncomputable def L_ref01_ViolationOf_4 (N k n4  : Nat) (x0 : Bool) (x1 : List (List PV)) (x2 : Int) (x3 : List (List PV)) (x4 : List (List PV)) (x5 : Int) (x6 : Int) (x7 : Int) (x8 : Int) (x9 : Int) (x10 : Int) (x11 : Int) (x12 : Int) (x13 : Int) (x14 : Int) (x15 : Int) (x16 : Int) (x17 : Int) (x18 : List (List PV)) (x19 : Int) (x20 : Int) (x21 : Int) (x22 : Int) (x23 : Int) : Option PV := loopAt (envF N) (ev (envF N) k) (evI (envF N) k) F_ref01_ViolationOf Go.Proofs.Tryz.f17 [.r, .r, .r, .l, .r, .b] n4 { slots := (und 3 ((.ptr 3 0) :: und 1 ((.ptr 5 0) :: (.ptr 6 0) :: und 3 ((.bool x0) :: (.sl (some (25, 0)) [.int .i64, .int .i64] x1) :: (.int .i64 x2) :: und 36 [])))), boxes := (nos 3 ((some (.cells [(.sl none [.int .i64, .int .i64] x3), (.sl none [.int .i64, .int .i64] x4), (.int .i64 x5)] false)) :: (some (.cells [(.int .i64 x6), (.int .i64 x7)] false)) :: (some (.cells [(.int .i64 x8), (.int .i64 x9), (.int .i64 x10), (.int .i64 x11), (.int .i64 x12), (.int .i64 x13), (.int .i64 x14), (.int .i64 x15), (.int .i64 x16), (.int .i64 x17), (.sl none [.int .i64, .int .i64, .int .i64] x18)] false)) :: (some (.cells [(.int .i64 x19), (.int .i64 x20), (.int .i64 x21)] false)) :: nos 2 ((some (.cells [(.int .i64 x22), (.int .i64 x23)] false)) :: nos 39 []))), vers := List.replicate 49 0 }
theorem L_ref01_ViolationOf_4_eq (N k n4  : Nat) (x0 : Bool) (x1 : List (List PV)) (x2 : Int) (x3 : List (List PV)) (x4 : List (List PV)) (x5 : Int) (x6 : Int) (x7 : Int) (x8 : Int) (x9 : Int) (x10 : Int) (x11 : Int) (x12 : Int) (x13 : Int) (x14 : Int) (x15 : Int) (x16 : Int) (x17 : Int) (x18 : List (List PV)) (x19 : Int) (x20 : Int) (x21 : Int) (x22 : Int) (x23 : Int) : L_ref01_ViolationOf_4 N k (n4 + 1)  x0 x1 x2 x3 x4 x5 x6 x7 x8 x9 x10 x11 x12 x13 x14 x15 x16 x17 x18 x19 x20 x21 x22 x23 =
 (cond (decide (x2 < ((List.length x1) : Int)))
 ((ev (envF N) k F_ref01_At [(.agg [(.sl none [.int .i64, .int .i64] x3), (.sl none [.int .i64, .int .i64] x4), (.int .i64 x5)]), (.agg [(.int .i64 x8), (.int .i64 x9), (.int .i64 x10), (.int .i64 x11), (.int .i64 x12), (.int .i64 x13), (.int .i64 x14), (.int .i64 x15), (.int .i64 x16), (.int .i64 x17)]), (.sl none [.int .i64, .int .i64] x1), (.int .i64 x2)]).bind fun r2 =>
  cond (asB (nth (asT r2) 1))
   (some (.tup [(.agg [(.int .i64 (asI (nth (asA (nth (asT r2) 0)) 0))), (.int .i64 (asI (nth (asA (nth (asT r2) 0)) 1))), (.int .i64 (asI (nth (asA (nth (asT r2) 0)) 2)))]), (.int .i64 (0 : Int))]))
   (L_ref01_ViolationOf_4 N k n4  x0 x1 (w64 (x2 + (1 : Int))) x3 x4 x5 x6 x7 x8 x9 x10 x11 x12 x13 x14 x15 x16 x17 x18 x19 x20 x21 x22 x23))
 (cond (!x0)
  (some (.tup [(.agg [(.int .i64 (0 : Int)), (.int .i64 (0 : Int)), (.int .i64 (0 : Int))]), (.int .i64 (22 : Int))]))
  (some (.tup [(.agg [(.int .i64 (0 : Int)), (.int .i64 (0 : Int)), (.int .i64 (0 : Int))]), (.int .i64 (12 : Int))])))) := by kernel_rfl
theorem E_ref01_ViolationOf (N k : Nat) (x0 : List (List PV)) (x1 : List (List PV)) (x2 : Int) (x3 : Int) (x4 : Int) (x5 : Int) (x6 : Int) (x7 : Int) (x8 : Int) (x9 : Int) (x10 : Int) (x11 : Int) (x12 : Int) (x13 : Int) (x14 : Int) (x15 : List (List PV)) : ev (envF N) (k + 1) F_ref01_ViolationOf [(.agg [(.sl none [.int .i64, .int .i64] x0), (.sl none [.int .i64, .int .i64] x1), (.int .i64 x2)]), (.agg [(.int .i64 x3), (.int .i64 x4)]), (.agg [(.int .i64 x5), (.int .i64 x6), (.int .i64 x7), (.int .i64 x8), (.int .i64 x9), (.int .i64 x10), (.int .i64 x11), (.int .i64 x12), (.int .i64 x13), (.int .i64 x14), (.sl none [.int .i64, .int .i64, .int .i64] x15)])] =
 ((ev (envF N) k F_ref01_RunOf [(.agg [(.sl none [.int .i64, .int .i64] x0), (.sl none [.int .i64, .int .i64] x1), (.int .i64 x2)]), (.agg [(.int .i64 x3), (.int .i64 x4)]), (.sl none [.int .i64, .int .i64, .int .i64] x15)]).bind fun r1 =>
 cond (room [[(.int .i64 x3), (.int .i64 x4)]] (asL (nth (asT r1) 0)) 16)
  (L_ref01_ViolationOf_4 N k N  (asB (nth (asT r1) 2)) ([[(.int .i64 x3), (.int .i64 x4)]] ++ (match nth (asT r1) 0 with
| PV.sl tag ls xs => xs
| x => [])) (1 : Int) x0 x1 x2 x3 x4 x5 x6 x7 x8 x9 x10 x11 x12 x13 x14 x15 (0 : Int) (0 : Int) (0 : Int) (asI (nth (asA (nth (asT r1) 1)) 0)) (asI (nth (asA (nth (asT r1) 1)) 1)))
  (none)) := by kernel_rfl

/-- The loop over an iterator 10 of lake_PermittedFor. -/
noncomputable def R_lake_PermittedFor_10 (N k : Nat) (rest : List (List PV)) (x0 : List (List PV)) (x1 : List (List PV)) (x2 : Int) (x3 : Int) (x4 : Int) (x5 : Int) (x6 : Int) (x7 : Int) (x8 : Int) (x9 : Int) (x10 : Int) (x11 : Int) (x12 : Int) (x13 : Int) (x14 : Int) (x15 : List (List PV)) (x16 : Int) (x17 : Int) (x18 : Int) (x19 : List (List PV)) (x20 : List (List PV)) (x21 : List (List PV)) (x22 : Int) (x23 : Int) (x24 : List (List PV)) (x25 : List (List PV)) (x26 : Int) (x27 : Int) (x28 : Int) (x29 : Int) (x30 : Int) (x31 : Int) (x32 : Int) (x33 : Int) (x34 : Int) (x35 : Int) (x36 : Int) (x37 : Int) (x38 : Int) (x39 : List (List PV)) (x40 : List (List PV)) (x41 : List (List PV)) (x42 : Int) (x43 : Int) (x44 : List (List PV)) (x45 : List (List PV)) (x46 : Int) (x47 : Int) (x48 : Int) (x49 : List (List PV)) (x50 : Int) (x51 : Bool) (x52 : Int) (x53 : List (List PV)) (x54 : Int) (x55 : Int) (x56 : Bool) (x57 : List (List PV)) (x58 : List (List PV)) (x59 : Int) (x60 : Int) (x61 : List (List PV)) (x62 : List (List PV)) (x63 : List (List PV)) (x64 : List (List PV)) (x65 : Int) (x66 : Int) (x67 : Int) (x68 : Int) (x69 : Int) (x70 : Int) (x71 : Int) (x72 : Int) (x73 : Int) (x74 : Int) (x75 : Int) (x76 : Int) (x77 : Int) (x78 : List (List PV)) (x79 : List (List PV)) (x80 : List (List PV)) (x81 : List (List PV)) (x82 : Int) (x83 : Int) (x84 : Int) (x85 : Int) (x86 : Int) (x87 : Int) (x88 : Int) (x89 : Int) (x90 : Int) (x91 : Int) (x92 : Int) (x93 : Int) (x94 : Int) (x95 : List (List PV)) (x96 : List (List PV)) (x97 : List (List PV)) (x98 : Int) (x99 : Int) : Option PV := rangeAt (envF N) (ev (envF N) k) (evI (envF N) k) F_lake_PermittedFor Go.Proofs.Tryz.f18 [.r, .r, .r, .r, .r, .l, .r, .b] [46] rest { slots := ((.agg [(.sl none [.int .i64, .int .i64] x0), (.sl none [.int .i64, .int .i64] x1), (.int .i64 x2)]) :: (.agg [(.int .i64 x3), (.int .i64 x4)]) :: (.agg [(.int .i64 x5), (.int .i64 x6), (.int .i64 x7), (.int .i64 x8), (.int .i64 x9), (.int .i64 x10), (.int .i64 x11), (.int .i64 x12), (.int .i64 x13), (.int .i64 x14), (.sl none [.int .i64, .int .i64, .int .i64] x15)]) :: (.ptr 3 0) :: (.ptr 4 0) :: (.ptr 5 0) :: (.int .i64 x16) :: (.int .i64 x17) :: (.ptr 8 0) :: (.int .i64 x18) :: (.sl none [.int .i64, .int .i64, .int .i64] x19) :: (.ptr 11 0) :: und 2 ((.tup [(.agg [(.sl none [.int .i64, .int .i64] x20), (.sl none [.int .i64, .int .i64] x21), (.int .i64 x22)]), (.int .i64 x23)]) :: (.agg [(.sl none [.int .i64, .int .i64] x24), (.sl none [.int .i64, .int .i64] x25), (.int .i64 x26)]) :: (.agg [(.int .i64 x27), (.int .i64 x28)]) :: (.agg [(.int .i64 x29), (.int .i64 x30), (.int .i64 x31), (.int .i64 x32), (.int .i64 x33), (.int .i64 x34), (.int .i64 x35), (.int .i64 x36), (.int .i64 x37), (.int .i64 x38), (.sl none [.int .i64, .int .i64, .int .i64] x39)]) :: (.tup [(.agg [(.sl none [.int .i64, .int .i64] x40), (.sl none [.int .i64, .int .i64] x41), (.int .i64 x42)]), (.int .i64 x43)]) :: (.agg [(.sl none [.int .i64, .int .i64] x44), (.sl none [.int .i64, .int .i64] x45), (.int .i64 x46)]) :: (.int .i64 x47) :: (.int .i64 x48) :: (.ptr 5 10) :: (.sl none [.int .i64, .int .i64, .int .i64] x49) :: (.int .i64 x50) :: (.bool x51) :: (.int .i64 x52) :: (.sl none [.int .i64] x53) :: (.int .i64 x54) :: (.int .i64 x55) :: (.bool x56) :: und 1 ((.ptr 5 10) :: (.sl none [.int .i64, .int .i64, .int .i64] x57) :: (.ptr 5 10) :: (.sl none [.int .i64, .int .i64, .int .i64] x58) :: (.int .i64 x59) :: (.int .i64 x60) :: (.sl none [.int .i64, .int .i64, .int .i64] x61) :: (.sl none [.int .i64, .int .i64, .int .i64] x62) :: (.agg [(.sl none [.int .i64, .int .i64] x63), (.sl none [.int .i64, .int .i64] x64), (.int .i64 x65)]) :: (.agg [(.int .i64 x66), (.int .i64 x67)]) :: (.ptr 5 0) :: (.agg [(.int .i64 x68), (.int .i64 x69), (.int .i64 x70), (.int .i64 x71), (.int .i64 x72), (.int .i64 x73), (.int .i64 x74), (.int .i64 x75), (.int .i64 x76), (.int .i64 x77)]) :: (.sl none [.int .i64, .int .i64, .int .i64] x78) :: (.fn F_slices_Values_LakeFlows_c1 [(.rp [(.sl none [.int .i64, .int .i64, .int .i64] x79)] 0)]) :: und 12 []))), boxes := (nos 3 ((some (.cells [(.sl none [.int .i64, .int .i64] x80), (.sl none [.int .i64, .int .i64] x81), (.int .i64 x82)] false)) :: (some (.cells [(.int .i64 x83), (.int .i64 x84)] false)) :: (some (.cells [(.int .i64 x85), (.int .i64 x86), (.int .i64 x87), (.int .i64 x88), (.int .i64 x89), (.int .i64 x90), (.int .i64 x91), (.int .i64 x92), (.int .i64 x93), (.int .i64 x94), (.sl none [.int .i64, .int .i64, .int .i64] x95)] false)) :: nos 2 ((some (.cells [(.sl none [.int .i64, .int .i64] x96), (.sl none [.int .i64, .int .i64] x97), (.int .i64 x98)] false)) :: nos 2 ((some (.cells [(.int .i64 x99)] false)) :: nos 46 [])))), vers := List.replicate 58 0 }
theorem R_lake_PermittedFor_10_eq0 (N k : Nat) (rest : List (List PV)) (x0 : List (List PV)) (x1 : List (List PV)) (x2 : Int) (x3 : Int) (x4 : Int) (x5 : Int) (x6 : Int) (x7 : Int) (x8 : Int) (x9 : Int) (x10 : Int) (x11 : Int) (x12 : Int) (x13 : Int) (x14 : Int) (x15 : List (List PV)) (x16 : Int) (x17 : Int) (x18 : Int) (x19 : List (List PV)) (x20 : List (List PV)) (x21 : List (List PV)) (x22 : Int) (x23 : Int) (x24 : List (List PV)) (x25 : List (List PV)) (x26 : Int) (x27 : Int) (x28 : Int) (x29 : Int) (x30 : Int) (x31 : Int) (x32 : Int) (x33 : Int) (x34 : Int) (x35 : Int) (x36 : Int) (x37 : Int) (x38 : Int) (x39 : List (List PV)) (x40 : List (List PV)) (x41 : List (List PV)) (x42 : Int) (x43 : Int) (x44 : List (List PV)) (x45 : List (List PV)) (x46 : Int) (x47 : Int) (x48 : Int) (x49 : List (List PV)) (x50 : Int) (x51 : Bool) (x52 : Int) (x53 : List (List PV)) (x54 : Int) (x55 : Int) (x56 : Bool) (x57 : List (List PV)) (x58 : List (List PV)) (x59 : Int) (x60 : Int) (x61 : List (List PV)) (x62 : List (List PV)) (x63 : List (List PV)) (x64 : List (List PV)) (x65 : Int) (x66 : Int) (x67 : Int) (x68 : Int) (x69 : Int) (x70 : Int) (x71 : Int) (x72 : Int) (x73 : Int) (x74 : Int) (x75 : Int) (x76 : Int) (x77 : Int) (x78 : List (List PV)) (x79 : List (List PV)) (x80 : List (List PV)) (x81 : List (List PV)) (x82 : Int) (x83 : Int) (x84 : Int) (x85 : Int) (x86 : Int) (x87 : Int) (x88 : Int) (x89 : Int) (x90 : Int) (x91 : Int) (x92 : Int) (x93 : Int) (x94 : Int) (x95 : List (List PV)) (x96 : List (List PV)) (x97 : List (List PV)) (x98 : Int) (x99 : Int) (b0 : Bool) : R_lake_PermittedFor_10 N k ([(.bool b0), .nilp] :: rest) x0 x1 x2 x3 x4 x5 x6 x7 x8 x9 x10 x11 x12 x13 x14 x15 x16 x17 x18 x19 x20 x21 x22 x23 x24 x25 x26 x27 x28 x29 x30 x31 x32 x33 x34 x35 x36 x37 x38 x39 x40 x41 x42 x43 x44 x45 x46 x47 x48 x49 x50 x51 x52 x53 x54 x55 x56 x57 x58 x59 x60 x61 x62 x63 x64 x65 x66 x67 x68 x69 x70 x71 x72 x73 x74 x75 x76 x77 x78 x79 x80 x81 x82 x83 x84 x85 x86 x87 x88 x89 x90 x91 x92 x93 x94 x95 x96 x97 x98 x99 =
 (cond (!b0)
 (some (.tup [(.int .i64 x99), (.int .i64 (0 : Int))]))
 (R_lake_PermittedFor_10 N k rest x0 x1 x2 x3 x4 x5 x6 x7 x8 x9 x10 x11 x12 x13 x14 x15 x16 x17 x18 x19 x20 x21 x22 x23 x24 x25 x26 x27 x28 x29 x30 x31 x32 x33 x34 x35 x36 x37 x38 x39 x40 x41 x42 x43 x44 x45 x46 x47 x48 x49 x50 x51 x52 x53 x54 x55 x56 x57 x58 x59 x60 x61 x62 x63 x64 x65 x66 x67 x68 x69 x70 x71 x72 x73 x74 x75 x76 x77 x78 x79 x80 x81 x82 x83 x84 x85 x86 x87 x88 x89 x90 x91 x92 x93 x94 x95 x96 x97 x98 (w64 (x99 + (1 : Int))))) := by kernel_rfl
theorem R_lake_PermittedFor_10_eq1 (N k : Nat) (rest : List (List PV)) (x0 : List (List PV)) (x1 : List (List PV)) (x2 : Int) (x3 : Int) (x4 : Int) (x5 : Int) (x6 : Int) (x7 : Int) (x8 : Int) (x9 : Int) (x10 : Int) (x11 : Int) (x12 : Int) (x13 : Int) (x14 : Int) (x15 : List (List PV)) (x16 : Int) (x17 : Int) (x18 : Int) (x19 : List (List PV)) (x20 : List (List PV)) (x21 : List (List PV)) (x22 : Int) (x23 : Int) (x24 : List (List PV)) (x25 : List (List PV)) (x26 : Int) (x27 : Int) (x28 : Int) (x29 : Int) (x30 : Int) (x31 : Int) (x32 : Int) (x33 : Int) (x34 : Int) (x35 : Int) (x36 : Int) (x37 : Int) (x38 : Int) (x39 : List (List PV)) (x40 : List (List PV)) (x41 : List (List PV)) (x42 : Int) (x43 : Int) (x44 : List (List PV)) (x45 : List (List PV)) (x46 : Int) (x47 : Int) (x48 : Int) (x49 : List (List PV)) (x50 : Int) (x51 : Bool) (x52 : Int) (x53 : List (List PV)) (x54 : Int) (x55 : Int) (x56 : Bool) (x57 : List (List PV)) (x58 : List (List PV)) (x59 : Int) (x60 : Int) (x61 : List (List PV)) (x62 : List (List PV)) (x63 : List (List PV)) (x64 : List (List PV)) (x65 : Int) (x66 : Int) (x67 : Int) (x68 : Int) (x69 : Int) (x70 : Int) (x71 : Int) (x72 : Int) (x73 : Int) (x74 : Int) (x75 : Int) (x76 : Int) (x77 : Int) (x78 : List (List PV)) (x79 : List (List PV)) (x80 : List (List PV)) (x81 : List (List PV)) (x82 : Int) (x83 : Int) (x84 : Int) (x85 : Int) (x86 : Int) (x87 : Int) (x88 : Int) (x89 : Int) (x90 : Int) (x91 : Int) (x92 : Int) (x93 : Int) (x94 : Int) (x95 : List (List PV)) (x96 : List (List PV)) (x97 : List (List PV)) (x98 : Int) (x99 : Int) (b0 : Bool) (y0 : Int) (y1 : Int) (y2 : Int) : R_lake_PermittedFor_10 N k ([(.bool b0), (.rp [(.int .i64 y0), (.int .i64 y1), (.int .i64 y2)] 0)] :: rest) x0 x1 x2 x3 x4 x5 x6 x7 x8 x9 x10 x11 x12 x13 x14 x15 x16 x17 x18 x19 x20 x21 x22 x23 x24 x25 x26 x27 x28 x29 x30 x31 x32 x33 x34 x35 x36 x37 x38 x39 x40 x41 x42 x43 x44 x45 x46 x47 x48 x49 x50 x51 x52 x53 x54 x55 x56 x57 x58 x59 x60 x61 x62 x63 x64 x65 x66 x67 x68 x69 x70 x71 x72 x73 x74 x75 x76 x77 x78 x79 x80 x81 x82 x83 x84 x85 x86 x87 x88 x89 x90 x91 x92 x93 x94 x95 x96 x97 x98 x99 =
 (cond (!b0)
 (some (.tup [(.int .i64 x99), (.int .i64 (0 : Int))]))
 (some (.tup [(.int .i64 x99), (.int .i64 (0 : Int))]))) := by kernel_rfl
theorem R_lake_PermittedFor_10_end (N k : Nat) (x0 : List (List PV)) (x1 : List (List PV)) (x2 : Int) (x3 : Int) (x4 : Int) (x5 : Int) (x6 : Int) (x7 : Int) (x8 : Int) (x9 : Int) (x10 : Int) (x11 : Int) (x12 : Int) (x13 : Int) (x14 : Int) (x15 : List (List PV)) (x16 : Int) (x17 : Int) (x18 : Int) (x19 : List (List PV)) (x20 : List (List PV)) (x21 : List (List PV)) (x22 : Int) (x23 : Int) (x24 : List (List PV)) (x25 : List (List PV)) (x26 : Int) (x27 : Int) (x28 : Int) (x29 : Int) (x30 : Int) (x31 : Int) (x32 : Int) (x33 : Int) (x34 : Int) (x35 : Int) (x36 : Int) (x37 : Int) (x38 : Int) (x39 : List (List PV)) (x40 : List (List PV)) (x41 : List (List PV)) (x42 : Int) (x43 : Int) (x44 : List (List PV)) (x45 : List (List PV)) (x46 : Int) (x47 : Int) (x48 : Int) (x49 : List (List PV)) (x50 : Int) (x51 : Bool) (x52 : Int) (x53 : List (List PV)) (x54 : Int) (x55 : Int) (x56 : Bool) (x57 : List (List PV)) (x58 : List (List PV)) (x59 : Int) (x60 : Int) (x61 : List (List PV)) (x62 : List (List PV)) (x63 : List (List PV)) (x64 : List (List PV)) (x65 : Int) (x66 : Int) (x67 : Int) (x68 : Int) (x69 : Int) (x70 : Int) (x71 : Int) (x72 : Int) (x73 : Int) (x74 : Int) (x75 : Int) (x76 : Int) (x77 : Int) (x78 : List (List PV)) (x79 : List (List PV)) (x80 : List (List PV)) (x81 : List (List PV)) (x82 : Int) (x83 : Int) (x84 : Int) (x85 : Int) (x86 : Int) (x87 : Int) (x88 : Int) (x89 : Int) (x90 : Int) (x91 : Int) (x92 : Int) (x93 : Int) (x94 : Int) (x95 : List (List PV)) (x96 : List (List PV)) (x97 : List (List PV)) (x98 : Int) (x99 : Int) : R_lake_PermittedFor_10 N k [] x0 x1 x2 x3 x4 x5 x6 x7 x8 x9 x10 x11 x12 x13 x14 x15 x16 x17 x18 x19 x20 x21 x22 x23 x24 x25 x26 x27 x28 x29 x30 x31 x32 x33 x34 x35 x36 x37 x38 x39 x40 x41 x42 x43 x44 x45 x46 x47 x48 x49 x50 x51 x52 x53 x54 x55 x56 x57 x58 x59 x60 x61 x62 x63 x64 x65 x66 x67 x68 x69 x70 x71 x72 x73 x74 x75 x76 x77 x78 x79 x80 x81 x82 x83 x84 x85 x86 x87 x88 x89 x90 x91 x92 x93 x94 x95 x96 x97 x98 x99 =
 (some (.tup [(.int .i64 x99), (.int .i64 (0 : Int))])) := by kernel_rfl
theorem E_lake_PermittedFor (N k : Nat) (x0 : List (List PV)) (x1 : List (List PV)) (x2 : Int) (x3 : Int) (x4 : Int) (x5 : Int) (x6 : Int) (x7 : Int) (x8 : Int) (x9 : Int) (x10 : Int) (x11 : Int) (x12 : Int) (x13 : Int) (x14 : Int) (x15 : List (List PV)) : ev (envF N) (k + 1) F_lake_PermittedFor [(.agg [(.sl none [.int .i64, .int .i64] x0), (.sl none [.int .i64, .int .i64] x1), (.int .i64 x2)]), (.agg [(.int .i64 x3), (.int .i64 x4)]), (.agg [(.int .i64 x5), (.int .i64 x6), (.int .i64 x7), (.int .i64 x8), (.int .i64 x9), (.int .i64 x10), (.int .i64 x11), (.int .i64 x12), (.int .i64 x13), (.int .i64 x14), (.sl none [.int .i64, .int .i64, .int .i64] x15)])] =
 ((ev (envF N) k F_lake_openTask [(.agg [(.sl none [.int .i64, .int .i64] x0), (.sl none [.int .i64, .int .i64] x1), (.int .i64 x2)]), (.agg [(.int .i64 x3), (.int .i64 x4)]), (.agg [(.int .i64 x5), (.int .i64 x6), (.int .i64 x7), (.int .i64 x8), (.int .i64 x9), (.int .i64 x10), (.int .i64 x11), (.int .i64 x12), (.int .i64 x13), (.int .i64 x14), (.sl none [.int .i64, .int .i64, .int .i64] x15)])]).bind fun r1 =>
 (ev (envF N) k F_lake_unless [(.bool (decide ((0 : Int) < ((List.length x15) : Int)))), (.int .i64 (10 : Int))]).bind fun r2 =>
  (ev (envF N) k F_lake_first [(.sl none [.int .i64] [[(.int .i64 (asI (nth (asT r1) 1)))], [(.int .i64 (asI r2))]])]).bind fun r3 =>
   cond (!(decide ((asI r3) = (0 : Int))))
    (some (.tup [(.int .i64 (0 : Int)), (.int .i64 (asI r3))]))
    (cond (decide ((0 : Int) ≤ (w64 (((List.length x15) : Int) - (1 : Int)))))
     (cond (decide ((w64 (((List.length x15) : Int) - (1 : Int))) ≤ ((List.length x15) : Int)))
      ((ev (envF N) k F_slices_Repeat_LakeFlows [(.sl none [.int .i64, .int .i64, .int .i64] (List.drop (Int.toNat (w64 ((x15.length : Int) - (1 : Int)))) (List.take (List.length x15) x15))), (.int .i64 (200 : Int))]).bind fun r7 =>
       (evI (envF N) k F_lake_pair_watch_c1 [(.rp [(.sl none [.int .i64, .int .i64] (asL (nth (asA (nth (asT r1) 0)) 0))), (.sl none [.int .i64, .int .i64] (asL (nth (asA (nth (asT r1) 0)) 1))), (.int .i64 (asI (nth (asA (nth (asT r1) 0)) 2)))] 0)] (some [(.int .i64 x3), (.int .i64 x4)]) [(.rp [(.fn F_slices_Values_LakeFlows_c1 [(.rp [(.sl none [.int .i64, .int .i64, .int .i64] (asL r7))] 0)])] 0), (.rp [(.int .i64 x5), (.int .i64 x6), (.int .i64 x7), (.int .i64 x8), (.int .i64 x9), (.int .i64 x10), (.int .i64 x11), (.int .i64 x12), (.int .i64 x13), (.int .i64 x14)] 0)]).bind fun r8 =>
        R_lake_PermittedFor_10 N k r8 x0 x1 x2 x3 x4 x5 x6 x7 x8 x9 x10 x11 x12 x13 x14 x15 (0 : Int) (0 : Int) (asI r3) (asL r7) (asL (nth (asA (nth (asT r1) 0)) 0)) (asL (nth (asA (nth (asT r1) 0)) 1)) (asI (nth (asA (nth (asT r1) 0)) 2)) (asI (nth (asT r1) 1)) x0 x1 x2 x3 x4 x5 x6 x7 x8 x9 x10 x11 x12 x13 x14 x15 (asL (nth (asA (nth (asT r1) 0)) 0)) (asL (nth (asA (nth (asT r1) 0)) 1)) (asI (nth (asA (nth (asT r1) 0)) 2)) (asI (nth (asT r1) 1)) (asL (nth (asA (nth (asT r1) 0)) 0)) (asL (nth (asA (nth (asT r1) 0)) 1)) (asI (nth (asA (nth (asT r1) 0)) 2)) (asI (nth (asT r1) 1)) (asI (nth (asT r1) 1)) x15 ((List.length x15) : Int) (decide ((0 : Int) < ((List.length x15) : Int))) (asI r2) [[(.int .i64 (asI (nth (asT r1) 1)))], [(.int .i64 (asI r2))]] (asI r3) (asI r3) (false) x15 x15 ((List.length x15) : Int) (w64 (((List.length x15) : Int) - (1 : Int))) (List.drop (Int.toNat (w64 ((x15.length : Int) - (1 : Int)))) (List.take (List.length x15) x15)) (asL r7) (asL (nth (asA (nth (asT r1) 0)) 0)) (asL (nth (asA (nth (asT r1) 0)) 1)) (asI (nth (asA (nth (asT r1) 0)) 2)) x3 x4 x5 x6 x7 x8 x9 x10 x11 x12 x13 x14 (asL r7) (asL r7) x0 x1 x2 x3 x4 x5 x6 x7 x8 x9 x10 x11 x12 x13 x14 x15 (asL (nth (asA (nth (asT r1) 0)) 0)) (asL (nth (asA (nth (asT r1) 0)) 1)) (asI (nth (asA (nth (asT r1) 0)) 2)) (0 : Int))
      (none))
     (none))) := by kernel_rfl

/-- Loop 3 of ref01_PermittedFor. -/
noncomputable def L_ref01_PermittedFor_3 (N k n3  : Nat) (x0 : List (List PV)) (x1 : Int) (x2 : List (List PV)) (x3 : List (List PV)) (x4 : Int) (x5 : Int) (x6 : Int) (x7 : Int) (x8 : Int) (x9 : Int) (x10 : Int) (x11 : Int) (x12 : Int) (x13 : Int) (x14 : Int) (x15 : Int) (x16 : Int) (x17 : List (List PV)) : Option PV := loopAt (envF N) (ev (envF N) k) (evI (envF N) k) F_ref01_PermittedFor Go.Proofs.Tryz.f19 [.r, .r, .l, .r, .b] n3 { slots := (und 3 ((.ptr 3 0) :: (.ptr 4 0) :: (.ptr 5 0) :: und 1 ((.sl (some (7, 0)) [.int .i64, .int .i64, .int .i64] x0) :: (.int .i64 x1) :: und 54 []))), boxes := (nos 3 ((some (.cells [(.sl none [.int .i64, .int .i64] x2), (.sl none [.int .i64, .int .i64] x3), (.int .i64 x4)] false)) :: (some (.cells [(.int .i64 x5), (.int .i64 x6)] false)) :: (some (.cells [(.int .i64 x7), (.int .i64 x8), (.int .i64 x9), (.int .i64 x10), (.int .i64 x11), (.int .i64 x12), (.int .i64 x13), (.int .i64 x14), (.int .i64 x15), (.int .i64 x16), (.sl none [.int .i64, .int .i64, .int .i64] x17)] false)) :: nos 57 [])), vers := List.replicate 63 0 }
/-- Loop 9 of ref01_PermittedFor. -/
noncomputable def L_ref01_PermittedFor_9 (N k n9  : Nat) (x0 : List (List PV)) (x1 : List (List PV)) (x2 : Int) (x3 : List (List PV)) (x4 : List (List PV)) (x5 : Int) (x6 : Int) (x7 : Int) (x8 : Int) (x9 : Int) (x10 : Int) (x11 : Int) (x12 : Int) (x13 : Int) (x14 : Int) (x15 : Int) (x16 : Int) (x17 : Int) (x18 : List (List PV)) (x19 : Int) (x20 : Int) : Option PV := loopAt (envF N) (ev (envF N) k) (evI (envF N) k) F_ref01_PermittedFor Go.Proofs.Tryz.f19 [.r, .r, .r, .r, .r, .l, .r, .b] n9 { slots := (und 3 ((.ptr 3 0) :: und 1 ((.ptr 5 0) :: und 3 ((.sl none [.int .i64, .int .i64] x0) :: und 2 ((.sl (some (40, 0)) [.int .i64, .int .i64] x1) :: (.int .i64 x2) :: und 49 []))))), boxes := (nos 3 ((some (.cells [(.sl none [.int .i64, .int .i64] x3), (.sl none [.int .i64, .int .i64] x4), (.int .i64 x5)] false)) :: (some (.cells [(.int .i64 x6), (.int .i64 x7)] false)) :: (some (.cells [(.int .i64 x8), (.int .i64 x9), (.int .i64 x10), (.int .i64 x11), (.int .i64 x12), (.int .i64 x13), (.int .i64 x14), (.int .i64 x15), (.int .i64 x16), (.int .i64 x17), (.sl none [.int .i64, .int .i64, .int .i64] x18)] false)) :: nos 4 ((some (.cells [(.int .i64 x19), (.int .i64 x20)] false)) :: nos 52 []))), vers := List.replicate 63 0 }
theorem L_ref01_PermittedFor_3_eq (N k n3  : Nat) (x0 : List (List PV)) (x1 : Int) (x2 : List (List PV)) (x3 : List (List PV)) (x4 : Int) (x5 : Int) (x6 : Int) (x7 : Int) (x8 : Int) (x9 : Int) (x10 : Int) (x11 : Int) (x12 : Int) (x13 : Int) (x14 : Int) (x15 : Int) (x16 : Int) (x17 : List (List PV)) : L_ref01_PermittedFor_3 N k (n3 + 1)  x0 x1 x2 x3 x4 x5 x6 x7 x8 x9 x10 x11 x12 x13 x14 x15 x16 x17 =
 (cond (decide (x1 < (200 : Int)))
 (cond (decide ((0 : Int) ≤ (w64 (((List.length x17) : Int) - (1 : Int)))))
  (cond (decide ((w64 (((List.length x17) : Int) - (1 : Int))) < ((List.length x17) : Int)))
   (cond (room x0 [[(.int .i64 (asI (nth (nths x17 (Int.toNat (w64 ((x17.length : Int) - (1 : Int))))) 0))), (.int .i64 (asI (nth (nths x17 (Int.toNat (w64 ((x17.length : Int) - (1 : Int))))) 1))), (.int .i64 (asI (nth (nths x17 (Int.toNat (w64 ((x17.length : Int) - (1 : Int))))) 2)))]] 24)
    (L_ref01_PermittedFor_3 N k n3  (x0 ++ [[(.int .i64 (asI (nth (nths x17 (Int.toNat (w64 ((x17.length : Int) - (1 : Int))))) 0))), (.int .i64 (asI (nth (nths x17 (Int.toNat (w64 ((x17.length : Int) - (1 : Int))))) 1))), (.int .i64 (asI (nth (nths x17 (Int.toNat (w64 ((x17.length : Int) - (1 : Int))))) 2)))]]) (w64 (x1 + (1 : Int))) x2 x3 x4 x5 x6 x7 x8 x9 x10 x11 x12 x13 x14 x15 x16 x17)
    (none))
   (none))
  (none))
 ((ev (envF N) k F_ref01_RunOf [(.agg [(.sl none [.int .i64, .int .i64] x2), (.sl none [.int .i64, .int .i64] x3), (.int .i64 x4)]), (.agg [(.int .i64 x5), (.int .i64 x6)]), (.sl none [.int .i64, .int .i64, .int .i64] x0)]).bind fun r2 =>
  cond (room [[(.int .i64 x5), (.int .i64 x6)]] (asL (nth (asT r2) 0)) 16)
   (L_ref01_PermittedFor_9 N k N  (asL (nth (asT r2) 0)) ([[(.int .i64 x5), (.int .i64 x6)]] ++ (match nth (asT r2) 0 with
| PV.sl tag ls xs => xs
| x => [])) (1 : Int) x2 x3 x4 x5 x6 x7 x8 x9 x10 x11 x12 x13 x14 x15 x16 x17 (asI (nth (asA (nth (asT r2) 1)) 0)) (asI (nth (asA (nth (asT r2) 1)) 1)))
   (none))) := by kernel_rfl
theorem L_ref01_PermittedFor_9_eq (N k n9  : Nat) (x0 : List (List PV)) (x1 : List (List PV)) (x2 : Int) (x3 : List (List PV)) (x4 : List (List PV)) (x5 : Int) (x6 : Int) (x7 : Int) (x8 : Int) (x9 : Int) (x10 : Int) (x11 : Int) (x12 : Int) (x13 : Int) (x14 : Int) (x15 : Int) (x16 : Int) (x17 : Int) (x18 : List (List PV)) (x19 : Int) (x20 : Int) : L_ref01_PermittedFor_9 N k (n9 + 1)  x0 x1 x2 x3 x4 x5 x6 x7 x8 x9 x10 x11 x12 x13 x14 x15 x16 x17 x18 x19 x20 =
 (cond (decide (x2 < ((List.length x1) : Int)))
 ((ev (envF N) k F_ref01_At [(.agg [(.sl none [.int .i64, .int .i64] x3), (.sl none [.int .i64, .int .i64] x4), (.int .i64 x5)]), (.agg [(.int .i64 x8), (.int .i64 x9), (.int .i64 x10), (.int .i64 x11), (.int .i64 x12), (.int .i64 x13), (.int .i64 x14), (.int .i64 x15), (.int .i64 x16), (.int .i64 x17)]), (.sl none [.int .i64, .int .i64] x1), (.int .i64 x2)]).bind fun r2 =>
  cond (asB (nth (asT r2) 1))
   (some (.int .i64 (w64 (x2 - (1 : Int)))))
   (L_ref01_PermittedFor_9 N k n9  x0 x1 (w64 (x2 + (1 : Int))) x3 x4 x5 x6 x7 x8 x9 x10 x11 x12 x13 x14 x15 x16 x17 x18 x19 x20))
 (some (.int .i64 ((List.length x0) : Int)))) := by kernel_rfl
theorem E_ref01_PermittedFor (N k : Nat) (x0 : List (List PV)) (x1 : List (List PV)) (x2 : Int) (x3 : Int) (x4 : Int) (x5 : Int) (x6 : Int) (x7 : Int) (x8 : Int) (x9 : Int) (x10 : Int) (x11 : Int) (x12 : Int) (x13 : Int) (x14 : Int) (x15 : List (List PV)) : ev (envF N) (k + 1) F_ref01_PermittedFor [(.agg [(.sl none [.int .i64, .int .i64] x0), (.sl none [.int .i64, .int .i64] x1), (.int .i64 x2)]), (.agg [(.int .i64 x3), (.int .i64 x4)]), (.agg [(.int .i64 x5), (.int .i64 x6), (.int .i64 x7), (.int .i64 x8), (.int .i64 x9), (.int .i64 x10), (.int .i64 x11), (.int .i64 x12), (.int .i64 x13), (.int .i64 x14), (.sl none [.int .i64, .int .i64, .int .i64] x15)])] =
 (L_ref01_PermittedFor_3 N k N  [] (0 : Int) x0 x1 x2 x3 x4 x5 x6 x7 x8 x9 x10 x11 x12 x13 x14 x15) := by kernel_rfl

theorem E_base_Within (N k : Nat) (x0 : Int) (x1 : Int) (x2 : Int) : ev (envF N) (k + 1) F_base_Within [(.int .i64 x0), (.int .i64 x1), (.int .i64 x2)] =
 (cond (decide (x1 ≤ x0))
 (some (.bool (decide (x0 ≤ x2))))
 (some (.bool (false)))) := by kernel_rfl

theorem E_ref01_CopyList (N k : Nat) (x0 : List (List PV)) : ev (envF N) (k + 1) F_ref01_CopyList [(.sl none [.int .i64, .int .i64, .int .i64] x0)] =
 (cond (room [] x0 24)
 (some (.sl none [.int .i64, .int .i64, .int .i64] x0))
 (none)) := by kernel_rfl

theorem E_law01_wider (N k : Nat) (x0 : List (List PV)) (x1 : Int) (x2 : Int) (x3 : Int) (x4 : Int) (x5 : Int) : ev (envF N) (k + 1) F_law01_wider [(.agg [(.sl none [.int .i64, .int .i64] x0)]), (.agg [(.int .i64 x1), (.int .i64 x2), (.int .i64 x3), (.int .i64 x4), (.int .i64 x5)])] =
 ((ev (envF N) k F_ref01_Bottom [(.agg [(.sl none [.int .i64, .int .i64] x0)])]).bind fun r1 =>
 (ev (envF N) k F_ref01_Top [(.agg [(.sl none [.int .i64, .int .i64] x0)])]).bind fun r2 =>
  some (.agg [(.int .i64 (imax (asI (nth (asA r1) 0)) (w64 (x1 - (1 : Int))))), (.int .i64 (imin (asI (nth (asA r2) 0)) (w64 (x2 + (1 : Int))))), (.int .i64 (imin (1000000 : Int) (w64 (x3 + (1 : Int))))), (.int .i64 (imin (1000000 : Int) (w64 (x4 + (1 : Int))))), (.int .i64 x5)])) := by kernel_rfl

theorem E_law01_Few (N k : Nat) (x0 : List (List PV)) : ev (envF N) (k + 1) F_law01_Few [(.agg [(.sl none [.int .i64, .int .i64] x0)])] =
 (some (.bool (decide (((List.length x0) : Int) ≤ (12 : Int))))) := by kernel_rfl

theorem E_lake_openTask (N k : Nat) (x0 : List (List PV)) (x1 : List (List PV)) (x2 : Int) (x3 : Int) (x4 : Int) (x5 : Int) (x6 : Int) (x7 : Int) (x8 : Int) (x9 : Int) (x10 : Int) (x11 : Int) (x12 : Int) (x13 : Int) (x14 : Int) (x15 : List (List PV)) : ev (envF N) (k + 1) F_lake_openTask [(.agg [(.sl none [.int .i64, .int .i64] x0), (.sl none [.int .i64, .int .i64] x1), (.int .i64 x2)]), (.agg [(.int .i64 x3), (.int .i64 x4)]), (.agg [(.int .i64 x5), (.int .i64 x6), (.int .i64 x7), (.int .i64 x8), (.int .i64 x9), (.int .i64 x10), (.int .i64 x11), (.int .i64 x12), (.int .i64 x13), (.int .i64 x14), (.sl none [.int .i64, .int .i64, .int .i64] x15)])] =
 ((ev (envF N) k F_lake_openState [(.agg [(.sl none [.int .i64, .int .i64] x0), (.sl none [.int .i64, .int .i64] x1), (.int .i64 x2)]), (.agg [(.int .i64 x3), (.int .i64 x4)])]).bind fun r1 =>
 cond (decide ((asI (nth (asT r1) 1)) = (0 : Int)))
  ((ev (envF N) k F_lake_pair_limitsErr [(.agg [(.sl none [.int .i64, .int .i64] (asL (nth (asA (nth (asT r1) 0)) 0))), (.sl none [.int .i64, .int .i64] (asL (nth (asA (nth (asT r1) 0)) 1))), (.int .i64 (asI (nth (asA (nth (asT r1) 0)) 2)))]), (.agg [(.int .i64 x5), (.int .i64 x6), (.int .i64 x7), (.int .i64 x8), (.int .i64 x9), (.int .i64 x10), (.int .i64 x11), (.int .i64 x12), (.int .i64 x13), (.int .i64 x14)])]).bind fun r3 =>
   (ev (envF N) k F_lake_ticksErr [(.sl none [.int .i64, .int .i64, .int .i64] x15)]).bind fun r4 =>
    (ev (envF N) k F_lake_first [(.sl none [.int .i64] [[(.int .i64 (asI r3))], [(.int .i64 (asI r4))]])]).bind fun r5 =>
     some (.tup [(.agg [(.sl none [.int .i64, .int .i64] (asL (nth (asA (nth (asT r1) 0)) 0))), (.sl none [.int .i64, .int .i64] (asL (nth (asA (nth (asT r1) 0)) 1))), (.int .i64 (asI (nth (asA (nth (asT r1) 0)) 2)))]), (.int .i64 (asI r5))]))
  (some (.tup [(.agg [(.sl none [.int .i64, .int .i64] (asL (nth (asA (nth (asT r1) 0)) 0))), (.sl none [.int .i64, .int .i64] (asL (nth (asA (nth (asT r1) 0)) 1))), (.int .i64 (asI (nth (asA (nth (asT r1) 0)) 2)))]), (.int .i64 (asI (nth (asT r1) 1)))]))) := by kernel_rfl

theorem E_ref01_Copy (N k : Nat) (x0 : List (List PV)) : ev (envF N) (k + 1) F_ref01_Copy [(.agg [(.sl none [.int .i64, .int .i64] x0)])] =
 (cond (room [] x0 16)
 (some (.agg [(.sl none [.int .i64, .int .i64] x0)]))
 (none)) := by kernel_rfl

theorem E_ref01_TableErr (N k : Nat) (x0 : List (List PV)) : ev (envF N) (k + 1) F_ref01_TableErr [(.agg [(.sl none [.int .i64, .int .i64] x0)])] =
 ((ev (envF N) k F_ref01_CheckTable [(.agg [(.sl none [.int .i64, .int .i64] x0)])]).bind fun r1 =>
 some (.int .i64 (asI (nth (asT r1) 1)))) := by kernel_rfl

theorem E_ref01_limitErr (N k : Nat) (x0 : List (List PV)) (x1 : Int) (x2 : Int) (x3 : Int) (x4 : Int) (x5 : Int) : ev (envF N) (k + 1) F_ref01_limitErr [(.agg [(.sl none [.int .i64, .int .i64] x0)]), (.agg [(.int .i64 x1), (.int .i64 x2), (.int .i64 x3), (.int .i64 x4), (.int .i64 x5)])] =
 ((ev (envF N) k F_ref01_IsLevel [(.agg [(.sl none [.int .i64, .int .i64] x0)]), (.int .i64 x1)]).bind fun r1 =>
 cond (!(asB r1))
  (some (.int .i64 (2 : Int)))
  ((ev (envF N) k F_ref01_IsLevel [(.agg [(.sl none [.int .i64, .int .i64] x0)]), (.int .i64 x2)]).bind fun r3 =>
   cond (!(asB r3))
    (some (.int .i64 (2 : Int)))
    ((ev (envF N) k F_base_Within [(.int .i64 x3), (.int .i64 (0 : Int)), (.int .i64 (1000000 : Int))]).bind fun r5 =>
     cond (!(asB r5))
      (some (.int .i64 (2 : Int)))
      ((ev (envF N) k F_base_Within [(.int .i64 x4), (.int .i64 (0 : Int)), (.int .i64 (1000000 : Int))]).bind fun r7 =>
       cond (!(asB r7))
        (some (.int .i64 (2 : Int)))
        ((ev (envF N) k F_base_Within [(.int .i64 x5), (.int .i64 (1 : Int)), (.int .i64 (200 : Int))]).bind fun r9 =>
         cond (!(asB r9))
          (some (.int .i64 (2 : Int)))
          (cond (decide (x2 < x1))
           (some (.int .i64 (9 : Int)))
           (some (.int .i64 (0 : Int))))))))) := by kernel_rfl

theorem E_lake_openPair (N k : Nat) (x0 : List (List PV)) (x1 : List (List PV)) (x2 : Int) : ev (envF N) (k + 1) F_lake_openPair [(.agg [(.sl none [.int .i64, .int .i64] x0), (.sl none [.int .i64, .int .i64] x1), (.int .i64 x2)])] =
 ((ev (envF N) k F_lake_CheckPair [(.agg [(.sl none [.int .i64, .int .i64] x0), (.sl none [.int .i64, .int .i64] x1), (.int .i64 x2)])]).bind fun r1 =>
 some (.tup [(.agg [(.sl none [.int .i64, .int .i64] x0), (.sl none [.int .i64, .int .i64] x1), (.int .i64 x2)]), (.int .i64 (asI r1))])) := by kernel_rfl

theorem E_lake_pair_limitsErr (N k : Nat) (x0 : List (List PV)) (x1 : List (List PV)) (x2 : Int) (x3 : Int) (x4 : Int) (x5 : Int) (x6 : Int) (x7 : Int) (x8 : Int) (x9 : Int) (x10 : Int) (x11 : Int) (x12 : Int) : ev (envF N) (k + 1) F_lake_pair_limitsErr [(.agg [(.sl none [.int .i64, .int .i64] x0), (.sl none [.int .i64, .int .i64] x1), (.int .i64 x2)]), (.agg [(.int .i64 x3), (.int .i64 x4), (.int .i64 x5), (.int .i64 x6), (.int .i64 x7), (.int .i64 x8), (.int .i64 x9), (.int .i64 x10), (.int .i64 x11), (.int .i64 x12)])] =
 ((ev (envF N) k F_lake_table_limitErr [(.agg [(.sl none [.int .i64, .int .i64] x0)]), (.agg [(.int .i64 x3), (.int .i64 x4), (.int .i64 x5), (.int .i64 x6), (.int .i64 x7)])]).bind fun r1 =>
 (ev (envF N) k F_lake_table_limitErr [(.agg [(.sl none [.int .i64, .int .i64] x1)]), (.agg [(.int .i64 x8), (.int .i64 x9), (.int .i64 x10), (.int .i64 x11), (.int .i64 x12)])]).bind fun r2 =>
  (ev (envF N) k F_lake_first [(.sl none [.int .i64] [[(.int .i64 (asI r1))], [(.int .i64 (asI r2))]])]).bind fun r3 =>
   some (.int .i64 (asI r3))) := by kernel_rfl

theorem E_ref01_StateErr (N k : Nat) (x0 : List (List PV)) (x1 : List (List PV)) (x2 : Int) (x3 : Int) (x4 : Int) : ev (envF N) (k + 1) F_ref01_StateErr [(.agg [(.sl none [.int .i64, .int .i64] x0), (.sl none [.int .i64, .int .i64] x1), (.int .i64 x2)]), (.agg [(.int .i64 x3), (.int .i64 x4)])] =
 ((ev (envF N) k F_ref01_IsVolume [(.agg [(.sl none [.int .i64, .int .i64] x0)]), (.int .i64 x3)]).bind fun r1 =>
 cond (!(asB r1))
  (some (.int .i64 (2 : Int)))
  ((ev (envF N) k F_ref01_IsVolume [(.agg [(.sl none [.int .i64, .int .i64] x1)]), (.int .i64 x4)]).bind fun r3 =>
   cond (!(asB r3))
    (some (.int .i64 (2 : Int)))
    (some (.int .i64 (0 : Int))))) := by kernel_rfl

/-- Loop 4 of ref01_ListErr. -/
noncomputable def L_ref01_ListErr_4 (N k n4  : Nat) (x0 : List (List PV)) (x1 : Int) : Option PV := loopAt (envF N) (ev (envF N) k) (evI (envF N) k) F_ref01_ListErr Go.Proofs.Tryz.f39 [.r, .r, .l, .r, .b] n4 { slots := ((.sl none [.int .i64, .int .i64, .int .i64] x0) :: und 2 ((.int .i64 x1) :: und 18 [])), boxes := (nos 22 []), vers := List.replicate 22 0 }
theorem L_ref01_ListErr_4_eq (N k n4  : Nat) (x0 : List (List PV)) (x1 : Int) : L_ref01_ListErr_4 N k (n4 + 1)  x0 x1 =
 (cond (decide (x1 < ((List.length x0) : Int)))
 (cond (decide ((0 : Int) ≤ x1))
  (cond (decide (x1 < ((List.length x0) : Int)))
   ((ev (envF N) k F_ref01_FlowsErr [(.agg [(.int .i64 (asI (nth (nths x0 (Int.toNat x1)) 0))), (.int .i64 (asI (nth (nths x0 (Int.toNat x1)) 1))), (.int .i64 (asI (nth (nths x0 (Int.toNat x1)) 2)))])]).bind fun r4 =>
    cond (!(decide ((asI r4) = (0 : Int))))
     (some (.int .i64 (asI r4)))
     (L_ref01_ListErr_4 N k n4  x0 (w64 (x1 + (1 : Int)))))
   (none))
  (none))
 (some (.int .i64 (0 : Int)))) := by kernel_rfl
theorem E_ref01_ListErr (N k : Nat) (x0 : List (List PV)) : ev (envF N) (k + 1) F_ref01_ListErr [(.sl none [.int .i64, .int .i64, .int .i64] x0)] =
 (cond (decide ((200 : Int) < ((List.length x0) : Int)))
 (some (.int .i64 (8 : Int)))
 (L_ref01_ListErr_4 N k N  x0 (0 : Int))) := by kernel_rfl

/-- Loop 4 of ref01_RunOf. -/
noncomputable def L_ref01_RunOf_4 (N k n4  : Nat) (x0 : List (List PV)) (x1 : List (List PV)) (x2 : Int) (x3 : List (List PV)) (x4 : List (List PV)) (x5 : Int) (x6 : Int) (x7 : Int) (x8 : Int) (x9 : Int) (x10 : Int) (x11 : Int) : Option PV := loopAt (envF N) (ev (envF N) k) (evI (envF N) k) F_ref01_RunOf Go.Proofs.Tryz.f40 [.r, .r, .r, .l, .r, .b] n4 { slots := (und 2 ((.sl none [.int .i64, .int .i64, .int .i64] x0) :: (.ptr 3 0) :: (.ptr 4 0) :: und 2 ((.ptr 7 0) :: und 1 ((.sl (some (9, 0)) [.int .i64, .int .i64] x1) :: (.ptr 10 0) :: (.int .i64 x2) :: und 42 [])))), boxes := (nos 3 ((some (.cells [(.sl none [.int .i64, .int .i64] x3), (.sl none [.int .i64, .int .i64] x4), (.int .i64 x5)] false)) :: (some (.cells [(.int .i64 x6), (.int .i64 x7)] false)) :: nos 2 ((some (.cells [(.int .i64 x8), (.int .i64 x9)] false)) :: nos 2 ((some (.cells [(.int .i64 x10), (.int .i64 x11)] false)) :: nos 43 [])))), vers := List.replicate 54 0 }
theorem L_ref01_RunOf_4_eq (N k n4  : Nat) (x0 : List (List PV)) (x1 : List (List PV)) (x2 : Int) (x3 : List (List PV)) (x4 : List (List PV)) (x5 : Int) (x6 : Int) (x7 : Int) (x8 : Int) (x9 : Int) (x10 : Int) (x11 : Int) : L_ref01_RunOf_4 N k (n4 + 1)  x0 x1 x2 x3 x4 x5 x6 x7 x8 x9 x10 x11 =
 (cond (decide (x2 < ((List.length x0) : Int)))
 (cond (decide ((0 : Int) ≤ x2))
  (cond (decide (x2 < ((List.length x0) : Int)))
   ((ev (envF N) k F_ref01_Step [(.agg [(.sl none [.int .i64, .int .i64] x3), (.sl none [.int .i64, .int .i64] x4), (.int .i64 x5)]), (.agg [(.int .i64 x6), (.int .i64 x7)]), (.agg [(.int .i64 (asI (nth (nths x0 (Int.toNat x2)) 0))), (.int .i64 (asI (nth (nths x0 (Int.toNat x2)) 1))), (.int .i64 (asI (nth (nths x0 (Int.toNat x2)) 2)))])]).bind fun r4 =>
    cond (!(asB (nth (asT r4) 2)))
     (some (.tup [(.sl none [.int .i64, .int .i64] x1), (.agg [(.int .i64 x10), (.int .i64 x11)]), (.bool (false))]))
     (cond (room x1 [[(.int .i64 (asI (nth (asA (nth (asT r4) 0)) 0))), (.int .i64 (asI (nth (asA (nth (asT r4) 0)) 1)))]] 16)
      (L_ref01_RunOf_4 N k n4  x0 (x1 ++ [[(.int .i64 (asI (nth (asA (nth (asT r4) 0)) 0))), (.int .i64 (asI (nth (asA (nth (asT r4) 0)) 1)))]]) (w64 (x2 + (1 : Int))) x3 x4 x5 (asI (nth (asA (nth (asT r4) 0)) 0)) (asI (nth (asA (nth (asT r4) 0)) 1)) x8 x9 (w64 (x10 + (asI (nth (asA (nth (asT r4) 1)) 0)))) (w64 (x11 + (asI (nth (asA (nth (asT r4) 1)) 1)))))
      (none)))
   (none))
  (none))
 (some (.tup [(.sl none [.int .i64, .int .i64] x1), (.agg [(.int .i64 x10), (.int .i64 x11)]), (.bool (true))]))) := by kernel_rfl
theorem E_ref01_RunOf (N k : Nat) (x0 : List (List PV)) (x1 : List (List PV)) (x2 : Int) (x3 : Int) (x4 : Int) (x5 : List (List PV)) : ev (envF N) (k + 1) F_ref01_RunOf [(.agg [(.sl none [.int .i64, .int .i64] x0), (.sl none [.int .i64, .int .i64] x1), (.int .i64 x2)]), (.agg [(.int .i64 x3), (.int .i64 x4)]), (.sl none [.int .i64, .int .i64, .int .i64] x5)] =
 (L_ref01_RunOf_4 N k N  x5 [] (0 : Int) x0 x1 x2 x3 x4 (0 : Int) (0 : Int) (0 : Int) (0 : Int)) := by kernel_rfl

theorem E_ref01_At (N k : Nat) (x0 : List (List PV)) (x1 : List (List PV)) (x2 : Int) (x3 : Int) (x4 : Int) (x5 : Int) (x6 : Int) (x7 : Int) (x8 : Int) (x9 : Int) (x10 : Int) (x11 : Int) (x12 : Int) (x13 : List (List PV)) (x14 : Int) : ev (envF (N + 5)) (k + 1) F_ref01_At [(.agg [(.sl none [.int .i64, .int .i64] x0), (.sl none [.int .i64, .int .i64] x1), (.int .i64 x2)]), (.agg [(.int .i64 x3), (.int .i64 x4), (.int .i64 x5), (.int .i64 x6), (.int .i64 x7), (.int .i64 x8), (.int .i64 x9), (.int .i64 x10), (.int .i64 x11), (.int .i64 x12)]), (.sl none [.int .i64, .int .i64] x13), (.int .i64 x14)] =
 ((ev (envF (N + 5)) k F_ref01_tableOf [(.agg [(.sl none [.int .i64, .int .i64] x0), (.sl none [.int .i64, .int .i64] x1), (.int .i64 x2)]), (.int .i64 (0 : Int))]).bind fun r1 =>
 (ev (envF (N + 5)) k F_ref01_limitOf [(.agg [(.int .i64 x3), (.int .i64 x4), (.int .i64 x5), (.int .i64 x6), (.int .i64 x7), (.int .i64 x8), (.int .i64 x9), (.int .i64 x10), (.int .i64 x11), (.int .i64 x12)]), (.int .i64 (0 : Int))]).bind fun r2 =>
  cond (decide ((0 : Int) ≤ x14))
   (cond (decide (x14 < ((List.length x13) : Int)))
    ((ev (envF (N + 5)) k F_ref01_volumeOf [(.agg [(.int .i64 (asI (nth (nths x13 (Int.toNat x14)) 0))), (.int .i64 (asI (nth (nths x13 (Int.toNat x14)) 1)))]), (.int .i64 (0 : Int))]).bind fun r5 =>
     (ev (envF (N + 5)) k F_ref01_Level [(.agg [(.sl none [.int .i64, .int .i64] (asL (nth (asA r1) 0)))]), (.int .i64 (asI r5))]).bind fun r6 =>
      cond (decide ((0 : Int) ≤ (imax (0 : Int) (w64 (x14 - (asI (nth (asA r2) 4)))))))
       (cond (decide ((imax (0 : Int) (w64 (x14 - (asI (nth (asA r2) 4))))) < ((List.length x13) : Int)))
        ((ev (envF (N + 5)) k F_ref01_volumeOf [(.agg [(.int .i64 (asI (nth (nths x13 (Int.toNat (bif true then imax (0 : Int) (w64 (x14 - asI (nth (asA r2) 4))) else imin (0 : Int) (w64 (x14 - asI (nth (asA r2) 4)))))) 0))), (.int .i64 (asI (nth (nths x13 (Int.toNat (bif true then imax (0 : Int) (w64 (x14 - asI (nth (asA r2) 4))) else imin (0 : Int) (w64 (x14 - asI (nth (asA r2) 4)))))) 1)))]), (.int .i64 (0 : Int))]).bind fun r9 =>
         (ev (envF (N + 5)) k F_ref01_Level [(.agg [(.sl none [.int .i64, .int .i64] (asL (nth (asA r1) 0)))]), (.int .i64 (asI r9))]).bind fun r10 =>
          (ev (envF (N + 5)) k F_base_RatioInt [(.int .i64 (asI (nth (asA r2) 0)))]).bind fun r11 =>
           (ev (envF (N + 5)) k F_base_RatioCmp [(.agg [(.int .i64 (asI (nth (asA r6) 0))), (.sl none [.int .i64] (asL (nth (asA r6) 1))), (.int .i64 (asI (nth (asA r6) 2))), (.sl none [.int .i64] (asL (nth (asA r6) 3)))]), (.agg [(.int .i64 (asI (nth (asA r11) 0))), (.sl none [.int .i64] (asL (nth (asA r11) 1))), (.int .i64 (asI (nth (asA r11) 2))), (.sl none [.int .i64] (asL (nth (asA r11) 3)))])]).bind fun r12 =>
            (ev (envF (N + 5)) k F_base_RatioInt [(.int .i64 (asI (nth (asA r2) 1)))]).bind fun r13 =>
             (ev (envF (N + 5)) k F_base_RatioCmp [(.agg [(.int .i64 (asI (nth (asA r6) 0))), (.sl none [.int .i64] (asL (nth (asA r6) 1))), (.int .i64 (asI (nth (asA r6) 2))), (.sl none [.int .i64] (asL (nth (asA r6) 3)))]), (.agg [(.int .i64 (asI (nth (asA r13) 0))), (.sl none [.int .i64] (asL (nth (asA r13) 1))), (.int .i64 (asI (nth (asA r13) 2))), (.sl none [.int .i64] (asL (nth (asA r13) 3)))])]).bind fun r14 =>
              (ev (envF (N + 5)) k F_base_RatioSub [(.agg [(.int .i64 (asI (nth (asA r10) 0))), (.sl none [.int .i64] (asL (nth (asA r10) 1))), (.int .i64 (asI (nth (asA r10) 2))), (.sl none [.int .i64] (asL (nth (asA r10) 3)))]), (.agg [(.int .i64 (asI (nth (asA r6) 0))), (.sl none [.int .i64] (asL (nth (asA r6) 1))), (.int .i64 (asI (nth (asA r6) 2))), (.sl none [.int .i64] (asL (nth (asA r6) 3)))])]).bind fun r15 =>
               (ev (envF (N + 5)) k F_base_RatioInt [(.int .i64 (asI (nth (asA r2) 2)))]).bind fun r16 =>
                (ev (envF (N + 5)) k F_base_RatioCmp [(.agg [(.int .i64 (asI (nth (asA r15) 0))), (.sl none [.int .i64] (asL (nth (asA r15) 1))), (.int .i64 (asI (nth (asA r15) 2))), (.sl none [.int .i64] (asL (nth (asA r15) 3)))]), (.agg [(.int .i64 (asI (nth (asA r16) 0))), (.sl none [.int .i64] (asL (nth (asA r16) 1))), (.int .i64 (asI (nth (asA r16) 2))), (.sl none [.int .i64] (asL (nth (asA r16) 3)))])]).bind fun r17 =>
                 (ev (envF (N + 5)) k F_base_RatioSub [(.agg [(.int .i64 (asI (nth (asA r6) 0))), (.sl none [.int .i64] (asL (nth (asA r6) 1))), (.int .i64 (asI (nth (asA r6) 2))), (.sl none [.int .i64] (asL (nth (asA r6) 3)))]), (.agg [(.int .i64 (asI (nth (asA r10) 0))), (.sl none [.int .i64] (asL (nth (asA r10) 1))), (.int .i64 (asI (nth (asA r10) 2))), (.sl none [.int .i64] (asL (nth (asA r10) 3)))])]).bind fun r18 =>
                  (ev (envF (N + 5)) k F_base_RatioInt [(.int .i64 (asI (nth (asA r2) 3)))]).bind fun r19 =>
                   (ev (envF (N + 5)) k F_base_RatioCmp [(.agg [(.int .i64 (asI (nth (asA r18) 0))), (.sl none [.int .i64] (asL (nth (asA r18) 1))), (.int .i64 (asI (nth (asA r18) 2))), (.sl none [.int .i64] (asL (nth (asA r18) 3)))]), (.agg [(.int .i64 (asI (nth (asA r19) 0))), (.sl none [.int .i64] (asL (nth (asA r19) 1))), (.int .i64 (asI (nth (asA r19) 2))), (.sl none [.int .i64] (asL (nth (asA r19) 3)))])]).bind fun r20 =>
                    cond (decide ((asI r12) < (0 : Int)))
                     (some (.tup [(.agg [(.int .i64 x14), (.int .i64 (0 : Int)), (.int .i64 (0 : Int))]), (.bool (true))]))
                     (cond (decide ((0 : Int) < (asI r14)))
                      (some (.tup [(.agg [(.int .i64 x14), (.int .i64 (0 : Int)), (.int .i64 (w64 ((0 : Int) + (1 : Int))))]), (.bool (true))]))
                      (cond (decide ((0 : Int) < (asI r17)))
                       (some (.tup [(.agg [(.int .i64 x14), (.int .i64 (0 : Int)), (.int .i64 (w64 ((w64 ((0 : Int) + (1 : Int))) + (1 : Int))))]), (.bool (true))]))
                       (cond (decide ((0 : Int) < (asI r20)))
                        (some (.tup [(.agg [(.int .i64 x14), (.int .i64 (0 : Int)), (.int .i64 (w64 ((w64 ((w64 ((0 : Int) + (1 : Int))) + (1 : Int))) + (1 : Int))))]), (.bool (true))]))
                        ((ev (envF (N + 5)) k F_ref01_tableOf [(.agg [(.sl none [.int .i64, .int .i64] x0), (.sl none [.int .i64, .int .i64] x1), (.int .i64 x2)]), (.int .i64 (w64 ((0 : Int) + (1 : Int))))]).bind fun r25 =>
                         (ev (envF (N + 5)) k F_ref01_limitOf [(.agg [(.int .i64 x3), (.int .i64 x4), (.int .i64 x5), (.int .i64 x6), (.int .i64 x7), (.int .i64 x8), (.int .i64 x9), (.int .i64 x10), (.int .i64 x11), (.int .i64 x12)]), (.int .i64 (w64 ((0 : Int) + (1 : Int))))]).bind fun r26 =>
                          cond (decide ((0 : Int) ≤ x14))
                           (cond (decide (x14 < ((List.length x13) : Int)))
                            ((ev (envF (N + 5)) k F_ref01_volumeOf [(.agg [(.int .i64 (asI (nth (nths x13 (Int.toNat x14)) 0))), (.int .i64 (asI (nth (nths x13 (Int.toNat x14)) 1)))]), (.int .i64 (w64 ((0 : Int) + (1 : Int))))]).bind fun r29 =>
                             (ev (envF (N + 5)) k F_ref01_Level [(.agg [(.sl none [.int .i64, .int .i64] (asL (nth (asA r25) 0)))]), (.int .i64 (asI r29))]).bind fun r30 =>
                              cond (decide ((0 : Int) ≤ (imax (0 : Int) (w64 (x14 - (asI (nth (asA r26) 4)))))))
                               (cond (decide ((imax (0 : Int) (w64 (x14 - (asI (nth (asA r26) 4))))) < ((List.length x13) : Int)))
                                ((ev (envF (N + 5)) k F_ref01_volumeOf [(.agg [(.int .i64 (asI (nth (nths x13 (Int.toNat (bif true then imax (0 : Int) (w64 (x14 - asI (nth (asA r26) 4))) else imin (0 : Int) (w64 (x14 - asI (nth (asA r26) 4)))))) 0))), (.int .i64 (asI (nth (nths x13 (Int.toNat (bif true then imax (0 : Int) (w64 (x14 - asI (nth (asA r26) 4))) else imin (0 : Int) (w64 (x14 - asI (nth (asA r26) 4)))))) 1)))]), (.int .i64 (w64 ((0 : Int) + (1 : Int))))]).bind fun r33 =>
                                 (ev (envF (N + 5)) k F_ref01_Level [(.agg [(.sl none [.int .i64, .int .i64] (asL (nth (asA r25) 0)))]), (.int .i64 (asI r33))]).bind fun r34 =>
                                  (ev (envF (N + 5)) k F_base_RatioInt [(.int .i64 (asI (nth (asA r26) 0)))]).bind fun r35 =>
                                   (ev (envF (N + 5)) k F_base_RatioCmp [(.agg [(.int .i64 (asI (nth (asA r30) 0))), (.sl none [.int .i64] (asL (nth (asA r30) 1))), (.int .i64 (asI (nth (asA r30) 2))), (.sl none [.int .i64] (asL (nth (asA r30) 3)))]), (.agg [(.int .i64 (asI (nth (asA r35) 0))), (.sl none [.int .i64] (asL (nth (asA r35) 1))), (.int .i64 (asI (nth (asA r35) 2))), (.sl none [.int .i64] (asL (nth (asA r35) 3)))])]).bind fun r36 =>
                                    (ev (envF (N + 5)) k F_base_RatioInt [(.int .i64 (asI (nth (asA r26) 1)))]).bind fun r37 =>
                                     (ev (envF (N + 5)) k F_base_RatioCmp [(.agg [(.int .i64 (asI (nth (asA r30) 0))), (.sl none [.int .i64] (asL (nth (asA r30) 1))), (.int .i64 (asI (nth (asA r30) 2))), (.sl none [.int .i64] (asL (nth (asA r30) 3)))]), (.agg [(.int .i64 (asI (nth (asA r37) 0))), (.sl none [.int .i64] (asL (nth (asA r37) 1))), (.int .i64 (asI (nth (asA r37) 2))), (.sl none [.int .i64] (asL (nth (asA r37) 3)))])]).bind fun r38 =>
                                      (ev (envF (N + 5)) k F_base_RatioSub [(.agg [(.int .i64 (asI (nth (asA r34) 0))), (.sl none [.int .i64] (asL (nth (asA r34) 1))), (.int .i64 (asI (nth (asA r34) 2))), (.sl none [.int .i64] (asL (nth (asA r34) 3)))]), (.agg [(.int .i64 (asI (nth (asA r30) 0))), (.sl none [.int .i64] (asL (nth (asA r30) 1))), (.int .i64 (asI (nth (asA r30) 2))), (.sl none [.int .i64] (asL (nth (asA r30) 3)))])]).bind fun r39 =>
                                       (ev (envF (N + 5)) k F_base_RatioInt [(.int .i64 (asI (nth (asA r26) 2)))]).bind fun r40 =>
                                        (ev (envF (N + 5)) k F_base_RatioCmp [(.agg [(.int .i64 (asI (nth (asA r39) 0))), (.sl none [.int .i64] (asL (nth (asA r39) 1))), (.int .i64 (asI (nth (asA r39) 2))), (.sl none [.int .i64] (asL (nth (asA r39) 3)))]), (.agg [(.int .i64 (asI (nth (asA r40) 0))), (.sl none [.int .i64] (asL (nth (asA r40) 1))), (.int .i64 (asI (nth (asA r40) 2))), (.sl none [.int .i64] (asL (nth (asA r40) 3)))])]).bind fun r41 =>
                                         (ev (envF (N + 5)) k F_base_RatioSub [(.agg [(.int .i64 (asI (nth (asA r30) 0))), (.sl none [.int .i64] (asL (nth (asA r30) 1))), (.int .i64 (asI (nth (asA r30) 2))), (.sl none [.int .i64] (asL (nth (asA r30) 3)))]), (.agg [(.int .i64 (asI (nth (asA r34) 0))), (.sl none [.int .i64] (asL (nth (asA r34) 1))), (.int .i64 (asI (nth (asA r34) 2))), (.sl none [.int .i64] (asL (nth (asA r34) 3)))])]).bind fun r42 =>
                                          (ev (envF (N + 5)) k F_base_RatioInt [(.int .i64 (asI (nth (asA r26) 3)))]).bind fun r43 =>
                                           (ev (envF (N + 5)) k F_base_RatioCmp [(.agg [(.int .i64 (asI (nth (asA r42) 0))), (.sl none [.int .i64] (asL (nth (asA r42) 1))), (.int .i64 (asI (nth (asA r42) 2))), (.sl none [.int .i64] (asL (nth (asA r42) 3)))]), (.agg [(.int .i64 (asI (nth (asA r43) 0))), (.sl none [.int .i64] (asL (nth (asA r43) 1))), (.int .i64 (asI (nth (asA r43) 2))), (.sl none [.int .i64] (asL (nth (asA r43) 3)))])]).bind fun r44 =>
                                            cond (decide ((asI r36) < (0 : Int)))
                                             (some (.tup [(.agg [(.int .i64 x14), (.int .i64 (w64 ((0 : Int) + (1 : Int)))), (.int .i64 (0 : Int))]), (.bool (true))]))
                                             (cond (decide ((0 : Int) < (asI r38)))
                                              (some (.tup [(.agg [(.int .i64 x14), (.int .i64 (w64 ((0 : Int) + (1 : Int)))), (.int .i64 (w64 ((0 : Int) + (1 : Int))))]), (.bool (true))]))
                                              (cond (decide ((0 : Int) < (asI r41)))
                                               (some (.tup [(.agg [(.int .i64 x14), (.int .i64 (w64 ((0 : Int) + (1 : Int)))), (.int .i64 (w64 ((w64 ((0 : Int) + (1 : Int))) + (1 : Int))))]), (.bool (true))]))
                                               (cond (decide ((0 : Int) < (asI r44)))
                                                (some (.tup [(.agg [(.int .i64 x14), (.int .i64 (w64 ((0 : Int) + (1 : Int)))), (.int .i64 (w64 ((w64 ((w64 ((0 : Int) + (1 : Int))) + (1 : Int))) + (1 : Int))))]), (.bool (true))]))
                                                (some (.tup [(.agg [(.int .i64 (0 : Int)), (.int .i64 (0 : Int)), (.int .i64 (0 : Int))]), (.bool (false))]))))))
                                (none))
                               (none))
                            (none))
                           (none))))))
        (none))
       (none))
    (none))
   (none)) := by kernel_rfl

end Go.PewTab

namespace Go.PewTab
set_option linter.unusedSimpArgs false
set_option linter.unusedVariables false
open Go.Pew Go
set_option maxRecDepth 100000
set_option linter.unusedVariables false

/-- Loop 2 of lake_first. -/
noncomputable def L_lake_first_2 (N k n2  : Nat) (x0 : List (List PV)) (x1 : Int) (x2 : Int) : Option PV := loopAt (envF N) (ev (envF N) k) (evI (envF N) k) F_lake_first Go.Proofs.Tryz.f42 [.r, .l, .r, .b] n2 { slots := (und 5 ((.sl none [.int .i64] x0) :: (.int .i64 x1) :: (.int .i64 x2) :: und 7 [])), boxes := (nos 15 []), vers := List.replicate 15 0 }
theorem L_lake_first_2_eq (N k n2  : Nat) (x0 : List (List PV)) (x1 : Int) (x2 : Int) : L_lake_first_2 N k (n2 + 1)  x0 x1 x2 =
 (cond (decide (x2 < x1))
 (cond (decide ((0 : Int) ≤ x2))
  (cond (decide (x2 < ((List.length x0) : Int)))
   (cond (!(decide ((asI (nth (nths x0 (Int.toNat x2)) 0)) = (0 : Int))))
    (some (.int .i64 (asI (nth (nths x0 (Int.toNat x2)) 0))))
    (L_lake_first_2 N k n2  x0 x1 (w64 (x2 + (1 : Int)))))
   (none))
  (none))
 (some (.int .i64 (0 : Int)))) := by kernel_rfl
theorem E_lake_first (N k : Nat) (x0 : List (List PV)) : ev (envF N) (k + 1) F_lake_first [(.sl none [.int .i64] x0)] =
 (L_lake_first_2 N k N  x0 ((List.length x0) : Int) (0 : Int)) := by kernel_rfl

theorem E_lake_unless (N k : Nat) (x0 : Bool) (x1 : Int) : ev (envF N) (k + 1) F_lake_unless [(.bool x0), (.int .i64 x1)] =
 (cond x0
 (some (.int .i64 (0 : Int)))
 (some (.int .i64 x1))) := by kernel_rfl

theorem E_ref01_Bottom (N k : Nat) (x0 : List (List PV)) : ev (envF N) (k + 1) F_ref01_Bottom [(.agg [(.sl none [.int .i64, .int .i64] x0)])] =
 (cond (decide ((0 : Int) < ((List.length x0) : Int)))
 (some (.agg [(.int .i64 (asI (nth (nths x0 (Int.toNat (0 : Int))) 0))), (.int .i64 (asI (nth (nths x0 (Int.toNat (0 : Int))) 1)))]))
 (none)) := by kernel_rfl

theorem E_ref01_Top (N k : Nat) (x0 : List (List PV)) : ev (envF N) (k + 1) F_ref01_Top [(.agg [(.sl none [.int .i64, .int .i64] x0)])] =
 (cond (decide ((0 : Int) ≤ (w64 (((List.length x0) : Int) - (1 : Int)))))
 (cond (decide ((w64 (((List.length x0) : Int) - (1 : Int))) < ((List.length x0) : Int)))
  (some (.agg [(.int .i64 (asI (nth (nths x0 (Int.toNat (w64 ((x0.length : Int) - (1 : Int))))) 0))), (.int .i64 (asI (nth (nths x0 (Int.toNat (w64 ((x0.length : Int) - (1 : Int))))) 1)))]))
  (none))
 (none)) := by kernel_rfl

theorem E_lake_table_levelAt (N k : Nat) (x0 : List (List PV)) (x1 : Int) : ev (envF N) (k + 1) F_lake_table_levelAt [(.agg [(.sl none [.int .i64, .int .i64] x0)]), (.int .i64 x1)] =
 ((ev (envF N) k F_lake_table_byVolume [(.agg [(.sl none [.int .i64, .int .i64] x0)]), (.int .i64 x1)]).bind fun r1 =>
 (ev (envF N) k F_lake_piece_height [(.agg [(.int .i64 (asI (nth (asA r1) 0))), (.int .i64 (asI (nth (asA r1) 1))), (.int .i64 (asI (nth (asA r1) 2))), (.int .i64 (asI (nth (asA r1) 3)))])]).bind fun r2 =>
  (ev (envF N) k F_lake_piece_volume [(.agg [(.int .i64 (asI (nth (asA r1) 0))), (.int .i64 (asI (nth (asA r1) 1))), (.int .i64 (asI (nth (asA r1) 2))), (.int .i64 (asI (nth (asA r1) 3)))])]).bind fun r3 =>
   cond (!(decide ((asI r3) = (0 : Int))))
    ((ev (envF N) k F_lake_piece_volume [(.agg [(.int .i64 (asI (nth (asA r1) 0))), (.int .i64 (asI (nth (asA r1) 1))), (.int .i64 (asI (nth (asA r1) 2))), (.int .i64 (asI (nth (asA r1) 3)))])]).bind fun r5 =>
     cond (!(decide ((asI r5) = (0 : Int))))
      ((ev (envF N) k F_lake_piece_volume [(.agg [(.int .i64 (asI (nth (asA r1) 0))), (.int .i64 (asI (nth (asA r1) 1))), (.int .i64 (asI (nth (asA r1) 2))), (.int .i64 (asI (nth (asA r1) 3)))])]).bind fun r7 =>
       some (.agg [(.int .i64 (w64 ((asI (nth (asA r1) 0)) + (w64 (Int.tdiv (w64 ((w64 (x1 - (asI (nth (asA r1) 1)))) * (asI r2))) (asI r3)))))), (.int .i64 (Int.tmod (w64 ((w64 (x1 - (asI (nth (asA r1) 1)))) * (asI r2))) (asI r5))), (.int .i64 (asI r7))]))
      (none))
    (none)) := by kernel_rfl

theorem E_lake_openState (N k : Nat) (x0 : List (List PV)) (x1 : List (List PV)) (x2 : Int) (x3 : Int) (x4 : Int) : ev (envF N) (k + 1) F_lake_openState [(.agg [(.sl none [.int .i64, .int .i64] x0), (.sl none [.int .i64, .int .i64] x1), (.int .i64 x2)]), (.agg [(.int .i64 x3), (.int .i64 x4)])] =
 ((ev (envF N) k F_lake_openPair [(.agg [(.sl none [.int .i64, .int .i64] x0), (.sl none [.int .i64, .int .i64] x1), (.int .i64 x2)])]).bind fun r1 =>
 cond (decide ((asI (nth (asT r1) 1)) = (0 : Int)))
  ((ev (envF N) k F_lake_pair_stateErr [(.agg [(.sl none [.int .i64, .int .i64] (asL (nth (asA (nth (asT r1) 0)) 0))), (.sl none [.int .i64, .int .i64] (asL (nth (asA (nth (asT r1) 0)) 1))), (.int .i64 (asI (nth (asA (nth (asT r1) 0)) 2)))]), (.agg [(.int .i64 x3), (.int .i64 x4)])]).bind fun r3 =>
   some (.tup [(.agg [(.sl none [.int .i64, .int .i64] (asL (nth (asA (nth (asT r1) 0)) 0))), (.sl none [.int .i64, .int .i64] (asL (nth (asA (nth (asT r1) 0)) 1))), (.int .i64 (asI (nth (asA (nth (asT r1) 0)) 2)))]), (.int .i64 (asI r3))]))
  (some (.tup [(.agg [(.sl none [.int .i64, .int .i64] (asL (nth (asA (nth (asT r1) 0)) 0))), (.sl none [.int .i64, .int .i64] (asL (nth (asA (nth (asT r1) 0)) 1))), (.int .i64 (asI (nth (asA (nth (asT r1) 0)) 2)))]), (.int .i64 (asI (nth (asT r1) 1)))]))) := by kernel_rfl

theorem E_lake_flowsErr (N k : Nat) (x0 : Int) (x1 : Int) (x2 : Int) : ev (envF N) (k + 1) F_lake_flowsErr [(.agg [(.int .i64 x0), (.int .i64 x1), (.int .i64 x2)])] =
 ((ev (envF N) k F_lake_flowsErr_c1 [(.int .i64 x0)]).bind fun r1 =>
 cond (asB r1)
  ((ev (envF N) k F_lake_flowsErr_c1 [(.int .i64 x1)]).bind fun r3 =>
   cond (asB r3)
    ((ev (envF N) k F_lake_within [(.int .i64 x2), (.int .i64 (-10000000 : Int)), (.int .i64 (10000000 : Int))]).bind fun r5 =>
     (ev (envF N) k F_lake_unless [(.bool (asB r5)), (.int .i64 (2 : Int))]).bind fun r6 =>
      some (.int .i64 (asI r6)))
    ((ev (envF N) k F_lake_unless [(.bool (false)), (.int .i64 (2 : Int))]).bind fun r5 =>
     some (.int .i64 (asI r5))))
  ((ev (envF N) k F_lake_unless [(.bool (false)), (.int .i64 (2 : Int))]).bind fun r3 =>
   some (.int .i64 (asI r3)))) := by kernel_rfl

theorem E_lake_pair_step (N k : Nat) (x0 : List (List PV)) (x1 : List (List PV)) (x2 : Int) (x3 : Int) (x4 : Int) (x5 : Int) (x6 : Int) (x7 : Int) : ev (envF (N + 3)) (k + 1) F_lake_pair_step [(.agg [(.sl none [.int .i64, .int .i64] x0), (.sl none [.int .i64, .int .i64] x1), (.int .i64 x2)]), (.agg [(.int .i64 x3), (.int .i64 x4)]), (.agg [(.int .i64 x5), (.int .i64 x6), (.int .i64 x7)])] =
 ((ev (envF (N + 3)) k F_lake_table_evaporated [(.agg [(.sl none [.int .i64, .int .i64] x0)]), (.int .i64 x3), (.int .i64 x2)]).bind fun r1 =>
 (ev (envF (N + 3)) k F_lake_table_bottom [(.agg [(.sl none [.int .i64, .int .i64] x0)])]).bind fun r2 =>
  cond (decide ((w64 (x3 + (w64 ((w64 (x5 + x7)) - (asI r1))))) < (asI (nth (asA r2) 1))))
   (some (.tup [(.agg [(.int .i64 (0 : Int)), (.int .i64 (0 : Int))]), (.agg [(.int .i64 (0 : Int)), (.int .i64 (0 : Int))]), (.bool (false))]))
   ((ev (envF (N + 3)) k F_lake_table_top [(.agg [(.sl none [.int .i64, .int .i64] x0)])]).bind fun r4 =>
    (ev (envF (N + 3)) k F_lake_table_evaporated [(.agg [(.sl none [.int .i64, .int .i64] x1)]), (.int .i64 x4), (.int .i64 x2)]).bind fun r5 =>
     (ev (envF (N + 3)) k F_lake_table_bottom [(.agg [(.sl none [.int .i64, .int .i64] x1)])]).bind fun r6 =>
      cond (decide ((w64 (x4 + (w64 ((w64 (x6 - x7)) - (asI r5))))) < (asI (nth (asA r6) 1))))
       (some (.tup [(.agg [(.int .i64 (0 : Int)), (.int .i64 (0 : Int))]), (.agg [(.int .i64 (0 : Int)), (.int .i64 (0 : Int))]), (.bool (false))]))
       ((ev (envF (N + 3)) k F_lake_table_top [(.agg [(.sl none [.int .i64, .int .i64] x1)])]).bind fun r8 =>
        some (.tup [(.agg [(.int .i64 (w64 ((w64 (x3 + (w64 ((w64 (x5 + x7)) - (asI r1))))) - (imax (0 : Int) (w64 ((w64 (x3 + (w64 ((w64 (x5 + x7)) - (asI r1))))) - (asI (nth (asA r4) 1)))))))), (.int .i64 (w64 ((w64 (x4 + (w64 ((w64 (x6 - x7)) - (asI r5))))) - (imax (0 : Int) (w64 ((w64 (x4 + (w64 ((w64 (x6 - x7)) - (asI r5))))) - (asI (nth (asA r8) 1))))))))]), (.agg [(.int .i64 (w64 ((w64 ((0 : Int) + (asI r1))) + (asI r5)))), (.int .i64 (w64 ((w64 ((0 : Int) + (imax (0 : Int) (w64 ((w64 (x3 + (w64 ((w64 (x5 + x7)) - (asI r1))))) - (asI (nth (asA r4) 1))))))) + (imax (0 : Int) (w64 ((w64 (x4 + (w64 ((w64 (x6 - x7)) - (asI r5))))) - (asI (nth (asA r8) 1))))))))]), (.bool (true))])))) := by kernel_rfl

theorem E_lake_table_bottom (N k : Nat) (x0 : List (List PV)) : ev (envF N) (k + 1) F_lake_table_bottom [(.agg [(.sl none [.int .i64, .int .i64] x0)])] =
 (cond (decide ((0 : Int) < ((List.length x0) : Int)))
 (some (.agg [(.int .i64 (asI (nth (nths x0 (Int.toNat (0 : Int))) 0))), (.int .i64 (asI (nth (nths x0 (Int.toNat (0 : Int))) 1)))]))
 (none)) := by kernel_rfl

theorem E_lake_table_top (N k : Nat) (x0 : List (List PV)) : ev (envF N) (k + 1) F_lake_table_top [(.agg [(.sl none [.int .i64, .int .i64] x0)])] =
 (cond (decide ((0 : Int) ≤ (w64 (((List.length x0) : Int) - (1 : Int)))))
 (cond (decide ((w64 (((List.length x0) : Int) - (1 : Int))) < ((List.length x0) : Int)))
  (some (.agg [(.int .i64 (asI (nth (nths x0 (Int.toNat (w64 ((x0.length : Int) - (1 : Int))))) 0))), (.int .i64 (asI (nth (nths x0 (Int.toNat (w64 ((x0.length : Int) - (1 : Int))))) 1)))]))
  (none))
 (none)) := by kernel_rfl

/-- Loop 4 of lake_ticksErr. -/
noncomputable def L_lake_ticksErr_4 (N k n4  : Nat) (x0 : List (List PV)) (x1 : Int) (x2 : Int) : Option PV := loopAt (envF N) (ev (envF N) k) (evI (envF N) k) F_lake_ticksErr Go.Proofs.Tryz.f56 [.r, .r, .l, .r, .b] n4 { slots := (und 9 ((.sl none [.int .i64, .int .i64, .int .i64] x0) :: (.int .i64 x1) :: (.int .i64 x2) :: und 9 [])), boxes := (nos 21 []), vers := List.replicate 21 0 }
theorem L_lake_ticksErr_4_eq (N k n4  : Nat) (x0 : List (List PV)) (x1 : Int) (x2 : Int) : L_lake_ticksErr_4 N k (n4 + 1)  x0 x1 x2 =
 (cond (decide (x2 < x1))
 (cond (decide ((0 : Int) ≤ x2))
  (cond (decide (x2 < ((List.length x0) : Int)))
   ((ev (envF N) k F_lake_flowsErr [(.agg [(.int .i64 (asI (nth (nths x0 (Int.toNat x2)) 0))), (.int .i64 (asI (nth (nths x0 (Int.toNat x2)) 1))), (.int .i64 (asI (nth (nths x0 (Int.toNat x2)) 2)))])]).bind fun r4 =>
    cond (!(decide ((asI r4) = (0 : Int))))
     (some (.int .i64 (asI r4)))
     (L_lake_ticksErr_4 N k n4  x0 x1 (w64 (x2 + (1 : Int)))))
   (none))
  (none))
 (some (.int .i64 (0 : Int)))) := by kernel_rfl
theorem E_lake_ticksErr (N k : Nat) (x0 : List (List PV)) : ev (envF N) (k + 1) F_lake_ticksErr [(.sl none [.int .i64, .int .i64, .int .i64] x0)] =
 (cond (decide ((200 : Int) < ((List.length x0) : Int)))
 (some (.int .i64 (8 : Int)))
 (L_lake_ticksErr_4 N k N  x0 ((List.length x0) : Int) (0 : Int))) := by kernel_rfl

/-- The loop over an iterator 5 of lake_pair_watch_c1. -/
noncomputable def R_lake_pair_watch_c1_5 (N k : Nat) (rest : List (List PV)) (x0 : List (List PV)) (x1 : List (List PV)) (x2 : Int) (x3 : List (List PV)) (x4 : Int) (x5 : Int) (x6 : Int) (x7 : Int) (x8 : Int) (x9 : Int) (x10 : Int) (x11 : Int) (x12 : Int) (x13 : Int) (x14 : Int) (x15 : Int) (x16 : List (List PV)) (x17 : List (List PV)) (x18 : Int) : Option (List (List PV)) := rangeAtI (envF (N + 3)) (ev (envF (N + 3)) k) (evI (envF (N + 3)) k) F_lake_pair_watch_c1 Go.Proofs.Tryz.f57 [.r, .r, .r, .r, .b] [] rest { slots := ((PV.yld) :: (.rp [(.sl none [.int .i64, .int .i64] x0), (.sl none [.int .i64, .int .i64] x1), (.int .i64 x2)] 0) :: (.ptr 2 0) :: (.rp [(.fn F_slices_Values_LakeFlows_c1 [(.rp [(.sl none [.int .i64, .int .i64, .int .i64] x3)] 0)])] 0) :: (.rp [(.int .i64 x4), (.int .i64 x5), (.int .i64 x6), (.int .i64 x7), (.int .i64 x8), (.int .i64 x9), (.int .i64 x10), (.int .i64 x11), (.int .i64 x12), (.int .i64 x13)] 0) :: (.ptr 5 0) :: (.ptr 6 0) :: (.ptr 7 0) :: und 94 []), boxes := (nos 2 ((some (.cells [(.int .i64 x14), (.int .i64 x15)] false)) :: nos 2 ((some (.cells [(PV.yld)] false)) :: (some (.cells [(.sl (some (24, 0)) [.int .i64, .int .i64, .int .i64] x16), (.sl (some (31, 0)) [.int .i64, .int .i64, .int .i64] x17)] false)) :: (some (.cells [(.int .i64 x18)] false)) :: nos 94 []))), vers := List.replicate 102 0 }
theorem R_lake_pair_watch_c1_5_eq0 (N k : Nat) (rest : List (List PV)) (x0 : List (List PV)) (x1 : List (List PV)) (x2 : Int) (x3 : List (List PV)) (x4 : Int) (x5 : Int) (x6 : Int) (x7 : Int) (x8 : Int) (x9 : Int) (x10 : Int) (x11 : Int) (x12 : Int) (x13 : Int) (x14 : Int) (x15 : Int) (x16 : List (List PV)) (x17 : List (List PV)) (x18 : Int) (y0 : Int) (y1 : Int) (y2 : Int) : R_lake_pair_watch_c1_5 N k ([(.agg [(.int .i64 y0), (.int .i64 y1), (.int .i64 y2)])] :: rest) x0 x1 x2 x3 x4 x5 x6 x7 x8 x9 x10 x11 x12 x13 x14 x15 x16 x17 x18 =
 ((ev (envF (N + 3)) k F_lake_pair_step [(.agg [(.sl none [.int .i64, .int .i64] x0), (.sl none [.int .i64, .int .i64] x1), (.int .i64 x2)]), (.agg [(.int .i64 x14), (.int .i64 x15)]), (.agg [(.int .i64 y0), (.int .i64 y1), (.int .i64 y2)])]).bind fun r1 =>
 cond (!(asB (nth (asT r1) 2)))
  (emitI [(.bool (false)), .nilp]
   (some [])
   (some []))
  ((ev (envF (N + 3)) k F_lake_table_levelAt [(.agg [(.sl none [.int .i64, .int .i64] x0)]), (.int .i64 (asI (nth (asA (nth (asT r1) 0)) 0)))]).bind fun r3 =>
   cond (room x16 [[(.int .i64 (asI (nth (asA r3) 0))), (.int .i64 (asI (nth (asA r3) 1))), (.int .i64 (asI (nth (asA r3) 2)))]] 24)
    ((ev (envF (N + 3)) k F_lake_violated [(.agg [(.int .i64 x4), (.int .i64 x5), (.int .i64 x6), (.int .i64 x7), (.int .i64 x8)]), (.sl none [.int .i64, .int .i64, .int .i64] (x16 ++ [[(.int .i64 (asI (nth (asA r3) 0))), (.int .i64 (asI (nth (asA r3) 1))), (.int .i64 (asI (nth (asA r3) 2)))]]))]).bind fun r5 =>
     cond (asB (nth (asT r5) 1))
      ((ev (envF (N + 3)) k F_lake_table_levelAt [(.agg [(.sl none [.int .i64, .int .i64] x1)]), (.int .i64 (asI (nth (asA (nth (asT r1) 0)) 1)))]).bind fun r7 =>
       cond (room x17 [[(.int .i64 (asI (nth (asA r7) 0))), (.int .i64 (asI (nth (asA r7) 1))), (.int .i64 (asI (nth (asA r7) 2)))]] 24)
        ((ev (envF (N + 3)) k F_lake_violated [(.agg [(.int .i64 x9), (.int .i64 x10), (.int .i64 x11), (.int .i64 x12), (.int .i64 x13)]), (.sl none [.int .i64, .int .i64, .int .i64] (x17 ++ [[(.int .i64 (asI (nth (asA r7) 0))), (.int .i64 (asI (nth (asA r7) 1))), (.int .i64 (asI (nth (asA r7) 2)))]]))]).bind fun r9 =>
         cond (asB (nth (asT r9) 1))
          (emitI [(.bool (true)), (.rp [(.int .i64 (w64 (x18 + (1 : Int)))), (.int .i64 (0 : Int)), (.int .i64 (asI (nth (asT r5) 0)))] 0)]
           (R_lake_pair_watch_c1_5 N k rest x0 x1 x2 x3 x4 x5 x6 x7 x8 x9 x10 x11 x12 x13 (asI (nth (asA (nth (asT r1) 0)) 0)) (asI (nth (asA (nth (asT r1) 0)) 1)) (x16 ++ [[(.int .i64 (asI (nth (asA r3) 0))), (.int .i64 (asI (nth (asA r3) 1))), (.int .i64 (asI (nth (asA r3) 2)))]]) (x17 ++ [[(.int .i64 (asI (nth (asA r7) 0))), (.int .i64 (asI (nth (asA r7) 1))), (.int .i64 (asI (nth (asA r7) 2)))]]) (w64 (x18 + (1 : Int))))
           (some []))
          (emitI [(.bool (true)), (.rp [(.int .i64 (w64 (x18 + (1 : Int)))), (.int .i64 (0 : Int)), (.int .i64 (asI (nth (asT r5) 0)))] 0)]
           (R_lake_pair_watch_c1_5 N k rest x0 x1 x2 x3 x4 x5 x6 x7 x8 x9 x10 x11 x12 x13 (asI (nth (asA (nth (asT r1) 0)) 0)) (asI (nth (asA (nth (asT r1) 0)) 1)) (x16 ++ [[(.int .i64 (asI (nth (asA r3) 0))), (.int .i64 (asI (nth (asA r3) 1))), (.int .i64 (asI (nth (asA r3) 2)))]]) (x17 ++ [[(.int .i64 (asI (nth (asA r7) 0))), (.int .i64 (asI (nth (asA r7) 1))), (.int .i64 (asI (nth (asA r7) 2)))]]) (w64 (x18 + (1 : Int))))
           (some [])))
        (none))
      ((ev (envF (N + 3)) k F_lake_table_levelAt [(.agg [(.sl none [.int .i64, .int .i64] x1)]), (.int .i64 (asI (nth (asA (nth (asT r1) 0)) 1)))]).bind fun r7 =>
       cond (room x17 [[(.int .i64 (asI (nth (asA r7) 0))), (.int .i64 (asI (nth (asA r7) 1))), (.int .i64 (asI (nth (asA r7) 2)))]] 24)
        ((ev (envF (N + 3)) k F_lake_violated [(.agg [(.int .i64 x9), (.int .i64 x10), (.int .i64 x11), (.int .i64 x12), (.int .i64 x13)]), (.sl none [.int .i64, .int .i64, .int .i64] (x17 ++ [[(.int .i64 (asI (nth (asA r7) 0))), (.int .i64 (asI (nth (asA r7) 1))), (.int .i64 (asI (nth (asA r7) 2)))]]))]).bind fun r9 =>
         cond (asB (nth (asT r9) 1))
          (emitI [(.bool (true)), (.rp [(.int .i64 (w64 (x18 + (1 : Int)))), (.int .i64 (w64 ((0 : Int) + (1 : Int)))), (.int .i64 (asI (nth (asT r9) 0)))] 0)]
           (R_lake_pair_watch_c1_5 N k rest x0 x1 x2 x3 x4 x5 x6 x7 x8 x9 x10 x11 x12 x13 (asI (nth (asA (nth (asT r1) 0)) 0)) (asI (nth (asA (nth (asT r1) 0)) 1)) (x16 ++ [[(.int .i64 (asI (nth (asA r3) 0))), (.int .i64 (asI (nth (asA r3) 1))), (.int .i64 (asI (nth (asA r3) 2)))]]) (x17 ++ [[(.int .i64 (asI (nth (asA r7) 0))), (.int .i64 (asI (nth (asA r7) 1))), (.int .i64 (asI (nth (asA r7) 2)))]]) (w64 (x18 + (1 : Int))))
           (some []))
          (emitI [(.bool (true)), .nilp]
           (R_lake_pair_watch_c1_5 N k rest x0 x1 x2 x3 x4 x5 x6 x7 x8 x9 x10 x11 x12 x13 (asI (nth (asA (nth (asT r1) 0)) 0)) (asI (nth (asA (nth (asT r1) 0)) 1)) (x16 ++ [[(.int .i64 (asI (nth (asA r3) 0))), (.int .i64 (asI (nth (asA r3) 1))), (.int .i64 (asI (nth (asA r3) 2)))]]) (x17 ++ [[(.int .i64 (asI (nth (asA r7) 0))), (.int .i64 (asI (nth (asA r7) 1))), (.int .i64 (asI (nth (asA r7) 2)))]]) (w64 (x18 + (1 : Int))))
           (some [])))
        (none)))
    (none))) := by kernel_rfl
theorem R_lake_pair_watch_c1_5_end (N k : Nat) (x0 : List (List PV)) (x1 : List (List PV)) (x2 : Int) (x3 : List (List PV)) (x4 : Int) (x5 : Int) (x6 : Int) (x7 : Int) (x8 : Int) (x9 : Int) (x10 : Int) (x11 : Int) (x12 : Int) (x13 : Int) (x14 : Int) (x15 : Int) (x16 : List (List PV)) (x17 : List (List PV)) (x18 : Int) : R_lake_pair_watch_c1_5 N k [] x0 x1 x2 x3 x4 x5 x6 x7 x8 x9 x10 x11 x12 x13 x14 x15 x16 x17 x18 =
 (some []) := by kernel_rfl
theorem E_lake_pair_watch_c1 (N k : Nat) (x0 : List (List PV)) (x1 : List (List PV)) (x2 : Int) (x3 : Int) (x4 : Int) (x5 : Int) (x6 : Int) (x7 : Int) (x8 : Int) (x9 : Int) (x10 : Int) (x11 : Int) (x12 : Int) (x13 : Int) (x14 : Int) (x15 : List (List PV)) : evI (envF (N + 3)) (k + 1) F_lake_pair_watch_c1 [(.rp [(.sl none [.int .i64, .int .i64] x0), (.sl none [.int .i64, .int .i64] x1), (.int .i64 x2)] 0)] (some [(.int .i64 x3), (.int .i64 x4)]) [(.rp [(.fn F_slices_Values_LakeFlows_c1 [(.rp [(.sl none [.int .i64, .int .i64, .int .i64] x15)] 0)])] 0), (.rp [(.int .i64 x5), (.int .i64 x6), (.int .i64 x7), (.int .i64 x8), (.int .i64 x9), (.int .i64 x10), (.int .i64 x11), (.int .i64 x12), (.int .i64 x13), (.int .i64 x14)] 0)] =
 ((ev (envF (N + 3)) k F_lake_table_levelAt [(.agg [(.sl none [.int .i64, .int .i64] x0)]), (.int .i64 x3)]).bind fun r1 =>
 (ev (envF (N + 3)) k F_lake_table_levelAt [(.agg [(.sl none [.int .i64, .int .i64] x1)]), (.int .i64 x4)]).bind fun r2 =>
  (evI (envF (N + 3)) k F_slices_Values_LakeFlows_c1 [(.rp [(.sl none [.int .i64, .int .i64, .int .i64] x15)] 0)] none []).bind fun r3 =>
   R_lake_pair_watch_c1_5 N k r3 x0 x1 x2 x15 x5 x6 x7 x8 x9 x10 x11 x12 x13 x14 x3 x4 [[(.int .i64 (asI (nth (asA r1) 0))), (.int .i64 (asI (nth (asA r1) 1))), (.int .i64 (asI (nth (asA r1) 2)))]] [[(.int .i64 (asI (nth (asA r2) 0))), (.int .i64 (asI (nth (asA r2) 1))), (.int .i64 (asI (nth (asA r2) 2)))]] (0 : Int)) := by kernel_rfl

theorem E_lake_violated (N k : Nat) (x0 : Int) (x1 : Int) (x2 : Int) (x3 : Int) (x4 : Int) (x5 : List (List PV)) : ev (envF N) (k + 1) F_lake_violated [(.agg [(.int .i64 x0), (.int .i64 x1), (.int .i64 x2), (.int .i64 x3), (.int .i64 x4)]), (.sl none [.int .i64, .int .i64, .int .i64] x5)] =
 (cond (decide ((0 : Int) ≤ (w64 (((List.length x5) : Int) - (1 : Int)))))
 (cond (decide ((w64 (((List.length x5) : Int) - (1 : Int))) < ((List.length x5) : Int)))
  (cond (decide ((0 : Int) ≤ (imax (0 : Int) (w64 ((w64 (((List.length x5) : Int) - (1 : Int))) - x4)))))
   (cond (decide ((imax (0 : Int) (w64 ((w64 (((List.length x5) : Int) - (1 : Int))) - x4))) < ((List.length x5) : Int)))
    ((ev (envF N) k F_lake_whole [(.int .i64 x0)]).bind fun r5 =>
     (ev (envF N) k F_lake_height_above [(.agg [(.int .i64 (asI (nth (asA r5) 0))), (.int .i64 (asI (nth (asA r5) 1))), (.int .i64 (asI (nth (asA r5) 2)))]), (.agg [(.int .i64 (asI (nth (nths x5 (Int.toNat (w64 ((x5.length : Int) - (1 : Int))))) 0))), (.int .i64 (asI (nth (nths x5 (Int.toNat (w64 ((x5.length : Int) - (1 : Int))))) 1))), (.int .i64 (asI (nth (nths x5 (Int.toNat (w64 ((x5.length : Int) - (1 : Int))))) 2)))]), (.int .i64 (0 : Int))]).bind fun r6 =>
      (ev (envF N) k F_lake_whole [(.int .i64 x1)]).bind fun r7 =>
       (ev (envF N) k F_lake_height_above [(.agg [(.int .i64 (asI (nth (nths x5 (Int.toNat (w64 ((x5.length : Int) - (1 : Int))))) 0))), (.int .i64 (asI (nth (nths x5 (Int.toNat (w64 ((x5.length : Int) - (1 : Int))))) 1))), (.int .i64 (asI (nth (nths x5 (Int.toNat (w64 ((x5.length : Int) - (1 : Int))))) 2)))]), (.agg [(.int .i64 (asI (nth (asA r7) 0))), (.int .i64 (asI (nth (asA r7) 1))), (.int .i64 (asI (nth (asA r7) 2)))]), (.int .i64 (0 : Int))]).bind fun r8 =>
        (ev (envF N) k F_lake_height_above [(.agg [(.int .i64 (asI (nth (nths x5 (Int.toNat (bif true then imax (0 : Int) (w64 (w64 ((x5.length : Int) - (1 : Int)) - x4)) else imin (0 : Int) (w64 (w64 ((x5.length : Int) - (1 : Int)) - x4))))) 0))), (.int .i64 (asI (nth (nths x5 (Int.toNat (bif true then imax (0 : Int) (w64 (w64 ((x5.length : Int) - (1 : Int)) - x4)) else imin (0 : Int) (w64 (w64 ((x5.length : Int) - (1 : Int)) - x4))))) 1))), (.int .i64 (asI (nth (nths x5 (Int.toNat (bif true then imax (0 : Int) (w64 (w64 ((x5.length : Int) - (1 : Int)) - x4)) else imin (0 : Int) (w64 (w64 ((x5.length : Int) - (1 : Int)) - x4))))) 2)))]), (.agg [(.int .i64 (asI (nth (nths x5 (Int.toNat (w64 ((x5.length : Int) - (1 : Int))))) 0))), (.int .i64 (asI (nth (nths x5 (Int.toNat (w64 ((x5.length : Int) - (1 : Int))))) 1))), (.int .i64 (asI (nth (nths x5 (Int.toNat (w64 ((x5.length : Int) - (1 : Int))))) 2)))]), (.int .i64 x2)]).bind fun r9 =>
         (ev (envF N) k F_lake_height_above [(.agg [(.int .i64 (asI (nth (nths x5 (Int.toNat (w64 ((x5.length : Int) - (1 : Int))))) 0))), (.int .i64 (asI (nth (nths x5 (Int.toNat (w64 ((x5.length : Int) - (1 : Int))))) 1))), (.int .i64 (asI (nth (nths x5 (Int.toNat (w64 ((x5.length : Int) - (1 : Int))))) 2)))]), (.agg [(.int .i64 (asI (nth (nths x5 (Int.toNat (bif true then imax (0 : Int) (w64 (w64 ((x5.length : Int) - (1 : Int)) - x4)) else imin (0 : Int) (w64 (w64 ((x5.length : Int) - (1 : Int)) - x4))))) 0))), (.int .i64 (asI (nth (nths x5 (Int.toNat (bif true then imax (0 : Int) (w64 (w64 ((x5.length : Int) - (1 : Int)) - x4)) else imin (0 : Int) (w64 (w64 ((x5.length : Int) - (1 : Int)) - x4))))) 1))), (.int .i64 (asI (nth (nths x5 (Int.toNat (bif true then imax (0 : Int) (w64 (w64 ((x5.length : Int) - (1 : Int)) - x4)) else imin (0 : Int) (w64 (w64 ((x5.length : Int) - (1 : Int)) - x4))))) 2)))]), (.int .i64 x3)]).bind fun r10 =>
          (ev (envF N) k F_slices_Index_bool [(.sl none [.bool] [[(.bool (asB r6))], [(.bool (asB r8))], [(.bool (asB r9))], [(.bool (asB r10))]]), (.bool (true))]).bind fun r11 =>
           some (.tup [(.int .i64 (imax (asI r11) (0 : Int))), (.bool (decide ((0 : Int) ≤ (asI r11))))]))
    (none))
   (none))
  (none))
 (none)) := by kernel_rfl

/-- Loop 6 of ref01_CheckTable. -/
noncomputable def L_ref01_CheckTable_6 (N k n6  : Nat) (x0 : Int) (x1 : List (List PV)) : Option PV := loopAt (envF N) (ev (envF N) k) (evI (envF N) k) F_ref01_CheckTable Go.Proofs.Tryz.f60 [.r, .r, .r, .l, .r, .b] n6 { slots := (und 1 ((.ptr 1 0) :: und 2 ((.int .i64 x0) :: und 71 []))), boxes := (nos 1 ((some (.cells [(.sl none [.int .i64, .int .i64] x1)] false)) :: nos 74 [])), vers := List.replicate 76 0 }
theorem L_ref01_CheckTable_6_eq (N k n6  : Nat) (x0 : Int) (x1 : List (List PV)) : L_ref01_CheckTable_6 N k (n6 + 1)  x0 x1 =
 (cond (decide (x0 < ((List.length x1) : Int)))
 (cond (decide ((0 : Int) ≤ x0))
  (cond (decide (x0 < ((List.length x1) : Int)))
   ((ev (envF N) k F_base_Within [(.int .i64 (asI (nth (nths x1 (Int.toNat x0)) 0))), (.int .i64 (0 : Int)), (.int .i64 (1000000 : Int))]).bind fun r4 =>
    cond (!(asB r4))
     (some (.tup [(.int .i64 x0), (.int .i64 (2 : Int))]))
     ((ev (envF N) k F_base_Within [(.int .i64 (asI (nth (nths x1 (Int.toNat x0)) 1))), (.int .i64 (0 : Int)), (.int .i64 (1000000000 : Int))]).bind fun r6 =>
      cond (!(asB r6))
       (some (.tup [(.int .i64 x0), (.int .i64 (2 : Int))]))
       (cond (decide (x0 = (0 : Int)))
        (L_ref01_CheckTable_6 N k n6  (w64 (x0 + (1 : Int))) x1)
        (cond (decide ((0 : Int) ≤ (w64 (x0 - (1 : Int)))))
         (cond (decide ((w64 (x0 - (1 : Int))) < ((List.length x1) : Int)))
          (cond (decide ((asI (nth (nths x1 (Int.toNat x0)) 0)) ≤ (asI (nth (nths x1 (Int.toNat (w64 (x0 - (1 : Int))))) 0))))
           (some (.tup [(.int .i64 x0), (.int .i64 (9 : Int))]))
           (cond (decide ((0 : Int) ≤ (w64 (x0 - (1 : Int)))))
            (cond (decide ((w64 (x0 - (1 : Int))) < ((List.length x1) : Int)))
             (cond (decide ((asI (nth (nths x1 (Int.toNat x0)) 1)) ≤ (asI (nth (nths x1 (Int.toNat (w64 (x0 - (1 : Int))))) 1))))
              (some (.tup [(.int .i64 x0), (.int .i64 (9 : Int))]))
              (cond (decide ((1 : Int) < x0))
               ((ev (envF N) k F_ref01_piece [(.agg [(.sl none [.int .i64, .int .i64] x1)]), (.int .i64 x0)]).bind fun r16 =>
                (ev (envF N) k F_ref01_piece [(.agg [(.sl none [.int .i64, .int .i64] x1)]), (.int .i64 (w64 (x0 - (1 : Int))))]).bind fun r17 =>
                 (ev (envF N) k F_base_RatioCmp [(.agg [(.int .i64 (asI (nth (asA r16) 0))), (.sl none [.int .i64] (asL (nth (asA r16) 1))), (.int .i64 (asI (nth (asA r16) 2))), (.sl none [.int .i64] (asL (nth (asA r16) 3)))]), (.agg [(.int .i64 (asI (nth (asA r17) 0))), (.sl none [.int .i64] (asL (nth (asA r17) 1))), (.int .i64 (asI (nth (asA r17) 2))), (.sl none [.int .i64] (asL (nth (asA r17) 3)))])]).bind fun r18 =>
                  cond (decide ((asI r18) < (0 : Int)))
                   (some (.tup [(.int .i64 x0), (.int .i64 (22 : Int))]))
                   (L_ref01_CheckTable_6 N k n6  (w64 (x0 + (1 : Int))) x1))
               (L_ref01_CheckTable_6 N k n6  (w64 (x0 + (1 : Int))) x1)))
             (none))
            (none)))
          (none))
         (none)))))
   (none))
  (none))
 (some (.tup [(.int .i64 (0 : Int)), (.int .i64 (0 : Int))]))) := by kernel_rfl
theorem E_ref01_CheckTable (N k : Nat) (x0 : List (List PV)) : ev (envF N) (k + 1) F_ref01_CheckTable [(.agg [(.sl none [.int .i64, .int .i64] x0)])] =
 (cond (decide (((List.length x0) : Int) < (2 : Int)))
 (some (.tup [(.int .i64 (0 : Int)), (.int .i64 (10 : Int))]))
 (cond (decide ((10 : Int) < ((List.length x0) : Int)))
  (some (.tup [(.int .i64 (0 : Int)), (.int .i64 (8 : Int))]))
  (L_ref01_CheckTable_6 N k N  (0 : Int) x0))) := by kernel_rfl

theorem E_ref01_IsLevel (N k : Nat) (x0 : List (List PV)) (x1 : Int) : ev (envF N) (k + 1) F_ref01_IsLevel [(.agg [(.sl none [.int .i64, .int .i64] x0)]), (.int .i64 x1)] =
 ((ev (envF N) k F_ref01_Bottom [(.agg [(.sl none [.int .i64, .int .i64] x0)])]).bind fun r1 =>
 (ev (envF N) k F_ref01_Top [(.agg [(.sl none [.int .i64, .int .i64] x0)])]).bind fun r2 =>
  (ev (envF N) k F_base_Within [(.int .i64 x1), (.int .i64 (asI (nth (asA r1) 0))), (.int .i64 (asI (nth (asA r2) 0)))]).bind fun r3 =>
   some (.bool (asB r3))) := by kernel_rfl

theorem E_lake_CheckPair (N k : Nat) (x0 : List (List PV)) (x1 : List (List PV)) (x2 : Int) : ev (envF N) (k + 1) F_lake_CheckPair [(.agg [(.sl none [.int .i64, .int .i64] x0), (.sl none [.int .i64, .int .i64] x1), (.int .i64 x2)])] =
 ((ev (envF N) k F_lake_tableErr [(.agg [(.sl none [.int .i64, .int .i64] x0)])]).bind fun r1 =>
 (ev (envF N) k F_lake_tableErr [(.agg [(.sl none [.int .i64, .int .i64] x1)])]).bind fun r2 =>
  (ev (envF N) k F_lake_within [(.int .i64 x2), (.int .i64 (0 : Int)), (.int .i64 (1000 : Int))]).bind fun r3 =>
   (ev (envF N) k F_lake_unless [(.bool (asB r3)), (.int .i64 (2 : Int))]).bind fun r4 =>
    (ev (envF N) k F_lake_first [(.sl none [.int .i64] [[(.int .i64 (asI r1))], [(.int .i64 (asI r2))], [(.int .i64 (asI r4))]])]).bind fun r5 =>
     some (.int .i64 (asI r5))) := by kernel_rfl

theorem E_lake_table_limitErr (N k : Nat) (x0 : List (List PV)) (x1 : Int) (x2 : Int) (x3 : Int) (x4 : Int) (x5 : Int) : ev (envF N) (k + 1) F_lake_table_limitErr [(.agg [(.sl none [.int .i64, .int .i64] x0)]), (.agg [(.int .i64 x1), (.int .i64 x2), (.int .i64 x3), (.int .i64 x4), (.int .i64 x5)])] =
 ((ev (envF N) k F_lake_table_limitErr_c1 [(.int .i64 x1), (.rp [(.sl none [.int .i64, .int .i64] x0)] 0)]).bind fun r1 =>
 cond (asB r1)
  ((ev (envF N) k F_lake_table_limitErr_c1 [(.int .i64 x2), (.rp [(.sl none [.int .i64, .int .i64] x0)] 0)]).bind fun r3 =>
   cond (asB r3)
    ((ev (envF N) k F_lake_table_limitErr_c2 [(.int .i64 x3)]).bind fun r5 =>
     cond (asB r5)
      ((ev (envF N) k F_lake_table_limitErr_c2 [(.int .i64 x4)]).bind fun r7 =>
       cond (asB r7)
        ((ev (envF N) k F_lake_within [(.int .i64 x5), (.int .i64 (1 : Int)), (.int .i64 (200 : Int))]).bind fun r9 =>
         (ev (envF N) k F_lake_unless [(.bool (asB r9)), (.int .i64 (2 : Int))]).bind fun r10 =>
          (ev (envF N) k F_lake_unless [(.bool (decide (x1 ≤ x2))), (.int .i64 (9 : Int))]).bind fun r11 =>
           (ev (envF N) k F_lake_first [(.sl none [.int .i64] [[(.int .i64 (asI r10))], [(.int .i64 (asI r11))]])]).bind fun r12 =>
            some (.int .i64 (asI r12)))
        ((ev (envF N) k F_lake_unless [(.bool (false)), (.int .i64 (2 : Int))]).bind fun r9 =>
         (ev (envF N) k F_lake_unless [(.bool (decide (x1 ≤ x2))), (.int .i64 (9 : Int))]).bind fun r10 =>
          (ev (envF N) k F_lake_first [(.sl none [.int .i64] [[(.int .i64 (asI r9))], [(.int .i64 (asI r10))]])]).bind fun r11 =>
           some (.int .i64 (asI r11))))
      ((ev (envF N) k F_lake_unless [(.bool (false)), (.int .i64 (2 : Int))]).bind fun r7 =>
       (ev (envF N) k F_lake_unless [(.bool (decide (x1 ≤ x2))), (.int .i64 (9 : Int))]).bind fun r8 =>
        (ev (envF N) k F_lake_first [(.sl none [.int .i64] [[(.int .i64 (asI r7))], [(.int .i64 (asI r8))]])]).bind fun r9 =>
         some (.int .i64 (asI r9))))
    ((ev (envF N) k F_lake_unless [(.bool (false)), (.int .i64 (2 : Int))]).bind fun r5 =>
     (ev (envF N) k F_lake_unless [(.bool (decide (x1 ≤ x2))), (.int .i64 (9 : Int))]).bind fun r6 =>
      (ev (envF N) k F_lake_first [(.sl none [.int .i64] [[(.int .i64 (asI r5))], [(.int .i64 (asI r6))]])]).bind fun r7 =>
       some (.int .i64 (asI r7))))
  ((ev (envF N) k F_lake_unless [(.bool (false)), (.int .i64 (2 : Int))]).bind fun r3 =>
   (ev (envF N) k F_lake_unless [(.bool (decide (x1 ≤ x2))), (.int .i64 (9 : Int))]).bind fun r4 =>
    (ev (envF N) k F_lake_first [(.sl none [.int .i64] [[(.int .i64 (asI r3))], [(.int .i64 (asI r4))]])]).bind fun r5 =>
     some (.int .i64 (asI r5)))) := by kernel_rfl

theorem E_ref01_IsVolume (N k : Nat) (x0 : List (List PV)) (x1 : Int) : ev (envF N) (k + 1) F_ref01_IsVolume [(.agg [(.sl none [.int .i64, .int .i64] x0)]), (.int .i64 x1)] =
 ((ev (envF N) k F_ref01_Bottom [(.agg [(.sl none [.int .i64, .int .i64] x0)])]).bind fun r1 =>
 (ev (envF N) k F_ref01_Top [(.agg [(.sl none [.int .i64, .int .i64] x0)])]).bind fun r2 =>
  (ev (envF N) k F_base_Within [(.int .i64 x1), (.int .i64 (asI (nth (asA r1) 1))), (.int .i64 (asI (nth (asA r2) 1)))]).bind fun r3 =>
   some (.bool (asB r3))) := by kernel_rfl

theorem E_ref01_FlowsErr (N k : Nat) (x0 : Int) (x1 : Int) (x2 : Int) : ev (envF N) (k + 1) F_ref01_FlowsErr [(.agg [(.int .i64 x0), (.int .i64 x1), (.int .i64 x2)])] =
 ((ev (envF N) k F_base_Within [(.int .i64 x0), (.int .i64 (0 : Int)), (.int .i64 (10000000 : Int))]).bind fun r1 =>
 cond (!(asB r1))
  (some (.int .i64 (2 : Int)))
  ((ev (envF N) k F_base_Within [(.int .i64 x1), (.int .i64 (0 : Int)), (.int .i64 (10000000 : Int))]).bind fun r3 =>
   cond (!(asB r3))
    (some (.int .i64 (2 : Int)))
    ((ev (envF N) k F_base_Within [(.int .i64 x2), (.int .i64 (-10000000 : Int)), (.int .i64 (10000000 : Int))]).bind fun r5 =>
     cond (!(asB r5))
      (some (.int .i64 (2 : Int)))
      (some (.int .i64 (0 : Int)))))) := by kernel_rfl

theorem E_ref01_Step (N k : Nat) (x0 : List (List PV)) (x1 : List (List PV)) (x2 : Int) (x3 : Int) (x4 : Int) (x5 : Int) (x6 : Int) (x7 : Int) : ev (envF N) (k + 1) F_ref01_Step [(.agg [(.sl none [.int .i64, .int .i64] x0), (.sl none [.int .i64, .int .i64] x1), (.int .i64 x2)]), (.agg [(.int .i64 x3), (.int .i64 x4)]), (.agg [(.int .i64 x5), (.int .i64 x6), (.int .i64 x7)])] =
 ((ev (envF N) k F_ref01_evaporated [(.agg [(.sl none [.int .i64, .int .i64] x0)]), (.int .i64 x2), (.int .i64 x3)]).bind fun r1 =>
 (ev (envF N) k F_ref01_evaporated [(.agg [(.sl none [.int .i64, .int .i64] x1)]), (.int .i64 x2), (.int .i64 x4)]).bind fun r2 =>
  (ev (envF N) k F_ref01_Bottom [(.agg [(.sl none [.int .i64, .int .i64] x0)])]).bind fun r3 =>
   cond (decide ((w64 ((w64 ((w64 (x3 - (asI r1))) + x5)) + x7)) < (asI (nth (asA r3) 1))))
    (some (.tup [(.agg [(.int .i64 (0 : Int)), (.int .i64 (0 : Int))]), (.agg [(.int .i64 (0 : Int)), (.int .i64 (0 : Int))]), (.bool (false))]))
    ((ev (envF N) k F_ref01_Bottom [(.agg [(.sl none [.int .i64, .int .i64] x1)])]).bind fun r5 =>
     cond (decide ((w64 ((w64 ((w64 (x4 - (asI r2))) + x6)) - x7)) < (asI (nth (asA r5) 1))))
      (some (.tup [(.agg [(.int .i64 (0 : Int)), (.int .i64 (0 : Int))]), (.agg [(.int .i64 (0 : Int)), (.int .i64 (0 : Int))]), (.bool (false))]))
      ((ev (envF N) k F_ref01_Top [(.agg [(.sl none [.int .i64, .int .i64] x0)])]).bind fun r7 =>
       (ev (envF N) k F_ref01_Top [(.agg [(.sl none [.int .i64, .int .i64] x1)])]).bind fun r8 =>
        some (.tup [(.agg [(.int .i64 (w64 ((w64 ((w64 ((w64 (x3 - (asI r1))) + x5)) + x7)) - (imax (0 : Int) (w64 ((w64 ((w64 ((w64 (x3 - (asI r1))) + x5)) + x7)) - (asI (nth (asA r7) 1)))))))), (.int .i64 (w64 ((w64 ((w64 ((w64 (x4 - (asI r2))) + x6)) - x7)) - (imax (0 : Int) (w64 ((w64 ((w64 ((w64 (x4 - (asI r2))) + x6)) - x7)) - (asI (nth (asA r8) 1))))))))]), (.agg [(.int .i64 (w64 ((asI r1) + (asI r2)))), (.int .i64 (w64 ((imax (0 : Int) (w64 ((w64 ((w64 ((w64 (x3 - (asI r1))) + x5)) + x7)) - (asI (nth (asA r7) 1))))) + (imax (0 : Int) (w64 ((w64 ((w64 ((w64 (x4 - (asI r2))) + x6)) - x7)) - (asI (nth (asA r8) 1))))))))]), (.bool (true))])))) := by kernel_rfl

theorem E_ref01_tableOf (N k : Nat) (x0 : List (List PV)) (x1 : List (List PV)) (x2 : Int) (x3 : Int) : ev (envF N) (k + 1) F_ref01_tableOf [(.agg [(.sl none [.int .i64, .int .i64] x0), (.sl none [.int .i64, .int .i64] x1), (.int .i64 x2)]), (.int .i64 x3)] =
 (cond (decide (x3 = (0 : Int)))
 (some (.agg [(.sl none [.int .i64, .int .i64] x0)]))
 (some (.agg [(.sl none [.int .i64, .int .i64] x1)]))) := by kernel_rfl

theorem E_ref01_limitOf (N k : Nat) (x0 : Int) (x1 : Int) (x2 : Int) (x3 : Int) (x4 : Int) (x5 : Int) (x6 : Int) (x7 : Int) (x8 : Int) (x9 : Int) (x10 : Int) : ev (envF N) (k + 1) F_ref01_limitOf [(.agg [(.int .i64 x0), (.int .i64 x1), (.int .i64 x2), (.int .i64 x3), (.int .i64 x4), (.int .i64 x5), (.int .i64 x6), (.int .i64 x7), (.int .i64 x8), (.int .i64 x9)]), (.int .i64 x10)] =
 (cond (decide (x10 = (0 : Int)))
 (some (.agg [(.int .i64 x0), (.int .i64 x1), (.int .i64 x2), (.int .i64 x3), (.int .i64 x4)]))
 (some (.agg [(.int .i64 x5), (.int .i64 x6), (.int .i64 x7), (.int .i64 x8), (.int .i64 x9)]))) := by kernel_rfl

theorem E_ref01_Level (N k : Nat) (x0 : List (List PV)) (x1 : Int) : ev (envF N) (k + 1) F_ref01_Level [(.agg [(.sl none [.int .i64, .int .i64] x0)]), (.int .i64 x1)] =
 ((ev (envF N) k F_ref01_above [(.agg [(.sl none [.int .i64, .int .i64] x0)]), (.int .i64 x1)]).bind fun r1 =>
 cond (decide ((0 : Int) ≤ (w64 ((asI r1) - (1 : Int)))))
  (cond (decide ((w64 ((asI r1) - (1 : Int))) < ((List.length x0) : Int)))
   ((ev (envF N) k F_base_RatioInt [(.int .i64 (asI (nth (nths x0 (Int.toNat (w64 (asI r1 - (1 : Int))))) 0)))]).bind fun r4 =>
    (ev (envF N) k F_base_RatioInt [(.int .i64 (w64 (x1 - (asI (nth (nths x0 (Int.toNat (w64 (asI r1 - (1 : Int))))) 1)))))]).bind fun r5 =>
     (ev (envF N) k F_ref01_piece [(.agg [(.sl none [.int .i64, .int .i64] x0)]), (.int .i64 (asI r1))]).bind fun r6 =>
      (ev (envF N) k F_base_RatioDiv [(.agg [(.int .i64 (asI (nth (asA r5) 0))), (.sl none [.int .i64] (asL (nth (asA r5) 1))), (.int .i64 (asI (nth (asA r5) 2))), (.sl none [.int .i64] (asL (nth (asA r5) 3)))]), (.agg [(.int .i64 (asI (nth (asA r6) 0))), (.sl none [.int .i64] (asL (nth (asA r6) 1))), (.int .i64 (asI (nth (asA r6) 2))), (.sl none [.int .i64] (asL (nth (asA r6) 3)))])]).bind fun r7 =>
       (ev (envF N) k F_base_RatioAdd [(.agg [(.int .i64 (asI (nth (asA r4) 0))), (.sl none [.int .i64] (asL (nth (asA r4) 1))), (.int .i64 (asI (nth (asA r4) 2))), (.sl none [.int .i64] (asL (nth (asA r4) 3)))]), (.agg [(.int .i64 (asI (nth (asA r7) 0))), (.sl none [.int .i64] (asL (nth (asA r7) 1))), (.int .i64 (asI (nth (asA r7) 2))), (.sl none [.int .i64] (asL (nth (asA r7) 3)))])]).bind fun r8 =>
        some (.agg [(.int .i64 (asI (nth (asA r8) 0))), (.sl none [.int .i64] (asL (nth (asA r8) 1))), (.int .i64 (asI (nth (asA r8) 2))), (.sl none [.int .i64] (asL (nth (asA r8) 3)))]))
   (none))
  (none)) := by kernel_rfl

theorem E_ref01_volumeOf (N k : Nat) (x0 : Int) (x1 : Int) (x2 : Int) : ev (envF N) (k + 1) F_ref01_volumeOf [(.agg [(.int .i64 x0), (.int .i64 x1)]), (.int .i64 x2)] =
 (cond (decide (x2 = (0 : Int)))
 (some (.int .i64 x0))
 (some (.int .i64 x1))) := by kernel_rfl

theorem E_base_RatioCmp (N k : Nat) (x0 : Int) (x1 : List (List PV)) (x2 : Int) (x3 : List (List PV)) (x4 : Int) (x5 : List (List PV)) (x6 : Int) (x7 : List (List PV)) : ev (envF N) (k + 1) F_base_RatioCmp [(.agg [(.int .i64 x0), (.sl none [.int .i64] x1), (.int .i64 x2), (.sl none [.int .i64] x3)]), (.agg [(.int .i64 x4), (.sl none [.int .i64] x5), (.int .i64 x6), (.sl none [.int .i64] x7)])] =
 ((ev (envF N) k F_base_WideMul [(.agg [(.int .i64 x0), (.sl none [.int .i64] x1)]), (.agg [(.int .i64 x6), (.sl none [.int .i64] x7)])]).bind fun r1 =>
 (ev (envF N) k F_base_WideMul [(.agg [(.int .i64 x4), (.sl none [.int .i64] x5)]), (.agg [(.int .i64 x2), (.sl none [.int .i64] x3)])]).bind fun r2 =>
  (ev (envF N) k F_base_WideCmp [(.agg [(.int .i64 (asI (nth (asA r1) 0))), (.sl none [.int .i64] (asL (nth (asA r1) 1)))]), (.agg [(.int .i64 (asI (nth (asA r2) 0))), (.sl none [.int .i64] (asL (nth (asA r2) 1)))])]).bind fun r3 =>
   some (.int .i64 (asI r3))) := by kernel_rfl

theorem E_base_RatioInt (N k : Nat) (x0 : Int) : ev (envF N) (k + 1) F_base_RatioInt [(.int .i64 x0)] =
 ((ev (envF N) k F_base_WideOf [(.int .i64 x0)]).bind fun r1 =>
 (ev (envF N) k F_base_WideOf [(.int .i64 (1 : Int))]).bind fun r2 =>
  some (.agg [(.int .i64 (asI (nth (asA r1) 0))), (.sl none [.int .i64] (asL (nth (asA r1) 1))), (.int .i64 (asI (nth (asA r2) 0))), (.sl none [.int .i64] (asL (nth (asA r2) 1)))])) := by kernel_rfl

theorem E_base_RatioSub (N k : Nat) (x0 : Int) (x1 : List (List PV)) (x2 : Int) (x3 : List (List PV)) (x4 : Int) (x5 : List (List PV)) (x6 : Int) (x7 : List (List PV)) : ev (envF N) (k + 1) F_base_RatioSub [(.agg [(.int .i64 x0), (.sl none [.int .i64] x1), (.int .i64 x2), (.sl none [.int .i64] x3)]), (.agg [(.int .i64 x4), (.sl none [.int .i64] x5), (.int .i64 x6), (.sl none [.int .i64] x7)])] =
 ((ev (envF N) k F_base_RatioNeg [(.agg [(.int .i64 x4), (.sl none [.int .i64] x5), (.int .i64 x6), (.sl none [.int .i64] x7)])]).bind fun r1 =>
 (ev (envF N) k F_base_RatioAdd [(.agg [(.int .i64 x0), (.sl none [.int .i64] x1), (.int .i64 x2), (.sl none [.int .i64] x3)]), (.agg [(.int .i64 (asI (nth (asA r1) 0))), (.sl none [.int .i64] (asL (nth (asA r1) 1))), (.int .i64 (asI (nth (asA r1) 2))), (.sl none [.int .i64] (asL (nth (asA r1) 3)))])]).bind fun r2 =>
  some (.agg [(.int .i64 (asI (nth (asA r2) 0))), (.sl none [.int .i64] (asL (nth (asA r2) 1))), (.int .i64 (asI (nth (asA r2) 2))), (.sl none [.int .i64] (asL (nth (asA r2) 3)))])) := by kernel_rfl

theorem E_lake_tableErr (N k : Nat) (x0 : List (List PV)) : ev (envF N) (k + 1) F_lake_tableErr [(.agg [(.sl none [.int .i64, .int .i64] x0)])] =
 ((ev (envF N) k F_lake_CheckTable [(.agg [(.sl none [.int .i64, .int .i64] x0)])]).bind fun r1 =>
 some (.int .i64 (asI (nth (asT r1) 1)))) := by kernel_rfl

theorem E_lake_table_holds (N k : Nat) (x0 : List (List PV)) (x1 : Int) : ev (envF N) (k + 1) F_lake_table_holds [(.agg [(.sl none [.int .i64, .int .i64] x0)]), (.int .i64 x1)] =
 ((ev (envF N) k F_lake_table_bottom [(.agg [(.sl none [.int .i64, .int .i64] x0)])]).bind fun r1 =>
 (ev (envF N) k F_lake_table_top [(.agg [(.sl none [.int .i64, .int .i64] x0)])]).bind fun r2 =>
  (ev (envF N) k F_lake_within [(.int .i64 x1), (.int .i64 (asI (nth (asA r1) 1))), (.int .i64 (asI (nth (asA r2) 1)))]).bind fun r3 =>
   some (.bool (asB r3))) := by kernel_rfl

theorem E_lake_table_byVolume (N k : Nat) (x0 : List (List PV)) (x1 : Int) : ev (envF N) (k + 1) F_lake_table_byVolume [(.agg [(.sl none [.int .i64, .int .i64] x0)]), (.int .i64 x1)] =
 ((ev (envF N) k F_lake_table_pieceTo [(.agg [(.sl none [.int .i64, .int .i64] x0)]), (.fn F_lake_table_byVolume_c1 [(.rp [(.int .i64 x1)] 0)])]).bind fun r1 =>
 some (.agg [(.int .i64 (asI (nth (asA r1) 0))), (.int .i64 (asI (nth (asA r1) 1))), (.int .i64 (asI (nth (asA r1) 2))), (.int .i64 (asI (nth (asA r1) 3)))])) := by kernel_rfl

theorem E_lake_piece_height (N k : Nat) (x0 : Int) (x1 : Int) (x2 : Int) (x3 : Int) : ev (envF N) (k + 1) F_lake_piece_height [(.agg [(.int .i64 x0), (.int .i64 x1), (.int .i64 x2), (.int .i64 x3)])] =
 (some (.int .i64 (w64 (x2 - x0)))) := by kernel_rfl

theorem E_lake_piece_volume (N k : Nat) (x0 : Int) (x1 : Int) (x2 : Int) (x3 : Int) : ev (envF N) (k + 1) F_lake_piece_volume [(.agg [(.int .i64 x0), (.int .i64 x1), (.int .i64 x2), (.int .i64 x3)])] =
 (some (.int .i64 (w64 (x3 - x1)))) := by kernel_rfl

theorem E_lake_pair_stateErr (N k : Nat) (x0 : List (List PV)) (x1 : List (List PV)) (x2 : Int) (x3 : Int) (x4 : Int) : ev (envF N) (k + 1) F_lake_pair_stateErr [(.agg [(.sl none [.int .i64, .int .i64] x0), (.sl none [.int .i64, .int .i64] x1), (.int .i64 x2)]), (.agg [(.int .i64 x3), (.int .i64 x4)])] =
 ((ev (envF N) k F_lake_table_holds [(.agg [(.sl none [.int .i64, .int .i64] x0)]), (.int .i64 x3)]).bind fun r1 =>
 cond (asB r1)
  ((ev (envF N) k F_lake_table_holds [(.agg [(.sl none [.int .i64, .int .i64] x1)]), (.int .i64 x4)]).bind fun r3 =>
   (ev (envF N) k F_lake_unless [(.bool (asB r3)), (.int .i64 (2 : Int))]).bind fun r4 =>
    some (.int .i64 (asI r4)))
  ((ev (envF N) k F_lake_unless [(.bool (false)), (.int .i64 (2 : Int))]).bind fun r3 =>
   some (.int .i64 (asI r3)))) := by kernel_rfl

theorem E_lake_flowsErr_c1 (N k : Nat) (x0 : Int) : ev (envF N) (k + 1) F_lake_flowsErr_c1 [(.int .i64 x0)] =
 ((ev (envF N) k F_lake_within [(.int .i64 x0), (.int .i64 (0 : Int)), (.int .i64 (10000000 : Int))]).bind fun r1 =>
 some (.bool (asB r1))) := by kernel_rfl

theorem E_lake_within (N k : Nat) (x0 : Int) (x1 : Int) (x2 : Int) : ev (envF N) (k + 1) F_lake_within [(.int .i64 x0), (.int .i64 x1), (.int .i64 x2)] =
 (cond (decide (x1 ≤ x0))
 (some (.bool (decide (x0 ≤ x2))))
 (some (.bool (false)))) := by kernel_rfl

theorem E_lake_table_evaporated (N k : Nat) (x0 : List (List PV)) (x1 : Int) (x2 : Int) : ev (envF N) (k + 1) F_lake_table_evaporated [(.agg [(.sl none [.int .i64, .int .i64] x0)]), (.int .i64 x1), (.int .i64 x2)] =
 ((ev (envF N) k F_lake_table_byVolume [(.agg [(.sl none [.int .i64, .int .i64] x0)]), (.int .i64 x1)]).bind fun r1 =>
 (ev (envF N) k F_lake_piece_volume [(.agg [(.int .i64 (asI (nth (asA r1) 0))), (.int .i64 (asI (nth (asA r1) 1))), (.int .i64 (asI (nth (asA r1) 2))), (.int .i64 (asI (nth (asA r1) 3)))])]).bind fun r2 =>
  (ev (envF N) k F_lake_piece_height [(.agg [(.int .i64 (asI (nth (asA r1) 0))), (.int .i64 (asI (nth (asA r1) 1))), (.int .i64 (asI (nth (asA r1) 2))), (.int .i64 (asI (nth (asA r1) 3)))])]).bind fun r3 =>
   cond (!(decide ((w64 ((1000 : Int) * (asI r3))) = (0 : Int))))
    ((ev (envF N) k F_lake_table_bottom [(.agg [(.sl none [.int .i64, .int .i64] x0)])]).bind fun r5 =>
     some (.int .i64 (imin (w64 (Int.tdiv (w64 (x2 * (asI r2))) (w64 ((1000 : Int) * (asI r3))))) (w64 (x1 - (asI (nth (asA r5) 1)))))))
    (none)) := by kernel_rfl

theorem E_lake_whole (N k : Nat) (x0 : Int) : ev (envF N) (k + 1) F_lake_whole [(.int .i64 x0)] =
 (some (.agg [(.int .i64 x0), (.int .i64 (0 : Int)), (.int .i64 (1 : Int))])) := by kernel_rfl

theorem E_lake_height_above (N k : Nat) (x0 : Int) (x1 : Int) (x2 : Int) (x3 : Int) (x4 : Int) (x5 : Int) (x6 : Int) : ev (envF N) (k + 1) F_lake_height_above [(.agg [(.int .i64 x0), (.int .i64 x1), (.int .i64 x2)]), (.agg [(.int .i64 x3), (.int .i64 x4), (.int .i64 x5)]), (.int .i64 x6)] =
 (cond (!(decide ((w64 ((w64 (x0 - x3)) - x6)) = (0 : Int))))
 (some (.bool (decide ((0 : Int) < (w64 ((w64 (x0 - x3)) - x6))))))
 (some (.bool (decide ((w64 (x4 * x2)) < (w64 (x1 * x5))))))) := by kernel_rfl

/-- Loop 2 of slices_Index_bool. -/
noncomputable def L_slices_Index_bool_2 (N k n2  : Nat) (x0 : List (List PV)) (x1 : Bool) (x2 : Int) (x3 : Int) : Option PV := loopAt (envF N) (ev (envF N) k) (evI (envF N) k) F_slices_Index_bool Go.Proofs.Tryz.f89 [.r, .l, .r, .b] n2 { slots := ((.sl none [.bool] x0) :: (.bool x1) :: und 5 ((.int .i64 x2) :: (.int .i64 x3) :: und 10 [])), boxes := (nos 19 []), vers := List.replicate 19 0 }
theorem L_slices_Index_bool_2_eq (N k n2  : Nat) (x0 : List (List PV)) (x1 : Bool) (x2 : Int) (x3 : Int) : L_slices_Index_bool_2 N k (n2 + 1)  x0 x1 x2 x3 =
 (cond (decide (x3 < x2))
 (cond (decide ((0 : Int) ≤ x3))
  (cond (decide (x3 < ((List.length x0) : Int)))
   (cond (x1 == asB (nth (nths x0 (Int.toNat x3)) 0))
    (some (.int .i64 x3))
    (L_slices_Index_bool_2 N k n2  x0 x1 x2 (w64 (x3 + (1 : Int)))))
   (none))
  (none))
 (some (.int .i64 (-1 : Int)))) := by kernel_rfl
theorem E_slices_Index_bool (N k : Nat) (x0 : List (List PV)) (x1 : Bool) : ev (envF N) (k + 1) F_slices_Index_bool [(.sl none [.bool] x0), (.bool x1)] =
 (L_slices_Index_bool_2 N k N  x0 x1 ((List.length x0) : Int) (0 : Int)) := by kernel_rfl

theorem E_ref01_piece (N k : Nat) (x0 : List (List PV)) (x1 : Int) : ev (envF N) (k + 1) F_ref01_piece [(.agg [(.sl none [.int .i64, .int .i64] x0)]), (.int .i64 x1)] =
 (cond (decide ((0 : Int) ≤ (w64 (x1 - (1 : Int)))))
 (cond (decide ((w64 (x1 - (1 : Int))) < ((List.length x0) : Int)))
  (cond (decide ((0 : Int) ≤ x1))
   (cond (decide (x1 < ((List.length x0) : Int)))
    ((ev (envF N) k F_base_RatioOf [(.int .i64 (w64 ((asI (nth (nths x0 (Int.toNat x1)) 1)) - (asI (nth (nths x0 (Int.toNat (w64 (x1 - (1 : Int))))) 1))))), (.int .i64 (w64 ((asI (nth (nths x0 (Int.toNat x1)) 0)) - (asI (nth (nths x0 (Int.toNat (w64 (x1 - (1 : Int))))) 0)))))]).bind fun r5 =>
     some (.agg [(.int .i64 (asI (nth (asA r5) 0))), (.sl none [.int .i64] (asL (nth (asA r5) 1))), (.int .i64 (asI (nth (asA r5) 2))), (.sl none [.int .i64] (asL (nth (asA r5) 3)))]))
    (none))
   (none))
  (none))
 (none)) := by kernel_rfl

theorem E_lake_table_limitErr_c1 (N k : Nat) (x0 : Int) (x1 : List (List PV)) : ev (envF N) (k + 1) F_lake_table_limitErr_c1 [(.int .i64 x0), (.rp [(.sl none [.int .i64, .int .i64] x1)] 0)] =
 ((ev (envF N) k F_lake_table_bottom [(.agg [(.sl none [.int .i64, .int .i64] x1)])]).bind fun r1 =>
 (ev (envF N) k F_lake_table_top [(.agg [(.sl none [.int .i64, .int .i64] x1)])]).bind fun r2 =>
  (ev (envF N) k F_lake_within [(.int .i64 x0), (.int .i64 (asI (nth (asA r1) 0))), (.int .i64 (asI (nth (asA r2) 0)))]).bind fun r3 =>
   some (.bool (asB r3))) := by kernel_rfl

theorem E_lake_table_limitErr_c2 (N k : Nat) (x0 : Int) : ev (envF N) (k + 1) F_lake_table_limitErr_c2 [(.int .i64 x0)] =
 ((ev (envF N) k F_lake_within [(.int .i64 x0), (.int .i64 (0 : Int)), (.int .i64 (1000000 : Int))]).bind fun r1 =>
 some (.bool (asB r1))) := by kernel_rfl

theorem E_ref01_evaporated (N k : Nat) (x0 : List (List PV)) (x1 : Int) (x2 : Int) : ev (envF N) (k + 1) F_ref01_evaporated [(.agg [(.sl none [.int .i64, .int .i64] x0)]), (.int .i64 x1), (.int .i64 x2)] =
 ((ev (envF N) k F_ref01_above [(.agg [(.sl none [.int .i64, .int .i64] x0)]), (.int .i64 x2)]).bind fun r1 =>
 (ev (envF N) k F_base_RatioInt [(.int .i64 x1)]).bind fun r2 =>
  (ev (envF N) k F_ref01_piece [(.agg [(.sl none [.int .i64, .int .i64] x0)]), (.int .i64 (asI r1))]).bind fun r3 =>
   (ev (envF N) k F_base_RatioMul [(.agg [(.int .i64 (asI (nth (asA r2) 0))), (.sl none [.int .i64] (asL (nth (asA r2) 1))), (.int .i64 (asI (nth (asA r2) 2))), (.sl none [.int .i64] (asL (nth (asA r2) 3)))]), (.agg [(.int .i64 (asI (nth (asA r3) 0))), (.sl none [.int .i64] (asL (nth (asA r3) 1))), (.int .i64 (asI (nth (asA r3) 2))), (.sl none [.int .i64] (asL (nth (asA r3) 3)))])]).bind fun r4 =>
    (ev (envF N) k F_base_RatioInt [(.int .i64 (1000 : Int))]).bind fun r5 =>
     (ev (envF N) k F_base_RatioDiv [(.agg [(.int .i64 (asI (nth (asA r4) 0))), (.sl none [.int .i64] (asL (nth (asA r4) 1))), (.int .i64 (asI (nth (asA r4) 2))), (.sl none [.int .i64] (asL (nth (asA r4) 3)))]), (.agg [(.int .i64 (asI (nth (asA r5) 0))), (.sl none [.int .i64] (asL (nth (asA r5) 1))), (.int .i64 (asI (nth (asA r5) 2))), (.sl none [.int .i64] (asL (nth (asA r5) 3)))])]).bind fun r6 =>
      (ev (envF N) k F_ref01_rounded [(.agg [(.int .i64 (asI (nth (asA r6) 0))), (.sl none [.int .i64] (asL (nth (asA r6) 1))), (.int .i64 (asI (nth (asA r6) 2))), (.sl none [.int .i64] (asL (nth (asA r6) 3)))])]).bind fun r7 =>
       (ev (envF N) k F_ref01_Bottom [(.agg [(.sl none [.int .i64, .int .i64] x0)])]).bind fun r8 =>
        some (.int .i64 (imin (asI (nth (asA r7) 0)) (w64 (x2 - (asI (nth (asA r8) 1))))))) := by kernel_rfl

/-- Loop 2 of ref01_above. -/
noncomputable def L_ref01_above_2 (N k n2  : Nat) (x0 : Int) (x1 : Int) (x2 : List (List PV)) : Option PV := loopAt (envF N) (ev (envF N) k) (evI (envF N) k) F_ref01_above Go.Proofs.Tryz.f94 [.r, .r, .l, .b] n2 { slots := (und 1 ((.int .i64 x0) :: (.ptr 2 0) :: und 2 ((.int .i64 x1) :: und 11 []))), boxes := (nos 2 ((some (.cells [(.sl none [.int .i64, .int .i64] x2)] false)) :: nos 14 [])), vers := List.replicate 17 0 }
theorem L_ref01_above_2_eq (N k n2  : Nat) (x0 : Int) (x1 : Int) (x2 : List (List PV)) : L_ref01_above_2 N k (n2 + 1)  x0 x1 x2 =
 (cond (decide ((0 : Int) ≤ x1))
 (cond (decide (x1 < ((List.length x2) : Int)))
  (cond (decide ((asI (nth (nths x2 (Int.toNat x1)) 1)) < x0))
   (L_ref01_above_2 N k n2  x0 (w64 (x1 + (1 : Int))) x2)
   (some (.int .i64 x1)))
  (none))
 (none)) := by kernel_rfl
theorem E_ref01_above (N k : Nat) (x0 : List (List PV)) (x1 : Int) : ev (envF N) (k + 1) F_ref01_above [(.agg [(.sl none [.int .i64, .int .i64] x0)]), (.int .i64 x1)] =
 (L_ref01_above_2 N k N  x1 (1 : Int) x0) := by kernel_rfl

theorem E_base_RatioAdd (N k : Nat) (x0 : Int) (x1 : List (List PV)) (x2 : Int) (x3 : List (List PV)) (x4 : Int) (x5 : List (List PV)) (x6 : Int) (x7 : List (List PV)) : ev (envF N) (k + 1) F_base_RatioAdd [(.agg [(.int .i64 x0), (.sl none [.int .i64] x1), (.int .i64 x2), (.sl none [.int .i64] x3)]), (.agg [(.int .i64 x4), (.sl none [.int .i64] x5), (.int .i64 x6), (.sl none [.int .i64] x7)])] =
 ((ev (envF N) k F_base_WideMul [(.agg [(.int .i64 x0), (.sl none [.int .i64] x1)]), (.agg [(.int .i64 x6), (.sl none [.int .i64] x7)])]).bind fun r1 =>
 (ev (envF N) k F_base_WideMul [(.agg [(.int .i64 x4), (.sl none [.int .i64] x5)]), (.agg [(.int .i64 x2), (.sl none [.int .i64] x3)])]).bind fun r2 =>
  (ev (envF N) k F_base_WideAdd [(.agg [(.int .i64 (asI (nth (asA r1) 0))), (.sl none [.int .i64] (asL (nth (asA r1) 1)))]), (.agg [(.int .i64 (asI (nth (asA r2) 0))), (.sl none [.int .i64] (asL (nth (asA r2) 1)))])]).bind fun r3 =>
   (ev (envF N) k F_base_WideMul [(.agg [(.int .i64 x2), (.sl none [.int .i64] x3)]), (.agg [(.int .i64 x6), (.sl none [.int .i64] x7)])]).bind fun r4 =>
    (ev (envF N) k F_base_RatioMake [(.agg [(.int .i64 (asI (nth (asA r3) 0))), (.sl none [.int .i64] (asL (nth (asA r3) 1)))]), (.agg [(.int .i64 (asI (nth (asA r4) 0))), (.sl none [.int .i64] (asL (nth (asA r4) 1)))])]).bind fun r5 =>
     some (.agg [(.int .i64 (asI (nth (asA r5) 0))), (.sl none [.int .i64] (asL (nth (asA r5) 1))), (.int .i64 (asI (nth (asA r5) 2))), (.sl none [.int .i64] (asL (nth (asA r5) 3)))])) := by kernel_rfl

theorem E_base_RatioDiv (N k : Nat) (x0 : Int) (x1 : List (List PV)) (x2 : Int) (x3 : List (List PV)) (x4 : Int) (x5 : List (List PV)) (x6 : Int) (x7 : List (List PV)) : ev (envF N) (k + 1) F_base_RatioDiv [(.agg [(.int .i64 x0), (.sl none [.int .i64] x1), (.int .i64 x2), (.sl none [.int .i64] x3)]), (.agg [(.int .i64 x4), (.sl none [.int .i64] x5), (.int .i64 x6), (.sl none [.int .i64] x7)])] =
 ((ev (envF N) k F_base_WideMul [(.agg [(.int .i64 x0), (.sl none [.int .i64] x1)]), (.agg [(.int .i64 x6), (.sl none [.int .i64] x7)])]).bind fun r1 =>
 (ev (envF N) k F_base_WideMul [(.agg [(.int .i64 x2), (.sl none [.int .i64] x3)]), (.agg [(.int .i64 x4), (.sl none [.int .i64] x5)])]).bind fun r2 =>
  (ev (envF N) k F_base_RatioMake [(.agg [(.int .i64 (asI (nth (asA r1) 0))), (.sl none [.int .i64] (asL (nth (asA r1) 1)))]), (.agg [(.int .i64 (asI (nth (asA r2) 0))), (.sl none [.int .i64] (asL (nth (asA r2) 1)))])]).bind fun r3 =>
   some (.agg [(.int .i64 (asI (nth (asA r3) 0))), (.sl none [.int .i64] (asL (nth (asA r3) 1))), (.int .i64 (asI (nth (asA r3) 2))), (.sl none [.int .i64] (asL (nth (asA r3) 3)))])) := by kernel_rfl

theorem E_base_WideCmp (N k : Nat) (x0 : Int) (x1 : List (List PV)) (x2 : Int) (x3 : List (List PV)) : ev (envF N) (k + 1) F_base_WideCmp [(.agg [(.int .i64 x0), (.sl none [.int .i64] x1)]), (.agg [(.int .i64 x2), (.sl none [.int .i64] x3)])] =
 ((ev (envF N) k F_base_WideSub [(.agg [(.int .i64 x0), (.sl none [.int .i64] x1)]), (.agg [(.int .i64 x2), (.sl none [.int .i64] x3)])]).bind fun r1 =>
 some (.int .i64 (asI (nth (asA r1) 0)))) := by kernel_rfl

/-- Loop 3 of base_WideMul. -/
noncomputable def L_base_WideMul_3 (N k n3  : Nat) (x0 : Int) (x1 : Int) (x2 : List (List PV)) (x3 : Int) (x4 : List (List PV)) (x5 : Int) (x6 : List (List PV)) (x7 : List (List PV)) : Option PV := loopAt (envF N) (ev (envF N) k) (evI (envF N) k) F_base_WideMul Go.Proofs.Tryz.f98 [.r, .r, .l, .r, .b] n3 { slots := (und 2 ((.ptr 2 0) :: (.ptr 3 0) :: (.ptr 4 0) :: (.row 18) :: (.int .i64 x0) :: und 79 [])), boxes := (nos 2 ((some (.cells [(.int .i64 x1), (.sl none [.int .i64] x2)] false)) :: (some (.cells [(.int .i64 x3), (.sl none [.int .i64] x4)] false)) :: (some (.cells [(.int .i64 x5), (.sl none [.int .i64] x6)] false)) :: nos 13 ((some (.row [.int .i64] x7 false)) :: nos 67 []))), vers := List.replicate 86 0 }
/-- Loop 7 of base_WideMul. -/
noncomputable def L_base_WideMul_7 (N k n7 n3 : Nat) (x0 : Int) (x1 : Int) (x2 : Int) (x3 : Int) (x4 : List (List PV)) (x5 : Int) (x6 : List (List PV)) (x7 : Int) (x8 : List (List PV)) (x9 : List (List PV)) : Option PV := loopAt (envF N) (ev (envF N) k) (evI (envF N) k) F_base_WideMul Go.Proofs.Tryz.f98 [.r, .r, .l, .r, .b, .p n3, .r, .l, .b, .r, .l, .r, .b] n7 { slots := (und 2 ((.ptr 2 0) :: (.ptr 3 0) :: (.ptr 4 0) :: (.row 18) :: (.int .i64 x0) :: (.int .i64 x1) :: (.int .i64 x2) :: und 77 [])), boxes := (nos 2 ((some (.cells [(.int .i64 x3), (.sl none [.int .i64] x4)] false)) :: (some (.cells [(.int .i64 x5), (.sl none [.int .i64] x6)] false)) :: (some (.cells [(.int .i64 x7), (.sl none [.int .i64] x8)] false)) :: nos 13 ((some (.row [.int .i64] x9 false)) :: nos 67 []))), vers := List.replicate 86 0 }
theorem L_base_WideMul_3_eq (N k n3  : Nat) (x0 : Int) (x1 : Int) (x2 : List (List PV)) (x3 : Int) (x4 : List (List PV)) (x5 : Int) (x6 : List (List PV)) (x7 : List (List PV)) : L_base_WideMul_3 N k (n3 + 1)  x0 x1 x2 x3 x4 x5 x6 x7 =
 (cond (decide (x0 < ((List.length x2) : Int)))
 (L_base_WideMul_7 N k N n3 x0 (0 : Int) (0 : Int) x1 x2 x3 x4 x5 x6 x7)
 ((ev (envF N) k F_base_wideOf [(.int .i64 (w64 (x1 * x3))), (.sl none [.int .i64] x7)]).bind fun r2 =>
  some (.agg [(.int .i64 (asI (nth (asA r2) 0))), (.sl none [.int .i64] (asL (nth (asA r2) 1)))]))) := by kernel_rfl
theorem L_base_WideMul_7_eq (N k n7 n3 : Nat) (x0 : Int) (x1 : Int) (x2 : Int) (x3 : Int) (x4 : List (List PV)) (x5 : Int) (x6 : List (List PV)) (x7 : Int) (x8 : List (List PV)) (x9 : List (List PV)) : L_base_WideMul_7 N k (n7 + 1) n3 x0 x1 x2 x3 x4 x5 x6 x7 x8 x9 =
 (cond (decide (x2 < ((List.length x6) : Int)))
 (cond (decide ((0 : Int) ≤ (w64 (x0 + x2))))
  (cond (decide ((w64 (x0 + x2)) < ((List.length x9) : Int)))
   (cond (decide ((0 : Int) ≤ x0))
    (cond (decide (x0 < ((List.length x4) : Int)))
     (cond (decide ((0 : Int) ≤ x2))
      (cond (decide (x2 < ((List.length x6) : Int)))
       (cond (decide ((0 : Int) ≤ (w64 (x0 + x2))))
        (cond (decide ((w64 (x0 + x2)) < ((List.length x9) : Int)))
         (L_base_WideMul_7 N k n7 n3 x0 (w64 (Int.tdiv (w64 ((w64 ((asI (nth (nths x9 (Int.toNat (w64 (x0 + x2)))) 0)) + (w64 ((asI (nth (nths x4 (Int.toNat x0)) 0)) * (asI (nth (nths x6 (Int.toNat x2)) 0)))))) + x1)) (1000000000 : Int))) (w64 (x2 + (1 : Int))) x3 x4 x5 x6 x7 x8 (List.set x9 (Int.toNat (w64 (x0 + x2))) (List.set (nths x9 (Int.toNat (w64 (x0 + x2)))) 0 (.int .i64 (Int.tmod (w64 ((w64 ((asI (nth (nths x9 (Int.toNat (w64 (x0 + x2)))) 0)) + (w64 ((asI (nth (nths x4 (Int.toNat x0)) 0)) * (asI (nth (nths x6 (Int.toNat x2)) 0)))))) + x1)) (1000000000 : Int))))))
         (none))
        (none))
       (none))
      (none))
     (none))
    (none))
   (none))
  (none))
 (cond (decide ((0 : Int) ≤ (w64 (x0 + ((List.length x6) : Int)))))
  (cond (decide ((w64 (x0 + ((List.length x6) : Int))) < ((List.length x9) : Int)))
   (cond (decide ((0 : Int) ≤ (w64 (x0 + ((List.length x6) : Int)))))
    (cond (decide ((w64 (x0 + ((List.length x6) : Int))) < ((List.length x9) : Int)))
     (L_base_WideMul_3 N k n3  (w64 (x0 + (1 : Int))) x3 x4 x5 x6 x7 x8 (List.set x9 (Int.toNat (w64 (x0 + (x6.length : Int)))) (List.set (nths x9 (Int.toNat (w64 (x0 + (x6.length : Int))))) 0 (.int .i64 (w64 ((asI (nth (nths x9 (Int.toNat (w64 (x0 + (x6.length : Int))))) 0)) + x1))))))
     (none))
    (none))
   (none))
  (none))) := by kernel_rfl
theorem E_base_WideMul (N k : Nat) (x0 : Int) (x1 : List (List PV)) (x2 : Int) (x3 : List (List PV)) : ev (envF N) (k + 1) F_base_WideMul [(.agg [(.int .i64 x0), (.sl none [.int .i64] x1)]), (.agg [(.int .i64 x2), (.sl none [.int .i64] x3)])] =
 (cond (decide ((w64 ((w64 (((List.length x1) : Int) + ((List.length x3) : Int))) + (1 : Int))) = (w64 ((w64 (((List.length x1) : Int) + ((List.length x3) : Int))) + (1 : Int)))))
 (cond (decide ((0 : Int) ≤ (w64 ((w64 (((List.length x1) : Int) + ((List.length x3) : Int))) + (1 : Int)))))
  (cond (decide (((w64 ((w64 (((List.length x1) : Int) + ((List.length x3) : Int))) + (1 : Int))) * (8 : Int)) ≤ (140737488355328 : Int)))
   (L_base_WideMul_3 N k N  (0 : Int) x0 x1 x2 x3 (0 : Int) [] (List.replicate (Int.toNat (w64 (w64 ((x1.length : Int) + (x3.length : Int)) + (1 : Int)))) ([.int .i64 0])))
   (none))
  (none))
 (none)) := by kernel_rfl

/-- Loop 5 of base_WideOf. -/
noncomputable def L_base_WideOf_5 (N k n5  : Nat) (x0 : Int) (x1 : Int) (x2 : List (List PV)) (x3 : Int) (x4 : List (List PV)) : Option PV := loopAt (envF N) (ev (envF N) k) (evI (envF N) k) F_base_WideOf Go.Proofs.Tryz.f99 [.r, .r, .r, .r, .l, .b] n5 { slots := ((.int .i64 x0) :: und 1 ((.ptr 2 0) :: (.int .i64 x1) :: (.sl (some (4, 0)) [.int .i64] x2) :: und 15 [])), boxes := (nos 2 ((some (.cells [(.int .i64 x3), (.sl none [.int .i64] x4)] false)) :: nos 17 [])), vers := List.replicate 20 0 }
theorem L_base_WideOf_5_eq (N k n5  : Nat) (x0 : Int) (x1 : Int) (x2 : List (List PV)) (x3 : Int) (x4 : List (List PV)) : L_base_WideOf_5 N k (n5 + 1)  x0 x1 x2 x3 x4 =
 (cond (!(decide (x0 = (0 : Int))))
 ((ev (envF N) k F_base_Size [(.int .i64 (Int.tmod x0 (1000000000 : Int)))]).bind fun r2 =>
  cond (room x2 [[(.int .i64 (asI r2))]] 8)
   (L_base_WideOf_5 N k n5  (w64 (Int.tdiv x0 (1000000000 : Int))) x1 (x2 ++ [[(.int .i64 (asI r2))]]) x3 x4)
   (none))
 ((ev (envF N) k F_base_wideOf [(.int .i64 x1), (.sl none [.int .i64] x2)]).bind fun r2 =>
  some (.agg [(.int .i64 (asI (nth (asA r2) 0))), (.sl none [.int .i64] (asL (nth (asA r2) 1)))]))) := by kernel_rfl
theorem E_base_WideOf (N k : Nat) (x0 : Int) : ev (envF N) (k + 1) F_base_WideOf [(.int .i64 x0)] =
 (cond (decide (x0 < (0 : Int)))
 (L_base_WideOf_5 N k N  x0 (-1 : Int) [] (0 : Int) [])
 (L_base_WideOf_5 N k N  x0 (1 : Int) [] (0 : Int) [])) := by kernel_rfl

end Go.PewTab
