/- EQUATIONS OF FUNCTIONS, by the kernel's own reckoning; written by a program. -/
/- THE LAW OF EVERY BEGINNING over the evaluator: it gives true. -/
/- THE ARGUMENTS OF A ROW, OPENED: plain values stand for them. -/
/- FROM A CONTRACT TO A ROW 'returns true; the arguments read as before'. -/
/- THE LAWS' ARGUMENTS as plain data. -/
/- THE LAWS' ARGUMENTS as plain data: this seat's types. -/
/- THE EXAMPLES that every law asks for first: they hold, by the kernel's own reckoning. -/
/- slices.Repeat OF FLOWS: one element, 200 times. -/
import Derived.Test.YtfjnpgbjcgjecabGreatPewG3
import Derived.Test.YtfjnpgbjcgjecabGreatPewG6
import Derived.Deep.Slices
import Derived.OpenShut
import Derived.WalkKit
import Derived.ProofKit
import Derived.ShutString
import Derived.ChangeOld
import Derived.SizedLaws
import Derived.Carry
import Derived.Tactics
import Derived.OwnWalk
import Derived.Laws.CopyOwn
import Derived.Deep.RegionLaw

namespace Go.PewTab
set_option linter.unusedSimpArgs false
set_option linter.unusedVariables false
open Go.Pew Go
set_option maxRecDepth 100000
set_option linter.unusedVariables false

/-- The place 8 of law01_LakeBeginnings. -/
noncomputable def T_law01_LakeBeginnings_8_0 (N k : Nat) (x0 : List (List PV)) (x1 : List (List PV)) (x2 : Int) (x3 : Int) (x4 : Int) (x5 : Int) (x6 : Int) (x7 : Int) (x8 : Int) (x9 : Int) (x10 : Int) (x11 : Int) (x12 : Int) (x13 : Int) (x14 : Int) (x15 : List (List PV)) (x16 : Bool) (x17 : Int) (x18 : Bool) (x19 : Bool) (x20 : List (List PV)) (x21 : List (List PV)) (x22 : Int) (x23 : Bool) (x24 : Bool) (x25 : Bool) (x26 : List (List PV)) (x27 : List (List PV)) (x28 : Int) (x29 : Int) (x30 : Int) (x31 : Int) (x32 : Bool) (x33 : Bool) (x34 : Bool) (x35 : List (List PV)) (x36 : Int) (x37 : Bool) (x38 : Bool) (x39 : Bool) (x40 : List (List PV)) (x41 : Int) (x42 : Bool) (x43 : Bool) (x44 : Bool) (x45 : List (List PV)) (x46 : List (List PV)) (x47 : Int) (x48 : Int) (x49 : Int) (x50 : Int) (x51 : Int) (x52 : Int) (x53 : Int) (x54 : Int) (x55 : Int) (x56 : Int) (x57 : Int) (x58 : List (List PV)) (x59 : Int) (x60 : Bool) (x61 : Bool) (x62 : Int) (x63 : Int) (x64 : Int) (x65 : Int) (x66 : List (List PV)) (x67 : List (List PV)) (x68 : Int) (x69 : List (List PV)) (x70 : List (List PV)) (x71 : Int) (x72 : Int) (x73 : Int) (x74 : Int) (x75 : Int) (x76 : Int) (x77 : Int) (x78 : Int) (x79 : Int) (x80 : Int) (x81 : Int) (x82 : Int) (x83 : Int) (x84 : List (List PV)) (x85 : Int) (x86 : Int) (x87 : Int) (x88 : Int) (x89 : Int) (x90 : Int) (x91 : Int) (x92 : Int) (x93 : Int) (x94 : Int) (x95 : List (List PV)) (x96 : Int) (x97 : Int) (x98 : Int) (x99 : Int) (x100 : Int) (x101 : Int) (x102 : Int) (x103 : Int) (x104 : Int) (x105 : Bool) (x106 : Bool) (x107 : Int) (x108 : Bool) (x109 : Bool) (x110 : Bool) (x111 : Int) (x112 : Bool) (x113 : Bool) (x114 : List (List PV)) (x115 : List (List PV)) (x116 : Int) (x117 : Int) (x118 : Int) (x119 : Int) (x120 : Int) (x121 : Int) (x122 : Int) (x123 : Int) (x124 : Int) (x125 : Int) (x126 : Int) (x127 : Int) (x128 : Int) (x129 : List (List PV)) (x130 : Int) (x131 : Int) (x132 : Int) : Option PV := codeAt (envF N) (ev (envF N) k) (evI (envF N) k) F_law01_LakeBeginnings Go.Proofs.Tryz.f5 [.r, .r, .r, .r, .r] { slots := ((.agg [(.sl none [.int .i64, .int .i64] x0), (.sl none [.int .i64, .int .i64] x1), (.int .i64 x2)]) :: (.agg [(.int .i64 x3), (.int .i64 x4)]) :: (.agg [(.int .i64 x5), (.int .i64 x6), (.int .i64 x7), (.int .i64 x8), (.int .i64 x9), (.int .i64 x10), (.int .i64 x11), (.int .i64 x12), (.int .i64 x13), (.int .i64 x14), (.sl none [.int .i64, .int .i64, .int .i64] x15)]) :: (.ptr 3 0) :: (.ptr 4 0) :: (.ptr 5 0) :: (.bool x16) :: (.ptr 7 0) :: (.int .i64 x17) :: und 15 ((.bool x18) :: (.bool x19) :: (.agg [(.sl none [.int .i64, .int .i64] x20), (.sl none [.int .i64, .int .i64] x21), (.int .i64 x22)]) :: (.bool x23) :: (.bool x24) :: (.bool x25) :: (.agg [(.sl none [.int .i64, .int .i64] x26), (.sl none [.int .i64, .int .i64] x27), (.int .i64 x28)]) :: (.agg [(.int .i64 x29), (.int .i64 x30)]) :: (.int .i64 x31) :: (.bool x32) :: (.bool x33) :: (.bool x34) :: (.ptr 5 10) :: (.sl none [.int .i64, .int .i64, .int .i64] x35) :: (.int .i64 x36) :: (.bool x37) :: (.bool x38) :: (.bool x39) :: (.ptr 5 10) :: (.sl none [.int .i64, .int .i64, .int .i64] x40) :: (.int .i64 x41) :: (.bool x42) :: (.bool x43) :: (.bool x44) :: (.agg [(.sl none [.int .i64, .int .i64] x45), (.sl none [.int .i64, .int .i64] x46), (.int .i64 x47)]) :: (.agg [(.int .i64 x48), (.int .i64 x49), (.int .i64 x50), (.int .i64 x51), (.int .i64 x52), (.int .i64 x53), (.int .i64 x54), (.int .i64 x55), (.int .i64 x56), (.int .i64 x57), (.sl none [.int .i64, .int .i64, .int .i64] x58)]) :: (.int .i64 x59) :: (.bool x60) :: (.bool x61) :: (.tup [(.agg [(.int .i64 x62), (.int .i64 x63), (.int .i64 x64)]), (.int .i64 x65)]) :: (.agg [(.sl none [.int .i64, .int .i64] x66), (.sl none [.int .i64, .int .i64] x67), (.int .i64 x68)]) :: (.agg [(.sl none [.int .i64, .int .i64] x69), (.sl none [.int .i64, .int .i64] x70), (.int .i64 x71)]) :: (.agg [(.int .i64 x72), (.int .i64 x73)]) :: (.agg [(.int .i64 x74), (.int .i64 x75), (.int .i64 x76), (.int .i64 x77), (.int .i64 x78), (.int .i64 x79), (.int .i64 x80), (.int .i64 x81), (.int .i64 x82), (.int .i64 x83), (.sl none [.int .i64, .int .i64, .int .i64] x84)]) :: (.agg [(.int .i64 x85), (.int .i64 x86), (.int .i64 x87), (.int .i64 x88), (.int .i64 x89), (.int .i64 x90), (.int .i64 x91), (.int .i64 x92), (.int .i64 x93), (.int .i64 x94), (.sl none [.int .i64, .int .i64, .int .i64] x95)]) :: (.tup [(.agg [(.int .i64 x96), (.int .i64 x97), (.int .i64 x98)]), (.int .i64 x99)]) :: (.agg [(.int .i64 x100), (.int .i64 x101), (.int .i64 x102)]) :: (.int .i64 x103) :: (.int .i64 x104) :: (.bool x105) :: (.bool x106) :: (.int .i64 x107) :: (.bool x108) :: (.bool x109) :: (.bool x110) :: (.int .i64 x111) :: (.bool x112) :: (.bool x113) :: und 188 [])), boxes := (nos 3 ((some (.cells [(.sl none [.int .i64, .int .i64] x114), (.sl none [.int .i64, .int .i64] x115), (.int .i64 x116)] false)) :: (some (.cells [(.int .i64 x117), (.int .i64 x118)] false)) :: (some (.cells [(.int .i64 x119), (.int .i64 x120), (.int .i64 x121), (.int .i64 x122), (.int .i64 x123), (.int .i64 x124), (.int .i64 x125), (.int .i64 x126), (.int .i64 x127), (.int .i64 x128), (.sl none [.int .i64, .int .i64, .int .i64] x129)] false)) :: nos 1 ((some (.cells [(.int .i64 x130), (.int .i64 x131), (.int .i64 x132)] false)) :: nos 252 []))), vers := List.replicate 260 0 }
/-- The place 8 of law01_LakeBeginnings. -/
noncomputable def T_law01_LakeBeginnings_8_1 (N k : Nat) (x0 : List (List PV)) (x1 : List (List PV)) (x2 : Int) (x3 : Int) (x4 : Int) (x5 : Int) (x6 : Int) (x7 : Int) (x8 : Int) (x9 : Int) (x10 : Int) (x11 : Int) (x12 : Int) (x13 : Int) (x14 : Int) (x15 : List (List PV)) (x16 : Bool) (x17 : Int) (x18 : Bool) (x19 : Bool) (x20 : List (List PV)) (x21 : List (List PV)) (x22 : Int) (x23 : Bool) (x24 : Bool) (x25 : Bool) (x26 : List (List PV)) (x27 : List (List PV)) (x28 : Int) (x29 : Int) (x30 : Int) (x31 : Int) (x32 : Bool) (x33 : Bool) (x34 : Bool) (x35 : List (List PV)) (x36 : Int) (x37 : Bool) (x38 : Bool) (x39 : Bool) (x40 : List (List PV)) (x41 : Int) (x42 : Bool) (x43 : Bool) (x44 : Bool) (x45 : List (List PV)) (x46 : List (List PV)) (x47 : Int) (x48 : Int) (x49 : Int) (x50 : Int) (x51 : Int) (x52 : Int) (x53 : Int) (x54 : Int) (x55 : Int) (x56 : Int) (x57 : Int) (x58 : List (List PV)) (x59 : Int) (x60 : Bool) (x61 : Bool) (x62 : Int) (x63 : Int) (x64 : Int) (x65 : Int) (x66 : List (List PV)) (x67 : List (List PV)) (x68 : Int) (x69 : List (List PV)) (x70 : List (List PV)) (x71 : Int) (x72 : Int) (x73 : Int) (x74 : Int) (x75 : Int) (x76 : Int) (x77 : Int) (x78 : Int) (x79 : Int) (x80 : Int) (x81 : Int) (x82 : Int) (x83 : Int) (x84 : List (List PV)) (x85 : Int) (x86 : Int) (x87 : Int) (x88 : Int) (x89 : Int) (x90 : Int) (x91 : Int) (x92 : Int) (x93 : Int) (x94 : Int) (x95 : List (List PV)) (x96 : Int) (x97 : Int) (x98 : Int) (x99 : Int) (x100 : Int) (x101 : Int) (x102 : Int) (x103 : Int) (x104 : Int) (x105 : Bool) (x106 : Bool) (x107 : Int) (x108 : Bool) (x109 : Bool) (x110 : Bool) (x111 : Bool) (x112 : List (List PV)) (x113 : List (List PV)) (x114 : Int) (x115 : Int) (x116 : Int) (x117 : Int) (x118 : Int) (x119 : Int) (x120 : Int) (x121 : Int) (x122 : Int) (x123 : Int) (x124 : Int) (x125 : Int) (x126 : Int) (x127 : List (List PV)) (x128 : Int) (x129 : Int) (x130 : Int) : Option PV := codeAt (envF N) (ev (envF N) k) (evI (envF N) k) F_law01_LakeBeginnings Go.Proofs.Tryz.f5 [.r, .r, .r, .r, .r] { slots := ((.agg [(.sl none [.int .i64, .int .i64] x0), (.sl none [.int .i64, .int .i64] x1), (.int .i64 x2)]) :: (.agg [(.int .i64 x3), (.int .i64 x4)]) :: (.agg [(.int .i64 x5), (.int .i64 x6), (.int .i64 x7), (.int .i64 x8), (.int .i64 x9), (.int .i64 x10), (.int .i64 x11), (.int .i64 x12), (.int .i64 x13), (.int .i64 x14), (.sl none [.int .i64, .int .i64, .int .i64] x15)]) :: (.ptr 3 0) :: (.ptr 4 0) :: (.ptr 5 0) :: (.bool x16) :: (.ptr 7 0) :: (.int .i64 x17) :: und 15 ((.bool x18) :: (.bool x19) :: (.agg [(.sl none [.int .i64, .int .i64] x20), (.sl none [.int .i64, .int .i64] x21), (.int .i64 x22)]) :: (.bool x23) :: (.bool x24) :: (.bool x25) :: (.agg [(.sl none [.int .i64, .int .i64] x26), (.sl none [.int .i64, .int .i64] x27), (.int .i64 x28)]) :: (.agg [(.int .i64 x29), (.int .i64 x30)]) :: (.int .i64 x31) :: (.bool x32) :: (.bool x33) :: (.bool x34) :: (.ptr 5 10) :: (.sl none [.int .i64, .int .i64, .int .i64] x35) :: (.int .i64 x36) :: (.bool x37) :: (.bool x38) :: (.bool x39) :: (.ptr 5 10) :: (.sl none [.int .i64, .int .i64, .int .i64] x40) :: (.int .i64 x41) :: (.bool x42) :: (.bool x43) :: (.bool x44) :: (.agg [(.sl none [.int .i64, .int .i64] x45), (.sl none [.int .i64, .int .i64] x46), (.int .i64 x47)]) :: (.agg [(.int .i64 x48), (.int .i64 x49), (.int .i64 x50), (.int .i64 x51), (.int .i64 x52), (.int .i64 x53), (.int .i64 x54), (.int .i64 x55), (.int .i64 x56), (.int .i64 x57), (.sl none [.int .i64, .int .i64, .int .i64] x58)]) :: (.int .i64 x59) :: (.bool x60) :: (.bool x61) :: (.tup [(.agg [(.int .i64 x62), (.int .i64 x63), (.int .i64 x64)]), (.int .i64 x65)]) :: (.agg [(.sl none [.int .i64, .int .i64] x66), (.sl none [.int .i64, .int .i64] x67), (.int .i64 x68)]) :: (.agg [(.sl none [.int .i64, .int .i64] x69), (.sl none [.int .i64, .int .i64] x70), (.int .i64 x71)]) :: (.agg [(.int .i64 x72), (.int .i64 x73)]) :: (.agg [(.int .i64 x74), (.int .i64 x75), (.int .i64 x76), (.int .i64 x77), (.int .i64 x78), (.int .i64 x79), (.int .i64 x80), (.int .i64 x81), (.int .i64 x82), (.int .i64 x83), (.sl none [.int .i64, .int .i64, .int .i64] x84)]) :: (.agg [(.int .i64 x85), (.int .i64 x86), (.int .i64 x87), (.int .i64 x88), (.int .i64 x89), (.int .i64 x90), (.int .i64 x91), (.int .i64 x92), (.int .i64 x93), (.int .i64 x94), (.sl none [.int .i64, .int .i64, .int .i64] x95)]) :: (.tup [(.agg [(.int .i64 x96), (.int .i64 x97), (.int .i64 x98)]), (.int .i64 x99)]) :: (.agg [(.int .i64 x100), (.int .i64 x101), (.int .i64 x102)]) :: (.int .i64 x103) :: (.int .i64 x104) :: (.bool x105) :: (.bool x106) :: (.int .i64 x107) :: (.bool x108) :: (.bool x109) :: (.bool x110) :: (.tup []) :: (.tup []) :: (.bool x111) :: und 188 [])), boxes := (nos 3 ((some (.cells [(.sl none [.int .i64, .int .i64] x112), (.sl none [.int .i64, .int .i64] x113), (.int .i64 x114)] false)) :: (some (.cells [(.int .i64 x115), (.int .i64 x116)] false)) :: (some (.cells [(.int .i64 x117), (.int .i64 x118), (.int .i64 x119), (.int .i64 x120), (.int .i64 x121), (.int .i64 x122), (.int .i64 x123), (.int .i64 x124), (.int .i64 x125), (.int .i64 x126), (.sl none [.int .i64, .int .i64, .int .i64] x127)] false)) :: nos 1 ((some (.cells [(.int .i64 x128), (.int .i64 x129), (.int .i64 x130)] false)) :: nos 252 []))), vers := List.replicate 260 0 }
/-- The place 8 of law01_LakeBeginnings. -/
noncomputable def T_law01_LakeBeginnings_8_2 (N k : Nat) (x0 : List (List PV)) (x1 : List (List PV)) (x2 : Int) (x3 : Int) (x4 : Int) (x5 : Int) (x6 : Int) (x7 : Int) (x8 : Int) (x9 : Int) (x10 : Int) (x11 : Int) (x12 : Int) (x13 : Int) (x14 : Int) (x15 : List (List PV)) (x16 : Bool) (x17 : Int) (x18 : Bool) (x19 : Bool) (x20 : List (List PV)) (x21 : List (List PV)) (x22 : Int) (x23 : Bool) (x24 : Bool) (x25 : Bool) (x26 : List (List PV)) (x27 : List (List PV)) (x28 : Int) (x29 : Int) (x30 : Int) (x31 : Int) (x32 : Bool) (x33 : Bool) (x34 : Bool) (x35 : List (List PV)) (x36 : Int) (x37 : Bool) (x38 : Bool) (x39 : Bool) (x40 : List (List PV)) (x41 : Int) (x42 : Bool) (x43 : Bool) (x44 : Bool) (x45 : List (List PV)) (x46 : List (List PV)) (x47 : Int) (x48 : Int) (x49 : Int) (x50 : Int) (x51 : Int) (x52 : Int) (x53 : Int) (x54 : Int) (x55 : Int) (x56 : Int) (x57 : Int) (x58 : List (List PV)) (x59 : Int) (x60 : Bool) (x61 : Bool) (x62 : Int) (x63 : Int) (x64 : Int) (x65 : Int) (x66 : List (List PV)) (x67 : List (List PV)) (x68 : Int) (x69 : List (List PV)) (x70 : List (List PV)) (x71 : Int) (x72 : Int) (x73 : Int) (x74 : Int) (x75 : Int) (x76 : Int) (x77 : Int) (x78 : Int) (x79 : Int) (x80 : Int) (x81 : Int) (x82 : Int) (x83 : Int) (x84 : List (List PV)) (x85 : Int) (x86 : Int) (x87 : Int) (x88 : Int) (x89 : Int) (x90 : Int) (x91 : Int) (x92 : Int) (x93 : Int) (x94 : Int) (x95 : List (List PV)) (x96 : Int) (x97 : Int) (x98 : Int) (x99 : Int) (x100 : Int) (x101 : Int) (x102 : Int) (x103 : Int) (x104 : Int) (x105 : Bool) (x106 : Bool) (x107 : Bool) (x108 : Bool) (x109 : Bool) (x110 : List (List PV)) (x111 : List (List PV)) (x112 : Int) (x113 : Int) (x114 : Int) (x115 : Int) (x116 : Int) (x117 : Int) (x118 : Int) (x119 : Int) (x120 : Int) (x121 : Int) (x122 : Int) (x123 : Int) (x124 : Int) (x125 : List (List PV)) (x126 : Int) (x127 : Int) (x128 : Int) : Option PV := codeAt (envF N) (ev (envF N) k) (evI (envF N) k) F_law01_LakeBeginnings Go.Proofs.Tryz.f5 [.r, .r, .r, .r, .r] { slots := ((.agg [(.sl none [.int .i64, .int .i64] x0), (.sl none [.int .i64, .int .i64] x1), (.int .i64 x2)]) :: (.agg [(.int .i64 x3), (.int .i64 x4)]) :: (.agg [(.int .i64 x5), (.int .i64 x6), (.int .i64 x7), (.int .i64 x8), (.int .i64 x9), (.int .i64 x10), (.int .i64 x11), (.int .i64 x12), (.int .i64 x13), (.int .i64 x14), (.sl none [.int .i64, .int .i64, .int .i64] x15)]) :: (.ptr 3 0) :: (.ptr 4 0) :: (.ptr 5 0) :: (.bool x16) :: (.ptr 7 0) :: (.int .i64 x17) :: und 15 ((.bool x18) :: (.bool x19) :: (.agg [(.sl none [.int .i64, .int .i64] x20), (.sl none [.int .i64, .int .i64] x21), (.int .i64 x22)]) :: (.bool x23) :: (.bool x24) :: (.bool x25) :: (.agg [(.sl none [.int .i64, .int .i64] x26), (.sl none [.int .i64, .int .i64] x27), (.int .i64 x28)]) :: (.agg [(.int .i64 x29), (.int .i64 x30)]) :: (.int .i64 x31) :: (.bool x32) :: (.bool x33) :: (.bool x34) :: (.ptr 5 10) :: (.sl none [.int .i64, .int .i64, .int .i64] x35) :: (.int .i64 x36) :: (.bool x37) :: (.bool x38) :: (.bool x39) :: (.ptr 5 10) :: (.sl none [.int .i64, .int .i64, .int .i64] x40) :: (.int .i64 x41) :: (.bool x42) :: (.bool x43) :: (.bool x44) :: (.agg [(.sl none [.int .i64, .int .i64] x45), (.sl none [.int .i64, .int .i64] x46), (.int .i64 x47)]) :: (.agg [(.int .i64 x48), (.int .i64 x49), (.int .i64 x50), (.int .i64 x51), (.int .i64 x52), (.int .i64 x53), (.int .i64 x54), (.int .i64 x55), (.int .i64 x56), (.int .i64 x57), (.sl none [.int .i64, .int .i64, .int .i64] x58)]) :: (.int .i64 x59) :: (.bool x60) :: (.bool x61) :: (.tup [(.agg [(.int .i64 x62), (.int .i64 x63), (.int .i64 x64)]), (.int .i64 x65)]) :: (.agg [(.sl none [.int .i64, .int .i64] x66), (.sl none [.int .i64, .int .i64] x67), (.int .i64 x68)]) :: (.agg [(.sl none [.int .i64, .int .i64] x69), (.sl none [.int .i64, .int .i64] x70), (.int .i64 x71)]) :: (.agg [(.int .i64 x72), (.int .i64 x73)]) :: (.agg [(.int .i64 x74), (.int .i64 x75), (.int .i64 x76), (.int .i64 x77), (.int .i64 x78), (.int .i64 x79), (.int .i64 x80), (.int .i64 x81), (.int .i64 x82), (.int .i64 x83), (.sl none [.int .i64, .int .i64, .int .i64] x84)]) :: (.agg [(.int .i64 x85), (.int .i64 x86), (.int .i64 x87), (.int .i64 x88), (.int .i64 x89), (.int .i64 x90), (.int .i64 x91), (.int .i64 x92), (.int .i64 x93), (.int .i64 x94), (.sl none [.int .i64, .int .i64, .int .i64] x95)]) :: (.tup [(.agg [(.int .i64 x96), (.int .i64 x97), (.int .i64 x98)]), (.int .i64 x99)]) :: (.agg [(.int .i64 x100), (.int .i64 x101), (.int .i64 x102)]) :: (.int .i64 x103) :: (.int .i64 x104) :: (.bool x105) :: (.bool x106) :: (.tup []) :: (.tup []) :: (.bool x107) :: (.bool x108) :: (.tup []) :: (.tup []) :: (.bool x109) :: und 188 [])), boxes := (nos 3 ((some (.cells [(.sl none [.int .i64, .int .i64] x110), (.sl none [.int .i64, .int .i64] x111), (.int .i64 x112)] false)) :: (some (.cells [(.int .i64 x113), (.int .i64 x114)] false)) :: (some (.cells [(.int .i64 x115), (.int .i64 x116), (.int .i64 x117), (.int .i64 x118), (.int .i64 x119), (.int .i64 x120), (.int .i64 x121), (.int .i64 x122), (.int .i64 x123), (.int .i64 x124), (.sl none [.int .i64, .int .i64, .int .i64] x125)] false)) :: nos 1 ((some (.cells [(.int .i64 x126), (.int .i64 x127), (.int .i64 x128)] false)) :: nos 252 []))), vers := List.replicate 260 0 }
/-- Loop 25 of law01_LakeBeginnings. -/
noncomputable def L_law01_LakeBeginnings_25 (N k n25  : Nat) (x0 : Int) (x1 : List (List PV)) (x2 : Int) (x3 : List (List PV)) (x4 : List (List PV)) (x5 : Int) (x6 : Int) (x7 : Int) (x8 : Int) (x9 : Int) (x10 : Int) (x11 : Int) (x12 : Int) (x13 : Int) (x14 : Int) (x15 : Int) (x16 : Int) (x17 : Int) (x18 : List (List PV)) : Option PV := loopAt (envF N) (ev (envF N) k) (evI (envF N) k) F_law01_LakeBeginnings Go.Proofs.Tryz.f5 [.r, .r, .r, .r, .r, .r, .r, .r, .r, .l, .r, .b] n25 { slots := (und 3 ((.ptr 3 0) :: (.ptr 4 0) :: (.ptr 5 0) :: und 10 ((.int .i64 x0) :: und 1 ((.sl (some (18, 0)) [.int .i64, .int .i64, .int .i64] x1) :: (.int .i64 x2) :: und 240 [])))), boxes := (nos 3 ((some (.cells [(.sl none [.int .i64, .int .i64] x3), (.sl none [.int .i64, .int .i64] x4), (.int .i64 x5)] false)) :: (some (.cells [(.int .i64 x6), (.int .i64 x7)] false)) :: (some (.cells [(.int .i64 x8), (.int .i64 x9), (.int .i64 x10), (.int .i64 x11), (.int .i64 x12), (.int .i64 x13), (.int .i64 x14), (.int .i64 x15), (.int .i64 x16), (.int .i64 x17), (.sl none [.int .i64, .int .i64, .int .i64] x18)] false)) :: nos 254 [])), vers := List.replicate 260 0 }
theorem T_law01_LakeBeginnings_8_0_eq (N k : Nat) (x0 : List (List PV)) (x1 : List (List PV)) (x2 : Int) (x3 : Int) (x4 : Int) (x5 : Int) (x6 : Int) (x7 : Int) (x8 : Int) (x9 : Int) (x10 : Int) (x11 : Int) (x12 : Int) (x13 : Int) (x14 : Int) (x15 : List (List PV)) (x16 : Bool) (x17 : Int) (x18 : Bool) (x19 : Bool) (x20 : List (List PV)) (x21 : List (List PV)) (x22 : Int) (x23 : Bool) (x24 : Bool) (x25 : Bool) (x26 : List (List PV)) (x27 : List (List PV)) (x28 : Int) (x29 : Int) (x30 : Int) (x31 : Int) (x32 : Bool) (x33 : Bool) (x34 : Bool) (x35 : List (List PV)) (x36 : Int) (x37 : Bool) (x38 : Bool) (x39 : Bool) (x40 : List (List PV)) (x41 : Int) (x42 : Bool) (x43 : Bool) (x44 : Bool) (x45 : List (List PV)) (x46 : List (List PV)) (x47 : Int) (x48 : Int) (x49 : Int) (x50 : Int) (x51 : Int) (x52 : Int) (x53 : Int) (x54 : Int) (x55 : Int) (x56 : Int) (x57 : Int) (x58 : List (List PV)) (x59 : Int) (x60 : Bool) (x61 : Bool) (x62 : Int) (x63 : Int) (x64 : Int) (x65 : Int) (x66 : List (List PV)) (x67 : List (List PV)) (x68 : Int) (x69 : List (List PV)) (x70 : List (List PV)) (x71 : Int) (x72 : Int) (x73 : Int) (x74 : Int) (x75 : Int) (x76 : Int) (x77 : Int) (x78 : Int) (x79 : Int) (x80 : Int) (x81 : Int) (x82 : Int) (x83 : Int) (x84 : List (List PV)) (x85 : Int) (x86 : Int) (x87 : Int) (x88 : Int) (x89 : Int) (x90 : Int) (x91 : Int) (x92 : Int) (x93 : Int) (x94 : Int) (x95 : List (List PV)) (x96 : Int) (x97 : Int) (x98 : Int) (x99 : Int) (x100 : Int) (x101 : Int) (x102 : Int) (x103 : Int) (x104 : Int) (x105 : Bool) (x106 : Bool) (x107 : Int) (x108 : Bool) (x109 : Bool) (x110 : Bool) (x111 : Int) (x112 : Bool) (x113 : Bool) (x114 : List (List PV)) (x115 : List (List PV)) (x116 : Int) (x117 : Int) (x118 : Int) (x119 : Int) (x120 : Int) (x121 : Int) (x122 : Int) (x123 : Int) (x124 : Int) (x125 : Int) (x126 : Int) (x127 : Int) (x128 : Int) (x129 : List (List PV)) (x130 : Int) (x131 : Int) (x132 : Int) : T_law01_LakeBeginnings_8_0 N k x0 x1 x2 x3 x4 x5 x6 x7 x8 x9 x10 x11 x12 x13 x14 x15 x16 x17 x18 x19 x20 x21 x22 x23 x24 x25 x26 x27 x28 x29 x30 x31 x32 x33 x34 x35 x36 x37 x38 x39 x40 x41 x42 x43 x44 x45 x46 x47 x48 x49 x50 x51 x52 x53 x54 x55 x56 x57 x58 x59 x60 x61 x62 x63 x64 x65 x66 x67 x68 x69 x70 x71 x72 x73 x74 x75 x76 x77 x78 x79 x80 x81 x82 x83 x84 x85 x86 x87 x88 x89 x90 x91 x92 x93 x94 x95 x96 x97 x98 x99 x100 x101 x102 x103 x104 x105 x106 x107 x108 x109 x110 x111 x112 x113 x114 x115 x116 x117 x118 x119 x120 x121 x122 x123 x124 x125 x126 x127 x128 x129 x130 x131 x132 =
 (cond (decide (x17 = (0 : Int)))
 ((ev (envF N) k F_base_Within [(.int .i64 x130), (.int .i64 (1 : Int)), (.int .i64 ((List.length x129) : Int))]).bind fun r2 =>
  cond (!(asB r2))
   (some (.bool (false)))
   ((ev (envF N) k F_base_Within [(.int .i64 x131), (.int .i64 (0 : Int)), (.int .i64 (1 : Int))]).bind fun r4 =>
    cond (!(asB r4))
     (some (.bool (false)))
     ((ev (envF N) k F_base_Within [(.int .i64 x132), (.int .i64 (0 : Int)), (.int .i64 (3 : Int))]).bind fun r6 =>
      cond (!(asB r6))
       (some (.bool (false)))
       ((ev (envF N) k F_ref01_CopyPair [(.agg [(.sl none [.int .i64, .int .i64] x114), (.sl none [.int .i64, .int .i64] x115), (.int .i64 x116)])]).bind fun r8 =>
        cond (decide ((0 : Int) ≤ (w64 (x130 - (1 : Int)))))
         (cond (decide ((w64 (x130 - (1 : Int))) ≤ ((List.length x129) : Int)))
          ((ev (envF N) k F_ref01_CopyList [(.sl none [.int .i64, .int .i64, .int .i64] (List.drop 0 (List.take (Int.toNat (w64 (x130 - (1 : Int)))) x129)))]).bind fun r11 =>
           (ev (envF N) k F_lake_ViolationOf [(.agg [(.sl none [.int .i64, .int .i64] (asL (nth (asA r8) 0))), (.sl none [.int .i64, .int .i64] (asL (nth (asA r8) 1))), (.int .i64 (asI (nth (asA r8) 2)))]), (.agg [(.int .i64 x117), (.int .i64 x118)]), (.agg [(.int .i64 x119), (.int .i64 x120), (.int .i64 x121), (.int .i64 x122), (.int .i64 x123), (.int .i64 x124), (.int .i64 x125), (.int .i64 x126), (.int .i64 x127), (.int .i64 x128), (.sl none [.int .i64, .int .i64, .int .i64] (asL r11))])]).bind fun r12 =>
            (ev (envF N) k F_ref01_CopyPair [(.agg [(.sl none [.int .i64, .int .i64] x114), (.sl none [.int .i64, .int .i64] x115), (.int .i64 x116)])]).bind fun r13 =>
             cond (decide ((0 : Int) ≤ x130))
              (cond (decide (x130 ≤ ((List.length x129) : Int)))
               ((ev (envF N) k F_ref01_CopyList [(.sl none [.int .i64, .int .i64, .int .i64] (List.drop 0 (List.take (Int.toNat x130) x129)))]).bind fun r16 =>
                (ev (envF N) k F_lake_ViolationOf [(.agg [(.sl none [.int .i64, .int .i64] (asL (nth (asA r13) 0))), (.sl none [.int .i64, .int .i64] (asL (nth (asA r13) 1))), (.int .i64 (asI (nth (asA r13) 2)))]), (.agg [(.int .i64 x117), (.int .i64 x118)]), (.agg [(.int .i64 x119), (.int .i64 x120), (.int .i64 x121), (.int .i64 x122), (.int .i64 x123), (.int .i64 x124), (.int .i64 x125), (.int .i64 x126), (.int .i64 x127), (.int .i64 x128), (.sl none [.int .i64, .int .i64, .int .i64] (asL r16))])]).bind fun r17 =>
                 cond (!(decide ((asI (nth (asT r12) 1)) = (12 : Int))))
                  (some (.bool (false)))
                  (cond (!(decide ((asI (nth (asT r17) 1)) = (0 : Int))))
                   (some (.bool (false)))
                   (cond (!((decide ((asI (nth (asA (nth (asT r17) 0)) 0)) = x130)) && ((decide ((asI (nth (asA (nth (asT r17) 0)) 1)) = x131)) && (decide ((asI (nth (asA (nth (asT r17) 0)) 2)) = x132)))))
                    (some (.bool (false)))
                    ((ev (envF N) k F_law01_wider [(.agg [(.sl none [.int .i64, .int .i64] x114)]), (.agg [(.int .i64 x119), (.int .i64 x120), (.int .i64 x121), (.int .i64 x122), (.int .i64 x123)])]).bind fun r21 =>
                     (ev (envF N) k F_law01_wider [(.agg [(.sl none [.int .i64, .int .i64] x115)]), (.agg [(.int .i64 x124), (.int .i64 x125), (.int .i64 x126), (.int .i64 x127), (.int .i64 x128)])]).bind fun r22 =>
                      (ev (envF N) k F_ref01_CopyPair [(.agg [(.sl none [.int .i64, .int .i64] x114), (.sl none [.int .i64, .int .i64] x115), (.int .i64 x116)])]).bind fun r23 =>
                       (ev (envF N) k F_ref01_CopyList [(.sl none [.int .i64, .int .i64, .int .i64] x129)]).bind fun r24 =>
                        (ev (envF N) k F_lake_ViolationOf [(.agg [(.sl none [.int .i64, .int .i64] (asL (nth (asA r23) 0))), (.sl none [.int .i64, .int .i64] (asL (nth (asA r23) 1))), (.int .i64 (asI (nth (asA r23) 2)))]), (.agg [(.int .i64 x117), (.int .i64 x118)]), (.agg [(.int .i64 (asI (nth (asA r21) 0))), (.int .i64 (asI (nth (asA r21) 1))), (.int .i64 (asI (nth (asA r21) 2))), (.int .i64 (asI (nth (asA r21) 3))), (.int .i64 (asI (nth (asA r21) 4))), (.int .i64 (asI (nth (asA r22) 0))), (.int .i64 (asI (nth (asA r22) 1))), (.int .i64 (asI (nth (asA r22) 2))), (.int .i64 (asI (nth (asA r22) 3))), (.int .i64 (asI (nth (asA r22) 4))), (.sl none [.int .i64, .int .i64, .int .i64] (asL r24))])]).bind fun r25 =>
                         cond (decide ((asI (nth (asT r25) 1)) = (0 : Int)))
                          (cond (decide ((asI (nth (asA (nth (asT r25) 0)) 0)) < x130))
                           (some (.bool (false)))
                           (cond (!(decide ((asI (nth (asT r25) 1)) = (0 : Int))))
                            (cond (!(decide ((asI (nth (asT r25) 1)) = (12 : Int))))
                             (cond (!(decide ((asI (nth (asT r25) 1)) = (22 : Int))))
                              (some (.bool (false)))
                              ((ev (envF N) k F_ref01_CopyPair [(.agg [(.sl none [.int .i64, .int .i64] x114), (.sl none [.int .i64, .int .i64] x115), (.int .i64 x116)])]).bind fun r31 =>
                               (ev (envF N) k F_ref01_CopyTask [(.agg [(.int .i64 x119), (.int .i64 x120), (.int .i64 x121), (.int .i64 x122), (.int .i64 x123), (.int .i64 x124), (.int .i64 x125), (.int .i64 x126), (.int .i64 x127), (.int .i64 x128), (.sl none [.int .i64, .int .i64, .int .i64] x129)])]).bind fun r32 =>
                                (ev (envF N) k F_lake_PermittedFor [(.agg [(.sl none [.int .i64, .int .i64] (asL (nth (asA r31) 0))), (.sl none [.int .i64, .int .i64] (asL (nth (asA r31) 1))), (.int .i64 (asI (nth (asA r31) 2)))]), (.agg [(.int .i64 x117), (.int .i64 x118)]), (.agg [(.int .i64 (asI (nth (asA r32) 0))), (.int .i64 (asI (nth (asA r32) 1))), (.int .i64 (asI (nth (asA r32) 2))), (.int .i64 (asI (nth (asA r32) 3))), (.int .i64 (asI (nth (asA r32) 4))), (.int .i64 (asI (nth (asA r32) 5))), (.int .i64 (asI (nth (asA r32) 6))), (.int .i64 (asI (nth (asA r32) 7))), (.int .i64 (asI (nth (asA r32) 8))), (.int .i64 (asI (nth (asA r32) 9))), (.sl none [.int .i64, .int .i64, .int .i64] (asL (nth (asA r32) (10))))])]).bind fun r33 =>
                                 cond (!(decide ((asI (nth (asT r33) 1)) = (0 : Int))))
                                  (some (.bool (false)))
                                  ((ev (envF N) k F_base_Within [(.int .i64 (asI (nth (asT r33) 0))), (.int .i64 (0 : Int)), (.int .i64 (200 : Int))]).bind fun r35 =>
                                   cond (!(asB r35))
                                    (some (.bool (false)))
                                    (L_law01_LakeBeginnings_25 N k N  (asI (nth (asT r33) 0)) [] (0 : Int) x114 x115 x116 x117 x118 x119 x120 x121 x122 x123 x124 x125 x126 x127 x128 x129))))
                             ((ev (envF N) k F_ref01_CopyPair [(.agg [(.sl none [.int .i64, .int .i64] x114), (.sl none [.int .i64, .int .i64] x115), (.int .i64 x116)])]).bind fun r30 =>
                              (ev (envF N) k F_ref01_CopyTask [(.agg [(.int .i64 x119), (.int .i64 x120), (.int .i64 x121), (.int .i64 x122), (.int .i64 x123), (.int .i64 x124), (.int .i64 x125), (.int .i64 x126), (.int .i64 x127), (.int .i64 x128), (.sl none [.int .i64, .int .i64, .int .i64] x129)])]).bind fun r31 =>
                               (ev (envF N) k F_lake_PermittedFor [(.agg [(.sl none [.int .i64, .int .i64] (asL (nth (asA r30) 0))), (.sl none [.int .i64, .int .i64] (asL (nth (asA r30) 1))), (.int .i64 (asI (nth (asA r30) 2)))]), (.agg [(.int .i64 x117), (.int .i64 x118)]), (.agg [(.int .i64 (asI (nth (asA r31) 0))), (.int .i64 (asI (nth (asA r31) 1))), (.int .i64 (asI (nth (asA r31) 2))), (.int .i64 (asI (nth (asA r31) 3))), (.int .i64 (asI (nth (asA r31) 4))), (.int .i64 (asI (nth (asA r31) 5))), (.int .i64 (asI (nth (asA r31) 6))), (.int .i64 (asI (nth (asA r31) 7))), (.int .i64 (asI (nth (asA r31) 8))), (.int .i64 (asI (nth (asA r31) 9))), (.sl none [.int .i64, .int .i64, .int .i64] (asL (nth (asA r31) (10))))])]).bind fun r32 =>
                                cond (!(decide ((asI (nth (asT r32) 1)) = (0 : Int))))
                                 (some (.bool (false)))
                                 ((ev (envF N) k F_base_Within [(.int .i64 (asI (nth (asT r32) 0))), (.int .i64 (0 : Int)), (.int .i64 (200 : Int))]).bind fun r34 =>
                                  cond (!(asB r34))
                                   (some (.bool (false)))
                                   (L_law01_LakeBeginnings_25 N k N  (asI (nth (asT r32) 0)) [] (0 : Int) x114 x115 x116 x117 x118 x119 x120 x121 x122 x123 x124 x125 x126 x127 x128 x129))))
                            ((ev (envF N) k F_ref01_CopyPair [(.agg [(.sl none [.int .i64, .int .i64] x114), (.sl none [.int .i64, .int .i64] x115), (.int .i64 x116)])]).bind fun r29 =>
                             (ev (envF N) k F_ref01_CopyTask [(.agg [(.int .i64 x119), (.int .i64 x120), (.int .i64 x121), (.int .i64 x122), (.int .i64 x123), (.int .i64 x124), (.int .i64 x125), (.int .i64 x126), (.int .i64 x127), (.int .i64 x128), (.sl none [.int .i64, .int .i64, .int .i64] x129)])]).bind fun r30 =>
                              (ev (envF N) k F_lake_PermittedFor [(.agg [(.sl none [.int .i64, .int .i64] (asL (nth (asA r29) 0))), (.sl none [.int .i64, .int .i64] (asL (nth (asA r29) 1))), (.int .i64 (asI (nth (asA r29) 2)))]), (.agg [(.int .i64 x117), (.int .i64 x118)]), (.agg [(.int .i64 (asI (nth (asA r30) 0))), (.int .i64 (asI (nth (asA r30) 1))), (.int .i64 (asI (nth (asA r30) 2))), (.int .i64 (asI (nth (asA r30) 3))), (.int .i64 (asI (nth (asA r30) 4))), (.int .i64 (asI (nth (asA r30) 5))), (.int .i64 (asI (nth (asA r30) 6))), (.int .i64 (asI (nth (asA r30) 7))), (.int .i64 (asI (nth (asA r30) 8))), (.int .i64 (asI (nth (asA r30) 9))), (.sl none [.int .i64, .int .i64, .int .i64] (asL (nth (asA r30) (10))))])]).bind fun r31 =>
                               cond (!(decide ((asI (nth (asT r31) 1)) = (0 : Int))))
                                (some (.bool (false)))
                                ((ev (envF N) k F_base_Within [(.int .i64 (asI (nth (asT r31) 0))), (.int .i64 (0 : Int)), (.int .i64 (200 : Int))]).bind fun r33 =>
                                 cond (!(asB r33))
                                  (some (.bool (false)))
                                  (L_law01_LakeBeginnings_25 N k N  (asI (nth (asT r31) 0)) [] (0 : Int) x114 x115 x116 x117 x118 x119 x120 x121 x122 x123 x124 x125 x126 x127 x128 x129)))))
                          (cond (!(decide ((asI (nth (asT r25) 1)) = (0 : Int))))
                           (cond (!(decide ((asI (nth (asT r25) 1)) = (12 : Int))))
                            (cond (!(decide ((asI (nth (asT r25) 1)) = (22 : Int))))
                             (some (.bool (false)))
                             ((ev (envF N) k F_ref01_CopyPair [(.agg [(.sl none [.int .i64, .int .i64] x114), (.sl none [.int .i64, .int .i64] x115), (.int .i64 x116)])]).bind fun r30 =>
                              (ev (envF N) k F_ref01_CopyTask [(.agg [(.int .i64 x119), (.int .i64 x120), (.int .i64 x121), (.int .i64 x122), (.int .i64 x123), (.int .i64 x124), (.int .i64 x125), (.int .i64 x126), (.int .i64 x127), (.int .i64 x128), (.sl none [.int .i64, .int .i64, .int .i64] x129)])]).bind fun r31 =>
                               (ev (envF N) k F_lake_PermittedFor [(.agg [(.sl none [.int .i64, .int .i64] (asL (nth (asA r30) 0))), (.sl none [.int .i64, .int .i64] (asL (nth (asA r30) 1))), (.int .i64 (asI (nth (asA r30) 2)))]), (.agg [(.int .i64 x117), (.int .i64 x118)]), (.agg [(.int .i64 (asI (nth (asA r31) 0))), (.int .i64 (asI (nth (asA r31) 1))), (.int .i64 (asI (nth (asA r31) 2))), (.int .i64 (asI (nth (asA r31) 3))), (.int .i64 (asI (nth (asA r31) 4))), (.int .i64 (asI (nth (asA r31) 5))), (.int .i64 (asI (nth (asA r31) 6))), (.int .i64 (asI (nth (asA r31) 7))), (.int .i64 (asI (nth (asA r31) 8))), (.int .i64 (asI (nth (asA r31) 9))), (.sl none [.int .i64, .int .i64, .int .i64] (asL (nth (asA r31) (10))))])]).bind fun r32 =>
                                cond (!(decide ((asI (nth (asT r32) 1)) = (0 : Int))))
                                 (some (.bool (false)))
                                 ((ev (envF N) k F_base_Within [(.int .i64 (asI (nth (asT r32) 0))), (.int .i64 (0 : Int)), (.int .i64 (200 : Int))]).bind fun r34 =>
                                  cond (!(asB r34))
                                   (some (.bool (false)))
                                   (L_law01_LakeBeginnings_25 N k N  (asI (nth (asT r32) 0)) [] (0 : Int) x114 x115 x116 x117 x118 x119 x120 x121 x122 x123 x124 x125 x126 x127 x128 x129))))
                            ((ev (envF N) k F_ref01_CopyPair [(.agg [(.sl none [.int .i64, .int .i64] x114), (.sl none [.int .i64, .int .i64] x115), (.int .i64 x116)])]).bind fun r29 =>
                             (ev (envF N) k F_ref01_CopyTask [(.agg [(.int .i64 x119), (.int .i64 x120), (.int .i64 x121), (.int .i64 x122), (.int .i64 x123), (.int .i64 x124), (.int .i64 x125), (.int .i64 x126), (.int .i64 x127), (.int .i64 x128), (.sl none [.int .i64, .int .i64, .int .i64] x129)])]).bind fun r30 =>
                              (ev (envF N) k F_lake_PermittedFor [(.agg [(.sl none [.int .i64, .int .i64] (asL (nth (asA r29) 0))), (.sl none [.int .i64, .int .i64] (asL (nth (asA r29) 1))), (.int .i64 (asI (nth (asA r29) 2)))]), (.agg [(.int .i64 x117), (.int .i64 x118)]), (.agg [(.int .i64 (asI (nth (asA r30) 0))), (.int .i64 (asI (nth (asA r30) 1))), (.int .i64 (asI (nth (asA r30) 2))), (.int .i64 (asI (nth (asA r30) 3))), (.int .i64 (asI (nth (asA r30) 4))), (.int .i64 (asI (nth (asA r30) 5))), (.int .i64 (asI (nth (asA r30) 6))), (.int .i64 (asI (nth (asA r30) 7))), (.int .i64 (asI (nth (asA r30) 8))), (.int .i64 (asI (nth (asA r30) 9))), (.sl none [.int .i64, .int .i64, .int .i64] (asL (nth (asA r30) (10))))])]).bind fun r31 =>
                               cond (!(decide ((asI (nth (asT r31) 1)) = (0 : Int))))
                                (some (.bool (false)))
                                ((ev (envF N) k F_base_Within [(.int .i64 (asI (nth (asT r31) 0))), (.int .i64 (0 : Int)), (.int .i64 (200 : Int))]).bind fun r33 =>
                                 cond (!(asB r33))
                                  (some (.bool (false)))
                                  (L_law01_LakeBeginnings_25 N k N  (asI (nth (asT r31) 0)) [] (0 : Int) x114 x115 x116 x117 x118 x119 x120 x121 x122 x123 x124 x125 x126 x127 x128 x129))))
                           ((ev (envF N) k F_ref01_CopyPair [(.agg [(.sl none [.int .i64, .int .i64] x114), (.sl none [.int .i64, .int .i64] x115), (.int .i64 x116)])]).bind fun r28 =>
                            (ev (envF N) k F_ref01_CopyTask [(.agg [(.int .i64 x119), (.int .i64 x120), (.int .i64 x121), (.int .i64 x122), (.int .i64 x123), (.int .i64 x124), (.int .i64 x125), (.int .i64 x126), (.int .i64 x127), (.int .i64 x128), (.sl none [.int .i64, .int .i64, .int .i64] x129)])]).bind fun r29 =>
                             (ev (envF N) k F_lake_PermittedFor [(.agg [(.sl none [.int .i64, .int .i64] (asL (nth (asA r28) 0))), (.sl none [.int .i64, .int .i64] (asL (nth (asA r28) 1))), (.int .i64 (asI (nth (asA r28) 2)))]), (.agg [(.int .i64 x117), (.int .i64 x118)]), (.agg [(.int .i64 (asI (nth (asA r29) 0))), (.int .i64 (asI (nth (asA r29) 1))), (.int .i64 (asI (nth (asA r29) 2))), (.int .i64 (asI (nth (asA r29) 3))), (.int .i64 (asI (nth (asA r29) 4))), (.int .i64 (asI (nth (asA r29) 5))), (.int .i64 (asI (nth (asA r29) 6))), (.int .i64 (asI (nth (asA r29) 7))), (.int .i64 (asI (nth (asA r29) 8))), (.int .i64 (asI (nth (asA r29) 9))), (.sl none [.int .i64, .int .i64, .int .i64] (asL (nth (asA r29) (10))))])]).bind fun r30 =>
                              cond (!(decide ((asI (nth (asT r30) 1)) = (0 : Int))))
                               (some (.bool (false)))
                               ((ev (envF N) k F_base_Within [(.int .i64 (asI (nth (asT r30) 0))), (.int .i64 (0 : Int)), (.int .i64 (200 : Int))]).bind fun r32 =>
                                cond (!(asB r32))
                                 (some (.bool (false)))
                                 (L_law01_LakeBeginnings_25 N k N  (asI (nth (asT r30) 0)) [] (0 : Int) x114 x115 x116 x117 x118 x119 x120 x121 x122 x123 x124 x125 x126 x127 x128 x129))))))))
               (none))
              (none))
          (none))
         (none)))))
 ((ev (envF N) k F_ref01_CopyPair [(.agg [(.sl none [.int .i64, .int .i64] x114), (.sl none [.int .i64, .int .i64] x115), (.int .i64 x116)])]).bind fun r2 =>
  (ev (envF N) k F_ref01_CopyTask [(.agg [(.int .i64 x119), (.int .i64 x120), (.int .i64 x121), (.int .i64 x122), (.int .i64 x123), (.int .i64 x124), (.int .i64 x125), (.int .i64 x126), (.int .i64 x127), (.int .i64 x128), (.sl none [.int .i64, .int .i64, .int .i64] x129)])]).bind fun r3 =>
   (ev (envF N) k F_lake_PermittedFor [(.agg [(.sl none [.int .i64, .int .i64] (asL (nth (asA r2) 0))), (.sl none [.int .i64, .int .i64] (asL (nth (asA r2) 1))), (.int .i64 (asI (nth (asA r2) 2)))]), (.agg [(.int .i64 x117), (.int .i64 x118)]), (.agg [(.int .i64 (asI (nth (asA r3) 0))), (.int .i64 (asI (nth (asA r3) 1))), (.int .i64 (asI (nth (asA r3) 2))), (.int .i64 (asI (nth (asA r3) 3))), (.int .i64 (asI (nth (asA r3) 4))), (.int .i64 (asI (nth (asA r3) 5))), (.int .i64 (asI (nth (asA r3) 6))), (.int .i64 (asI (nth (asA r3) 7))), (.int .i64 (asI (nth (asA r3) 8))), (.int .i64 (asI (nth (asA r3) 9))), (.sl none [.int .i64, .int .i64, .int .i64] (asL (nth (asA r3) (10))))])]).bind fun r4 =>
    cond (!(decide ((asI (nth (asT r4) 1)) = (0 : Int))))
     (some (.bool (false)))
     ((ev (envF N) k F_base_Within [(.int .i64 (asI (nth (asT r4) 0))), (.int .i64 (0 : Int)), (.int .i64 (200 : Int))]).bind fun r6 =>
      cond (!(asB r6))
       (some (.bool (false)))
       (L_law01_LakeBeginnings_25 N k N  (asI (nth (asT r4) 0)) [] (0 : Int) x114 x115 x116 x117 x118 x119 x120 x121 x122 x123 x124 x125 x126 x127 x128 x129)))) := by kernel_rfl
theorem T_law01_LakeBeginnings_8_1_eq (N k : Nat) (x0 : List (List PV)) (x1 : List (List PV)) (x2 : Int) (x3 : Int) (x4 : Int) (x5 : Int) (x6 : Int) (x7 : Int) (x8 : Int) (x9 : Int) (x10 : Int) (x11 : Int) (x12 : Int) (x13 : Int) (x14 : Int) (x15 : List (List PV)) (x16 : Bool) (x17 : Int) (x18 : Bool) (x19 : Bool) (x20 : List (List PV)) (x21 : List (List PV)) (x22 : Int) (x23 : Bool) (x24 : Bool) (x25 : Bool) (x26 : List (List PV)) (x27 : List (List PV)) (x28 : Int) (x29 : Int) (x30 : Int) (x31 : Int) (x32 : Bool) (x33 : Bool) (x34 : Bool) (x35 : List (List PV)) (x36 : Int) (x37 : Bool) (x38 : Bool) (x39 : Bool) (x40 : List (List PV)) (x41 : Int) (x42 : Bool) (x43 : Bool) (x44 : Bool) (x45 : List (List PV)) (x46 : List (List PV)) (x47 : Int) (x48 : Int) (x49 : Int) (x50 : Int) (x51 : Int) (x52 : Int) (x53 : Int) (x54 : Int) (x55 : Int) (x56 : Int) (x57 : Int) (x58 : List (List PV)) (x59 : Int) (x60 : Bool) (x61 : Bool) (x62 : Int) (x63 : Int) (x64 : Int) (x65 : Int) (x66 : List (List PV)) (x67 : List (List PV)) (x68 : Int) (x69 : List (List PV)) (x70 : List (List PV)) (x71 : Int) (x72 : Int) (x73 : Int) (x74 : Int) (x75 : Int) (x76 : Int) (x77 : Int) (x78 : Int) (x79 : Int) (x80 : Int) (x81 : Int) (x82 : Int) (x83 : Int) (x84 : List (List PV)) (x85 : Int) (x86 : Int) (x87 : Int) (x88 : Int) (x89 : Int) (x90 : Int) (x91 : Int) (x92 : Int) (x93 : Int) (x94 : Int) (x95 : List (List PV)) (x96 : Int) (x97 : Int) (x98 : Int) (x99 : Int) (x100 : Int) (x101 : Int) (x102 : Int) (x103 : Int) (x104 : Int) (x105 : Bool) (x106 : Bool) (x107 : Int) (x108 : Bool) (x109 : Bool) (x110 : Bool) (x111 : Bool) (x112 : List (List PV)) (x113 : List (List PV)) (x114 : Int) (x115 : Int) (x116 : Int) (x117 : Int) (x118 : Int) (x119 : Int) (x120 : Int) (x121 : Int) (x122 : Int) (x123 : Int) (x124 : Int) (x125 : Int) (x126 : Int) (x127 : List (List PV)) (x128 : Int) (x129 : Int) (x130 : Int) : T_law01_LakeBeginnings_8_1 N k x0 x1 x2 x3 x4 x5 x6 x7 x8 x9 x10 x11 x12 x13 x14 x15 x16 x17 x18 x19 x20 x21 x22 x23 x24 x25 x26 x27 x28 x29 x30 x31 x32 x33 x34 x35 x36 x37 x38 x39 x40 x41 x42 x43 x44 x45 x46 x47 x48 x49 x50 x51 x52 x53 x54 x55 x56 x57 x58 x59 x60 x61 x62 x63 x64 x65 x66 x67 x68 x69 x70 x71 x72 x73 x74 x75 x76 x77 x78 x79 x80 x81 x82 x83 x84 x85 x86 x87 x88 x89 x90 x91 x92 x93 x94 x95 x96 x97 x98 x99 x100 x101 x102 x103 x104 x105 x106 x107 x108 x109 x110 x111 x112 x113 x114 x115 x116 x117 x118 x119 x120 x121 x122 x123 x124 x125 x126 x127 x128 x129 x130 =
 (cond (decide (x17 = (0 : Int)))
 ((ev (envF N) k F_base_Within [(.int .i64 x128), (.int .i64 (1 : Int)), (.int .i64 ((List.length x127) : Int))]).bind fun r2 =>
  cond (!(asB r2))
   (some (.bool (false)))
   ((ev (envF N) k F_base_Within [(.int .i64 x129), (.int .i64 (0 : Int)), (.int .i64 (1 : Int))]).bind fun r4 =>
    cond (!(asB r4))
     (some (.bool (false)))
     ((ev (envF N) k F_base_Within [(.int .i64 x130), (.int .i64 (0 : Int)), (.int .i64 (3 : Int))]).bind fun r6 =>
      cond (!(asB r6))
       (some (.bool (false)))
       ((ev (envF N) k F_ref01_CopyPair [(.agg [(.sl none [.int .i64, .int .i64] x112), (.sl none [.int .i64, .int .i64] x113), (.int .i64 x114)])]).bind fun r8 =>
        cond (decide ((0 : Int) ≤ (w64 (x128 - (1 : Int)))))
         (cond (decide ((w64 (x128 - (1 : Int))) ≤ ((List.length x127) : Int)))
          ((ev (envF N) k F_ref01_CopyList [(.sl none [.int .i64, .int .i64, .int .i64] (List.drop 0 (List.take (Int.toNat (w64 (x128 - (1 : Int)))) x127)))]).bind fun r11 =>
           (ev (envF N) k F_lake_ViolationOf [(.agg [(.sl none [.int .i64, .int .i64] (asL (nth (asA r8) 0))), (.sl none [.int .i64, .int .i64] (asL (nth (asA r8) 1))), (.int .i64 (asI (nth (asA r8) 2)))]), (.agg [(.int .i64 x115), (.int .i64 x116)]), (.agg [(.int .i64 x117), (.int .i64 x118), (.int .i64 x119), (.int .i64 x120), (.int .i64 x121), (.int .i64 x122), (.int .i64 x123), (.int .i64 x124), (.int .i64 x125), (.int .i64 x126), (.sl none [.int .i64, .int .i64, .int .i64] (asL r11))])]).bind fun r12 =>
            (ev (envF N) k F_ref01_CopyPair [(.agg [(.sl none [.int .i64, .int .i64] x112), (.sl none [.int .i64, .int .i64] x113), (.int .i64 x114)])]).bind fun r13 =>
             cond (decide ((0 : Int) ≤ x128))
              (cond (decide (x128 ≤ ((List.length x127) : Int)))
               ((ev (envF N) k F_ref01_CopyList [(.sl none [.int .i64, .int .i64, .int .i64] (List.drop 0 (List.take (Int.toNat x128) x127)))]).bind fun r16 =>
                (ev (envF N) k F_lake_ViolationOf [(.agg [(.sl none [.int .i64, .int .i64] (asL (nth (asA r13) 0))), (.sl none [.int .i64, .int .i64] (asL (nth (asA r13) 1))), (.int .i64 (asI (nth (asA r13) 2)))]), (.agg [(.int .i64 x115), (.int .i64 x116)]), (.agg [(.int .i64 x117), (.int .i64 x118), (.int .i64 x119), (.int .i64 x120), (.int .i64 x121), (.int .i64 x122), (.int .i64 x123), (.int .i64 x124), (.int .i64 x125), (.int .i64 x126), (.sl none [.int .i64, .int .i64, .int .i64] (asL r16))])]).bind fun r17 =>
                 cond (!(decide ((asI (nth (asT r12) 1)) = (12 : Int))))
                  (some (.bool (false)))
                  (cond (!(decide ((asI (nth (asT r17) 1)) = (0 : Int))))
                   (some (.bool (false)))
                   (cond (!((decide ((asI (nth (asA (nth (asT r17) 0)) 0)) = x128)) && ((decide ((asI (nth (asA (nth (asT r17) 0)) 1)) = x129)) && (decide ((asI (nth (asA (nth (asT r17) 0)) 2)) = x130)))))
                    (some (.bool (false)))
                    ((ev (envF N) k F_law01_wider [(.agg [(.sl none [.int .i64, .int .i64] x112)]), (.agg [(.int .i64 x117), (.int .i64 x118), (.int .i64 x119), (.int .i64 x120), (.int .i64 x121)])]).bind fun r21 =>
                     (ev (envF N) k F_law01_wider [(.agg [(.sl none [.int .i64, .int .i64] x113)]), (.agg [(.int .i64 x122), (.int .i64 x123), (.int .i64 x124), (.int .i64 x125), (.int .i64 x126)])]).bind fun r22 =>
                      (ev (envF N) k F_ref01_CopyPair [(.agg [(.sl none [.int .i64, .int .i64] x112), (.sl none [.int .i64, .int .i64] x113), (.int .i64 x114)])]).bind fun r23 =>
                       (ev (envF N) k F_ref01_CopyList [(.sl none [.int .i64, .int .i64, .int .i64] x127)]).bind fun r24 =>
                        (ev (envF N) k F_lake_ViolationOf [(.agg [(.sl none [.int .i64, .int .i64] (asL (nth (asA r23) 0))), (.sl none [.int .i64, .int .i64] (asL (nth (asA r23) 1))), (.int .i64 (asI (nth (asA r23) 2)))]), (.agg [(.int .i64 x115), (.int .i64 x116)]), (.agg [(.int .i64 (asI (nth (asA r21) 0))), (.int .i64 (asI (nth (asA r21) 1))), (.int .i64 (asI (nth (asA r21) 2))), (.int .i64 (asI (nth (asA r21) 3))), (.int .i64 (asI (nth (asA r21) 4))), (.int .i64 (asI (nth (asA r22) 0))), (.int .i64 (asI (nth (asA r22) 1))), (.int .i64 (asI (nth (asA r22) 2))), (.int .i64 (asI (nth (asA r22) 3))), (.int .i64 (asI (nth (asA r22) 4))), (.sl none [.int .i64, .int .i64, .int .i64] (asL r24))])]).bind fun r25 =>
                         cond (decide ((asI (nth (asT r25) 1)) = (0 : Int)))
                          (cond (decide ((asI (nth (asA (nth (asT r25) 0)) 0)) < x128))
                           (some (.bool (false)))
                           (cond (!(decide ((asI (nth (asT r25) 1)) = (0 : Int))))
                            (cond (!(decide ((asI (nth (asT r25) 1)) = (12 : Int))))
                             (cond (!(decide ((asI (nth (asT r25) 1)) = (22 : Int))))
                              (some (.bool (false)))
                              ((ev (envF N) k F_ref01_CopyPair [(.agg [(.sl none [.int .i64, .int .i64] x112), (.sl none [.int .i64, .int .i64] x113), (.int .i64 x114)])]).bind fun r31 =>
                               (ev (envF N) k F_ref01_CopyTask [(.agg [(.int .i64 x117), (.int .i64 x118), (.int .i64 x119), (.int .i64 x120), (.int .i64 x121), (.int .i64 x122), (.int .i64 x123), (.int .i64 x124), (.int .i64 x125), (.int .i64 x126), (.sl none [.int .i64, .int .i64, .int .i64] x127)])]).bind fun r32 =>
                                (ev (envF N) k F_lake_PermittedFor [(.agg [(.sl none [.int .i64, .int .i64] (asL (nth (asA r31) 0))), (.sl none [.int .i64, .int .i64] (asL (nth (asA r31) 1))), (.int .i64 (asI (nth (asA r31) 2)))]), (.agg [(.int .i64 x115), (.int .i64 x116)]), (.agg [(.int .i64 (asI (nth (asA r32) 0))), (.int .i64 (asI (nth (asA r32) 1))), (.int .i64 (asI (nth (asA r32) 2))), (.int .i64 (asI (nth (asA r32) 3))), (.int .i64 (asI (nth (asA r32) 4))), (.int .i64 (asI (nth (asA r32) 5))), (.int .i64 (asI (nth (asA r32) 6))), (.int .i64 (asI (nth (asA r32) 7))), (.int .i64 (asI (nth (asA r32) 8))), (.int .i64 (asI (nth (asA r32) 9))), (.sl none [.int .i64, .int .i64, .int .i64] (asL (nth (asA r32) (10))))])]).bind fun r33 =>
                                 cond (!(decide ((asI (nth (asT r33) 1)) = (0 : Int))))
                                  (some (.bool (false)))
                                  ((ev (envF N) k F_base_Within [(.int .i64 (asI (nth (asT r33) 0))), (.int .i64 (0 : Int)), (.int .i64 (200 : Int))]).bind fun r35 =>
                                   cond (!(asB r35))
                                    (some (.bool (false)))
                                    (L_law01_LakeBeginnings_25 N k N  (asI (nth (asT r33) 0)) [] (0 : Int) x112 x113 x114 x115 x116 x117 x118 x119 x120 x121 x122 x123 x124 x125 x126 x127))))
                             ((ev (envF N) k F_ref01_CopyPair [(.agg [(.sl none [.int .i64, .int .i64] x112), (.sl none [.int .i64, .int .i64] x113), (.int .i64 x114)])]).bind fun r30 =>
                              (ev (envF N) k F_ref01_CopyTask [(.agg [(.int .i64 x117), (.int .i64 x118), (.int .i64 x119), (.int .i64 x120), (.int .i64 x121), (.int .i64 x122), (.int .i64 x123), (.int .i64 x124), (.int .i64 x125), (.int .i64 x126), (.sl none [.int .i64, .int .i64, .int .i64] x127)])]).bind fun r31 =>
                               (ev (envF N) k F_lake_PermittedFor [(.agg [(.sl none [.int .i64, .int .i64] (asL (nth (asA r30) 0))), (.sl none [.int .i64, .int .i64] (asL (nth (asA r30) 1))), (.int .i64 (asI (nth (asA r30) 2)))]), (.agg [(.int .i64 x115), (.int .i64 x116)]), (.agg [(.int .i64 (asI (nth (asA r31) 0))), (.int .i64 (asI (nth (asA r31) 1))), (.int .i64 (asI (nth (asA r31) 2))), (.int .i64 (asI (nth (asA r31) 3))), (.int .i64 (asI (nth (asA r31) 4))), (.int .i64 (asI (nth (asA r31) 5))), (.int .i64 (asI (nth (asA r31) 6))), (.int .i64 (asI (nth (asA r31) 7))), (.int .i64 (asI (nth (asA r31) 8))), (.int .i64 (asI (nth (asA r31) 9))), (.sl none [.int .i64, .int .i64, .int .i64] (asL (nth (asA r31) (10))))])]).bind fun r32 =>
                                cond (!(decide ((asI (nth (asT r32) 1)) = (0 : Int))))
                                 (some (.bool (false)))
                                 ((ev (envF N) k F_base_Within [(.int .i64 (asI (nth (asT r32) 0))), (.int .i64 (0 : Int)), (.int .i64 (200 : Int))]).bind fun r34 =>
                                  cond (!(asB r34))
                                   (some (.bool (false)))
                                   (L_law01_LakeBeginnings_25 N k N  (asI (nth (asT r32) 0)) [] (0 : Int) x112 x113 x114 x115 x116 x117 x118 x119 x120 x121 x122 x123 x124 x125 x126 x127))))
                            ((ev (envF N) k F_ref01_CopyPair [(.agg [(.sl none [.int .i64, .int .i64] x112), (.sl none [.int .i64, .int .i64] x113), (.int .i64 x114)])]).bind fun r29 =>
                             (ev (envF N) k F_ref01_CopyTask [(.agg [(.int .i64 x117), (.int .i64 x118), (.int .i64 x119), (.int .i64 x120), (.int .i64 x121), (.int .i64 x122), (.int .i64 x123), (.int .i64 x124), (.int .i64 x125), (.int .i64 x126), (.sl none [.int .i64, .int .i64, .int .i64] x127)])]).bind fun r30 =>
                              (ev (envF N) k F_lake_PermittedFor [(.agg [(.sl none [.int .i64, .int .i64] (asL (nth (asA r29) 0))), (.sl none [.int .i64, .int .i64] (asL (nth (asA r29) 1))), (.int .i64 (asI (nth (asA r29) 2)))]), (.agg [(.int .i64 x115), (.int .i64 x116)]), (.agg [(.int .i64 (asI (nth (asA r30) 0))), (.int .i64 (asI (nth (asA r30) 1))), (.int .i64 (asI (nth (asA r30) 2))), (.int .i64 (asI (nth (asA r30) 3))), (.int .i64 (asI (nth (asA r30) 4))), (.int .i64 (asI (nth (asA r30) 5))), (.int .i64 (asI (nth (asA r30) 6))), (.int .i64 (asI (nth (asA r30) 7))), (.int .i64 (asI (nth (asA r30) 8))), (.int .i64 (asI (nth (asA r30) 9))), (.sl none [.int .i64, .int .i64, .int .i64] (asL (nth (asA r30) (10))))])]).bind fun r31 =>
                               cond (!(decide ((asI (nth (asT r31) 1)) = (0 : Int))))
                                (some (.bool (false)))
                                ((ev (envF N) k F_base_Within [(.int .i64 (asI (nth (asT r31) 0))), (.int .i64 (0 : Int)), (.int .i64 (200 : Int))]).bind fun r33 =>
                                 cond (!(asB r33))
                                  (some (.bool (false)))
                                  (L_law01_LakeBeginnings_25 N k N  (asI (nth (asT r31) 0)) [] (0 : Int) x112 x113 x114 x115 x116 x117 x118 x119 x120 x121 x122 x123 x124 x125 x126 x127)))))
                          (cond (!(decide ((asI (nth (asT r25) 1)) = (0 : Int))))
                           (cond (!(decide ((asI (nth (asT r25) 1)) = (12 : Int))))
                            (cond (!(decide ((asI (nth (asT r25) 1)) = (22 : Int))))
                             (some (.bool (false)))
                             ((ev (envF N) k F_ref01_CopyPair [(.agg [(.sl none [.int .i64, .int .i64] x112), (.sl none [.int .i64, .int .i64] x113), (.int .i64 x114)])]).bind fun r30 =>
                              (ev (envF N) k F_ref01_CopyTask [(.agg [(.int .i64 x117), (.int .i64 x118), (.int .i64 x119), (.int .i64 x120), (.int .i64 x121), (.int .i64 x122), (.int .i64 x123), (.int .i64 x124), (.int .i64 x125), (.int .i64 x126), (.sl none [.int .i64, .int .i64, .int .i64] x127)])]).bind fun r31 =>
                               (ev (envF N) k F_lake_PermittedFor [(.agg [(.sl none [.int .i64, .int .i64] (asL (nth (asA r30) 0))), (.sl none [.int .i64, .int .i64] (asL (nth (asA r30) 1))), (.int .i64 (asI (nth (asA r30) 2)))]), (.agg [(.int .i64 x115), (.int .i64 x116)]), (.agg [(.int .i64 (asI (nth (asA r31) 0))), (.int .i64 (asI (nth (asA r31) 1))), (.int .i64 (asI (nth (asA r31) 2))), (.int .i64 (asI (nth (asA r31) 3))), (.int .i64 (asI (nth (asA r31) 4))), (.int .i64 (asI (nth (asA r31) 5))), (.int .i64 (asI (nth (asA r31) 6))), (.int .i64 (asI (nth (asA r31) 7))), (.int .i64 (asI (nth (asA r31) 8))), (.int .i64 (asI (nth (asA r31) 9))), (.sl none [.int .i64, .int .i64, .int .i64] (asL (nth (asA r31) (10))))])]).bind fun r32 =>
                                cond (!(decide ((asI (nth (asT r32) 1)) = (0 : Int))))
                                 (some (.bool (false)))
                                 ((ev (envF N) k F_base_Within [(.int .i64 (asI (nth (asT r32) 0))), (.int .i64 (0 : Int)), (.int .i64 (200 : Int))]).bind fun r34 =>
                                  cond (!(asB r34))
                                   (some (.bool (false)))
                                   (L_law01_LakeBeginnings_25 N k N  (asI (nth (asT r32) 0)) [] (0 : Int) x112 x113 x114 x115 x116 x117 x118 x119 x120 x121 x122 x123 x124 x125 x126 x127))))
                            ((ev (envF N) k F_ref01_CopyPair [(.agg [(.sl none [.int .i64, .int .i64] x112), (.sl none [.int .i64, .int .i64] x113), (.int .i64 x114)])]).bind fun r29 =>
                             (ev (envF N) k F_ref01_CopyTask [(.agg [(.int .i64 x117), (.int .i64 x118), (.int .i64 x119), (.int .i64 x120), (.int .i64 x121), (.int .i64 x122), (.int .i64 x123), (.int .i64 x124), (.int .i64 x125), (.int .i64 x126), (.sl none [.int .i64, .int .i64, .int .i64] x127)])]).bind fun r30 =>
                              (ev (envF N) k F_lake_PermittedFor [(.agg [(.sl none [.int .i64, .int .i64] (asL (nth (asA r29) 0))), (.sl none [.int .i64, .int .i64] (asL (nth (asA r29) 1))), (.int .i64 (asI (nth (asA r29) 2)))]), (.agg [(.int .i64 x115), (.int .i64 x116)]), (.agg [(.int .i64 (asI (nth (asA r30) 0))), (.int .i64 (asI (nth (asA r30) 1))), (.int .i64 (asI (nth (asA r30) 2))), (.int .i64 (asI (nth (asA r30) 3))), (.int .i64 (asI (nth (asA r30) 4))), (.int .i64 (asI (nth (asA r30) 5))), (.int .i64 (asI (nth (asA r30) 6))), (.int .i64 (asI (nth (asA r30) 7))), (.int .i64 (asI (nth (asA r30) 8))), (.int .i64 (asI (nth (asA r30) 9))), (.sl none [.int .i64, .int .i64, .int .i64] (asL (nth (asA r30) (10))))])]).bind fun r31 =>
                               cond (!(decide ((asI (nth (asT r31) 1)) = (0 : Int))))
                                (some (.bool (false)))
                                ((ev (envF N) k F_base_Within [(.int .i64 (asI (nth (asT r31) 0))), (.int .i64 (0 : Int)), (.int .i64 (200 : Int))]).bind fun r33 =>
                                 cond (!(asB r33))
                                  (some (.bool (false)))
                                  (L_law01_LakeBeginnings_25 N k N  (asI (nth (asT r31) 0)) [] (0 : Int) x112 x113 x114 x115 x116 x117 x118 x119 x120 x121 x122 x123 x124 x125 x126 x127))))
                           ((ev (envF N) k F_ref01_CopyPair [(.agg [(.sl none [.int .i64, .int .i64] x112), (.sl none [.int .i64, .int .i64] x113), (.int .i64 x114)])]).bind fun r28 =>
                            (ev (envF N) k F_ref01_CopyTask [(.agg [(.int .i64 x117), (.int .i64 x118), (.int .i64 x119), (.int .i64 x120), (.int .i64 x121), (.int .i64 x122), (.int .i64 x123), (.int .i64 x124), (.int .i64 x125), (.int .i64 x126), (.sl none [.int .i64, .int .i64, .int .i64] x127)])]).bind fun r29 =>
                             (ev (envF N) k F_lake_PermittedFor [(.agg [(.sl none [.int .i64, .int .i64] (asL (nth (asA r28) 0))), (.sl none [.int .i64, .int .i64] (asL (nth (asA r28) 1))), (.int .i64 (asI (nth (asA r28) 2)))]), (.agg [(.int .i64 x115), (.int .i64 x116)]), (.agg [(.int .i64 (asI (nth (asA r29) 0))), (.int .i64 (asI (nth (asA r29) 1))), (.int .i64 (asI (nth (asA r29) 2))), (.int .i64 (asI (nth (asA r29) 3))), (.int .i64 (asI (nth (asA r29) 4))), (.int .i64 (asI (nth (asA r29) 5))), (.int .i64 (asI (nth (asA r29) 6))), (.int .i64 (asI (nth (asA r29) 7))), (.int .i64 (asI (nth (asA r29) 8))), (.int .i64 (asI (nth (asA r29) 9))), (.sl none [.int .i64, .int .i64, .int .i64] (asL (nth (asA r29) (10))))])]).bind fun r30 =>
                              cond (!(decide ((asI (nth (asT r30) 1)) = (0 : Int))))
                               (some (.bool (false)))
                               ((ev (envF N) k F_base_Within [(.int .i64 (asI (nth (asT r30) 0))), (.int .i64 (0 : Int)), (.int .i64 (200 : Int))]).bind fun r32 =>
                                cond (!(asB r32))
                                 (some (.bool (false)))
                                 (L_law01_LakeBeginnings_25 N k N  (asI (nth (asT r30) 0)) [] (0 : Int) x112 x113 x114 x115 x116 x117 x118 x119 x120 x121 x122 x123 x124 x125 x126 x127))))))))
               (none))
              (none))
          (none))
         (none)))))
 ((ev (envF N) k F_ref01_CopyPair [(.agg [(.sl none [.int .i64, .int .i64] x112), (.sl none [.int .i64, .int .i64] x113), (.int .i64 x114)])]).bind fun r2 =>
  (ev (envF N) k F_ref01_CopyTask [(.agg [(.int .i64 x117), (.int .i64 x118), (.int .i64 x119), (.int .i64 x120), (.int .i64 x121), (.int .i64 x122), (.int .i64 x123), (.int .i64 x124), (.int .i64 x125), (.int .i64 x126), (.sl none [.int .i64, .int .i64, .int .i64] x127)])]).bind fun r3 =>
   (ev (envF N) k F_lake_PermittedFor [(.agg [(.sl none [.int .i64, .int .i64] (asL (nth (asA r2) 0))), (.sl none [.int .i64, .int .i64] (asL (nth (asA r2) 1))), (.int .i64 (asI (nth (asA r2) 2)))]), (.agg [(.int .i64 x115), (.int .i64 x116)]), (.agg [(.int .i64 (asI (nth (asA r3) 0))), (.int .i64 (asI (nth (asA r3) 1))), (.int .i64 (asI (nth (asA r3) 2))), (.int .i64 (asI (nth (asA r3) 3))), (.int .i64 (asI (nth (asA r3) 4))), (.int .i64 (asI (nth (asA r3) 5))), (.int .i64 (asI (nth (asA r3) 6))), (.int .i64 (asI (nth (asA r3) 7))), (.int .i64 (asI (nth (asA r3) 8))), (.int .i64 (asI (nth (asA r3) 9))), (.sl none [.int .i64, .int .i64, .int .i64] (asL (nth (asA r3) (10))))])]).bind fun r4 =>
    cond (!(decide ((asI (nth (asT r4) 1)) = (0 : Int))))
     (some (.bool (false)))
     ((ev (envF N) k F_base_Within [(.int .i64 (asI (nth (asT r4) 0))), (.int .i64 (0 : Int)), (.int .i64 (200 : Int))]).bind fun r6 =>
      cond (!(asB r6))
       (some (.bool (false)))
       (L_law01_LakeBeginnings_25 N k N  (asI (nth (asT r4) 0)) [] (0 : Int) x112 x113 x114 x115 x116 x117 x118 x119 x120 x121 x122 x123 x124 x125 x126 x127)))) := by kernel_rfl
theorem T_law01_LakeBeginnings_8_2_eq (N k : Nat) (x0 : List (List PV)) (x1 : List (List PV)) (x2 : Int) (x3 : Int) (x4 : Int) (x5 : Int) (x6 : Int) (x7 : Int) (x8 : Int) (x9 : Int) (x10 : Int) (x11 : Int) (x12 : Int) (x13 : Int) (x14 : Int) (x15 : List (List PV)) (x16 : Bool) (x17 : Int) (x18 : Bool) (x19 : Bool) (x20 : List (List PV)) (x21 : List (List PV)) (x22 : Int) (x23 : Bool) (x24 : Bool) (x25 : Bool) (x26 : List (List PV)) (x27 : List (List PV)) (x28 : Int) (x29 : Int) (x30 : Int) (x31 : Int) (x32 : Bool) (x33 : Bool) (x34 : Bool) (x35 : List (List PV)) (x36 : Int) (x37 : Bool) (x38 : Bool) (x39 : Bool) (x40 : List (List PV)) (x41 : Int) (x42 : Bool) (x43 : Bool) (x44 : Bool) (x45 : List (List PV)) (x46 : List (List PV)) (x47 : Int) (x48 : Int) (x49 : Int) (x50 : Int) (x51 : Int) (x52 : Int) (x53 : Int) (x54 : Int) (x55 : Int) (x56 : Int) (x57 : Int) (x58 : List (List PV)) (x59 : Int) (x60 : Bool) (x61 : Bool) (x62 : Int) (x63 : Int) (x64 : Int) (x65 : Int) (x66 : List (List PV)) (x67 : List (List PV)) (x68 : Int) (x69 : List (List PV)) (x70 : List (List PV)) (x71 : Int) (x72 : Int) (x73 : Int) (x74 : Int) (x75 : Int) (x76 : Int) (x77 : Int) (x78 : Int) (x79 : Int) (x80 : Int) (x81 : Int) (x82 : Int) (x83 : Int) (x84 : List (List PV)) (x85 : Int) (x86 : Int) (x87 : Int) (x88 : Int) (x89 : Int) (x90 : Int) (x91 : Int) (x92 : Int) (x93 : Int) (x94 : Int) (x95 : List (List PV)) (x96 : Int) (x97 : Int) (x98 : Int) (x99 : Int) (x100 : Int) (x101 : Int) (x102 : Int) (x103 : Int) (x104 : Int) (x105 : Bool) (x106 : Bool) (x107 : Bool) (x108 : Bool) (x109 : Bool) (x110 : List (List PV)) (x111 : List (List PV)) (x112 : Int) (x113 : Int) (x114 : Int) (x115 : Int) (x116 : Int) (x117 : Int) (x118 : Int) (x119 : Int) (x120 : Int) (x121 : Int) (x122 : Int) (x123 : Int) (x124 : Int) (x125 : List (List PV)) (x126 : Int) (x127 : Int) (x128 : Int) : T_law01_LakeBeginnings_8_2 N k x0 x1 x2 x3 x4 x5 x6 x7 x8 x9 x10 x11 x12 x13 x14 x15 x16 x17 x18 x19 x20 x21 x22 x23 x24 x25 x26 x27 x28 x29 x30 x31 x32 x33 x34 x35 x36 x37 x38 x39 x40 x41 x42 x43 x44 x45 x46 x47 x48 x49 x50 x51 x52 x53 x54 x55 x56 x57 x58 x59 x60 x61 x62 x63 x64 x65 x66 x67 x68 x69 x70 x71 x72 x73 x74 x75 x76 x77 x78 x79 x80 x81 x82 x83 x84 x85 x86 x87 x88 x89 x90 x91 x92 x93 x94 x95 x96 x97 x98 x99 x100 x101 x102 x103 x104 x105 x106 x107 x108 x109 x110 x111 x112 x113 x114 x115 x116 x117 x118 x119 x120 x121 x122 x123 x124 x125 x126 x127 x128 =
 (cond (decide (x17 = (0 : Int)))
 ((ev (envF N) k F_base_Within [(.int .i64 x126), (.int .i64 (1 : Int)), (.int .i64 ((List.length x125) : Int))]).bind fun r2 =>
  cond (!(asB r2))
   (some (.bool (false)))
   ((ev (envF N) k F_base_Within [(.int .i64 x127), (.int .i64 (0 : Int)), (.int .i64 (1 : Int))]).bind fun r4 =>
    cond (!(asB r4))
     (some (.bool (false)))
     ((ev (envF N) k F_base_Within [(.int .i64 x128), (.int .i64 (0 : Int)), (.int .i64 (3 : Int))]).bind fun r6 =>
      cond (!(asB r6))
       (some (.bool (false)))
       ((ev (envF N) k F_ref01_CopyPair [(.agg [(.sl none [.int .i64, .int .i64] x110), (.sl none [.int .i64, .int .i64] x111), (.int .i64 x112)])]).bind fun r8 =>
        cond (decide ((0 : Int) ≤ (w64 (x126 - (1 : Int)))))
         (cond (decide ((w64 (x126 - (1 : Int))) ≤ ((List.length x125) : Int)))
          ((ev (envF N) k F_ref01_CopyList [(.sl none [.int .i64, .int .i64, .int .i64] (List.drop 0 (List.take (Int.toNat (w64 (x126 - (1 : Int)))) x125)))]).bind fun r11 =>
           (ev (envF N) k F_lake_ViolationOf [(.agg [(.sl none [.int .i64, .int .i64] (asL (nth (asA r8) 0))), (.sl none [.int .i64, .int .i64] (asL (nth (asA r8) 1))), (.int .i64 (asI (nth (asA r8) 2)))]), (.agg [(.int .i64 x113), (.int .i64 x114)]), (.agg [(.int .i64 x115), (.int .i64 x116), (.int .i64 x117), (.int .i64 x118), (.int .i64 x119), (.int .i64 x120), (.int .i64 x121), (.int .i64 x122), (.int .i64 x123), (.int .i64 x124), (.sl none [.int .i64, .int .i64, .int .i64] (asL r11))])]).bind fun r12 =>
            (ev (envF N) k F_ref01_CopyPair [(.agg [(.sl none [.int .i64, .int .i64] x110), (.sl none [.int .i64, .int .i64] x111), (.int .i64 x112)])]).bind fun r13 =>
             cond (decide ((0 : Int) ≤ x126))
              (cond (decide (x126 ≤ ((List.length x125) : Int)))
               ((ev (envF N) k F_ref01_CopyList [(.sl none [.int .i64, .int .i64, .int .i64] (List.drop 0 (List.take (Int.toNat x126) x125)))]).bind fun r16 =>
                (ev (envF N) k F_lake_ViolationOf [(.agg [(.sl none [.int .i64, .int .i64] (asL (nth (asA r13) 0))), (.sl none [.int .i64, .int .i64] (asL (nth (asA r13) 1))), (.int .i64 (asI (nth (asA r13) 2)))]), (.agg [(.int .i64 x113), (.int .i64 x114)]), (.agg [(.int .i64 x115), (.int .i64 x116), (.int .i64 x117), (.int .i64 x118), (.int .i64 x119), (.int .i64 x120), (.int .i64 x121), (.int .i64 x122), (.int .i64 x123), (.int .i64 x124), (.sl none [.int .i64, .int .i64, .int .i64] (asL r16))])]).bind fun r17 =>
                 cond (!(decide ((asI (nth (asT r12) 1)) = (12 : Int))))
                  (some (.bool (false)))
                  (cond (!(decide ((asI (nth (asT r17) 1)) = (0 : Int))))
                   (some (.bool (false)))
                   (cond (!((decide ((asI (nth (asA (nth (asT r17) 0)) 0)) = x126)) && ((decide ((asI (nth (asA (nth (asT r17) 0)) 1)) = x127)) && (decide ((asI (nth (asA (nth (asT r17) 0)) 2)) = x128)))))
                    (some (.bool (false)))
                    ((ev (envF N) k F_law01_wider [(.agg [(.sl none [.int .i64, .int .i64] x110)]), (.agg [(.int .i64 x115), (.int .i64 x116), (.int .i64 x117), (.int .i64 x118), (.int .i64 x119)])]).bind fun r21 =>
                     (ev (envF N) k F_law01_wider [(.agg [(.sl none [.int .i64, .int .i64] x111)]), (.agg [(.int .i64 x120), (.int .i64 x121), (.int .i64 x122), (.int .i64 x123), (.int .i64 x124)])]).bind fun r22 =>
                      (ev (envF N) k F_ref01_CopyPair [(.agg [(.sl none [.int .i64, .int .i64] x110), (.sl none [.int .i64, .int .i64] x111), (.int .i64 x112)])]).bind fun r23 =>
                       (ev (envF N) k F_ref01_CopyList [(.sl none [.int .i64, .int .i64, .int .i64] x125)]).bind fun r24 =>
                        (ev (envF N) k F_lake_ViolationOf [(.agg [(.sl none [.int .i64, .int .i64] (asL (nth (asA r23) 0))), (.sl none [.int .i64, .int .i64] (asL (nth (asA r23) 1))), (.int .i64 (asI (nth (asA r23) 2)))]), (.agg [(.int .i64 x113), (.int .i64 x114)]), (.agg [(.int .i64 (asI (nth (asA r21) 0))), (.int .i64 (asI (nth (asA r21) 1))), (.int .i64 (asI (nth (asA r21) 2))), (.int .i64 (asI (nth (asA r21) 3))), (.int .i64 (asI (nth (asA r21) 4))), (.int .i64 (asI (nth (asA r22) 0))), (.int .i64 (asI (nth (asA r22) 1))), (.int .i64 (asI (nth (asA r22) 2))), (.int .i64 (asI (nth (asA r22) 3))), (.int .i64 (asI (nth (asA r22) 4))), (.sl none [.int .i64, .int .i64, .int .i64] (asL r24))])]).bind fun r25 =>
                         cond (decide ((asI (nth (asT r25) 1)) = (0 : Int)))
                          (cond (decide ((asI (nth (asA (nth (asT r25) 0)) 0)) < x126))
                           (some (.bool (false)))
                           (cond (!(decide ((asI (nth (asT r25) 1)) = (0 : Int))))
                            (cond (!(decide ((asI (nth (asT r25) 1)) = (12 : Int))))
                             (cond (!(decide ((asI (nth (asT r25) 1)) = (22 : Int))))
                              (some (.bool (false)))
                              ((ev (envF N) k F_ref01_CopyPair [(.agg [(.sl none [.int .i64, .int .i64] x110), (.sl none [.int .i64, .int .i64] x111), (.int .i64 x112)])]).bind fun r31 =>
                               (ev (envF N) k F_ref01_CopyTask [(.agg [(.int .i64 x115), (.int .i64 x116), (.int .i64 x117), (.int .i64 x118), (.int .i64 x119), (.int .i64 x120), (.int .i64 x121), (.int .i64 x122), (.int .i64 x123), (.int .i64 x124), (.sl none [.int .i64, .int .i64, .int .i64] x125)])]).bind fun r32 =>
                                (ev (envF N) k F_lake_PermittedFor [(.agg [(.sl none [.int .i64, .int .i64] (asL (nth (asA r31) 0))), (.sl none [.int .i64, .int .i64] (asL (nth (asA r31) 1))), (.int .i64 (asI (nth (asA r31) 2)))]), (.agg [(.int .i64 x113), (.int .i64 x114)]), (.agg [(.int .i64 (asI (nth (asA r32) 0))), (.int .i64 (asI (nth (asA r32) 1))), (.int .i64 (asI (nth (asA r32) 2))), (.int .i64 (asI (nth (asA r32) 3))), (.int .i64 (asI (nth (asA r32) 4))), (.int .i64 (asI (nth (asA r32) 5))), (.int .i64 (asI (nth (asA r32) 6))), (.int .i64 (asI (nth (asA r32) 7))), (.int .i64 (asI (nth (asA r32) 8))), (.int .i64 (asI (nth (asA r32) 9))), (.sl none [.int .i64, .int .i64, .int .i64] (asL (nth (asA r32) (10))))])]).bind fun r33 =>
                                 cond (!(decide ((asI (nth (asT r33) 1)) = (0 : Int))))
                                  (some (.bool (false)))
                                  ((ev (envF N) k F_base_Within [(.int .i64 (asI (nth (asT r33) 0))), (.int .i64 (0 : Int)), (.int .i64 (200 : Int))]).bind fun r35 =>
                                   cond (!(asB r35))
                                    (some (.bool (false)))
                                    (L_law01_LakeBeginnings_25 N k N  (asI (nth (asT r33) 0)) [] (0 : Int) x110 x111 x112 x113 x114 x115 x116 x117 x118 x119 x120 x121 x122 x123 x124 x125))))
                             ((ev (envF N) k F_ref01_CopyPair [(.agg [(.sl none [.int .i64, .int .i64] x110), (.sl none [.int .i64, .int .i64] x111), (.int .i64 x112)])]).bind fun r30 =>
                              (ev (envF N) k F_ref01_CopyTask [(.agg [(.int .i64 x115), (.int .i64 x116), (.int .i64 x117), (.int .i64 x118), (.int .i64 x119), (.int .i64 x120), (.int .i64 x121), (.int .i64 x122), (.int .i64 x123), (.int .i64 x124), (.sl none [.int .i64, .int .i64, .int .i64] x125)])]).bind fun r31 =>
                               (ev (envF N) k F_lake_PermittedFor [(.agg [(.sl none [.int .i64, .int .i64] (asL (nth (asA r30) 0))), (.sl none [.int .i64, .int .i64] (asL (nth (asA r30) 1))), (.int .i64 (asI (nth (asA r30) 2)))]), (.agg [(.int .i64 x113), (.int .i64 x114)]), (.agg [(.int .i64 (asI (nth (asA r31) 0))), (.int .i64 (asI (nth (asA r31) 1))), (.int .i64 (asI (nth (asA r31) 2))), (.int .i64 (asI (nth (asA r31) 3))), (.int .i64 (asI (nth (asA r31) 4))), (.int .i64 (asI (nth (asA r31) 5))), (.int .i64 (asI (nth (asA r31) 6))), (.int .i64 (asI (nth (asA r31) 7))), (.int .i64 (asI (nth (asA r31) 8))), (.int .i64 (asI (nth (asA r31) 9))), (.sl none [.int .i64, .int .i64, .int .i64] (asL (nth (asA r31) (10))))])]).bind fun r32 =>
                                cond (!(decide ((asI (nth (asT r32) 1)) = (0 : Int))))
                                 (some (.bool (false)))
                                 ((ev (envF N) k F_base_Within [(.int .i64 (asI (nth (asT r32) 0))), (.int .i64 (0 : Int)), (.int .i64 (200 : Int))]).bind fun r34 =>
                                  cond (!(asB r34))
                                   (some (.bool (false)))
                                   (L_law01_LakeBeginnings_25 N k N  (asI (nth (asT r32) 0)) [] (0 : Int) x110 x111 x112 x113 x114 x115 x116 x117 x118 x119 x120 x121 x122 x123 x124 x125))))
                            ((ev (envF N) k F_ref01_CopyPair [(.agg [(.sl none [.int .i64, .int .i64] x110), (.sl none [.int .i64, .int .i64] x111), (.int .i64 x112)])]).bind fun r29 =>
                             (ev (envF N) k F_ref01_CopyTask [(.agg [(.int .i64 x115), (.int .i64 x116), (.int .i64 x117), (.int .i64 x118), (.int .i64 x119), (.int .i64 x120), (.int .i64 x121), (.int .i64 x122), (.int .i64 x123), (.int .i64 x124), (.sl none [.int .i64, .int .i64, .int .i64] x125)])]).bind fun r30 =>
                              (ev (envF N) k F_lake_PermittedFor [(.agg [(.sl none [.int .i64, .int .i64] (asL (nth (asA r29) 0))), (.sl none [.int .i64, .int .i64] (asL (nth (asA r29) 1))), (.int .i64 (asI (nth (asA r29) 2)))]), (.agg [(.int .i64 x113), (.int .i64 x114)]), (.agg [(.int .i64 (asI (nth (asA r30) 0))), (.int .i64 (asI (nth (asA r30) 1))), (.int .i64 (asI (nth (asA r30) 2))), (.int .i64 (asI (nth (asA r30) 3))), (.int .i64 (asI (nth (asA r30) 4))), (.int .i64 (asI (nth (asA r30) 5))), (.int .i64 (asI (nth (asA r30) 6))), (.int .i64 (asI (nth (asA r30) 7))), (.int .i64 (asI (nth (asA r30) 8))), (.int .i64 (asI (nth (asA r30) 9))), (.sl none [.int .i64, .int .i64, .int .i64] (asL (nth (asA r30) (10))))])]).bind fun r31 =>
                               cond (!(decide ((asI (nth (asT r31) 1)) = (0 : Int))))
                                (some (.bool (false)))
                                ((ev (envF N) k F_base_Within [(.int .i64 (asI (nth (asT r31) 0))), (.int .i64 (0 : Int)), (.int .i64 (200 : Int))]).bind fun r33 =>
                                 cond (!(asB r33))
                                  (some (.bool (false)))
                                  (L_law01_LakeBeginnings_25 N k N  (asI (nth (asT r31) 0)) [] (0 : Int) x110 x111 x112 x113 x114 x115 x116 x117 x118 x119 x120 x121 x122 x123 x124 x125)))))
                          (cond (!(decide ((asI (nth (asT r25) 1)) = (0 : Int))))
                           (cond (!(decide ((asI (nth (asT r25) 1)) = (12 : Int))))
                            (cond (!(decide ((asI (nth (asT r25) 1)) = (22 : Int))))
                             (some (.bool (false)))
                             ((ev (envF N) k F_ref01_CopyPair [(.agg [(.sl none [.int .i64, .int .i64] x110), (.sl none [.int .i64, .int .i64] x111), (.int .i64 x112)])]).bind fun r30 =>
                              (ev (envF N) k F_ref01_CopyTask [(.agg [(.int .i64 x115), (.int .i64 x116), (.int .i64 x117), (.int .i64 x118), (.int .i64 x119), (.int .i64 x120), (.int .i64 x121), (.int .i64 x122), (.int .i64 x123), (.int .i64 x124), (.sl none [.int .i64, .int .i64, .int .i64] x125)])]).bind fun r31 =>
                               (ev (envF N) k F_lake_PermittedFor [(.agg [(.sl none [.int .i64, .int .i64] (asL (nth (asA r30) 0))), (.sl none [.int .i64, .int .i64] (asL (nth (asA r30) 1))), (.int .i64 (asI (nth (asA r30) 2)))]), (.agg [(.int .i64 x113), (.int .i64 x114)]), (.agg [(.int .i64 (asI (nth (asA r31) 0))), (.int .i64 (asI (nth (asA r31) 1))), (.int .i64 (asI (nth (asA r31) 2))), (.int .i64 (asI (nth (asA r31) 3))), (.int .i64 (asI (nth (asA r31) 4))), (.int .i64 (asI (nth (asA r31) 5))), (.int .i64 (asI (nth (asA r31) 6))), (.int .i64 (asI (nth (asA r31) 7))), (.int .i64 (asI (nth (asA r31) 8))), (.int .i64 (asI (nth (asA r31) 9))), (.sl none [.int .i64, .int .i64, .int .i64] (asL (nth (asA r31) (10))))])]).bind fun r32 =>
                                cond (!(decide ((asI (nth (asT r32) 1)) = (0 : Int))))
                                 (some (.bool (false)))
                                 ((ev (envF N) k F_base_Within [(.int .i64 (asI (nth (asT r32) 0))), (.int .i64 (0 : Int)), (.int .i64 (200 : Int))]).bind fun r34 =>
                                  cond (!(asB r34))
                                   (some (.bool (false)))
                                   (L_law01_LakeBeginnings_25 N k N  (asI (nth (asT r32) 0)) [] (0 : Int) x110 x111 x112 x113 x114 x115 x116 x117 x118 x119 x120 x121 x122 x123 x124 x125))))
                            ((ev (envF N) k F_ref01_CopyPair [(.agg [(.sl none [.int .i64, .int .i64] x110), (.sl none [.int .i64, .int .i64] x111), (.int .i64 x112)])]).bind fun r29 =>
                             (ev (envF N) k F_ref01_CopyTask [(.agg [(.int .i64 x115), (.int .i64 x116), (.int .i64 x117), (.int .i64 x118), (.int .i64 x119), (.int .i64 x120), (.int .i64 x121), (.int .i64 x122), (.int .i64 x123), (.int .i64 x124), (.sl none [.int .i64, .int .i64, .int .i64] x125)])]).bind fun r30 =>
                              (ev (envF N) k F_lake_PermittedFor [(.agg [(.sl none [.int .i64, .int .i64] (asL (nth (asA r29) 0))), (.sl none [.int .i64, .int .i64] (asL (nth (asA r29) 1))), (.int .i64 (asI (nth (asA r29) 2)))]), (.agg [(.int .i64 x113), (.int .i64 x114)]), (.agg [(.int .i64 (asI (nth (asA r30) 0))), (.int .i64 (asI (nth (asA r30) 1))), (.int .i64 (asI (nth (asA r30) 2))), (.int .i64 (asI (nth (asA r30) 3))), (.int .i64 (asI (nth (asA r30) 4))), (.int .i64 (asI (nth (asA r30) 5))), (.int .i64 (asI (nth (asA r30) 6))), (.int .i64 (asI (nth (asA r30) 7))), (.int .i64 (asI (nth (asA r30) 8))), (.int .i64 (asI (nth (asA r30) 9))), (.sl none [.int .i64, .int .i64, .int .i64] (asL (nth (asA r30) (10))))])]).bind fun r31 =>
                               cond (!(decide ((asI (nth (asT r31) 1)) = (0 : Int))))
                                (some (.bool (false)))
                                ((ev (envF N) k F_base_Within [(.int .i64 (asI (nth (asT r31) 0))), (.int .i64 (0 : Int)), (.int .i64 (200 : Int))]).bind fun r33 =>
                                 cond (!(asB r33))
                                  (some (.bool (false)))
                                  (L_law01_LakeBeginnings_25 N k N  (asI (nth (asT r31) 0)) [] (0 : Int) x110 x111 x112 x113 x114 x115 x116 x117 x118 x119 x120 x121 x122 x123 x124 x125))))
                           ((ev (envF N) k F_ref01_CopyPair [(.agg [(.sl none [.int .i64, .int .i64] x110), (.sl none [.int .i64, .int .i64] x111), (.int .i64 x112)])]).bind fun r28 =>
                            (ev (envF N) k F_ref01_CopyTask [(.agg [(.int .i64 x115), (.int .i64 x116), (.int .i64 x117), (.int .i64 x118), (.int .i64 x119), (.int .i64 x120), (.int .i64 x121), (.int .i64 x122), (.int .i64 x123), (.int .i64 x124), (.sl none [.int .i64, .int .i64, .int .i64] x125)])]).bind fun r29 =>
                             (ev (envF N) k F_lake_PermittedFor [(.agg [(.sl none [.int .i64, .int .i64] (asL (nth (asA r28) 0))), (.sl none [.int .i64, .int .i64] (asL (nth (asA r28) 1))), (.int .i64 (asI (nth (asA r28) 2)))]), (.agg [(.int .i64 x113), (.int .i64 x114)]), (.agg [(.int .i64 (asI (nth (asA r29) 0))), (.int .i64 (asI (nth (asA r29) 1))), (.int .i64 (asI (nth (asA r29) 2))), (.int .i64 (asI (nth (asA r29) 3))), (.int .i64 (asI (nth (asA r29) 4))), (.int .i64 (asI (nth (asA r29) 5))), (.int .i64 (asI (nth (asA r29) 6))), (.int .i64 (asI (nth (asA r29) 7))), (.int .i64 (asI (nth (asA r29) 8))), (.int .i64 (asI (nth (asA r29) 9))), (.sl none [.int .i64, .int .i64, .int .i64] (asL (nth (asA r29) (10))))])]).bind fun r30 =>
                              cond (!(decide ((asI (nth (asT r30) 1)) = (0 : Int))))
                               (some (.bool (false)))
                               ((ev (envF N) k F_base_Within [(.int .i64 (asI (nth (asT r30) 0))), (.int .i64 (0 : Int)), (.int .i64 (200 : Int))]).bind fun r32 =>
                                cond (!(asB r32))
                                 (some (.bool (false)))
                                 (L_law01_LakeBeginnings_25 N k N  (asI (nth (asT r30) 0)) [] (0 : Int) x110 x111 x112 x113 x114 x115 x116 x117 x118 x119 x120 x121 x122 x123 x124 x125))))))))
               (none))
              (none))
          (none))
         (none)))))
 ((ev (envF N) k F_ref01_CopyPair [(.agg [(.sl none [.int .i64, .int .i64] x110), (.sl none [.int .i64, .int .i64] x111), (.int .i64 x112)])]).bind fun r2 =>
  (ev (envF N) k F_ref01_CopyTask [(.agg [(.int .i64 x115), (.int .i64 x116), (.int .i64 x117), (.int .i64 x118), (.int .i64 x119), (.int .i64 x120), (.int .i64 x121), (.int .i64 x122), (.int .i64 x123), (.int .i64 x124), (.sl none [.int .i64, .int .i64, .int .i64] x125)])]).bind fun r3 =>
   (ev (envF N) k F_lake_PermittedFor [(.agg [(.sl none [.int .i64, .int .i64] (asL (nth (asA r2) 0))), (.sl none [.int .i64, .int .i64] (asL (nth (asA r2) 1))), (.int .i64 (asI (nth (asA r2) 2)))]), (.agg [(.int .i64 x113), (.int .i64 x114)]), (.agg [(.int .i64 (asI (nth (asA r3) 0))), (.int .i64 (asI (nth (asA r3) 1))), (.int .i64 (asI (nth (asA r3) 2))), (.int .i64 (asI (nth (asA r3) 3))), (.int .i64 (asI (nth (asA r3) 4))), (.int .i64 (asI (nth (asA r3) 5))), (.int .i64 (asI (nth (asA r3) 6))), (.int .i64 (asI (nth (asA r3) 7))), (.int .i64 (asI (nth (asA r3) 8))), (.int .i64 (asI (nth (asA r3) 9))), (.sl none [.int .i64, .int .i64, .int .i64] (asL (nth (asA r3) (10))))])]).bind fun r4 =>
    cond (!(decide ((asI (nth (asT r4) 1)) = (0 : Int))))
     (some (.bool (false)))
     ((ev (envF N) k F_base_Within [(.int .i64 (asI (nth (asT r4) 0))), (.int .i64 (0 : Int)), (.int .i64 (200 : Int))]).bind fun r6 =>
      cond (!(asB r6))
       (some (.bool (false)))
       (L_law01_LakeBeginnings_25 N k N  (asI (nth (asT r4) 0)) [] (0 : Int) x110 x111 x112 x113 x114 x115 x116 x117 x118 x119 x120 x121 x122 x123 x124 x125)))) := by kernel_rfl
theorem L_law01_LakeBeginnings_25_eq (N k n25  : Nat) (x0 : Int) (x1 : List (List PV)) (x2 : Int) (x3 : List (List PV)) (x4 : List (List PV)) (x5 : Int) (x6 : Int) (x7 : Int) (x8 : Int) (x9 : Int) (x10 : Int) (x11 : Int) (x12 : Int) (x13 : Int) (x14 : Int) (x15 : Int) (x16 : Int) (x17 : Int) (x18 : List (List PV)) : L_law01_LakeBeginnings_25 N k (n25 + 1)  x0 x1 x2 x3 x4 x5 x6 x7 x8 x9 x10 x11 x12 x13 x14 x15 x16 x17 x18 =
 (cond (decide (x2 < x0))
 (cond (decide ((0 : Int) ≤ (w64 (((List.length x18) : Int) - (1 : Int)))))
  (cond (decide ((w64 (((List.length x18) : Int) - (1 : Int))) < ((List.length x18) : Int)))
   (cond (room x1 [[(.int .i64 (asI (nth (nths x18 (Int.toNat (w64 ((x18.length : Int) - (1 : Int))))) 0))), (.int .i64 (asI (nth (nths x18 (Int.toNat (w64 ((x18.length : Int) - (1 : Int))))) 1))), (.int .i64 (asI (nth (nths x18 (Int.toNat (w64 ((x18.length : Int) - (1 : Int))))) 2)))]] 24)
    (L_law01_LakeBeginnings_25 N k n25  x0 (x1 ++ [[(.int .i64 (asI (nth (nths x18 (Int.toNat (w64 ((x18.length : Int) - (1 : Int))))) 0))), (.int .i64 (asI (nth (nths x18 (Int.toNat (w64 ((x18.length : Int) - (1 : Int))))) 1))), (.int .i64 (asI (nth (nths x18 (Int.toNat (w64 ((x18.length : Int) - (1 : Int))))) 2)))]]) (w64 (x2 + (1 : Int))) x3 x4 x5 x6 x7 x8 x9 x10 x11 x12 x13 x14 x15 x16 x17 x18)
    (none))
   (none))
  (none))
 ((ev (envF N) k F_ref01_CopyPair [(.agg [(.sl none [.int .i64, .int .i64] x3), (.sl none [.int .i64, .int .i64] x4), (.int .i64 x5)])]).bind fun r2 =>
  (ev (envF N) k F_ref01_CopyList [(.sl none [.int .i64, .int .i64, .int .i64] x1)]).bind fun r3 =>
   (ev (envF N) k F_lake_ViolationOf [(.agg [(.sl none [.int .i64, .int .i64] (asL (nth (asA r2) 0))), (.sl none [.int .i64, .int .i64] (asL (nth (asA r2) 1))), (.int .i64 (asI (nth (asA r2) 2)))]), (.agg [(.int .i64 x6), (.int .i64 x7)]), (.agg [(.int .i64 x8), (.int .i64 x9), (.int .i64 x10), (.int .i64 x11), (.int .i64 x12), (.int .i64 x13), (.int .i64 x14), (.int .i64 x15), (.int .i64 x16), (.int .i64 x17), (.sl none [.int .i64, .int .i64, .int .i64] (asL r3))])]).bind fun r4 =>
    cond (!(decide ((asI (nth (asT r4) 1)) = (12 : Int))))
     (some (.bool (false)))
     (cond (decide (x0 = (200 : Int)))
      (some (.bool (true)))
      (cond (decide ((0 : Int) ≤ (w64 (((List.length x18) : Int) - (1 : Int)))))
       (cond (decide ((w64 (((List.length x18) : Int) - (1 : Int))) < ((List.length x18) : Int)))
        (cond (room x1 [[(.int .i64 (asI (nth (nths x18 (Int.toNat (w64 ((x18.length : Int) - (1 : Int))))) 0))), (.int .i64 (asI (nth (nths x18 (Int.toNat (w64 ((x18.length : Int) - (1 : Int))))) 1))), (.int .i64 (asI (nth (nths x18 (Int.toNat (w64 ((x18.length : Int) - (1 : Int))))) 2)))]] 24)
         ((ev (envF N) k F_ref01_CopyPair [(.agg [(.sl none [.int .i64, .int .i64] x3), (.sl none [.int .i64, .int .i64] x4), (.int .i64 x5)])]).bind fun r10 =>
          (ev (envF N) k F_lake_ViolationOf [(.agg [(.sl none [.int .i64, .int .i64] (asL (nth (asA r10) 0))), (.sl none [.int .i64, .int .i64] (asL (nth (asA r10) 1))), (.int .i64 (asI (nth (asA r10) 2)))]), (.agg [(.int .i64 x6), (.int .i64 x7)]), (.agg [(.int .i64 x8), (.int .i64 x9), (.int .i64 x10), (.int .i64 x11), (.int .i64 x12), (.int .i64 x13), (.int .i64 x14), (.int .i64 x15), (.int .i64 x16), (.int .i64 x17), (.sl none [.int .i64, .int .i64, .int .i64] (x1 ++ [[(.int .i64 (asI (nth (nths x18 (Int.toNat (w64 ((x18.length : Int) - (1 : Int))))) 0))), (.int .i64 (asI (nth (nths x18 (Int.toNat (w64 ((x18.length : Int) - (1 : Int))))) 1))), (.int .i64 (asI (nth (nths x18 (Int.toNat (w64 ((x18.length : Int) - (1 : Int))))) 2)))]]))])]).bind fun r11 =>
           cond (decide ((asI (nth (asT r11) 1)) = (0 : Int)))
            (some (.bool (true)))
            (some (.bool (decide ((asI (nth (asT r11) 1)) = (22 : Int))))))
         (none))
        (none))
       (none))))) := by kernel_rfl
theorem E_law01_LakeBeginnings (N k : Nat) (x0 : List (List PV)) (x1 : List (List PV)) (x2 : Int) (x3 : Int) (x4 : Int) (x5 : Int) (x6 : Int) (x7 : Int) (x8 : Int) (x9 : Int) (x10 : Int) (x11 : Int) (x12 : Int) (x13 : Int) (x14 : Int) (x15 : List (List PV)) : ev (envF N) (k + 1) F_law01_LakeBeginnings [(.agg [(.sl none [.int .i64, .int .i64] x0), (.sl none [.int .i64, .int .i64] x1), (.int .i64 x2)]), (.agg [(.int .i64 x3), (.int .i64 x4)]), (.agg [(.int .i64 x5), (.int .i64 x6), (.int .i64 x7), (.int .i64 x8), (.int .i64 x9), (.int .i64 x10), (.int .i64 x11), (.int .i64 x12), (.int .i64 x13), (.int .i64 x14), (.sl none [.int .i64, .int .i64, .int .i64] x15)])] =
 ((ev (envF N) k F_law01_awake []).bind fun r1 =>
 cond (!(asB r1))
  (some (.bool (false)))
  ((ev (envF N) k F_law01_FewPair [(.agg [(.sl none [.int .i64, .int .i64] x0), (.sl none [.int .i64, .int .i64] x1), (.int .i64 x2)])]).bind fun r3 =>
   cond (!(asB r3))
    (some (.bool (true)))
    ((ev (envF N) k F_ref01_BothErr [(.agg [(.sl none [.int .i64, .int .i64] x0), (.sl none [.int .i64, .int .i64] x1), (.int .i64 x2)]), (.agg [(.int .i64 x3), (.int .i64 x4)])]).bind fun r5 =>
     cond (!(decide ((asI r5) = (0 : Int))))
      (some (.bool (true)))
      (cond (decide (((List.length x15) : Int) = (0 : Int)))
       (some (.bool (true)))
       (cond (decide ((20 : Int) < ((List.length x15) : Int)))
        (some (.bool (true)))
        ((ev (envF N) k F_ref01_TaskErr [(.agg [(.sl none [.int .i64, .int .i64] x0), (.sl none [.int .i64, .int .i64] x1), (.int .i64 x2)]), (.agg [(.int .i64 x5), (.int .i64 x6), (.int .i64 x7), (.int .i64 x8), (.int .i64 x9), (.int .i64 x10), (.int .i64 x11), (.int .i64 x12), (.int .i64 x13), (.int .i64 x14), (.sl none [.int .i64, .int .i64, .int .i64] x15)])]).bind fun r9 =>
         cond (!(decide ((asI r9) = (0 : Int))))
          (some (.bool (true)))
          ((ev (envF N) k F_ref01_CopyPair [(.agg [(.sl none [.int .i64, .int .i64] x0), (.sl none [.int .i64, .int .i64] x1), (.int .i64 x2)])]).bind fun r11 =>
           (ev (envF N) k F_ref01_CopyTask [(.agg [(.int .i64 x5), (.int .i64 x6), (.int .i64 x7), (.int .i64 x8), (.int .i64 x9), (.int .i64 x10), (.int .i64 x11), (.int .i64 x12), (.int .i64 x13), (.int .i64 x14), (.sl none [.int .i64, .int .i64, .int .i64] x15)])]).bind fun r12 =>
            (ev (envF N) k F_lake_ViolationOf [(.agg [(.sl none [.int .i64, .int .i64] (asL (nth (asA r11) 0))), (.sl none [.int .i64, .int .i64] (asL (nth (asA r11) 1))), (.int .i64 (asI (nth (asA r11) 2)))]), (.agg [(.int .i64 x3), (.int .i64 x4)]), (.agg [(.int .i64 (asI (nth (asA r12) 0))), (.int .i64 (asI (nth (asA r12) 1))), (.int .i64 (asI (nth (asA r12) 2))), (.int .i64 (asI (nth (asA r12) 3))), (.int .i64 (asI (nth (asA r12) 4))), (.int .i64 (asI (nth (asA r12) 5))), (.int .i64 (asI (nth (asA r12) 6))), (.int .i64 (asI (nth (asA r12) 7))), (.int .i64 (asI (nth (asA r12) 8))), (.int .i64 (asI (nth (asA r12) 9))), (.sl none [.int .i64, .int .i64, .int .i64] (asL (nth (asA r12) (10))))])]).bind fun r13 =>
             cond (!(decide ((asI (nth (asT r13) 1)) = (0 : Int))))
              (cond (!(decide ((asI (nth (asT r13) 1)) = (12 : Int))))
               (cond (!(decide ((asI (nth (asT r13) 1)) = (22 : Int))))
                (some (.bool (false)))
                (T_law01_LakeBeginnings_8_0 N k x0 x1 x2 x3 x4 x5 x6 x7 x8 x9 x10 x11 x12 x13 x14 x15 (false) (asI (nth (asT r13) 1)) (asB r1) (false) x0 x1 x2 (asB r3) (!(asB r3)) (false) x0 x1 x2 x3 x4 (asI r5) (!(decide ((asI r5) = (0 : Int)))) (!(decide ((asI r5) = (0 : Int)))) (false) x15 ((List.length x15) : Int) (decide (((List.length x15) : Int) = (0 : Int))) (decide (((List.length x15) : Int) = (0 : Int))) (false) x15 ((List.length x15) : Int) (decide ((20 : Int) < ((List.length x15) : Int))) (decide ((20 : Int) < ((List.length x15) : Int))) (false) x0 x1 x2 x5 x6 x7 x8 x9 x10 x11 x12 x13 x14 x15 (asI r9) (!(decide ((asI r9) = (0 : Int)))) (false) (asI (nth (asA (nth (asT r13) 0)) 0)) (asI (nth (asA (nth (asT r13) 0)) 1)) (asI (nth (asA (nth (asT r13) 0)) 2)) (asI (nth (asT r13) 1)) x0 x1 x2 (asL (nth (asA r11) 0)) (asL (nth (asA r11) 1)) (asI (nth (asA r11) 2)) x3 x4 x5 x6 x7 x8 x9 x10 x11 x12 x13 x14 x15 (asI (nth (asA r12) 0)) (asI (nth (asA r12) 1)) (asI (nth (asA r12) 2)) (asI (nth (asA r12) 3)) (asI (nth (asA r12) 4)) (asI (nth (asA r12) 5)) (asI (nth (asA r12) 6)) (asI (nth (asA r12) 7)) (asI (nth (asA r12) 8)) (asI (nth (asA r12) 9)) (asL (nth (asA r12) (10))) (asI (nth (asA (nth (asT r13) 0)) 0)) (asI (nth (asA (nth (asT r13) 0)) 1)) (asI (nth (asA (nth (asT r13) 0)) 2)) (asI (nth (asT r13) 1)) (asI (nth (asA (nth (asT r13) 0)) 0)) (asI (nth (asA (nth (asT r13) 0)) 1)) (asI (nth (asA (nth (asT r13) 0)) 2)) (asI (nth (asT r13) 1)) (asI (nth (asT r13) 1)) (!(decide ((asI (nth (asT r13) 1)) = (0 : Int)))) (true) (asI (nth (asT r13) 1)) (!(decide ((asI (nth (asT r13) 1)) = (12 : Int)))) (!(decide ((asI (nth (asT r13) 1)) = (12 : Int)))) (true) (asI (nth (asT r13) 1)) (!(decide ((asI (nth (asT r13) 1)) = (22 : Int)))) (false) x0 x1 x2 x3 x4 x5 x6 x7 x8 x9 x10 x11 x12 x13 x14 x15 (asI (nth (asA (nth (asT r13) 0)) 0)) (asI (nth (asA (nth (asT r13) 0)) 1)) (asI (nth (asA (nth (asT r13) 0)) 2))))
               (T_law01_LakeBeginnings_8_1 N k x0 x1 x2 x3 x4 x5 x6 x7 x8 x9 x10 x11 x12 x13 x14 x15 (false) (asI (nth (asT r13) 1)) (asB r1) (false) x0 x1 x2 (asB r3) (!(asB r3)) (false) x0 x1 x2 x3 x4 (asI r5) (!(decide ((asI r5) = (0 : Int)))) (!(decide ((asI r5) = (0 : Int)))) (false) x15 ((List.length x15) : Int) (decide (((List.length x15) : Int) = (0 : Int))) (decide (((List.length x15) : Int) = (0 : Int))) (false) x15 ((List.length x15) : Int) (decide ((20 : Int) < ((List.length x15) : Int))) (decide ((20 : Int) < ((List.length x15) : Int))) (false) x0 x1 x2 x5 x6 x7 x8 x9 x10 x11 x12 x13 x14 x15 (asI r9) (!(decide ((asI r9) = (0 : Int)))) (false) (asI (nth (asA (nth (asT r13) 0)) 0)) (asI (nth (asA (nth (asT r13) 0)) 1)) (asI (nth (asA (nth (asT r13) 0)) 2)) (asI (nth (asT r13) 1)) x0 x1 x2 (asL (nth (asA r11) 0)) (asL (nth (asA r11) 1)) (asI (nth (asA r11) 2)) x3 x4 x5 x6 x7 x8 x9 x10 x11 x12 x13 x14 x15 (asI (nth (asA r12) 0)) (asI (nth (asA r12) 1)) (asI (nth (asA r12) 2)) (asI (nth (asA r12) 3)) (asI (nth (asA r12) 4)) (asI (nth (asA r12) 5)) (asI (nth (asA r12) 6)) (asI (nth (asA r12) 7)) (asI (nth (asA r12) 8)) (asI (nth (asA r12) 9)) (asL (nth (asA r12) (10))) (asI (nth (asA (nth (asT r13) 0)) 0)) (asI (nth (asA (nth (asT r13) 0)) 1)) (asI (nth (asA (nth (asT r13) 0)) 2)) (asI (nth (asT r13) 1)) (asI (nth (asA (nth (asT r13) 0)) 0)) (asI (nth (asA (nth (asT r13) 0)) 1)) (asI (nth (asA (nth (asT r13) 0)) 2)) (asI (nth (asT r13) 1)) (asI (nth (asT r13) 1)) (!(decide ((asI (nth (asT r13) 1)) = (0 : Int)))) (true) (asI (nth (asT r13) 1)) (!(decide ((asI (nth (asT r13) 1)) = (12 : Int)))) (!(decide ((asI (nth (asT r13) 1)) = (12 : Int)))) (false) (false) x0 x1 x2 x3 x4 x5 x6 x7 x8 x9 x10 x11 x12 x13 x14 x15 (asI (nth (asA (nth (asT r13) 0)) 0)) (asI (nth (asA (nth (asT r13) 0)) 1)) (asI (nth (asA (nth (asT r13) 0)) 2))))
              (T_law01_LakeBeginnings_8_2 N k x0 x1 x2 x3 x4 x5 x6 x7 x8 x9 x10 x11 x12 x13 x14 x15 (false) (asI (nth (asT r13) 1)) (asB r1) (false) x0 x1 x2 (asB r3) (!(asB r3)) (false) x0 x1 x2 x3 x4 (asI r5) (!(decide ((asI r5) = (0 : Int)))) (!(decide ((asI r5) = (0 : Int)))) (false) x15 ((List.length x15) : Int) (decide (((List.length x15) : Int) = (0 : Int))) (decide (((List.length x15) : Int) = (0 : Int))) (false) x15 ((List.length x15) : Int) (decide ((20 : Int) < ((List.length x15) : Int))) (decide ((20 : Int) < ((List.length x15) : Int))) (false) x0 x1 x2 x5 x6 x7 x8 x9 x10 x11 x12 x13 x14 x15 (asI r9) (!(decide ((asI r9) = (0 : Int)))) (false) (asI (nth (asA (nth (asT r13) 0)) 0)) (asI (nth (asA (nth (asT r13) 0)) 1)) (asI (nth (asA (nth (asT r13) 0)) 2)) (asI (nth (asT r13) 1)) x0 x1 x2 (asL (nth (asA r11) 0)) (asL (nth (asA r11) 1)) (asI (nth (asA r11) 2)) x3 x4 x5 x6 x7 x8 x9 x10 x11 x12 x13 x14 x15 (asI (nth (asA r12) 0)) (asI (nth (asA r12) 1)) (asI (nth (asA r12) 2)) (asI (nth (asA r12) 3)) (asI (nth (asA r12) 4)) (asI (nth (asA r12) 5)) (asI (nth (asA r12) 6)) (asI (nth (asA r12) 7)) (asI (nth (asA r12) 8)) (asI (nth (asA r12) 9)) (asL (nth (asA r12) (10))) (asI (nth (asA (nth (asT r13) 0)) 0)) (asI (nth (asA (nth (asT r13) 0)) 1)) (asI (nth (asA (nth (asT r13) 0)) 2)) (asI (nth (asT r13) 1)) (asI (nth (asA (nth (asT r13) 0)) 0)) (asI (nth (asA (nth (asT r13) 0)) 1)) (asI (nth (asA (nth (asT r13) 0)) 2)) (asI (nth (asT r13) 1)) (asI (nth (asT r13) 1)) (!(decide ((asI (nth (asT r13) 1)) = (0 : Int)))) (false) (false) (false) (false) x0 x1 x2 x3 x4 x5 x6 x7 x8 x9 x10 x11 x12 x13 x14 x15 (asI (nth (asA (nth (asT r13) 0)) 0)) (asI (nth (asA (nth (asT r13) 0)) 1)) (asI (nth (asA (nth (asT r13) 0)) 2)))))))))) := by kernel_rfl

end Go.PewTab

namespace Go.PewTab
set_option linter.unusedSimpArgs false
set_option linter.unusedVariables false
open Go.Pew Go.Num

theorem violR_ok {p : Pair} {s : Vols} {L : Lims} {l : List Flow} (h : openErr p s L l = 0) : violR p s L l = .tup [vViol (viol p L [s] s l).1, .int .i64 (viol p L [s] s l).2] := by
  unfold violR
  rw [if_pos h]

theorem open_of {p : Pair} {s : Vols} {L : Lims} {l : List Flow} (hb : bErr p s = 0) (hL : limsErr p L = 0) (h1 : l.length ≤ 200) (h2 : FlowsIn l) : openErr p s L l = 0 := by
  unfold openErr taskErr
  rw [if_pos hb, if_pos hL]
  exact lErr_of h1 h2

theorem wider_err {p : Pair} (hp : POk p) {L : Lims} (h : limsErr p L = 0) : limsErr p (widerL p L) = 0 := by
  obtain ⟨h1, h2⟩ := limsErr_zero h
  unfold limsErr
  rw [if_pos (show limErr p.u (widerL p L).u = 0 from wider_ok hp.u h1)]
  exact wider_ok hp.l h2

section
variable {N k : Nat}

theorem begin_build {l : List Flow} (h1 : 1 ≤ l.length) (h2 : l.length ≤ 200) {q : Nat} (hq : q ≤ 200) (x3 x4 : List (List PV)) (x5 x6 x7 x8 x9 x10 x11 x12 x13 x14 x15 x16 x17 : Int) : ∀ (d n i : Nat), i + d = q → d < n →
    L_law01_LakeBeginnings_25 N k n (q : Int) ((List.replicate i (lastF l)).map cF) (i : Int) x3 x4 x5 x6 x7 x8 x9 x10 x11 x12 x13 x14 x15 x16 x17 (l.map cF) =
    L_law01_LakeBeginnings_25 N k (n - d) (q : Int) ((List.replicate q (lastF l)).map cF) (q : Int) x3 x4 x5 x6 x7 x8 x9 x10 x11 x12 x13 x14 x15 x16 x17 (l.map cF)
  | 0, n, i, h, hn => by
    have hi : i = q := by omega
    rw [hi, Nat.sub_zero]
  | d + 1, n + 1, i, h, hn => by
    have c1 : (i : Int) < (q : Int) := by omega
    have ei : w64 ((i : Int) + 1) = ((i + 1 : Nat) : Int) := by rw [w64_id] <;> omega
    have w1 : w64 ((l.length : Int) - 1) = ((l.length - 1 : Nat) : Int) := by rw [w64_id] <;> omega
    have c3 : (0 : Int) ≤ ((l.length - 1 : Nat) : Int) := by omega
    have c4 : ((l.length - 1 : Nat) : Int) < (l.length : Int) := by omega
    have f1 : [PV.int .i64 (flo l (l.length - 1)).a, .int .i64 (flo l (l.length - 1)).b, .int .i64 (flo l (l.length - 1)).x] = cF (lastF l) := rfl
    have r1 : room ((List.replicate i (lastF l)).map cF) [cF (lastF l)] 24 = true := room_row _ _ _ (by simp; omega) (by decide)
    have e1 : (List.replicate i (lastF l)).map cF ++ [cF (lastF l)] = (List.replicate (i + 1) (lastF l)).map cF := by
      rw [List.replicate_succ', List.map_append]
      rfl
    rw [L_law01_LakeBeginnings_25_eq]
    simp only [c1, decide_true, cond_t, List.length_map, w1, c3, c4, Int.toNat_natCast, leaf_cF0, leaf_cF1, leaf_cF2]
    simp only [f1, r1, cond_t, e1, ei]
    rw [begin_build h1 h2 hq x3 x4 x5 x6 x7 x8 x9 x10 x11 x12 x13 x14 x15 x16 x17 d n (i + 1) (by omega) (by omega), show n + 1 - (d + 1) = n - d by omega]

theorem begin_end (hN : 1000000 ≤ N) {p : Pair} {s : Vols} {L : Lims} {l : List Flow} (hfew : p.u.length ≤ 12 ∧ p.l.length ≤ 12) (hb : bErr p s = 0) (hL : limsErr p L = 0) (hf : FlowsIn l) (h1 : 1 ≤ l.length) (h2 : l.length ≤ 200) :
    L_law01_LakeBeginnings_25 N (k + 15) N (permG p L [s] s (again l) : Int) [] 0 (p.u.map cK) (p.l.map cK) p.r s.u s.l L.u.lo L.u.hi L.u.fall L.u.rise L.u.win L.l.lo L.l.hi L.l.fall L.l.rise L.l.win (l.map cF) = some (.bool true) := by
  have hq := permG_le p L (again l) [s] s
  rw [again_len] at hq
  obtain ⟨o1, o2⟩ := perm_ok p L (again l) [s] s
  rw [again_len] at o2
  obtain ⟨q, hqe⟩ : ∃ q, permG p L [s] s (again l) = q := ⟨_, rfl⟩
  rw [hqe] at hq o1 o2 ⊢
  have t1 : (again l).take q = List.replicate q (lastF l) := by
    unfold again
    rw [List.take_replicate, Nat.min_eq_left hq]
  have fl : ∀ m, FlowsIn (List.replicate m (lastF l)) := fun m f h => by
    rw [List.eq_of_mem_replicate h]
    exact hf _ (flo_mem l _ (by omega))
  rw [t1] at o1
  have m := begin_build (N := N) (k := k + 15) h1 h2 hq (p.u.map cK) (p.l.map cK) p.r s.u s.l L.u.lo L.u.hi L.u.fall L.u.rise L.u.win L.l.lo L.l.hi L.l.fall L.l.rise L.l.win q N 0 (by omega) (by omega)
  refine Eq.trans m ?_
  obtain ⟨n', hn'⟩ : ∃ n', N - q = n' + 1 := ⟨N - q - 1, by omega⟩
  have g1 := ref_CopyPair (N := N) (k := k + 13) p (by omega) (by omega)
  have g2 := ref_CopyList (N := N) (k := k + 14) (List.replicate q (lastF l)) (by rw [List.length_replicate]; omega)
  have g3 := lake_ViolationOf (k := k + 6) hN p s L (List.replicate q (lastF l))
  rw [violR_ok (open_of hb hL (by rw [List.length_replicate]; omega) (fl q)), o1] at g3
  rw [hn', L_law01_LakeBeginnings_25_eq]
  simp only [Int.lt_irrefl, decide_false, cond_f, g1, g2, obind, asA_agg, nth_zero, nth_one, nth_two, asL_sl, asI_int, g3, asT_tup, decide_true, Bool.not_true]
  by_cases hq2 : (q : Int) = 200
  · rw [decide_eq_true hq2, cond_t]
  · have o2 := o2 (by omega)
    have t2 : (again l).take (q + 1) = List.replicate (q + 1) (lastF l) := by
      unfold again
      rw [List.take_replicate, Nat.min_eq_left (by omega)]
    rw [t2] at o2
    have w1 : w64 ((l.length : Int) - 1) = ((l.length - 1 : Nat) : Int) := by rw [w64_id] <;> omega
    have c3 : (0 : Int) ≤ ((l.length - 1 : Nat) : Int) := by omega
    have c4 : ((l.length - 1 : Nat) : Int) < (l.length : Int) := by omega
    have f1 : [PV.int .i64 (flo l (l.length - 1)).a, .int .i64 (flo l (l.length - 1)).b, .int .i64 (flo l (l.length - 1)).x] = cF (lastF l) := rfl
    have r1 : room ((List.replicate q (lastF l)).map cF) [cF (lastF l)] 24 = true := room_row _ _ _ (by simp; omega) (by decide)
    have e1 : (List.replicate q (lastF l)).map cF ++ [cF (lastF l)] = (List.replicate (q + 1) (lastF l)).map cF := by
      rw [List.replicate_succ', List.map_append]
      rfl
    have g4 := lake_ViolationOf (k := k + 6) hN p s L (List.replicate (q + 1) (lastF l))
    rw [violR_ok (open_of hb hL (by rw [List.length_replicate]; omega) (fl (q + 1)))] at g4
    rw [decide_eq_false hq2, cond_f]
    simp only [List.length_map, w1, c3, c4, decide_true, cond_t, Int.toNat_natCast, leaf_cF0, leaf_cF1, leaf_cF2]
    simp only [f1, r1, cond_t, e1, g4, obind, asT_tup, nth_one, asI_int]
    rcases o2 with o2 | o2
    · rw [o2]
      rfl
    · rw [o2]
      rfl

theorem LakeBeginnings_ev (hN : 1000000 ≤ N) (hA : ev (envF N) (k + 15) F_law01_awake [] = some (.bool true)) (p : Pair) (s : Vols) (L : Lims) (l : List Flow) : ev (envF N) (k + 16) F_law01_LakeBeginnings [vPair p, vVols s, vTask L l] = some (.bool true) := by
  have z1 : decide ((12 : Int) = 0) = false := rfl
  have z2 : decide ((22 : Int) = 0) = false := rfl
  have z3 : decide ((22 : Int) = 12) = false := rfl
  rw [E_law01_LakeBeginnings, hA]
  simp only [obind, asB_bool, Bool.not_true, cond_f, law_FewPair (k := k + 13), cond_ndec, List.length_map]
  by_cases hfew : p.u.length ≤ 12 ∧ p.l.length ≤ 12
  · rw [if_pos hfew, ref_BothErr hN]
    simp only [obind, asI_int, cond_ndec]
    by_cases hb : bErr p s = 0
    · obtain ⟨hp, hu, hl⟩ := bErr_zero hb
      rw [if_pos hb, cond_dec]
      by_cases h0 : (l.length : Int) = 0
      · rw [if_pos h0]
      · rw [if_neg h0, cond_dec]
        by_cases h20 : (20 : Int) < (l.length : Int)
        · rw [if_pos h20]
        · have g1 := ref_TaskErr (k := k + 10) hN hp L l
          rw [if_neg h20, g1]
          simp only [obind, asI_int]
          by_cases ht : taskErr p L l = 0
          · obtain ⟨t1, t2⟩ := taskErr_zero ht
            obtain ⟨t3, t4⟩ := lErr_zero t2
            obtain ⟨t5, t6⟩ := limsErr_zero t1
            have g2 := ref_CopyPair (N := N) (k := k + 13) p (by omega) (by omega)
            have g3 := ref_CopyTask (N := N) (k := k + 13) L l (by omega)
            have g4 := lake_ViolationOf (k := k + 6) hN p s L l
            rw [violR_ok (open_of hb t1 t3 t4)] at g4
            have g5 := lake_PermittedFor (k := k + 6) hN p s L l
            have hpr : permR p s L l = .tup [.int .i64 (permG p L [s] s (again l) : Int), .int .i64 0] := by
              unfold permR
              rw [if_pos (open_of hb t1 t3 t4), if_pos (by omega)]
            rw [hpr] at g5
            have hq := permG_le p L (again l) [s] s
            rw [again_len] at hq
            have b1 : (0 : Int) ≤ (permG p L [s] s (again l) : Int) ∧ (permG p L [s] s (again l) : Int) ≤ 200 := by omega
            have ge := begin_end (k := k) hN hfew hb t1 t4 (by omega) t3
            rw [if_pos ht]
            rcases viol_shape p L l [s] s with hv | hv | ⟨j, a, c, j1, j2, j3, hv, hv1, hv2⟩
            · rw [hv] at g4
              simp only [T_law01_LakeBeginnings_8_1_eq, g2, g3, obind, asA_agg, nth_zero, nth_one, nth_two, nth_three, nth_four, nth_five, nth_six, nth_seven, nth_eight, nth_nine, nth_ten, asL_sl, asI_int, g4, asT_tup, z1, if_true, if_false, Bool.not_false, cond_t, decide_true, Bool.not_true, decide_false, cond_f, g5, base_Within (k := k + 14), asB_bool, b1, and_self, ge, show ¬ ((12 : Int) = 0) by decide]
            · rw [hv] at g4
              simp only [T_law01_LakeBeginnings_8_0_eq, g2, g3, obind, asA_agg, nth_zero, nth_one, nth_two, nth_three, nth_four, nth_five, nth_six, nth_seven, nth_eight, nth_nine, nth_ten, asL_sl, asI_int, g4, asT_tup, z2, z3, if_true, if_false, Bool.not_false, cond_t, decide_true, Bool.not_true, decide_false, cond_f, g5, base_Within (k := k + 14), asB_bool, b1, and_self, ge, show ¬ ((22 : Int) = 0) by decide, show ¬ ((22 : Int) = 12) by decide]
            · have e0 : (((([s] : List Vols).length + j : Nat) : Int)) = ((j + 1 : Nat) : Int) := by simp; omega
              rw [e0] at hv
              rw [hv] at g4 hv2
              have w1 : w64 (((j + 1 : Nat) : Int) - 1) = (j : Int) := by rw [w64_id] <;> omega
              have b2 : (1 : Int) ≤ ((j + 1 : Nat) : Int) ∧ ((j + 1 : Nat) : Int) ≤ (l.length : Int) := by omega
              have b3 : (0 : Int) ≤ (a : Int) ∧ (a : Int) ≤ 1 := by omega
              have b4 : (0 : Int) ≤ (c : Int) ∧ (c : Int) ≤ 3 := by omega
              have b5 := b2.2
              have c1 : (0 : Int) ≤ (j : Int) := by omega
              have c2 : (j : Int) ≤ (l.length : Int) := by omega
              have c3 : (0 : Int) ≤ ((j + 1 : Nat) : Int) := by omega
              have m1 : List.take j (l.map cF) = (l.take j).map cF := by rw [List.map_take]
              have m2 : List.take (j + 1) (l.map cF) = (l.take (j + 1)).map cF := by rw [List.map_take]
              have k1 := ref_CopyList (N := N) (k := k + 14) (l.take j) (by rw [List.length_take]; omega)
              have k2 := ref_CopyList (N := N) (k := k + 14) (l.take (j + 1)) (by rw [List.length_take]; omega)
              have k3 := ref_CopyList (N := N) (k := k + 14) l (by omega)
              have g6 := lake_ViolationOf (k := k + 6) hN p s L (l.take j)
              have g7 := lake_ViolationOf (k := k + 6) hN p s L (l.take (j + 1))
              have g8 := lake_ViolationOf (k := k + 6) hN p s (widerL p L) l
              rw [violR_ok (open_of hb t1 (by rw [List.length_take]; omega) (fun f hf => t4 f (List.mem_of_mem_take hf))), hv1] at g6
              rw [violR_ok (open_of hb t1 (by rw [List.length_take]; omega) (fun f hf => t4 f (List.mem_of_mem_take hf))), hv2] at g7
              rw [violR_ok (open_of hb (wider_err hp t1) t3 t4)] at g8
              have x1 := law_wider (N := N) (k := k + 13) hp.u t5
              have x2 := law_wider (N := N) (k := k + 13) hp.l t6
              have hw := viol_wider (p := p) (L := L) (W := widerL p L) (fun h => at_wider t1) l [s] s
              rw [hv] at hw
              unfold widerL at g8
              try simp only at g8
              simp only [T_law01_LakeBeginnings_8_2_eq, g2, g3, obind, asA_agg, nth_zero, nth_one, nth_two, nth_three, nth_four, nth_five, nth_six, nth_seven, nth_eight, nth_nine, nth_ten, asL_sl, asI_int, g4, asT_tup, if_true, Bool.not_true, Bool.not_false, cond_f, decide_true, decide_false, if_false, cond_t, base_Within (k := k + 14), asB_bool, List.length_map, b2, b5, true_and, b3, b4, and_self, w1, c1, c2, c3, Int.toNat_natCast, List.drop_zero, m1, m2, k1, k2, k3, g6, g7, x1, x2, Bool.and_self]
              rcases viol_shape p (widerL p L) l [s] s with hx | hx | ⟨j', a', c', _, _, _, hx, _, _⟩
              · have hx' := hx
                unfold widerL at hx'
                simp only [List.length_map, b5, c2, true_and, g8, hx', obind, asT_tup, asA_agg, nth_zero, nth_one, asI_int, z1, if_true, if_false, Bool.not_false, cond_t, decide_true, Bool.not_true, decide_false, cond_f, g5, base_Within (k := k + 14), asB_bool, b1, and_self, ge, show ¬ ((12 : Int) = 0) by decide]
              · have hx' := hx
                unfold widerL at hx'
                simp only [List.length_map, b5, c2, true_and, g8, hx', obind, asT_tup, asA_agg, nth_zero, nth_one, asI_int, z2, z3, if_true, if_false, Bool.not_false, cond_t, decide_true, Bool.not_true, decide_false, cond_f, g5, base_Within (k := k + 14), asB_bool, b1, and_self, ge, show ¬ ((22 : Int) = 0) by decide, show ¬ ((22 : Int) = 12) by decide]
              · have hw := hw (by rw [hx]) rfl
                have hx' := hx
                rw [hx] at hw
                unfold widerL at hx'
                simp only at hw
                have z4 : decide (((([s] : List Vols).length + j' : Nat) : Int) < ((j + 1 : Nat) : Int)) = false := decide_eq_false (by omega)
                simp only [List.length_map, b5, c2, true_and, g8, hx', obind, asT_tup, asA_agg, nth_zero, nth_one, asI_int, z4, if_true, if_false, Bool.not_false, cond_t, decide_true, Bool.not_true, decide_false, cond_f, g5, base_Within (k := k + 14), asB_bool, b1, and_self, ge]
          · rw [if_neg ht]
    · rw [if_neg hb]
  · rw [if_neg hfew]

end
end Go.PewTab

namespace Go.Pew
set_option linter.unusedSimpArgs false
set_option linter.unusedVariables false
open Go.RowKit
set_option linter.unusedVariables false
set_option linter.unusedSimpArgs false

/-- The types whose values are told by leaf kinds alone. -/
def partsOk (E : Env) (ok : Nat → List LK → Bool) : List (Nat × Nat) → Nat → List LK → Bool
  | [], _, ls => ls.isEmpty
  | p :: ps, off, ls => match E.ty p.1 with
    | some tp => Nat.beq p.2 off && Nat.ble tp.size ls.length && ok p.1 (ls.take tp.size) && partsOk E ok ps (off + tp.size) (ls.drop tp.size)
    | none => false

def lkOk (E : Env) : Nat → Nat → List LK → Bool
  | 0, _, _ => false
  | d + 1, t, ls => match E.ty t with
    | none => false
    | some ti => Nat.beq ti.size ls.length && match ti.desc with
      | .int k => sameLK ls [.int k]
      | .bool => sameLK ls [.bool]
      | .string => sameLK ls [.str]
      | .slice e => match ls, E.ty e with
        | [.sl l], some te => lkOk E d e l && Nat.beq te.size l.length && !l.isEmpty && sameLK l l
        | _, _ => false
      | .struct fs => partsOk E (lkOk E d) (fs.toList.map fun f => (f.type, f.offset)) 0 ls
      | .array n e => match E.ty e with
        | some te => partsOk E (lkOk E d) ((List.range n).map fun i => (e, i * te.size)) 0 ls
        | none => false
      | _ => false

-- What a read value keeps to.
mutual
def fit : PV → Prop
  | .int k n => (Lit.int k n).wf = true
  | .str s => s.size ≤ maxLen
  | .sl _ ls xs => List.length xs ≤ maxLen ∧ (∀ y ∈ xs, confs ls y = true) ∧ fitRows xs
  | .agg cs => fits cs
  | _ => True
termination_by structural x => x
def fits : List PV → Prop
  | [] => True
  | p :: ps => fit p ∧ fits ps
termination_by structural x => x
def fitRows : List (List PV) → Prop
  | [] => True
  | p :: ps => fits p ∧ fitRows ps
termination_by structural x => x
end

theorem fits_append : ∀ {ps qs : List PV}, fits ps → fits qs → fits (ps ++ qs)
  | [], qs, _, h => h
  | p :: ps, qs, ⟨h1, h2⟩, h => ⟨h1, fits_append h2 h⟩
theorem fitRows_append : ∀ {ps qs : List (List PV)}, fitRows ps → fitRows qs → fitRows (ps ++ qs)
  | [], qs, _, h => h
  | p :: ps, qs, ⟨h1, h2⟩, h => ⟨h1, fitRows_append h2 h⟩

theorem confs_append : ∀ {ls ms : List LK} {ps qs : List PV}, confs ls ps = true → confs ms qs = true → confs (ls ++ ms) (ps ++ qs) = true
  | [], ms, ps, qs, h, k => by rw [confs_nil h]; exact k
  | l :: ls, ms, ps, qs, h, k => by
    obtain ⟨c, cs, rfl, h1, h2⟩ := confs_cons h
    show (conf l c && confs (ls ++ ms) (cs ++ qs)) = true
    rw [h1, confs_append h2 k]
    rfl

/-- All that stands. -/
def allSt (w : World) : Nat → Nat → Prop := fun B o => ∃ us T fr, w.heap[B]? = some (.cells us T fr) ∧ o < us.size

section
variable {H : Type} {enc : TypeId × Value → H} {P : Program} {E : Env} {w : World} {base : Nat} {spare : Nat → Bool} {held : Bool}

theorem TyOk.cellsOf {t : Nat} {ti : TI} (h : TyOk P t ti) : P.cellsOf t = ti.size := by
  obtain ⟨i, z, h1, h2, _⟩ := h.info
  simp [Program.cellsOf, h1, h2]

theorem mapM_range {n : Nat} {g : Nat → Option Value} {vs : List Value} (h : (List.range n).mapM g = some vs) : vs.length = n ∧ ∀ i, i < n → g i = vs[i]? := by
  have key : ∀ (l : List Nat) (vs : List Value), l.mapM g = some vs → vs.length = l.length ∧ ∀ i (h : i < l.length), g l[i] = vs[i]? := by
    intro l
    induction l with
    | nil => intro vs h; simp at h; subst h; simp
    | cons a l ih =>
      intro vs h
      simp only [List.mapM_cons, Option.bind_eq_bind, Option.bind_eq_some_iff, Option.pure_def, Option.some.injEq] at h
      obtain ⟨v, hv, vs', hvs, rfl⟩ := h
      obtain ⟨h1, h2⟩ := ih vs' hvs
      refine ⟨by simp [h1], fun i hi => ?_⟩
      cases i with
      | zero => simpa using hv
      | succ i => simpa using h2 i (by simpa using hi)
  obtain ⟨h1, h2⟩ := key _ _ h
  refine ⟨by simpa using h1, fun i hi => ?_⟩
  have := h2 i (by simpa using hi)
  simpa using this

theorem cell_allSt {B o : Nat} {u : Value} (h : w.cell? ⟨B, o, none⟩ = some u) : allSt w B o := by
  unfold World.cell? at h
  split at h
  · rename_i us T fr hh
    simp only [Option.isSome_none, Bool.false_eq_true, if_false] at h
    exact ⟨us, T, fr, hh, (Array.getElem?_eq_some_iff.1 h).1⟩
  · cases h

theorem flatten_at {sz : Nat} : ∀ {rows : List (List Value)}, (∀ r ∈ rows, r.length = sz) → ∀ {j : Nat} {u : Value}, rows.flatten[j]? = some u → ∃ (i r : Nat) (row : List Value), rows[i]? = some row ∧ row[r]? = some u ∧ j = i * sz + r
  | [], _, j, u, h => by simp at h
  | row :: rows, hl, j, u, h => by
    have h0 := hl row (List.mem_cons_self ..)
    rw [List.flatten_cons] at h
    by_cases hj : j < row.length
    · rw [List.getElem?_append_left hj] at h
      exact ⟨0, j, row, rfl, h, by simp⟩
    · rw [List.getElem?_append_right (by omega)] at h
      obtain ⟨i, r, row', h1, h2, h3⟩ := flatten_at (fun r hr => hl r (List.mem_cons_of_mem _ hr)) h
      exact ⟨i + 1, r, row', by simpa using h1, h2, by rw [Nat.succ_mul]; omega⟩

theorem open_parts (O : ∀ t ti, E.ty t = some ti → TyOk P t ti) {ok : Nat → List LK → Bool} {n : Nat} {cs : List Value}
    (ih : ∀ t ls cs x, ok t ls = true → DataW.trod enc P w base spare held n t cs = some x → ∃ ps, confs ls ps = true ∧ Reps (plainCtx w (allSt w)) ps cs ∧ fits ps) :
    ∀ (L : List (Nat × Nat)) (off : Nat) (ls : List LK), partsOk E ok L off ls = true → off + ls.length = cs.length → (∀ p ∈ L, ∃ y, DataW.trod enc P w base spare held n p.1 ((cs.drop p.2).take (P.cellsOf p.1)) = some y) →
      ∃ ps, confs ls ps = true ∧ Reps (plainCtx w (allSt w)) ps (cs.drop off) ∧ fits ps
  | [], off, ls, h, hl, hp => by
    have : ls = [] := by simpa [partsOk] using h
    subst this
    have h0 : off = cs.length := by simpa using hl
    exact ⟨[], rfl, by rw [h0, List.drop_length]; rfl, trivial⟩
  | p :: L, off, ls, h, hl, hp => by
    unfold partsOk at h
    split at h
    · rename_i tp htp
      simp only [Bool.and_eq_true] at h
      obtain ⟨⟨⟨h1, h2⟩, h3⟩, h4⟩ := h
      have h1 := Nat.eq_of_beq_eq_true h1
      have h2 := Nat.le_of_ble_eq_true h2
      obtain ⟨y, hy⟩ := hp p (List.mem_cons_self ..)
      rw [(O _ _ htp).cellsOf, h1] at hy
      obtain ⟨ps, e1, e2, e3⟩ := ih _ _ _ _ h3 hy
      obtain ⟨qs, f1, f2, f3⟩ := open_parts O ih L (off + tp.size) (ls.drop tp.size) h4 (by simp; omega) fun q hq => hp q (List.mem_cons_of_mem _ hq)
      refine ⟨ps ++ qs, ?_, ?_, fits_append e3 f3⟩
      · have := confs_append e1 f1
        rwa [List.take_append_drop] at this
      · have := e2.append f2
        rwa [← List.drop_drop, List.take_append_drop] at this
    · cases h

theorem open_cells (O : ∀ t ti, E.ty t = some ti → TyOk P t ti) : ∀ (d t : Nat) (ls : List LK) (fuel : Nat) (cs : List Value) (x : DataW H × List MemPlace), lkOk E d t ls = true → DataW.trod enc P w base spare held fuel t cs = some x →
    ∃ ps, confs ls ps = true ∧ Reps (plainCtx w (allSt w)) ps cs ∧ fits ps := by
  intro d
  induction d with
  | zero => intro t ls fuel cs x h; cases h
  | succ d ih =>
    intro t ls fuel cs x h hx
    unfold lkOk at h
    split at h
    · cases h
    · rename_i ti hti
      have hT := O _ _ hti
      have hu := hT.und
      rw [Bool.and_eq_true] at h
      obtain ⟨hsz, h⟩ := h
      have hsz := Nat.eq_of_beq_eq_true hsz
      split at h
      · rename_i k hd
        rw [hd] at hu
        obtain ⟨m, rfl, _, hw⟩ := DataW.trod_int hu hx
        rw [sameLK_eq _ _ h]
        exact ⟨[.int k m], by simp [confs, conf], ⟨_, [], rfl, rfl, rfl⟩, hw, trivial⟩
      · rename_i hd
        rw [hd] at hu
        obtain ⟨b, rfl, _⟩ := DataW.trod_bool hu hx
        rw [sameLK_eq _ _ h]
        exact ⟨[.bool b], by simp [confs, conf], ⟨_, [], rfl, rfl, rfl⟩, trivial, trivial⟩
      · rename_i hd
        rw [hd] at hu
        obtain ⟨s, rfl, _, hw⟩ := DataW.trod_string hu hx
        rw [sameLK_eq _ _ h]
        exact ⟨[.str s], by simp [confs, conf], ⟨_, [], rfl, rfl, rfl⟩, hw, trivial⟩
      · rename_i e hd
        rw [hd] at hu
        split at h
        · rename_i l te hte _
          simp only [Bool.and_eq_true] at h
          obtain ⟨⟨⟨h1, h2⟩, h3⟩, sref⟩ := h
          have h2 := Nat.eq_of_beq_eq_true h2
          have hne : l ≠ [] := by simpa using h3
          have hce : P.cellsOf e = l.length := by rw [(O _ _ hte).cellsOf, h2]
          rcases Deep.open_slice hu hx with ⟨rfl, _⟩ | ⟨a, len, cap, m, n, D, Pl, rfl, hb, hlc, hcm, hm, _, hel⟩
          · exact ⟨[.sl none l []], by simp [confs, conf, sref], ⟨_, [], rfl, rep_nil _ _, rfl⟩, ⟨Nat.zero_le _, by simp, trivial⟩, trivial⟩
          · have hlm : len ≤ m := by rw [hm]; split <;> omega
            have key : ∀ k, k ≤ len → ∃ (xs : List (List PV)) (rows : List (List Value)), rows.length = k ∧ RepRows (plainCtx w (allSt w)) xs rows ∧ (∀ i row, rows[i]? = some row → w.cells? base (a.add (i * l.length)) l.length = some row) ∧ (∀ y ∈ xs, confs l y = true) ∧ fitRows xs := by
              intro k
              induction k with
              | zero => intro _; exact ⟨[], [], rfl, rfl, by simp, by simp, trivial⟩
              | succ k ihk =>
                intro hk
                obtain ⟨xs, rows, e1, e2, e3, e4, e5⟩ := ihk (by omega)
                obtain ⟨cs', c1, c2⟩ := hel k (by omega)
                rw [hce] at c1
                obtain ⟨ps, p1, p2, p3⟩ := ih _ _ _ _ _ h1 c2
                refine ⟨xs ++ [ps], rows ++ [cs'], by simp [e1], e2.append ⟨_, [], rfl, p2, rfl⟩, fun i row hi => ?_, fun y hy => ?_, fitRows_append e5 ⟨p3, trivial⟩⟩
                · by_cases hik : i < k
                  · rw [List.getElem?_append_left (by omega)] at hi
                    exact e3 i row hi
                  · rw [List.getElem?_append_right (by omega), e1] at hi
                    have : i = k := by
                      have := (List.getElem?_eq_some_iff.1 hi).1
                      simp at this
                      omega
                    subst this
                    simp at hi
                    subst hi
                    exact c1
                · rcases List.mem_append.1 hy with hy | hy
                  · exact e4 y hy
                  · simp at hy; subst hy; exact p1
            obtain ⟨xs, rows, e1, e2, e3, e4, e5⟩ := key len (Nat.le_refl _)
            have hxl := e2.length
            have hcell : ∀ i row, rows[i]? = some row → row.length = l.length ∧ ∀ r, r < l.length → w.cell? ((a.add (i * l.length)).add r) = row[r]? := fun i row hi => by
              have := e3 i row hi
              unfold World.cells? at this
              split at this
              · obtain ⟨q1, q2⟩ := mapM_range this
                exact ⟨q1, q2⟩
              · cases this
            have hrl : ∀ r ∈ rows, r.length = l.length := fun r hr => by
              obtain ⟨i, hi⟩ := List.getElem?_of_mem hr
              exact (hcell i r hi).1
            refine ⟨[.sl none l xs], by simp [confs, conf, sref], ⟨_, [], rfl, ⟨some a, cap, rows, by rw [e1], by omega, e2, hrl, ?_, e4, fun d k e => by cases e⟩, rfl⟩, ⟨by rw [← hxl, e1]; omega, e4, e5⟩, trivial⟩
            by_cases hr0 : rows = []
            · exact .inl hr0
            · right
              have hl0 : 0 < l.length := List.length_pos_iff.2 hne
              have hspot : a.spot = none := by
                obtain ⟨row, hrow⟩ : ∃ row, rows[0]? = some row := by
                  cases rows with
                  | nil => exact absurd rfl hr0
                  | cons row _ => exact ⟨row, rfl⟩
                obtain ⟨q1, q2⟩ := hcell 0 row hrow
                have := q2 0 hl0
                simp only [Nat.zero_mul, Addr.add, if_true] at this
                rw [List.getElem?_eq_getElem (by omega)] at this
                unfold World.cell? at this
                split at this
                · split at this
                  · cases this
                  · rename_i hs
                    simpa using hs
                · cases this
              obtain ⟨B, o, sp⟩ := a
              simp only at hspot
              subst hspot
              refine ⟨B, o, rfl, fun j u hj => ?_⟩
              obtain ⟨i, r, row, g1, g2, rfl⟩ := flatten_at hrl hj
              have hr : r < l.length := by
                have := (List.getElem?_eq_some_iff.1 g2).1
                rw [(hcell i row g1).1] at this
                exact this
              have := (hcell i row g1).2 r hr
              rw [g2, addr_add, addr_add, Nat.add_assoc] at this
              exact ⟨this, cell_allSt this⟩
        · cases h
      · rename_i fs hd
        rw [hd] at hu
        obtain ⟨xs, n, rfl, _, hlen, hxl, hf⟩ := DataW.trod_struct hu hx
        rw [hT.cellsOf, hsz] at hlen
        have := open_parts (cs := cs) O (ih · · n · ·) _ 0 ls h (by omega) fun p hp => by
          obtain ⟨f, hfm, rfl⟩ := List.mem_map.1 hp
          obtain ⟨i, hi⟩ := List.getElem?_of_mem hfm
          have hi' : fs[i]? = some f := by simpa using hi
          have hlt : i < xs.length := by
            have := (Array.getElem?_eq_some_iff.1 hi').1
            omega
          exact ⟨xs[i], by rw [hf i f hi', List.getElem?_eq_getElem hlt]⟩
        simpa using this
      · rename_i n e hd
        rw [hd] at hu
        split at h
        · rename_i te hte
          obtain ⟨xs, m, rfl, _, hlen, hxl, hf⟩ := DataW.trod_array hu hx
          rw [hT.cellsOf, hsz] at hlen
          have := open_parts (cs := cs) O (ih · · m · ·) _ 0 ls h (by omega) fun p hp => by
            obtain ⟨i, him, rfl⟩ := List.mem_map.1 hp
            have hi := List.mem_range.1 him
            have := hf i hi
            rw [(O _ _ hte).cellsOf] at this
            refine ⟨xs[i], ?_⟩
            dsimp only
            rw [(O _ _ hte).cellsOf, this, List.getElem?_eq_getElem (by omega)]
          simpa using this
        · cases h
      · cases h

end
end Go.Pew

namespace Go.Pew
set_option linter.unusedSimpArgs false
set_option linter.unusedVariables false
open Go.RowKit Go.ChangeShapes Go.WideShapes Go.ChangeAt
set_option linter.unusedVariables false
set_option linter.unusedSimpArgs false

def argOk (E : Env) (t : Nat) : Bool := match E.ty t with
  | some ti => lkOk E 8 t ti.lk
  | none => false

section
variable {H : Type} {enc : TypeId × Value → H} {P : Program} {E : Env} {w : World} {base : Nat} {spare : Nat → Bool} {held : Bool}

theorem lkOk_desc {d t : Nat} {ls : List LK} {ti : TI} (hti : E.ty t = some ti) (h : lkOk E d t ls = true) : (∃ k, ti.desc = .int k) ∨ ti.desc = .bool ∨ ti.desc = .string ∨ (∃ e, ti.desc = .slice e) ∨ (∃ fs, ti.desc = .struct fs) ∨ ∃ n e, ti.desc = .array n e := by
  cases d with
  | zero => cases h
  | succ d =>
    unfold lkOk at h
    rw [hti] at h
    dsimp only at h
    rw [Bool.and_eq_true] at h
    obtain ⟨_, h⟩ := h
    split at h <;> simp_all

theorem arg_open (O : ∀ t ti, E.ty t = some ti → TyOk P t ti) {b0 : Nat} {r : Reach} {t : Nat} {v : Value} {d : DataW H} {ps : List MemPlace} (hok : argOk E t = true) (hv : Value.okWide P w r b0 t v) (hd : DataW.Trod enc P w base spare held t v d ps) :
    ∃ p, confT E t p = true ∧ fit p ∧ Rep (plainCtx w (allSt w)) p v := by
  unfold argOk at hok
  split at hok
  · rename_i ti hti
    obtain ⟨fuel, hf⟩ := hd
    obtain ⟨qs, h1, h2, h3⟩ := open_cells O 8 t ti.lk fuel _ _ hok hf
    have hT := O _ _ hti
    have hu := hT.und
    have hagg := hT.agg
    have one : ti.agg = false → v.cells = #[v] → ∃ p, confT E t p = true ∧ fit p ∧ Rep (plainCtx w (allSt w)) p v := fun ha hc => by
      rw [hc] at h2
      have hl1 := h2.length
      cases qs with
      | nil => simp at hl1
      | cons q qs =>
        cases qs with
        | cons _ _ => simp at hl1
        | nil =>
          rw [Reps] at h2
          obtain ⟨u, ws, e, h4, _⟩ := h2
          cases e
          refine ⟨q, ?_, h3.1, h4⟩
          unfold confT
          rw [hti]
          dsimp only
          rw [if_neg (by rw [ha]; simp)]
          obtain ⟨l, ls, hl⟩ : ∃ l ls, ti.lk = l :: ls := by
            cases hlk : ti.lk with
            | nil => rw [hlk] at h1; simp [confs] at h1
            | cons l ls => exact ⟨l, ls, rfl⟩
          rw [hl] at h1 ⊢
          simp only [confs, Bool.and_eq_true] at h1
          have : ls = [] := by
            cases ls with
            | nil => rfl
            | cons _ _ => simp [confs] at h1
          subst this
          exact h1.1
    have all : ti.agg = true → (∃ cs, v = .agg cs) → ∃ p, confT E t p = true ∧ fit p ∧ Rep (plainCtx w (allSt w)) p v := fun ha hc => by
      obtain ⟨cs, rfl⟩ := hc
      refine ⟨.agg qs, ?_, h3, cs, rfl, h2⟩
      unfold confT
      rw [hti]
      dsimp only
      rw [if_pos ha]
      exact h1
    rcases lkOk_desc hti hok with ⟨k, hd⟩ | hd | hd | ⟨e, hd⟩ | ⟨fs, hd⟩ | ⟨n, e, hd⟩
    · rw [hd] at hu hagg
      obtain ⟨n, rfl⟩ := okWide_int hu hv
      exact one hagg rfl
    · rw [hd] at hu hagg
      obtain ⟨n, rfl⟩ := okWide_bool hu hv
      exact one hagg rfl
    · rw [hd] at hu hagg
      obtain ⟨n, rfl⟩ := okWide_string hu hv
      exact one hagg rfl
    · rw [hd] at hu hagg
      obtain ⟨a, len, cap, rfl⟩ := okWide_slice hu hv
      exact one hagg rfl
    · rw [hd] at hu hagg
      obtain ⟨cs, rfl, _⟩ := okWide_struct hu hv
      exact all hagg ⟨cs, rfl⟩
    · rw [hd] at hu hagg
      simp only [Value.okWide, hu] at hv
      obtain ⟨cs, rfl, _⟩ := hv
      exact all hagg ⟨cs, rfl⟩
  · cases hok

theorem args_open (O : ∀ t ti, E.ty t = some ti → TyOk P t ti) {b0 : Nat} {r : Reach} : ∀ (ts : List Nat) (vs : List Value) (ds : List (DataW H)) (ps : List MemPlace), (∀ t ∈ ts, argOk E t = true) → (∀ (j : Nat) t v, ts[j]? = some t → vs[j]? = some v → Value.okWide P w r b0 t v) →
    DataW.TrodAll enc P w base spare held ts vs ds ps → ∃ qs, confTs E ts qs = true ∧ fits qs ∧ Reps (plainCtx w (allSt w)) qs vs ∧ ds.length = ts.length
  | [], [], [], ps, _, _, _ => ⟨[], rfl, trivial, rfl, rfl⟩
  | t :: ts, v :: vs, d :: ds, ps, hok, hv, ⟨p, q, h1, h2, _⟩ => by
    obtain ⟨a, e1, e2, e3⟩ := arg_open O (hok t (List.mem_cons_self ..)) (hv 0 t v rfl rfl) h1
    obtain ⟨as_, f1, f2, f3, f4⟩ := args_open O ts vs ds q (fun t ht => hok t (List.mem_cons_of_mem _ ht)) (fun j t v ht hv' => hv (j + 1) t v (by simpa using ht) (by simpa using hv')) h2
    exact ⟨a :: as_, by simp [confTs, e1, f1], ⟨e2, f2⟩, ⟨v, vs, rfl, e3, f3⟩, by simp [f4]⟩
  | [], _ :: _, _, _, _, _, h => h.elim
  | [], [], _ :: _, _, _, _, h => h.elim
  | _ :: _, [], _, _, _, _, h => h.elim
  | _ :: _, _ :: _, [], _, _, _, h => h.elim

theorem trodAll_back {W W' : World} (hl : laidOutB P = true) (hb : Below W.heap.size W W') : ∀ (ts : List Nat) (vs : List Value) (ds : List (DataW H)) (ps : List MemPlace), (∀ t ∈ ts, P.readableRec t = true ∧ t < P.types.size) →
    DataW.TrodAll enc P W 0 (fun _ => true) true ts vs ds ps → DataW.TrodAll enc P W' 0 (fun b => decide (b < W.heap.size)) true ts vs ds ps
  | [], [], [], ps, _, h => h
  | t :: ts, v :: vs, d :: ds, ps, hr, ⟨p, q, h1, h2, h3⟩ => by
    obtain ⟨r1, r2⟩ := hr t (List.mem_cons_self ..)
    have hlt : ∀ x ∈ p, x.block < W.heap.size := by
      obtain ⟨m, hm⟩ := h1
      exact DataW.trod_lt m _ _ _ hm
    exact ⟨p, q, Below.trod hl r1 r2 h1 hb hlt, trodAll_back hl hb ts vs ds q (fun t ht => hr t (List.mem_cons_of_mem _ ht)) h2, h3⟩
  | [], _ :: _, _, _, _, h => h.elim
  | [], [], _ :: _, _, _, h => h.elim
  | _ :: _, [], _, _, _, h => h.elim
  | _ :: _, _ :: _, [], _, _, h => h.elim

/-- The row's contract. -/
theorem row_calls (O : ProgOk P E) (hl : laidOutB P = true) {f : Nat} {fn : Func} {s : ChangeSpec} {rt : Nat} (hvars : s.vars = []) (hres : fn.resultTypes = #[rt]) (hrt : P.underlying rt = some .bool)
    (hspec : ∀ ds : List (DataW H), ds.length = fn.params.toList.length → s.fn H ds = { results := [.lit (.bool true)], args := ds })
    (hok : ∀ t ∈ fn.params.toList, argOk E t = true) (hread : ∀ t ∈ fn.params.toList, P.readableRec t = true ∧ t < P.types.size)
    (law : ∀ args, confTs E fn.params.toList args = true → fits args → Contract P E f args (.bool true))
    (W : World) (b0 : Nat) (args : Array Value) (ds gs : List (DataW H)) (before : List MemPlace) (hval : ∀ (j : Nat) t v, fn.params[j]? = some t → args[j]? = some v → Value.okWide P W .any b0 t v)
    (hW : DataW.Whole enc P fn.params.toList s.vars false W args.toList ds gs before) :
    Calls P f args W fun e W' => ∃ v, e = .returned v ∧ s.post enc P fn false true false false W args v W' := by
  have hW' := hW
  obtain ⟨p, q, hA, hV, rfl, hfz, hnd⟩ := hW
  rw [hvars] at hV
  obtain ⟨rfl, rfl⟩ := trodVars_none hV
  obtain ⟨as_, h1, h2, h3, h4⟩ := args_open O.env.ty _ _ _ _ hok (fun j t v ht hv => hval j t v (by simpa using ht) (by simpa using hv)) hA
  obtain ⟨_, hc⟩ := law as_ h1 h2
  have := hc W (allSt W) args.toList (fun B o h => h) h3
  rw [Array.toArray_toList] at this
  refine this.mono ?_
  rintro e W' ⟨v, rfl, bel, st', _, _, _, ⟨u, hu, hr⟩, _⟩
  subst hu
  have hr : v = .bool true := hr
  subst hr
  refine ⟨_, rfl, ds, [], _, [], p, [], hW', ?_, ?_, ?_, bel.frame _, fun h => by cases h⟩
  · rw [List.append_nil, hspec ds h4, hres]
    exact trodAll_mk1 (shut_bool hrt _)
  · rw [List.append_nil, hspec ds h4]
    exact trodAll_back hl bel _ _ _ _ hread hA
  · rw [List.append_nil, hspec ds h4, hvars]
    rfl

end
end Go.Pew

namespace Go.PewTab
set_option linter.unusedSimpArgs false
set_option linter.unusedVariables false
open Go.Pew Go.Num Go.RowKit

theorem confTs_cons {E : Env} {t : Nat} {ts : List Nat} {vs : List PV} (h : confTs E (t :: ts) vs = true) : ∃ v ws, vs = v :: ws ∧ confT E t v = true ∧ confTs E ts ws = true := by
  cases vs with
  | nil => simp [confTs] at h
  | cons v ws => rw [confTs, Bool.and_eq_true] at h; exact ⟨v, ws, rfl, h.1, h.2⟩
theorem confTs_nil {E : Env} {vs : List PV} (h : confTs E [] vs = true) : vs = [] := by
  cases vs with
  | nil => rfl
  | cons v ws => simp [confTs] at h

theorem confT_agg {E : Env} {t : Nat} {ti : TI} (ht : E.ty t = some ti) (ha : ti.agg = true) {v : PV} (h : confT E t v = true) : ∃ cs, v = .agg cs ∧ confs ti.lk cs = true := by
  unfold confT at h
  rw [ht] at h
  simp only [ha, if_true] at h
  split at h
  · exact ⟨_, rfl, h⟩
  · cases h
theorem confT_leaf {E : Env} {t : Nat} {ti : TI} {l : LK} (ht : E.ty t = some ti) (ha : ti.agg = false) (hl : ti.lk = [l]) {v : PV} (h : confT E t v = true) : conf l v = true := by
  unfold confT at h
  rw [ht] at h
  simpa [ha, hl] using h

theorem conf_int {k : IntKind} {v : PV} (h : conf (.int k) v = true) : ∃ n, v = .int k n := by
  cases v <;> simp [conf] at h
  subst h
  exact ⟨_, rfl⟩
theorem conf_sl {ls : List LK} {v : PV} (h : conf (.sl ls) v = true) : ∃ xs, v = .sl none ls xs := by
  cases v <;> simp [conf] at h
  rename_i tag ls' xs
  obtain ⟨h1, h2⟩ := h
  cases tag with
  | none => exact ⟨xs, by rw [sameLK_eq _ _ h2]⟩
  | some _ => simp at h1

theorem i64_of {n : Int} (h : fit (.int .i64 n)) : I64 n := by
  simp only [fit, Lit.wf, IntKind.min, IntKind.max, IntKind.signed, IntKind.bits, Bool.and_eq_true, decide_eq_true_eq, if_true] at h
  simp at h
  exact ⟨by omega, by omega⟩

/-- Rows of cells that conform are rows of plain data. -/
theorem rows_of {α : Type} {ls : List LK} {c : α → List PV} (hc : ∀ y, confs ls y = true → ∃ a, y = c a) : ∀ {xs : List (List PV)}, (∀ y ∈ xs, confs ls y = true) → ∃ l : List α, xs = l.map c
  | [], _ => ⟨[], rfl⟩
  | x :: xs, h => by
    obtain ⟨a, rfl⟩ := hc x (h x (List.mem_cons_self ..))
    obtain ⟨l, rfl⟩ := rows_of hc fun y hy => h y (List.mem_cons_of_mem _ hy)
    exact ⟨a :: l, rfl⟩

theorem int1 {y : List PV} (h : confs [.int .i64] y = true) : ∃ a, y = [.int .i64 a] := by
  obtain ⟨p, ps, rfl, h1, h2⟩ := confs_cons h
  obtain ⟨a, rfl⟩ := conf_int h1
  rw [confs_nil h2]
  exact ⟨a, rfl⟩
theorem int2 {y : List PV} (h : confs [.int .i64, .int .i64] y = true) : ∃ a b, y = [.int .i64 a, .int .i64 b] := by
  obtain ⟨p, ps, rfl, h1, h2⟩ := confs_cons h
  obtain ⟨a, rfl⟩ := conf_int h1
  obtain ⟨b, rfl⟩ := int1 h2
  exact ⟨a, b, rfl⟩
theorem int3 {y : List PV} (h : confs [.int .i64, .int .i64, .int .i64] y = true) : ∃ a b c, y = [.int .i64 a, .int .i64 b, .int .i64 c] := by
  obtain ⟨p, ps, rfl, h1, h2⟩ := confs_cons h
  obtain ⟨a, rfl⟩ := conf_int h1
  obtain ⟨b, c, rfl⟩ := int2 h2
  exact ⟨a, b, c, rfl⟩

end Go.PewTab

namespace Go.PewTab
set_option linter.unusedSimpArgs false
set_option linter.unusedVariables false
open Go.Pew Go.Num Go.RowKit

section
variable {p : PV}

theorem rows_K {xs : List (List PV)} (h : ∀ y ∈ xs, confs [.int .i64, .int .i64] y = true) : ∃ t : Tab, xs = t.map cK :=
  rows_of (c := cK) (fun y hy => by
    obtain ⟨a, b, rfl⟩ := int2 hy
    exact ⟨⟨a, b⟩, rfl⟩) h

theorem rows_F {xs : List (List PV)} (h : ∀ y ∈ xs, confs [.int .i64, .int .i64, .int .i64] y = true) : ∃ t : List Flow, xs = t.map cF :=
  rows_of (c := cF) (fun y hy => by
    obtain ⟨a, b, c, rfl⟩ := int3 hy
    exact ⟨⟨a, b, c⟩, rfl⟩) h

theorem arg_pair (h : confT (envF 1000000) 26 p = true) (hf : fit p) : ∃ q, p = vPair q := by
  obtain ⟨cs, rfl, h⟩ := confT_agg (t := 26) (ti := ty26) (by kernel_rfl) (by kernel_rfl) h
  obtain ⟨q, qs, rfl, h1, h⟩ := confs_cons (show confs [.sl [.int .i64, .int .i64], .sl [.int .i64, .int .i64], .int .i64] cs = true from h)
  obtain ⟨q2, qs2, rfl, h2, h⟩ := confs_cons h
  obtain ⟨q3, qs3, rfl, h3, h⟩ := confs_cons h
  obtain ⟨x, rfl⟩ := conf_sl h1
  obtain ⟨y, rfl⟩ := conf_sl h2
  obtain ⟨r, rfl⟩ := conf_int h3
  rw [confs_nil h] at *
  obtain ⟨t, rfl⟩ := rows_K hf.1.2.1
  obtain ⟨u, rfl⟩ := rows_K hf.2.1.2.1
  exact ⟨⟨t, u, r⟩, rfl⟩

theorem arg_vols (h : confT (envF 1000000) 28 p = true) : ∃ s, p = vVols s := by
  obtain ⟨cs, rfl, h⟩ := confT_agg (t := 28) (ti := ty28) (by kernel_rfl) (by kernel_rfl) h
  obtain ⟨a, b, rfl⟩ := int2 (show confs [.int .i64, .int .i64] cs = true from h)
  exact ⟨⟨a, b⟩, rfl⟩

end

theorem arg_task {p : PV} (h : confT (envF 1000000) 37 p = true) (hf : fit p) : ∃ (L : Lims) (l : List Flow), p = vTask L l := by
  obtain ⟨cs, rfl, h⟩ := confT_agg (t := 37) (ti := ty37) (by kernel_rfl) (by kernel_rfl) h
  obtain ⟨q1, qs1, rfl, h1, h⟩ := confs_cons (show confs [.int .i64, .int .i64, .int .i64, .int .i64, .int .i64, .int .i64, .int .i64, .int .i64, .int .i64, .int .i64, .sl [.int .i64, .int .i64, .int .i64]] cs = true from h)
  obtain ⟨q2, qs2, rfl, h2, h⟩ := confs_cons h
  obtain ⟨q3, qs3, rfl, h3, h⟩ := confs_cons h
  obtain ⟨q4, qs4, rfl, h4, h⟩ := confs_cons h
  obtain ⟨q5, qs5, rfl, h5, h⟩ := confs_cons h
  obtain ⟨q6, qs6, rfl, h6, h⟩ := confs_cons h
  obtain ⟨q7, qs7, rfl, h7, h⟩ := confs_cons h
  obtain ⟨q8, qs8, rfl, h8, h⟩ := confs_cons h
  obtain ⟨q9, qs9, rfl, h9, h⟩ := confs_cons h
  obtain ⟨q10, qs10, rfl, h10, h⟩ := confs_cons h
  obtain ⟨q11, qs11, rfl, h11, h⟩ := confs_cons h
  obtain ⟨a1, rfl⟩ := conf_int h1
  obtain ⟨a2, rfl⟩ := conf_int h2
  obtain ⟨a3, rfl⟩ := conf_int h3
  obtain ⟨a4, rfl⟩ := conf_int h4
  obtain ⟨a5, rfl⟩ := conf_int h5
  obtain ⟨a6, rfl⟩ := conf_int h6
  obtain ⟨a7, rfl⟩ := conf_int h7
  obtain ⟨a8, rfl⟩ := conf_int h8
  obtain ⟨a9, rfl⟩ := conf_int h9
  obtain ⟨a10, rfl⟩ := conf_int h10
  obtain ⟨x, rfl⟩ := conf_sl h11
  rw [confs_nil h] at *
  obtain ⟨_, _, _, _, _, _, _, _, _, _, f11, _⟩ := hf
  obtain ⟨t, rfl⟩ := rows_F f11.2.1
  exact ⟨⟨⟨a1, a2, a3, a4, a5⟩, ⟨a6, a7, a8, a9, a10⟩⟩, t, rfl⟩


end Go.PewTab

namespace Go.PewTab
set_option linter.unusedSimpArgs false
set_option linter.unusedVariables false
open Go.Pew
set_option maxRecDepth 100000
theorem awake_ok : ev (envF 1000000) 40 F_law01_awake [] = some (.bool true) := by kernel_rfl
end Go.PewTab

namespace Go.PewTab
set_option linter.unusedSimpArgs false
set_option linter.unusedVariables false
open Go.Pew Go Go.Proofs Go.RowKit
set_option maxRecDepth 100000
set_option linter.unusedVariables false
set_option linter.unusedSimpArgs false

theorem mul_made (w : World) : Calls Tryz.prog 74 #[.int .u64 1, .int .u64 200] w fun e w' => e = .returned (.tuple #[.int .u64 0, .int .u64 200]) ∧ w' = w := by
  go_enter Tryz.func74, Tryz.ntmps74
  go_wp2
  go_ret2
  exact ⟨by kernel_rfl, rfl⟩

/-- 'copy' of elements of z cells each. -/
theorem run_copy_z {P : Program} (w : World) (dT sT ty elem : TypeId) (z g o dLen dCap : Nat) (ad : Addr) (sLen sCap : Nat) (cur cs : List Value) (t : TypeId)
    (hu : P.underlying dT = some (.slice elem)) (hs : (P.info? elem).map (·.size) = some z) (hn : cs.length = Nat.min sLen dLen * z) (hg : w.heap[g]? = some (.cells cur.toArray t (0, 0)))
    (hsrc : ∀ j v, cs[j]? = some v → w.cell? (ad.add j) = some v) (hfit : o + cs.length ≤ cur.length) (h1 : ∀ v ∈ cs, v.oneCell' = true) :
    (Builtin.copy_ #[dT, sT] ty #[.slice (some ⟨g, o, none⟩) dLen dCap, .slice (some ad) sLen sCap]).run P w = .ok (goInt (Nat.min sLen dLen)) (w.setRow g (splice cur o cs).toArray) := by
  have hl := run_loadCells_list (P := P) w ad cs hsrc
  have hst := run_storeCells_at P g o t cs 0 cur.toArray w hg (by simpa using hfit) h1
  cases hq : P.info? elem with
  | none => simp [hq] at hs
  | some i =>
    have hi : i.size = z := by simpa [hq] using hs
    have hm : min sLen dLen * z = cs.length := hn.symm
    have hm' : sLen.min dLen * z = cs.length := hn.symm
    simp [Builtin.copy_, run_underlying hu, Builtin.lenOf, Builtin.firstCells, sizeOf, typeInfo, hq, hi, hm, hm', hl, hst, splice]

theorem wpList_copy_z {P : Program} {w : World} {ops : Array Oper} {rest : List Oper} {o : Oper} {a : Act} {Q : Exit → Act → World → Prop} (hgd : o.guard = none) (d s : Operand) (dT sT : TypeId)
    (ho : o.op = .call { callee := .builtin .copy, args := #[d, s], argTypes := #[dT, sT] }) (elem : TypeId) (z : Nat) (hu : P.underlying dT = some (.slice elem)) (hsz : (P.info? elem).map (·.size) = some z)
    (g off dLen dCap : Nat) (ad : Addr) (sLen sCap : Nat) (hd : a.eval d = .slice (some ⟨g, off, none⟩) dLen dCap) (hs : a.eval s = .slice (some ad) sLen sCap)
    (cur : List Value) (t : TypeId) (hg : w.heap[g]? = some (.cells cur.toArray t (0, 0))) (cs : List Value) (hn : cs.length = Nat.min sLen dLen * z)
    (hsrc : ∀ j v, cs[j]? = some v → w.cell? (ad.add j) = some v) (hfit : off + cs.length ≤ cur.length) (h1 : ∀ v ∈ cs, v.oneCell' = true)
    (h : ∀ w', Hid (w' = w.setRow g (splice cur off cs).toArray) → wpList P ops Q rest (a.put o.dst (goInt (Nat.min sLen dLen))) w') : wpList P ops Q (o :: rest) a w := by
  refine wpList_plain hgd fun K hK => ?_
  have hrun := run_copy_z (P := P) w dT sT o.type elem z g off dLen dCap ad sLen sCap cur cs t hu hsz hn hg hsrc hfit h1
  unfold Oper.wp
  simp [execOp, ho, resolve, invoke, builtin, hd, hs, hrun, Result.andThen]
  exact hK _ _ (h _ rfl)

theorem step_copy_z {P : Program} {w : World} {ops : Array Oper} {o : Oper} {a : Act} {K : Act → World → Prop} {Q : Exit → Act → World → Prop} {E : Prop} (hgd : o.guard = none) (d s : Operand) (dT sT : TypeId)
    (ho : o.op = .call { callee := .builtin .copy, args := #[d, s], argTypes := #[dT, sT] }) (elem : TypeId) (z : Nat) (hu : P.underlying dT = some (.slice elem)) (hsz : (P.info? elem).map (·.size) = some z)
    (g off dLen dCap : Nat) (ad : Addr) (sLen sCap : Nat) (hd : a.eval d = .slice (some ⟨g, off, none⟩) dLen dCap) (hs : a.eval s = .slice (some ad) sLen sCap)
    (cur : List Value) (t : TypeId) (hg : w.heap[g]? = some (.cells cur.toArray t (0, 0))) (cs : List Value) (hn : cs.length = Nat.min sLen dLen * z)
    (hsrc : ∀ j v, cs[j]? = some v → w.cell? (ad.add j) = some v) (hfit : off + cs.length ≤ cur.length) (h1 : ∀ v ∈ cs, v.oneCell' = true)
    (h : ∀ w', Hid (w' = w.setRow g (splice cur off cs).toArray) → K (a.put o.dst (goInt (Nat.min sLen dLen))) w') :
    if Region.wanted o (yielded ops a.tmps) = true then Oper.wp P o a w K Q else E := by
  have hw : Region.wanted o (yielded ops a.tmps) = true := by simp [Region.wanted, hgd]
  rw [if_pos hw]
  have hrun := run_copy_z (P := P) w dT sT o.type elem z g off dLen dCap ad sLen sCap cur cs t hu hsz hn hg hsrc hfit h1
  unfold Oper.wp
  simp [execOp, ho, resolve, invoke, builtin, hd, hs, hrun, Result.andThen]
  exact h _ rfl

/-- 'make([]T, n)': a new row. -/
theorem wpList_make_row {P : Program} (w : World) {ops : Array Oper} {rest : List Oper} {o : Oper} {a : Act} {Q : Exit → Act → World → Prop}
    (hg : o.guard = none) (l c : Operand) (t : TypeId) (hop : o.op = Op.makeSlice t l c) (e : TypeId) (i : TypeInfo) (z : Value) (size : Nat) (h1 : P.underlying t = some (.slice e)) (h2 : P.info? e = some i) (h3 : i.zero = some z) (h4 : i.size = size)
    (n : Nat) (hl : a.eval l = .int .i64 (n : Int)) (hc : a.eval c = .int .i64 (n : Int)) (hn : 0 < n * size) (b2 : i.bytes * n ≤ 281474976710656) (b3 : n ≤ 1000000)
    (hK : ∀ us : List Value, us.length = n * size → wpList P ops Q rest (a.put o.dst (.slice (some ⟨w.heap.size, 0, none⟩) n n)) (w.alloc (.cells us.toArray e))) :
    wpList P ops Q (o :: rest) a w := by
  refine wpList_plain hg fun K hK' => ?_
  subst h4
  have hw : IntKind.i64.wrap (n : Int) = (n : Int) := wrap_small _ (by omega) (by omega)
  have hbz : ¬ ((i.bytes : Int) * (n : Int) > 2 ^ 48) := by
    have : ((i.bytes * n : Nat) : Int) ≤ 281474976710656 := by omega
    rw [Int.natCast_mul] at this
    omega
  have hrun : (Instr.makeSlice t (.int .i64 (n : Int)) (.int .i64 (n : Int))).run P w = .ok (.slice (some ⟨w.heap.size, 0, none⟩) n n) (w.alloc (.cells ((Array.range (n * i.size)).map (z.cells[· % z.cells.size]!)) e)) := by
    unfold Instr.makeSlice
    simp only [Sem.run_bind, run_underlying h1, Result.andThen_ok, asInt, asIntOf, Sem.run_pure, typeInfo, run_program, h2, hw, Sem.run_ite]
    rw [if_neg (by
      simp only [Bool.or_eq_true, decide_eq_true_eq, not_or]
      exact ⟨⟨⟨by omega, hbz⟩, by omega⟩, by omega⟩)]
    have hsz : (sizeOf e).run P w = .ok i.size w := by simp [sizeOf, typeInfo, h2]
    simp only [run_askRoom, Result.andThen_ok, hsz, Int.toNat_natCast]
    rw [if_neg (by omega)]
    simp only [zeroValue, typeInfo, Sem.run_bind, run_program, Result.andThen_ok, h2, Sem.run_pure, h3]
    rfl
  unfold Oper.wp
  simp [execOp, hop, hl, hc, hrun, Result.andThen]
  have := hK ((Array.range (n * i.size)).map (z.cells[· % z.cells.size]!)).toList (by simp)
  simp only [Array.toArray_toList] at this
  exact hK' _ _ this

theorem take_flat {xs : List Value} {z : Nat} (hx : xs.length = z) {k m : Nat} (h : k ≤ m) : ((List.replicate m xs).flatten).take (k * z) = (List.replicate k xs).flatten := by
  obtain ⟨d, rfl⟩ : ∃ d, m = k + d := ⟨m - k, by omega⟩
  rw [← List.replicate_append_replicate, List.flatten_append]
  have hl : ((List.replicate k xs).flatten).length = k * z := by simp [hx]
  rw [← hl, List.take_left]
theorem flat_len {xs : List Value} {z : Nat} (hx : xs.length = z) (k : Nat) : ((List.replicate k xs).flatten).length = k * z := by simp [hx]

/-- One more copy. -/
theorem splice_more {xs cur : List Value} {z m k : Nat} (hx : xs.length = z) (hc : cur.take (m * z) = (List.replicate m xs).flatten) (hk : k ≤ m) (hfit : m * z + k * z ≤ cur.length) :
    (splice cur (m * z) (cur.take (k * z))).take ((m + k) * z) = (List.replicate (m + k) xs).flatten ∧ (splice cur (m * z) (cur.take (k * z))).length = cur.length := by
  have hl : (cur.take (k * z)).length = k * z := by rw [List.length_take]; omega
  have hm : (cur.take (m * z)).length = m * z := by rw [List.length_take]; omega
  have hkz : k * z ≤ m * z := Nat.mul_le_mul_right _ hk
  have e : cur.take (k * z) = (List.replicate k xs).flatten := by
    rw [← take_flat hx hk, ← hc, List.take_take, Nat.min_eq_left hkz]
  refine ⟨?_, length_splice _ _ _ (by omega)⟩
  unfold splice
  rw [← List.append_assoc, Nat.add_mul]
  have hlen : (cur.take (m * z) ++ cur.take (k * z)).length = m * z + k * z := by rw [List.length_append, hm, hl]
  rw [← hlen, List.take_left, hc, e, ← List.flatten_append, List.replicate_append_replicate]

theorem cell_alloc {w : World} {x : Obj} {b o : Nat} (hb : b < w.heap.size) : (w.alloc x).cell? ⟨b, o, none⟩ = w.cell? ⟨b, o, none⟩ := World.cell?_of_block (w := w) (Below.heap_alloc w x b hb)

theorem repeat_made (b o : Nat) (cap : Nat) (xs : List Value) (w : World) (hx : xs.length = 3) (hone : ∀ v ∈ xs, v.oneCell' = true) (hc : ∀ j v, xs[j]? = some v → w.cell? ⟨b, o + j, none⟩ = some v) (hlow : b < w.heap.size) :
    Calls Tryz.prog 44 #[.slice (some ⟨b, o, none⟩) 1 cap, .int .i64 200] w fun e w' => e = .returned (.slice (some ⟨w.heap.size, 0, none⟩) 200 200) ∧ Below w.heap.size w w' ∧ w'.heap[w.heap.size]? = some (.cells ((List.replicate 200 xs).flatten).toArray 63 (0, 0)) := by
  have hinfo : (Tryz.prog.info? 63).map (fun i => (i.zero, i.size, i.bytes)) = some (some (.agg #[.int .i64 0, .int .i64 0, .int .i64 0]), 3, 24) := by kernel_rfl
  obtain ⟨i0, hi, hz0, hz1, hz2⟩ := info_parts hinfo
  have hsz : (Tryz.prog.info? 63).map (·.size) = some 3 := by rw [hi]; simp [hz1]
  obtain ⟨B, hB⟩ : ∃ B, B = w.heap.size := ⟨_, rfl⟩
  have hB' : Hid (B = w.heap.size) := hB
  go_enter Tryz.func44, Tryz.ntmps44
  go_wp2_with (first
    | (go_at_call 74; refine (mul_made _).mono ?_; rintro e w2 ⟨rfl, hw2⟩; have hw3 := hw2.symm; clear hw2; subst hw3)
    | (at_make; refine wpList_make_row _ rfl _ _ 35 rfl 63 i0 _ 3 Tryz.underlying35 hi hz0 hz1 200 (by simp [Act.eval, Act.put]) (by simp [Act.eval, Act.put]) (by decide) (by omega) (by decide) ?_))
  intro us hus
  have hn1 : (w.alloc (.cells us.toArray 63)).heap[w.heap.size]? = some (.cells us.toArray 63 (0, 0)) := heap_alloc_new w _
  have hs1 : ∀ j v, xs[j]? = some v → (w.alloc (.cells us.toArray 63)).cell? ((⟨b, o, none⟩ : Addr).add j) = some v := fun j v hj => by rw [Addr.add_lit, cell_alloc hlow]; exact hc j v hj
  have hb1 : Below w.heap.size w (w.alloc (.cells us.toArray 63)) := (Below.refl _ w).alloc (Nat.le_refl _) _
  generalize w.alloc (.cells us.toArray 63) = w1 at *
  obtain ⟨w2, hw2⟩ : ∃ w2, w2 = w1.setRow w.heap.size (splice us 0 xs).toArray := ⟨_, rfl⟩
  have hrun : ∀ ty, (Builtin.copy_ #[35, 35] ty #[.slice (some ⟨w.heap.size, 0, none⟩) 200 200, .slice (some ⟨b, o, none⟩) 1 cap]).run Tryz.prog w1 = .ok (goInt 1) w2 := fun ty => by
    rw [hw2]
    exact run_copy_z w1 35 35 ty 63 3 w.heap.size 0 200 200 ⟨b, o, none⟩ 1 cap us xs 63 Tryz.underlying35 hsz (by simp [hx]) hn1 hs1 (by omega) hone
  have hn2 : ∃ cur : List Value, w2.heap[w.heap.size]? = some (.cells cur.toArray 63 (0, 0)) ∧ cur.length = 600 ∧ cur.take (1 * 3) = (List.replicate 1 xs).flatten := by
    refine ⟨splice us 0 xs, by rw [hw2]; exact setRow_heap w1 _ _ _ 63 _ hn1, by rw [length_splice _ _ _ (by omega)]; exact hus, ?_⟩
    unfold splice
    rw [List.take_zero, List.nil_append, Nat.one_mul, ← hx, List.take_left]
    simp
  have hb2 : Below w.heap.size w w2 := by rw [hw2]; exact below_setRow hb1 (Nat.le_refl _) _
  clear hn1 hs1 hb1 hw2 hus
  go_wp2
  clear hrun
  go_loopw [8] (fun n wr => ∃ m : Nat, 1 ≤ m ∧ m ≤ 200 ∧ n = .int .i64 (m : Int) ∧ (∃ cur : List Value, wr.heap[w.heap.size]? = some (.cells cur.toArray 63 (0, 0)) ∧ cur.length = 600 ∧ cur.take (m * 3) = (List.replicate m xs).flatten) ∧ Below w.heap.size w wr)
    (fun n _ => 200 - (intOf n).toNat)
  case atStart => exact ⟨1, by omega, by omega, rfl, hn2, hb2⟩
  case round =>
    obtain ⟨m, hm1, hm2, rfl, ⟨cur, hcur, hlen, htake⟩, hbr⟩ := hrel
    clear hn2 hb2
    go_wp2_with fail
    · have hlt : (m : Int) < 200 := by assumption
      obtain ⟨k, hk⟩ : ∃ k, k = Nat.min m (200 - m) := ⟨_, rfl⟩
      have hk1 : k ≤ m := by rw [hk]; exact Nat.min_le_left _ _
      have hk2 : k ≤ 200 - m := by rw [hk]; exact Nat.min_le_right _ _
      have hk3 : 1 ≤ k := by rw [hk]; exact Nat.le_min.2 ⟨hm1, by omega⟩
      have hcl : (cur.take (k * 3)).length = Nat.min m (200 - m) * 3 := by rw [← hk, List.length_take]; omega
      have hmi : (m : Int) ≤ 200 := by omega
      have hne : ¬ (200 = m) := by omega
      have ek : cur.take (k * 3) = (List.replicate k xs).flatten := by rw [← take_flat hx hk1, ← htake, List.take_take, Nat.min_eq_left (by omega)]
      have hsrc : Hid (∀ j v, (cur.take (k * 3))[j]? = some v → wr.drew.cell? ((⟨w.heap.size, 0, none⟩ : Addr).add j) = some v) := fun j v hj => by
        rw [Addr.add_lit, Nat.zero_add]
        have hj' : cur[j]? = some v := by
          rw [List.getElem?_take] at hj
          split at hj
          · exact hj
          · cases hj
        show wr.cell? _ = _
        simp [World.cell?, hcur, hj']
      have hfit : m * 3 + (cur.take (k * 3)).length ≤ cur.length := by rw [List.length_take]; omega
      have hone' : Hid (∀ v ∈ cur.take (k * 3), v.oneCell' = true) := by
        intro v hv
        rw [ek] at hv
        obtain ⟨l, hl, hvl⟩ := List.mem_flatten.1 hv
        rw [List.eq_of_mem_replicate hl] at hvl
        exact hone v hvl
      obtain ⟨q1, q2⟩ := splice_more hx htake hk1 (by omega)
      have Q1 : Hid ((splice cur (m * 3) (cur.take (k * 3))).take ((m + k) * 3) = (List.replicate (m + k) xs).flatten) := q1
      have Q2 : Hid ((splice cur (m * 3) (cur.take (k * 3))).length = cur.length) := q2
      have HC : Hid (wr.drew.heap[w.heap.size]? = some (.cells cur.toArray 63 (0, 0))) := hcur
      have HB : Below w.heap.size w wr.drew := hbr.trans ⟨rfl, rfl, rfl, Nat.le_refl _, fun _ _ => rfl⟩
      clear ek q1 q2 hcur
      go_region_law (refine step_copy_z rfl (.tmp 41) (.tmp 44) 35 35 rfl 63 3 Tryz.underlying35 hsz w.heap.size (m * 3) (200 - m) (200 - m) ⟨w.heap.size, 0, none⟩ m 200 (by simp [Act.eval, Act.put]) (by simp [Act.eval, Act.put]) cur 63 HC.out (cur.take (k * 3)) hcl hsrc.out hfit hone'.out ?_; rw [← hk]; intro w3 hw3)
      have hwk : IntKind.i64.wrap ((m : Int) + ((m.min (200 - m) : Nat) : Int)) = ((m + k : Nat) : Int) := by
        rw [← hk, wrap_small _ (by omega) (by omega)]
        omega
      rw [hwk]
      simp [Act.put]
      go_wp2
      go_roundw
      case rel =>
        refine ⟨m + k, by omega, by omega, rfl, ⟨splice cur (m * 3) (cur.take (k * 3)), ?_, Q2.out.trans hlen, Q1.out⟩, ?_⟩
        · rw [hw3.out]; exact setRow_heap _ _ _ _ 63 _ HC.out
        · rw [hw3.out]; exact below_setRow HB (Nat.le_refl _) _
      case measure => simp [intOf]; omega
    · have hm : m = 200 := by omega
      subst hm
      go_ret
      refine ⟨rfl, hbr, ?_⟩
      rw [hcur]
      rw [List.take_of_length_le (by omega)] at htake
      rw [htake]

end Go.PewTab
