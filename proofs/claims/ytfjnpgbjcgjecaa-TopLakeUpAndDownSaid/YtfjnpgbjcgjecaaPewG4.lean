/- THE FUNCTIONS' NUMBERS BY NAME; written by a program. -/
/- WHOLE NUMBERS BY DIGITS: plain lemmas, without a program. -/
/- TABLES: levels and volumes of a lake, in plain numbers, without a program. -/
/- TABLES: levels and volumes of a lake: floors and ceilings meet, in plain numbers. -/
/- PLAIN DATA AND THE EVALUATOR's VALUES: what the specifications of the functions lean on. -/
/- EQUATIONS OF FUNCTIONS, by the kernel's own reckoning; written by a program. -/
import Derived.Test.YtfjnpgbjcgjecaaPewG3
import Derived.KernelRfl

namespace Go.PewTab
set_option linter.unusedSimpArgs false
set_option linter.unusedVariables false
open Go.Pew Go

def F_law01_LakeUsable : Nat := 3
def F_law01_LakeSteps : Nat := 4
def F_law01_LakeReadings : Nat := 5
def F_law01_LakeTwo : Nat := 6
def F_top_TopLakeUpAndDown : Nat := 7
def F_law01_LakeTables : Nat := 8
def F_top_TopDispatchReserve : Nat := 9
def F_law01_LakeBetween : Nat := 10
def F_law01_LakeSeasons : Nat := 11
def F_law01_LakeRuns : Nat := 12
def F_law01_LakeKept : Nat := 13
def F_law01_awake : Nat := 14
def F_law01_FewPair : Nat := 15
def F_ref01_BothErr : Nat := 16
def F_base_Within : Nat := 17
def F_ref01_CopyPair : Nat := 18
def F_lake_Usable : Nat := 19
def F_lake_Step : Nat := 20
def F_lake_CheckPair : Nat := 21
def F_ref01_PairErr : Nat := 22
def F_lake_CheckState : Nat := 23
def F_ref01_Usable : Nat := 24
def F_ref01_FlowsErr : Nat := 25
def F_ref01_Step : Nat := 26
def F_law01_Few : Nat := 27
def F_law01_short : Nat := 28
def F_lake_AgreedOf : Nat := 29
def F_ref01_Copy : Nat := 30
def F_base_CopyInts : Nat := 31
def F_ref01_CopyReadings : Nat := 32
def F_lake_Contradicting : Nat := 33
def F_ref01_AllErr : Nat := 34
def F_ref01_AgreedOf : Nat := 35
def F_ref01_Contradicting : Nat := 36
def F_base_Ints : Nat := 37
def F_lake_LevelAt : Nat := 38
def F_top_lakeShown : Nat := 39
def F_ref01_TaskErr : Nat := 40
def F_lake_RunOf : Nat := 41
def F_ref01_CopyList : Nat := 42
def F_lake_ViolationOf : Nat := 43
def F_lake_CheckTable : Nat := 44
def F_lake_VolumeAt : Nat := 45
def F_lake_AreaAt : Nat := 46
def F_ref01_CheckTable : Nat := 47
def F_ref01_IsLevel : Nat := 48
def F_ref01_VolumeAt : Nat := 49
def F_ref01_IsVolume : Nat := 50
def F_ref01_LevelAt : Nat := 51
def F_ref01_AreaAt : Nat := 52
def F_top_dispatchShown : Nat := 53
def F_law08_Few : Nat := 54
def F_law08_Short : Nat := 55
def F_ref08_TaskErr : Nat := 56
def F_ref08_HoldErr : Nat := 57
def F_ref08_PowersErr : Nat := 58
def F_dispatch_BestWith : Nat := 59
def F_ref08_CopyPlant : Nat := 60
def F_ref08_CopyTask : Nat := 61
def F_dispatch_BestPlan : Nat := 62
def F_dispatch_VolumesOf : Nat := 63
def F_base_Mod : Nat := 64
def F_base_Size : Nat := 65
def F_dispatch_Followed : Nat := 66
def F_dispatch_SettledOf : Nat := 67
def F_ref01_TableErr : Nat := 68
def F_ref01_Top : Nat := 69
def F_law01_small : Nat := 70
def F_base_Cmp : Nat := 71
def F_lake_MinimumOn : Nat := 72
def F_ref01_CopySeasons : Nat := 73
def F_ref01_MinimumOn : Nat := 74
def F_ref01_ListErr : Nat := 75
def F_ref01_RunOf : Nat := 76
def F_ref01_SameStates : Nat := 77
def F_ref01_StateErr : Nat := 78
def F_law01_Table : Nat := 79
def F_law01_Pair : Nat := 80
def F_lake_openState : Nat := 81
def F_lake_table_bottom : Nat := 82
def F_lake_table_top : Nat := 83
def F_lake_first : Nat := 84
def F_lake_flowsErr : Nat := 85
def F_lake_pair_step : Nat := 86
def F_lake_unless : Nat := 87
def F_lake_tableErr : Nat := 88
def F_lake_within : Nat := 89
def F_ref01_Bottom : Nat := 90
def F_ref01_evaporated : Nat := 91
def F_lake_permitted : Nat := 92
def F_lake_common : Nat := 93
def F_ref01_NetErr : Nat := 94
def F_ref01_ReadingsErr : Nat := 95
def F_ref01_permitted : Nat := 96
def F_lake_openVolume : Nat := 97
def F_lake_table_levelAt : Nat := 98
def F_ref01_LimitsErr : Nat := 99
def F_lake_ticksErr : Nat := 100
def F_lake_openTask : Nat := 101
def F_lake_pair_watch : Nat := 102
def F_slices_Values_LakeFlows : Nat := 103
def F_lake_piece_height : Nat := 104
def F_lake_piece_volume : Nat := 105
def F_lake_piece_narrower : Nat := 106
def F_lake_table_volumeAt : Nat := 107
def F_lake_table_byVolume : Nat := 108
def F_lake_divisor : Nat := 109
def F_base_RatioCmp : Nat := 110
def F_ref01_piece : Nat := 111
def F_ref01_rounded : Nat := 112
def F_ref01_volume : Nat := 113
def F_ref01_Level : Nat := 114
def F_ref01_above : Nat := 115
def F_base_Lowest : Nat := 116
def F_law08_Plant : Nat := 117
def F_law08_Task : Nat := 118
def F_ref08_CheckTask : Nat := 119
def F_dispatch_open : Nat := 120
def F_dispatch_first : Nat := 121
def F_dispatch_unless : Nat := 122
def F_dispatch_work_isMode : Nat := 123
def F_dispatch_within : Nat := 124
def F_dispatch_work_best : Nat := 125
def F_dispatch_openPlan : Nat := 126
def F_dispatch_isPower : Nat := 127
def F_dispatch_powersErr : Nat := 128
def F_dispatch_size : Nat := 129
def F_base_IsLowest : Nat := 130
def F_base_IsSmall : Nat := 131
def F_lake_MinimumOn_c1 : Nat := 132
def F_lake_contains : Nat := 133
def F_lake_openPair : Nat := 134
def F_lake_pair_stateErr : Nat := 135
def F_lake_flowsErr_c1 : Nat := 136
def F_lake_table_evaporated : Nat := 137
def F_base_RatioDiv : Nat := 138
def F_base_RatioMul : Nat := 139
def F_base_RatioInt : Nat := 140
def F_lake_netErr : Nat := 141
def F_lake_table_readingsErr : Nat := 142
def F_lake_table_holds : Nat := 143
def F_ref01_limitErr : Nat := 144
def F_lake_pair_limitsErr : Nat := 145
def F_lake_pair_watch_c1 : Nat := 146
def F_lake_violated : Nat := 147
def F_slices_Values_LakeFlows_c1 : Nat := 148
def F_lake_table_pieceTo : Nat := 149
def F_lake_table_volumeAt_c1 : Nat := 150
def F_lake_floor : Nat := 151
def F_lake_ceil : Nat := 152
def F_lake_table_byVolume_c1 : Nat := 153
def F_base_WideCmp : Nat := 154
def F_base_WideMul : Nat := 155
def F_base_RatioOf : Nat := 156
def F_base_WideInt : Nat := 157
def F_base_RatioFloor : Nat := 158
def F_base_RatioCeil : Nat := 159
def F_base_RatioAdd : Nat := 160
def F_base_Gcd : Nat := 161
def F_ref08_PlantErr : Nat := 162
def F_ref08_isPrice : Nat := 163
def F_dispatch_CheckTask : Nat := 164
def F_dispatch_work_potentials : Nat := 165
def F_dispatch_work_cell : Nat := 166
def F_dispatch_isValue : Nat := 167
def F_dispatch_work_steps : Nat := 168
def F_dispatch_work_revenue : Nat := 169
def F_slices_ContainsFunc_int : Nat := 170
def F_dispatch_openPlan_c1 : Nat := 171
def F_dispatch_work_volumes : Nat := 172
def F_dispatch_isSized : Nat := 173
def F_dispatch_powersErr_c1 : Nat := 174
def F_base_RatioMake : Nat := 175
def F_base_WideOf : Nat := 176
def F_lake_netErr_c1 : Nat := 177
def F_lake_table_readingsErr_c1 : Nat := 178
def F_lake_table_limitErr : Nat := 179
def F_lake_whole : Nat := 180
def F_lake_height_above : Nat := 181
def F_slices_Index_bool : Nat := 182
def F_slices_IndexFunc_LakeKnot : Nat := 183
def F_base_WideSub : Nat := 184
def F_base_wideOf : Nat := 185
def F_base_WideFloor : Nat := 186
def F_base_WideNeg : Nat := 187
def F_base_WideAdd : Nat := 188
def F_ref08_CheckPlant : Nat := 189
def F_dispatch_CheckPlant : Nat := 190
def F_dispatch_isPrice : Nat := 191
def F_slices_Repeat_int : Nat := 192
def F_dispatch_work_holds : Nat := 193
def F_dispatch_work_steps_c1 : Nat := 194
def F_dispatch_work_after : Nat := 195
def F_dispatch_work_isVolume : Nat := 196
def F_slices_IndexFunc_int : Nat := 197
def F_base_WideSign : Nat := 198
def F_base_wideGcd : Nat := 199
def F_lake_table_limitErr_c1 : Nat := 200
def F_lake_table_limitErr_c2 : Nat := 201
def F_base_trimmed : Nat := 202
def F_base_cmpDigits : Nat := 203
def F_base_subDigits : Nat := 204
def F_base_addDigits : Nat := 205
def F_ref08_modeErr : Nat := 206
def F_dispatch_CheckPlant_c1 : Nat := 207
def F_slices_ContainsFunc_DispatchMode : Nat := 208
def F_dispatch_CheckPlant_c2 : Nat := 209
def F_dispatch_isName : Nat := 210
def F_math_bits_Mul : Nat := 211
def F_dispatch_work_given : Nat := 212
def F_base_wideSize : Nat := 213
def F_base_digit : Nat := 214
def F_base_IsName : Nat := 215
def F_base_HasText : Nat := 216
def F_slices_IndexFunc_DispatchMode : Nat := 217
def F_math_bits_Mul32 : Nat := 218
def F_math_bits_Mul64 : Nat := 219
def F_runtime_boundsError_Error : Nat := 220
def F_runtime_boundsError_RuntimeError : Nat := 221
def F_runtime_errorString_Error : Nat := 222
def F_runtime_errorString_RuntimeError : Nat := 223
def F_runtime_plainError_Error : Nat := 224
def F_runtime_plainError_RuntimeError : Nat := 225
def F_runtime_errorAddressString_Error : Nat := 226
def F_runtime_errorAddressString_RuntimeError : Nat := 227
def F_pruntime_TypeAssertionError_Error : Nat := 228
def F_pruntime_TypeAssertionError_RuntimeError : Nat := 229
def F_pruntime_PanicNilError_Error : Nat := 230
def F_pruntime_PanicNilError_RuntimeError : Nat := 231
def F_pinternal_abi_Type_Align : Nat := 232
def F_internal_runtime_maps_unhashableTypeError_Error : Nat := 233
def F_internal_runtime_maps_unhashableTypeError_RuntimeError : Nat := 234
def F_internal_abi_Kind_String : Nat := 235
def w64 (x : Int) : Int := IntKind.wrap IntKind.i64 x
def und : Nat → List PV → List PV
  | 0, l => l
  | n + 1, l => .undef :: und n l
def nos : Nat → List (Option Box) → List (Option Box)
  | 0, l => l
  | n + 1, l => none :: nos n l
end Go.PewTab

namespace Go.Num
set_option linter.unusedSimpArgs false
set_option linter.unusedVariables false




/-- The number that digits tell, the lowest one first. -/
def val : List Nat → Nat
  | [] => 0
  | d :: l => d + 1000000000 * val l

/-- The digits of a number, without zeros at the end. -/
def digs (n : Nat) : List Nat := if h : n = 0 then [] else n % 1000000000 :: digs (n / 1000000000)
termination_by n
decreasing_by exact Nat.div_lt_self (Nat.pos_of_ne_zero h) (by decide)

/-- All below the base. -/
def Dig (l : List Nat) : Prop := ∀ d ∈ l, d < 1000000000

theorem digs_zero : digs 0 = [] := by unfold digs; simp
theorem digs_pos {n : Nat} (h : n ≠ 0) : digs n = n % 1000000000 :: digs (n / 1000000000) := by rw [digs.eq_1, dif_neg h]

theorem val_digs (n : Nat) : val (digs n) = n := by
  induction n using Nat.strongRecOn with
  | _ n ih =>
    by_cases h : n = 0
    · subst h; rw [digs_zero]; rfl
    · rw [digs_pos h, val, ih _ (Nat.div_lt_self (Nat.pos_of_ne_zero h) (by decide))]
      omega

theorem dig_digs (n : Nat) : Dig (digs n) := by
  induction n using Nat.strongRecOn with
  | _ n ih =>
    by_cases h : n = 0
    · subst h; rw [digs_zero]; intro d hd; cases hd
    · rw [digs_pos h]
      intro d hd
      rcases List.mem_cons.1 hd with rfl | hd
      · exact Nat.mod_lt _ (by decide)
      · exact ih _ (Nat.div_lt_self (Nat.pos_of_ne_zero h) (by decide)) d hd

theorem Dig.tail {d : Nat} {l : List Nat} (h : Dig (d :: l)) : Dig l := fun x hx => h x (List.mem_cons_of_mem _ hx)
theorem Dig.head {d : Nat} {l : List Nat} (h : Dig (d :: l)) : d < 1000000000 := h d (List.mem_cons_self ..)
theorem Dig.append {l m : List Nat} (h : Dig l) (k : Dig m) : Dig (l ++ m) := fun x hx => (List.mem_append.1 hx).elim (h x) (k x)
theorem Dig.take {l : List Nat} (h : Dig l) (n : Nat) : Dig (l.take n) := fun x hx => h x (List.mem_of_mem_take hx)
theorem Dig.getD {l : List Nat} (h : Dig l) (i : Nat) : l.getD i 0 < 1000000000 := by
  rw [List.getD_eq_getElem?_getD]
  cases hh : l[i]? with
  | none => decide
  | some x => exact h x (List.mem_of_getElem? hh)
theorem Dig.set {l : List Nat} (h : Dig l) (i : Nat) {x : Nat} (hx : x < 1000000000) : Dig (l.set i x) := fun y hy => by
  rcases List.mem_or_eq_of_mem_set hy with hy | rfl
  · exact h y hy
  · exact hx

theorem val_lt {l : List Nat} (h : Dig l) : val l < 1000000000 ^ l.length := by
  induction l with
  | nil => simp [val]
  | cons d l ih =>
    have := ih h.tail
    have hd := h.head
    rw [val, List.length_cons, Nat.pow_succ]
    calc d + 1000000000 * val l < 1000000000 + 1000000000 * val l := by omega
      _ = 1000000000 * (val l + 1) := by rw [Nat.mul_add]; omega
      _ ≤ 1000000000 * 1000000000 ^ l.length := Nat.mul_le_mul_left _ this
      _ = 1000000000 ^ l.length * 1000000000 := Nat.mul_comm _ _

theorem val_append (l m : List Nat) : val (l ++ m) = val l + 1000000000 ^ l.length * val m := by
  induction l with
  | nil => simp [val]
  | cons d l ih =>
    rw [List.cons_append, val, val, ih, List.length_cons, Nat.pow_succ, Nat.mul_add, Nat.add_assoc, Nat.mul_comm (1000000000 ^ l.length) 1000000000, Nat.mul_assoc]

/-- Without a zero at the end the digits are those of the number. -/
theorem eq_digs {l : List Nat} (h : Dig l) (hz : l ≠ [] → l.getD (l.length - 1) 0 ≠ 0) : l = digs (val l) := by
  induction l with
  | nil => rw [val, digs_zero]
  | cons d l ih =>
    have hne : val (d :: l) ≠ 0 := by
      have key : ∀ (l : List Nat), l ≠ [] → l.getD (l.length - 1) 0 ≠ 0 → val l ≠ 0 := by
        intro l
        induction l with
        | nil => intro h; exact absurd rfl h
        | cons d l ih =>
          intro _ hz
          cases l with
          | nil => simp [val] at hz ⊢; exact hz
          | cons e l =>
            have := ih (by simp) (by simpa using hz)
            rw [val]; omega
      exact key _ (by simp) (hz (by simp))
    rw [digs_pos hne, val]
    have hd := h.head
    have h1 : (d + 1000000000 * val l) % 1000000000 = d := by omega
    have h2 : (d + 1000000000 * val l) / 1000000000 = val l := by omega
    rw [h1, h2]
    congr 1
    exact ih h.tail fun hl => by
      cases l with
      | nil => exact absurd rfl hl
      | cons e l => simpa using hz (by simp)

theorem val_take_succ (l : List Nat) (n : Nat) : val (l.take (n + 1)) = val (l.take n) + 1000000000 ^ n * l.getD n 0 := by
  induction l generalizing n with
  | nil => simp [val]
  | cons d l ih =>
    cases n with
    | zero => simp [val]
    | succ n =>
      rw [List.take_succ_cons, val, ih, List.take_succ_cons, val, Nat.pow_succ]
      simp only [List.getD_cons_succ]
      rw [Nat.mul_add, Nat.add_assoc, Nat.mul_comm (1000000000 ^ n) 1000000000, Nat.mul_assoc]

theorem val_drop (l : List Nat) (n : Nat) : val (l.drop n) = l.getD n 0 + 1000000000 * val (l.drop (n + 1)) := by
  induction l generalizing n with
  | nil => simp [val]
  | cons d l ih =>
    cases n with
    | zero => simp [val]
    | succ n => simpa using ih n

theorem val_set (l : List Nat) (n x : Nat) (h : n < l.length) : val (l.set n x) + 1000000000 ^ n * l.getD n 0 = val l + 1000000000 ^ n * x := by
  induction l generalizing n with
  | nil => simp at h
  | cons d l ih =>
    cases n with
    | zero => simp [val]; omega
    | succ n =>
      have := ih n (by simpa using h)
      simp only [List.set_cons_succ, val, List.getD_cons_succ, Nat.pow_succ]
      have e1 : 1000000000 ^ n * 1000000000 * l.getD n 0 = 1000000000 * (1000000000 ^ n * l.getD n 0) := by rw [Nat.mul_comm (1000000000 ^ n) 1000000000, Nat.mul_assoc]
      have e2 : 1000000000 ^ n * 1000000000 * x = 1000000000 * (1000000000 ^ n * x) := by rw [Nat.mul_comm (1000000000 ^ n) 1000000000, Nat.mul_assoc]
      rw [e1, e2]
      have e3 := congrArg (1000000000 * ·) this
      simp only [Nat.mul_add] at e3
      omega

theorem val_replicate (n : Nat) : val (List.replicate n 0) = 0 := by
  induction n with
  | zero => rfl
  | succ n ih => rw [List.replicate_succ, val, ih]
theorem dig_replicate (n : Nat) : Dig (List.replicate n 0) := fun d hd => by
  rw [List.eq_of_mem_replicate hd]; decide

theorem digs_len (n k : Nat) (h : n < 1000000000 ^ k) : (digs n).length ≤ k := by
  induction k generalizing n with
  | zero => rw [show n = 0 by simpa using h, digs_zero]; decide
  | succ k ih =>
    by_cases hn : n = 0
    · subst hn; rw [digs_zero]; simp
    · rw [digs_pos hn, List.length_cons]
      have : n / 1000000000 < 1000000000 ^ k := by
        rw [Nat.div_lt_iff_lt_mul (by decide)]
        rwa [Nat.pow_succ] at h
      have := ih _ this
      omega

/-- The digits down from the top tell which number is greater. -/
theorem digs_len_lt {a b : Nat} (h : (digs a).length < (digs b).length) : a < b := by
  rcases Nat.lt_or_ge a b with h' | h'
  · exact h'
  · have h1 : b < 1000000000 ^ (digs a).length := Nat.lt_of_le_of_lt h' (by have := val_lt (dig_digs a); rwa [val_digs] at this)
    have := digs_len b _ h1
    omega

theorem val_lt_of {l m : List Nat} (hl : Dig l) (hm : Dig m) (hlen : l.length = m.length) {n : Nat} (hn : n < l.length) (hlt : l.getD n 0 < m.getD n 0) (he : ∀ i, n < i → l.getD i 0 = m.getD i 0) : val l < val m := by
  induction l generalizing m n with
  | nil => simp at hn
  | cons d l ih =>
    cases m with
    | nil => simp at hlen
    | cons e m =>
      have hd := hl.head
      have he' := hm.head
      cases n with
      | zero =>
        have hlm : l = m := by
          apply List.ext_getElem (by simpa using hlen)
          intro i h1 h2
          have := he (i + 1) (by omega)
          simpa [List.getD_eq_getElem?_getD, h1, h2] using this
        subst hlm
        simp only [List.getD_cons_zero] at hlt
        simp only [val]; omega
      | succ n =>
        have := ih hl.tail hm.tail (by simpa using hlen) (n := n) (by simpa using hn) (by simpa using hlt) (fun i hi => by simpa using he (i + 1) (by omega))
        simp only [val]
        have h3 : 1000000000 * (val l + 1) ≤ 1000000000 * val m := Nat.mul_le_mul_left _ this
        rw [Nat.mul_add] at h3
        omega

end Go.Num

namespace Go.Num
set_option linter.unusedSimpArgs false
set_option linter.unusedVariables false

/-- A knot: a level, and the volume below it. -/
structure Knot where
  l : Int
  v : Int
  deriving DecidableEq

abbrev Tab := List Knot
def kn (t : Tab) (i : Nat) : Knot := t.getD i ⟨0, 0⟩

/-- What is wrong with the knots from i on, d of them left. -/
def knotErr (t : Tab) (i : Nat) : Int :=
  if ¬ (0 ≤ (kn t i).l ∧ (kn t i).l ≤ 1000000 ∧ 0 ≤ (kn t i).v ∧ (kn t i).v ≤ 1000000000) then 2
  else if i = 0 then 0
  else if (kn t i).l ≤ (kn t (i - 1)).l ∨ (kn t i).v ≤ (kn t (i - 1)).v then 9
  else if 1 < i ∧ ((kn t i).v - (kn t (i - 1)).v) * ((kn t (i - 1)).l - (kn t (i - 2)).l) < ((kn t (i - 1)).v - (kn t (i - 2)).v) * ((kn t i).l - (kn t (i - 1)).l) then 22
  else 0

def knotsErr (t : Tab) : Nat → Nat → Int × Int
  | 0, _ => (0, 0)
  | d + 1, i => if knotErr t i = 0 then knotsErr t d (i + 1) else ((i : Int), knotErr t i)

/-- The index and the error of a table. -/
def tabErr (t : Tab) : Int × Int :=
  if t.length < 2 then (0, 10) else if 10 < t.length then (0, 8) else knotsErr t t.length 0

/-- A valid table. -/
structure Ok (t : Tab) : Prop where
  two : 2 ≤ t.length
  ten : t.length ≤ 10
  range : ∀ i, i < t.length → 0 ≤ (kn t i).l ∧ (kn t i).l ≤ 1000000 ∧ 0 ≤ (kn t i).v ∧ (kn t i).v ≤ 1000000000
  up : ∀ i, 1 ≤ i → i < t.length → (kn t (i - 1)).l < (kn t i).l ∧ (kn t (i - 1)).v < (kn t i).v
  wide : ∀ i, 2 ≤ i → i < t.length → ((kn t (i - 1)).v - (kn t (i - 2)).v) * ((kn t i).l - (kn t (i - 1)).l) ≤ ((kn t i).v - (kn t (i - 1)).v) * ((kn t (i - 1)).l - (kn t (i - 2)).l)

theorem knotErr_zero {t : Tab} {i : Nat} (h : knotErr t i = 0) : (0 ≤ (kn t i).l ∧ (kn t i).l ≤ 1000000 ∧ 0 ≤ (kn t i).v ∧ (kn t i).v ≤ 1000000000) ∧
    (1 ≤ i → (kn t (i - 1)).l < (kn t i).l ∧ (kn t (i - 1)).v < (kn t i).v) ∧
    (2 ≤ i → ((kn t (i - 1)).v - (kn t (i - 2)).v) * ((kn t i).l - (kn t (i - 1)).l) ≤ ((kn t i).v - (kn t (i - 1)).v) * ((kn t (i - 1)).l - (kn t (i - 2)).l)) := by
  unfold knotErr at h
  split at h
  · simp at h
  · rename_i h1
    split at h
    · exact ⟨Decidable.not_not.1 h1, by omega, by omega⟩
    · split at h
      · simp at h
      · rename_i h3
        split at h
        · simp at h
        · rename_i h4
          refine ⟨Decidable.not_not.1 h1, fun _ => by omega, fun h2 => ?_⟩
          have := not_and.1 h4 (by omega)
          exact Int.not_lt.1 this

theorem knotsErr_zero {t : Tab} : ∀ (d i : Nat), (knotsErr t d i).2 = 0 → ∀ j, i ≤ j → j < i + d → knotErr t j = 0
  | 0, i, _, j, h1, h2 => by omega
  | d + 1, i, h, j, h1, h2 => by
    unfold knotsErr at h
    split at h
    · rename_i he
      by_cases hj : j = i
      · rw [hj]; exact he
      · exact knotsErr_zero d (i + 1) h j (by omega) (by omega)
    · rename_i he
      exact absurd h he

theorem ok_of {t : Tab} (h : (tabErr t).2 = 0) : Ok t := by
  unfold tabErr at h
  split at h
  · simp at h
  · split at h
    · simp at h
    · have := fun j => knotsErr_zero t.length 0 h j
      exact ⟨by omega, by omega, fun i hi => (knotErr_zero (this i (by omega) (by omega))).1, fun i h1 hi => (knotErr_zero (this i (by omega) (by omega))).2.1 h1, fun i h1 hi => (knotErr_zero (this i (by omega) (by omega))).2.2 h1⟩

theorem Ok.mono {t : Tab} (h : Ok t) {i j : Nat} (hij : i ≤ j) (hj : j < t.length) : (kn t i).l ≤ (kn t j).l ∧ (kn t i).v ≤ (kn t j).v := by
  induction j with
  | zero => rw [show i = 0 by omega]; exact ⟨Int.le_refl _, Int.le_refl _⟩
  | succ j ih =>
    by_cases e : i = j + 1
    · rw [e]; exact ⟨Int.le_refl _, Int.le_refl _⟩
    · have h1 := ih (by omega) (by omega)
      have h2 := h.up (j + 1) (by omega) hj
      rw [Nat.add_sub_cancel] at h2
      omega

theorem Ok.lt {t : Tab} (h : Ok t) {i j : Nat} (hij : i < j) (hj : j < t.length) : (kn t i).l < (kn t j).l ∧ (kn t i).v < (kn t j).v := by
  have h1 := h.mono (i := i) (j := j - 1) (by omega) (by omega)
  have h2 := h.up j (by omega) hj
  omega

/-- The first piece that reaches up to a volume (by its upper knot), and that to a level. -/
def byV (t : Tab) (v : Int) : Nat := 1 + (t.drop 1).findIdx fun k => decide (v ≤ k.v)
def byL (t : Tab) (l : Int) : Nat := 1 + (t.drop 1).findIdx fun k => decide (l ≤ k.l)

theorem drop_kn (t : Tab) (i : Nat) (h : i < (t.drop 1).length) : (t.drop 1)[i] = kn t (i + 1) := by
  simp only [List.length_drop] at h
  rw [List.getElem_drop]
  unfold kn
  rw [List.getD_eq_getElem?_getD, List.getElem?_eq_getElem (by omega)]
  simp [Nat.add_comm]

structure At (t : Tab) (f : Knot → Int) (x : Int) (i : Nat) : Prop where
  one : 1 ≤ i
  lt : i < t.length
  reach : x ≤ f (kn t i)
  first : ∀ j, 1 ≤ j → j < i → f (kn t j) < x

theorem at_find {t : Tab} (f : Knot → Int) (x : Int) (h2 : 2 ≤ t.length) (h : x ≤ f (kn t (t.length - 1))) : At t f x (1 + (t.drop 1).findIdx fun k => decide (x ≤ f k)) := by
  have hlt : (t.drop 1).findIdx (fun k => decide (x ≤ f k)) < (t.drop 1).length := by
    rw [List.findIdx_lt_length]
    have hl : t.length - 2 < (t.drop 1).length := by simp; omega
    refine ⟨(t.drop 1)[t.length - 2], List.getElem_mem hl, ?_⟩
    rw [drop_kn t _ hl, show t.length - 2 + 1 = t.length - 1 by omega]
    simpa using h
  refine ⟨by omega, by rw [List.length_drop] at hlt; omega, ?_, fun j h1 hj => ?_⟩
  · have := List.findIdx_getElem (w := hlt)
    rw [drop_kn t _ hlt] at this
    rw [Nat.add_comm]
    simpa using this
  · have := List.not_of_lt_findIdx (p := fun k => decide (x ≤ f k)) (xs := t.drop 1) (i := j - 1) (by omega)
    rw [drop_kn t _ (by omega), show j - 1 + 1 = j by omega] at this
    simpa using this

theorem At.unique {t : Tab} {f : Knot → Int} {x : Int} {i j : Nat} (h : At t f x i) (k : At t f x j) : i = j := by
  rcases Nat.lt_trichotomy i j with h1 | h1 | h1
  · have := k.first i h.one h1; have := h.reach; omega
  · exact h1
  · have := h.first j k.one h1; have := k.reach; omega

theorem Ok.atV {t : Tab} (h : Ok t) {v : Int} (hv : v ≤ (kn t (t.length - 1)).v) : At t Knot.v v (byV t v) := at_find Knot.v v h.two hv
theorem Ok.atL {t : Tab} (h : Ok t) {l : Int} (hl : l ≤ (kn t (t.length - 1)).l) : At t Knot.l l (byL t l) := at_find Knot.l l h.two hl

end Go.Num

namespace Go.Num
set_option linter.unusedSimpArgs false
set_option linter.unusedVariables false

def cdiv (n d : Int) : Int := -((-n) / d)

theorem cdiv_le {n d x : Int} (hd : 0 < d) : cdiv n d ≤ x ↔ n ≤ x * d := by
  unfold cdiv
  have : -((-n) / d) ≤ x ↔ -x ≤ (-n) / d := by omega
  rw [this, Int.le_ediv_iff_mul_le hd, Int.neg_mul]
  omega
theorem le_div {n d x : Int} (hd : 0 < d) : x ≤ n / d ↔ x * d ≤ n := Int.le_ediv_iff_mul_le hd
theorem cdiv_eq {n d : Int} (hd : 0 < d) : n / d + min (n % d) 1 = cdiv n d := by
  have h1 := Int.mul_ediv_add_emod n d
  have h2 := Int.emod_nonneg n (Int.ne_of_gt hd)
  have h3 := Int.emod_lt_of_pos n hd
  apply Int.le_antisymm
  · by_cases h : n % d = 0
    · rw [h]
      have : n / d ≤ cdiv n d := by
        rcases Int.lt_or_le (cdiv n d) (n / d) with h4 | h4
        · have : cdiv n d ≤ n / d - 1 := by omega
          rw [cdiv_le hd, Int.sub_mul, Int.one_mul] at this
          rw [Int.mul_comm] at h1
          omega
        · exact h4
      omega
    · have : n / d + 1 ≤ cdiv n d := by
        rcases Int.lt_or_le (cdiv n d) (n / d + 1) with h4 | h4
        · have : cdiv n d ≤ n / d := by omega
          rw [cdiv_le hd] at this
          rw [Int.mul_comm] at h1
          omega
        · exact h4
      omega
  · rw [cdiv_le hd, Int.add_mul]
    rw [Int.mul_comm] at h1
    by_cases h : n % d = 0
    · rw [h, show min (0 : Int) 1 = 0 by decide, Int.zero_mul]; omega
    · rw [show min (n % d) 1 = 1 by omega, Int.one_mul]; omega

theorem cdiv_mul_self {n d : Int} (hd : 0 < d) : cdiv (n * d) d = n := by
  unfold cdiv
  rw [← Int.neg_mul, Int.mul_ediv_cancel _ (Int.ne_of_gt hd)]
  omega

/-- Of the piece below knot i: its height and volume. -/
def hgt (t : Tab) (i : Nat) : Int := (kn t i).l - (kn t (i - 1)).l
def vol (t : Tab) (i : Nat) : Int := (kn t i).v - (kn t (i - 1)).v

theorem Ok.pos {t : Tab} (h : Ok t) {i : Nat} (h1 : 1 ≤ i) (hi : i < t.length) : 0 < hgt t i ∧ 0 < vol t i := by
  have := h.up i h1 hi
  unfold hgt vol; omega

def lvN (t : Tab) (v : Int) : Int := (v - (kn t (byV t v - 1)).v) * hgt t (byV t v)
def lvLo (t : Tab) (v : Int) : Int := (kn t (byV t v - 1)).l + lvN t v / vol t (byV t v)
def lvHi (t : Tab) (v : Int) : Int := (kn t (byV t v - 1)).l + cdiv (lvN t v) (vol t (byV t v))
def vlN (t : Tab) (l : Int) : Int := (l - (kn t (byL t l - 1)).l) * vol t (byL t l)
def vlLo (t : Tab) (l : Int) : Int := (kn t (byL t l - 1)).v + vlN t l / hgt t (byL t l)
def vlHi (t : Tab) (l : Int) : Int := (kn t (byL t l - 1)).v + cdiv (vlN t l) (hgt t (byL t l))

def IsV (t : Tab) (v : Int) : Prop := (kn t 0).v ≤ v ∧ v ≤ (kn t (t.length - 1)).v
def IsL (t : Tab) (l : Int) : Prop := (kn t 0).l ≤ l ∧ l ≤ (kn t (t.length - 1)).l

section
variable {t : Tab} (h : Ok t)
include h

theorem Ok.pieceV {v : Int} (hv : IsV t v) : 1 ≤ byV t v ∧ byV t v < t.length ∧ (kn t (byV t v - 1)).v ≤ v ∧ v ≤ (kn t (byV t v)).v := by
  have a := h.atV hv.2
  refine ⟨a.one, a.lt, ?_, a.reach⟩
  by_cases e : byV t v = 1
  · rw [e]; exact hv.1
  · exact Int.le_of_lt (a.first _ (by have := a.one; omega) (by have := a.one; omega))
theorem Ok.pieceL {l : Int} (hl : IsL t l) : 1 ≤ byL t l ∧ byL t l < t.length ∧ (kn t (byL t l - 1)).l ≤ l ∧ l ≤ (kn t (byL t l)).l := by
  have a := h.atL hl.2
  refine ⟨a.one, a.lt, ?_, a.reach⟩
  by_cases e : byL t l = 1
  · rw [e]; exact hl.1
  · exact Int.le_of_lt (a.first _ (by have := a.one; omega) (by have := a.one; omega))

theorem Ok.lvN_bounds {v : Int} (hv : IsV t v) : 0 ≤ lvN t v ∧ lvN t v ≤ hgt t (byV t v) * vol t (byV t v) := by
  obtain ⟨h1, h2, h3, h4⟩ := h.pieceV hv
  obtain ⟨p1, p2⟩ := h.pos h1 h2
  refine ⟨Int.mul_nonneg (by omega) (by omega), ?_⟩
  unfold lvN
  rw [Int.mul_comm (hgt t _)]
  exact Int.mul_le_mul_of_nonneg_right (by unfold vol; omega) (by omega)
theorem Ok.vlN_bounds {l : Int} (hl : IsL t l) : 0 ≤ vlN t l ∧ vlN t l ≤ hgt t (byL t l) * vol t (byL t l) := by
  obtain ⟨h1, h2, h3, h4⟩ := h.pieceL hl
  obtain ⟨p1, p2⟩ := h.pos h1 h2
  refine ⟨Int.mul_nonneg (by omega) (by omega), ?_⟩
  unfold vlN
  exact Int.mul_le_mul_of_nonneg_right (by unfold hgt; omega) (by omega)

/-- Levels lie between the knots of their piece. -/
theorem Ok.lv_between {v : Int} (hv : IsV t v) : (kn t (byV t v - 1)).l ≤ lvLo t v ∧ lvLo t v ≤ lvHi t v ∧ lvHi t v ≤ (kn t (byV t v)).l := by
  obtain ⟨h1, h2, h3, h4⟩ := h.pieceV hv
  obtain ⟨p1, p2⟩ := h.pos h1 h2
  obtain ⟨b1, b2⟩ := h.lvN_bounds hv
  have e1 : 0 ≤ lvN t v / vol t (byV t v) := Int.ediv_nonneg b1 (by omega)
  have e2 : cdiv (lvN t v) (vol t (byV t v)) ≤ hgt t (byV t v) := (cdiv_le p2).2 b2
  have e3 := cdiv_eq (n := lvN t v) p2
  have e4 := Int.emod_nonneg (lvN t v) (Int.ne_of_gt p2)
  unfold lvLo lvHi
  unfold hgt at e2
  omega
theorem Ok.vl_between {l : Int} (hl : IsL t l) : (kn t (byL t l - 1)).v ≤ vlLo t l ∧ vlLo t l ≤ vlHi t l ∧ vlHi t l ≤ (kn t (byL t l)).v := by
  obtain ⟨h1, h2, h3, h4⟩ := h.pieceL hl
  obtain ⟨p1, p2⟩ := h.pos h1 h2
  obtain ⟨b1, b2⟩ := h.vlN_bounds hl
  have e1 : 0 ≤ vlN t l / hgt t (byL t l) := Int.ediv_nonneg b1 (by omega)
  have e2 : cdiv (vlN t l) (hgt t (byL t l)) ≤ vol t (byL t l) := (cdiv_le p1).2 (by rw [Int.mul_comm]; exact b2)
  have e3 := cdiv_eq (n := vlN t l) p1
  have e4 := Int.emod_nonneg (vlN t l) (Int.ne_of_gt p1)
  unfold vlLo vlHi
  unfold vol at e2
  omega

theorem Ok.lv_level {v : Int} (hv : IsV t v) : IsL t (lvLo t v) ∧ IsL t (lvHi t v) := by
  obtain ⟨h1, h2, h3, h4⟩ := h.pieceV hv
  obtain ⟨a, b, c⟩ := h.lv_between hv
  have k1 := h.mono (i := 0) (j := byV t v - 1) (by omega) (by omega)
  have k2 := h.mono (i := byV t v) (j := t.length - 1) (by omega) (by omega)
  unfold IsL; omega
theorem Ok.vl_volume {l : Int} (hl : IsL t l) : IsV t (vlLo t l) ∧ IsV t (vlHi t l) := by
  obtain ⟨h1, h2, h3, h4⟩ := h.pieceL hl
  obtain ⟨a, b, c⟩ := h.vl_between hl
  have k1 := h.mono (i := 0) (j := byL t l - 1) (by omega) (by omega)
  have k2 := h.mono (i := byL t l) (j := t.length - 1) (by omega) (by omega)
  unfold IsV; omega

/-- A level is at most that of a volume exactly if its volume is at most that one. -/
theorem Ok.galois_lo {v l : Int} (hv : IsV t v) (hl : IsL t l) : l ≤ lvLo t v ↔ vlHi t l ≤ v := by
  obtain ⟨i1, i2, i3, i4⟩ := h.pieceV hv
  obtain ⟨j1, j2, j3, j4⟩ := h.pieceL hl
  obtain ⟨pi1, pi2⟩ := h.pos i1 i2
  obtain ⟨pj1, pj2⟩ := h.pos j1 j2
  obtain ⟨a1, a2, a3⟩ := h.lv_between hv
  obtain ⟨b1, b2, b3⟩ := h.vl_between hl
  have aV := h.atV hv.2
  have aL := h.atL hl.2
  rcases Nat.lt_trichotomy (byL t l) (byV t v) with e | e | e
  · have m := h.mono (i := byL t l) (j := byV t v - 1) (by omega) (by omega)
    omega
  · have r1 : l ≤ lvLo t v ↔ (l - (kn t (byV t v - 1)).l) * vol t (byV t v) ≤ lvN t v := by
      rw [← le_div pi2]; unfold lvLo; omega
    have r2 : vlHi t l ≤ v ↔ vlN t l ≤ (v - (kn t (byL t l - 1)).v) * hgt t (byL t l) := by
      rw [← cdiv_le pj1]; unfold vlHi; omega
    rw [r1, r2]
    unfold lvN vlN
    rw [e]
  · have m := h.mono (i := byV t v) (j := byL t l - 1) (by omega) (by omega)
    have f := aL.first (byL t l - 1) (by omega) (by omega)
    have g : 0 < cdiv (vlN t l) (hgt t (byL t l)) := by
      rcases Int.lt_or_le 0 (cdiv (vlN t l) (hgt t (byL t l))) with g | g
      · exact g
      · rw [cdiv_le pj1, Int.zero_mul] at g
        have : 0 < vlN t l := Int.mul_pos (by omega) pj2
        omega
    unfold vlHi
    omega

theorem Ok.galois_hi {v l : Int} (hv : IsV t v) (hl : IsL t l) : lvHi t v ≤ l ↔ v ≤ vlLo t l := by
  obtain ⟨i1, i2, i3, i4⟩ := h.pieceV hv
  obtain ⟨j1, j2, j3, j4⟩ := h.pieceL hl
  obtain ⟨pi1, pi2⟩ := h.pos i1 i2
  obtain ⟨pj1, pj2⟩ := h.pos j1 j2
  obtain ⟨a1, a2, a3⟩ := h.lv_between hv
  obtain ⟨b1, b2, b3⟩ := h.vl_between hl
  have aV := h.atV hv.2
  have aL := h.atL hl.2
  rcases Nat.lt_trichotomy (byV t v) (byL t l) with e | e | e
  · have m := h.mono (i := byV t v) (j := byL t l - 1) (by omega) (by omega)
    omega
  · have r1 : lvHi t v ≤ l ↔ lvN t v ≤ (l - (kn t (byV t v - 1)).l) * vol t (byV t v) := by
      rw [← cdiv_le pi2]; unfold lvHi; omega
    have r2 : v ≤ vlLo t l ↔ (v - (kn t (byL t l - 1)).v) * hgt t (byL t l) ≤ vlN t l := by
      rw [← le_div pj1]; unfold vlLo; omega
    rw [r1, r2]
    unfold lvN vlN
    rw [e]
  · have m := h.mono (i := byL t l) (j := byV t v - 1) (by omega) (by omega)
    have f := aV.first (byV t v - 1) (by omega) (by omega)
    have g : 0 < cdiv (lvN t v) (vol t (byV t v)) := by
      rcases Int.lt_or_le 0 (cdiv (lvN t v) (vol t (byV t v))) with g | g
      · exact g
      · rw [cdiv_le pi2, Int.zero_mul] at g
        have : 0 < lvN t v := Int.mul_pos (by omega) pi1
        omega
    unfold lvHi
    omega

theorem Ok.lv_mono {v w : Int} (hv : IsV t v) (hw : IsV t w) (hvw : v ≤ w) : lvLo t v ≤ lvLo t w ∧ lvHi t v ≤ lvHi t w := by
  obtain ⟨a1, a2⟩ := h.lv_level hv
  obtain ⟨b1, b2⟩ := h.lv_level hw
  have g1 := (h.galois_lo hv a1).1 (Int.le_refl _)
  have g2 := (h.galois_lo hw a1).2 (by omega)
  have g3 := (h.galois_hi hw b2).1 (Int.le_refl _)
  have g4 := (h.galois_hi hv b2).2 (by omega)
  exact ⟨g2, g4⟩

theorem Ok.lv_encloses {v : Int} (hv : IsV t v) : vlLo t (lvLo t v) ≤ v ∧ v ≤ vlHi t (lvHi t v) := by
  obtain ⟨a1, a2⟩ := h.lv_level hv
  have g1 := (h.galois_lo hv a1).1 (Int.le_refl _)
  have g3 := (h.galois_hi hv a2).1 (Int.le_refl _)
  have b := (h.vl_between a1).2.1
  have c := (h.vl_between a2).2.1
  omega

theorem Ok.byV_knot {i : Nat} (hi : i < t.length) : byV t (kn t i).v = max i 1 := by
  have hv : (kn t i).v ≤ (kn t (t.length - 1)).v := (h.mono (i := i) (j := t.length - 1) (by omega) (by omega)).2
  have h2 := h.two
  refine (h.atV hv).unique ⟨by omega, by omega, ?_, fun j h1 hj => (h.lt (by omega) hi).2⟩
  exact (h.mono (by omega) (by omega)).2
theorem Ok.byL_knot {i : Nat} (hi : i < t.length) : byL t (kn t i).l = max i 1 := by
  have hv : (kn t i).l ≤ (kn t (t.length - 1)).l := (h.mono (i := i) (j := t.length - 1) (by omega) (by omega)).1
  have h2 := h.two
  refine (h.atL hv).unique ⟨by omega, by omega, ?_, fun j h1 hj => (h.lt (by omega) hi).1⟩
  exact (h.mono (by omega) (by omega)).1

theorem Ok.lv_knot {i : Nat} (hi : i < t.length) : lvLo t (kn t i).v = (kn t i).l ∧ lvHi t (kn t i).v = (kn t i).l := by
  have e := h.byV_knot hi
  have h2 := h.two
  unfold lvLo lvHi lvN
  rw [e]
  by_cases h0 : i = 0
  · subst h0
    have : ((kn t 0).v - (kn t (max 0 1 - 1)).v) * hgt t (max 0 1) = 0 * vol t (max 0 1) := by simp
    have p := (h.pos (i := max 0 1) (by omega) (by omega)).2
    rw [this, Int.mul_ediv_cancel _ (Int.ne_of_gt p), cdiv_mul_self p]
    simp
  · rw [show max i 1 = i by omega]
    have p := (h.pos (i := i) (by omega) (by omega)).2
    rw [show ((kn t i).v - (kn t (i - 1)).v) * hgt t i = hgt t i * vol t i by unfold vol; rw [Int.mul_comm], Int.mul_ediv_cancel _ (Int.ne_of_gt p), cdiv_mul_self p]
    unfold hgt; omega
theorem Ok.vl_knot {i : Nat} (hi : i < t.length) : vlLo t (kn t i).l = (kn t i).v ∧ vlHi t (kn t i).l = (kn t i).v := by
  have e := h.byL_knot hi
  have h2 := h.two
  unfold vlLo vlHi vlN
  rw [e]
  by_cases h0 : i = 0
  · subst h0
    have : ((kn t 0).l - (kn t (max 0 1 - 1)).l) * vol t (max 0 1) = 0 * hgt t (max 0 1) := by simp
    have p := (h.pos (i := max 0 1) (by omega) (by omega)).1
    rw [this, Int.mul_ediv_cancel _ (Int.ne_of_gt p), cdiv_mul_self p]
    simp
  · rw [show max i 1 = i by omega]
    have p := (h.pos (i := i) (by omega) (by omega)).1
    rw [show ((kn t i).l - (kn t (i - 1)).l) * vol t i = vol t i * hgt t i by unfold hgt; rw [Int.mul_comm], Int.mul_ediv_cancel _ (Int.ne_of_gt p), cdiv_mul_self p]
    unfold vol; omega

end
end Go.Num

namespace Go.PewTab
set_option linter.unusedSimpArgs false
set_option linter.unusedVariables false
open Go.Pew Go.Num

/-- The bounds of an int. -/
abbrev I64 (x : Int) : Prop := -9223372036854775808 ≤ x ∧ x ≤ 9223372036854775807

theorem w64_id {x : Int} (h1 : -9223372036854775808 ≤ x) (h2 : x ≤ 9223372036854775807) : w64 x = x := by
  unfold w64 IntKind.wrap
  simp only [IntKind.bits, IntKind.signed, Bool.true_and, decide_eq_true_eq, Nat.reduceSub, Int.reducePow, ge_iff_le]
  split <;> omega

/-- Not by 'rfl' for the simplifier: else the kernel would carry calls out to compare them. -/
theorem obind {α β : Type} (x : α) (f : α → Option β) : (some x).bind f = f x := id rfl
theorem nth_zero (x : PV) (l : List PV) : nth (x :: l) 0 = x := id rfl
theorem nth_one (x y : PV) (l : List PV) : nth (x :: y :: l) 1 = y := id rfl
theorem nth_two (x y z : PV) (l : List PV) : nth (x :: y :: z :: l) 2 = z := id rfl
theorem nth_three (x y z u : PV) (l : List PV) : nth (x :: y :: z :: u :: l) 3 = u := id rfl
theorem asI_int (k : IntKind) (n : Int) : asI (.int k n) = n := id rfl
theorem asB_bool (b : Bool) : asB (.bool b) = b := id rfl
theorem asL_sl (tag : Option (Nat × Nat)) (ls : List LK) (xs : List (List PV)) : asL (.sl tag ls xs) = xs := id rfl
theorem asA_agg (cs : List PV) : asA (.agg cs) = cs := id rfl
theorem asT_tup (vs : List PV) : asT (.tup vs) = vs := id rfl
theorem cond_dec {α : Type} (p : Prop) [Decidable p] (a b : α) : cond (decide p) a b = if p then a else b := by
  by_cases h : p <;> simp [h]
theorem cond_ndec {α : Type} (p : Prop) [Decidable p] (a b : α) : cond (!decide p) a b = if p then b else a := by
  by_cases h : p <;> simp [h]
theorem ite_max (a b : Int) : (if a > b then a else b) = max a b := by
  by_cases h : a > b <;> simp [h] <;> omega
theorem ite_min (a b : Int) : (if a < b then a else b) = min a b := by
  by_cases h : a < b <;> simp [h] <;> omega
theorem cond_t {α : Type} (a b : α) : cond true a b = a := id rfl
theorem cond_f {α : Type} (a b : α) : cond false a b = b := id rfl
theorem cond_n {α : Type} (c : Bool) (a b : α) : cond (!c) a b = cond c b a := by cases c <;> rfl
theorem cond_if {α : Type} (c : Bool) (a b : α) : cond c a b = if c = true then a else b := by cases c <;> rfl

theorem nths_map {α : Type} (c : α → List PV) (l : List α) (i : Nat) (h : i < l.length) : nths (l.map c) i = c l[i] := by
  simp [nths, h]

theorem leafI {α : Type} (c : α → List PV) (g : α → Int) (j : Nat) (d : α) (hc : ∀ a, asI (nth (c a) j) = g a) (hd : g d = 0) (l : List α) (i : Nat) : asI (nth (nths (l.map c) i) j) = g (l.getD i d) := by
  by_cases h : i < l.length
  · rw [nths_map c l i h, hc, List.getD_eq_getElem?_getD, List.getElem?_eq_getElem h]
    rfl
  · have : nths (l.map c) i = [] := by
      unfold nths
      rw [List.getD_eq_getElem?_getD, List.getElem?_eq_none (by simpa using h)]
      rfl
    rw [this, List.getD_eq_getElem?_getD, List.getElem?_eq_none (by omega)]
    simp [nth, asI, hd]

/-! Rows of plain data. -/
def cI (n : Int) : List PV := [.int .i64 n]
def cD (d : Nat) : List PV := [.int .i64 (d : Int)]
def cK (k : Knot) : List PV := [.int .i64 k.l, .int .i64 k.v]
theorem leaf_cI (l : List Int) (i : Nat) : asI (nth (nths (l.map cI) i) 0) = l.getD i 0 := leafI cI id 0 0 (fun _ => rfl) rfl l i
theorem leaf_cD (l : List Nat) (i : Nat) : asI (nth (nths (l.map cD) i) 0) = (l.getD i 0 : Nat) := leafI cD (fun n => (n : Int)) 0 0 (fun _ => rfl) rfl l i
theorem leaf_cKl (l : Tab) (i : Nat) : asI (nth (nths (l.map cK) i) 0) = (kn l i).l := leafI cK Knot.l 0 ⟨0, 0⟩ (fun _ => rfl) rfl l i
theorem leaf_cKv (l : Tab) (i : Nat) : asI (nth (nths (l.map cK) i) 1) = (kn l i).v := leafI cK Knot.v 1 ⟨0, 0⟩ (fun _ => rfl) rfl l i

/-- A table's value. -/
abbrev vTab (t : Tab) : PV := .agg [.sl none [.int .i64, .int .i64] (t.map cK)]
abbrev vRng (r : Int × Int) : PV := .agg [.int .i64 r.1, .int .i64 r.2]

end Go.PewTab

namespace Go.PewTab
set_option linter.unusedSimpArgs false
set_option linter.unusedVariables false
open Go.Pew Go
set_option maxRecDepth 100000
set_option linter.unusedVariables false

theorem E_law01_FewPair (N k : Nat) (x0 : List (List PV)) (x1 : List (List PV)) (x2 : Int) : ev (envF N) (k + 1) F_law01_FewPair [(.agg [(.sl none [.int .i64, .int .i64] x0), (.sl none [.int .i64, .int .i64] x1), (.int .i64 x2)])] =
 ((ev (envF N) k F_law01_Few [(.agg [(.sl none [.int .i64, .int .i64] x0)])]).bind fun r1 =>
 cond (asB r1)
  ((ev (envF N) k F_law01_Few [(.agg [(.sl none [.int .i64, .int .i64] x1)])]).bind fun r3 =>
   some (.bool (asB r3)))
  (some (.bool (false)))) := by kernel_rfl

theorem E_ref01_BothErr (N k : Nat) (x0 : List (List PV)) (x1 : List (List PV)) (x2 : Int) (x3 : Int) (x4 : Int) : ev (envF N) (k + 1) F_ref01_BothErr [(.agg [(.sl none [.int .i64, .int .i64] x0), (.sl none [.int .i64, .int .i64] x1), (.int .i64 x2)]), (.agg [(.int .i64 x3), (.int .i64 x4)])] =
 ((ev (envF N) k F_ref01_PairErr [(.agg [(.sl none [.int .i64, .int .i64] x0), (.sl none [.int .i64, .int .i64] x1), (.int .i64 x2)])]).bind fun r1 =>
 cond (!(decide ((asI r1) = (0 : Int))))
  (some (.int .i64 (asI r1)))
  ((ev (envF N) k F_ref01_StateErr [(.agg [(.sl none [.int .i64, .int .i64] x0), (.sl none [.int .i64, .int .i64] x1), (.int .i64 x2)]), (.agg [(.int .i64 x3), (.int .i64 x4)])]).bind fun r3 =>
   some (.int .i64 (asI r3)))) := by kernel_rfl

theorem E_base_Within (N k : Nat) (x0 : Int) (x1 : Int) (x2 : Int) : ev (envF N) (k + 1) F_base_Within [(.int .i64 x0), (.int .i64 x1), (.int .i64 x2)] =
 (cond (decide (x1 ≤ x0))
 (some (.bool (decide (x0 ≤ x2))))
 (some (.bool (false)))) := by kernel_rfl

theorem E_ref01_CopyPair (N k : Nat) (x0 : List (List PV)) (x1 : List (List PV)) (x2 : Int) : ev (envF N) (k + 1) F_ref01_CopyPair [(.agg [(.sl none [.int .i64, .int .i64] x0), (.sl none [.int .i64, .int .i64] x1), (.int .i64 x2)])] =
 ((ev (envF N) k F_ref01_Copy [(.agg [(.sl none [.int .i64, .int .i64] x0)])]).bind fun r1 =>
 (ev (envF N) k F_ref01_Copy [(.agg [(.sl none [.int .i64, .int .i64] x1)])]).bind fun r2 =>
  some (.agg [(.sl none [.int .i64, .int .i64] (asL (nth (asA r1) 0))), (.sl none [.int .i64, .int .i64] (asL (nth (asA r2) 0))), (.int .i64 x2)])) := by kernel_rfl

theorem E_lake_Usable (N k : Nat) (x0 : List (List PV)) (x1 : List (List PV)) (x2 : Int) (x3 : Int) (x4 : Int) : ev (envF N) (k + 1) F_lake_Usable [(.agg [(.sl none [.int .i64, .int .i64] x0), (.sl none [.int .i64, .int .i64] x1), (.int .i64 x2)]), (.agg [(.int .i64 x3), (.int .i64 x4)])] =
 ((ev (envF N) k F_lake_openState [(.agg [(.sl none [.int .i64, .int .i64] x0), (.sl none [.int .i64, .int .i64] x1), (.int .i64 x2)]), (.agg [(.int .i64 x3), (.int .i64 x4)])]).bind fun r1 =>
 cond (!(decide ((asI (nth (asT r1) 1)) = (0 : Int))))
  (some (.tup [(.agg [(.int .i64 (0 : Int)), (.int .i64 (0 : Int))]), (.int .i64 (asI (nth (asT r1) 1)))]))
  ((ev (envF N) k F_lake_table_bottom [(.agg [(.sl none [.int .i64, .int .i64] (asL (nth (asA (nth (asT r1) 0)) 0)))])]).bind fun r3 =>
   (ev (envF N) k F_lake_table_top [(.agg [(.sl none [.int .i64, .int .i64] (asL (nth (asA (nth (asT r1) 0)) 1)))])]).bind fun r4 =>
    (ev (envF N) k F_lake_table_bottom [(.agg [(.sl none [.int .i64, .int .i64] (asL (nth (asA (nth (asT r1) 0)) 1)))])]).bind fun r5 =>
     (ev (envF N) k F_lake_table_top [(.agg [(.sl none [.int .i64, .int .i64] (asL (nth (asA (nth (asT r1) 0)) 0)))])]).bind fun r6 =>
      some (.tup [(.agg [(.int .i64 ((imin (w64 (x3 - (asI (nth (asA r3) 1)))) (w64 ((asI (nth (asA r4) 1)) - x4))))), (.int .i64 ((imin (w64 (x4 - (asI (nth (asA r5) 1)))) (w64 ((asI (nth (asA r6) 1)) - x3)))))]), (.int .i64 (0 : Int))]))) := by kernel_rfl

theorem E_lake_Step (N k : Nat) (x0 : List (List PV)) (x1 : List (List PV)) (x2 : Int) (x3 : Int) (x4 : Int) (x5 : Int) (x6 : Int) (x7 : Int) : ev (envF N) (k + 1) F_lake_Step [(.agg [(.sl none [.int .i64, .int .i64] x0), (.sl none [.int .i64, .int .i64] x1), (.int .i64 x2)]), (.agg [(.int .i64 x3), (.int .i64 x4)]), (.agg [(.int .i64 x5), (.int .i64 x6), (.int .i64 x7)])] =
 ((ev (envF N) k F_lake_openState [(.agg [(.sl none [.int .i64, .int .i64] x0), (.sl none [.int .i64, .int .i64] x1), (.int .i64 x2)]), (.agg [(.int .i64 x3), (.int .i64 x4)])]).bind fun r1 =>
 (ev (envF N) k F_lake_flowsErr [(.agg [(.int .i64 x5), (.int .i64 x6), (.int .i64 x7)])]).bind fun r2 =>
  (ev (envF N) k F_lake_first [(.sl none [.int .i64] [[(.int .i64 (asI (nth (asT r1) 1)))], [(.int .i64 (asI r2))]])]).bind fun r3 =>
   cond (!(decide ((asI r3) = (0 : Int))))
    (some (.tup [(.agg [(.int .i64 (0 : Int)), (.int .i64 (0 : Int))]), (.agg [(.int .i64 (0 : Int)), (.int .i64 (0 : Int))]), (.int .i64 (asI r3))]))
    ((ev (envF N) k F_lake_pair_step [(.agg [(.sl none [.int .i64, .int .i64] (asL (nth (asA (nth (asT r1) 0)) 0))), (.sl none [.int .i64, .int .i64] (asL (nth (asA (nth (asT r1) 0)) 1))), (.int .i64 (asI (nth (asA (nth (asT r1) 0)) 2)))]), (.agg [(.int .i64 x3), (.int .i64 x4)]), (.agg [(.int .i64 x5), (.int .i64 x6), (.int .i64 x7)])]).bind fun r5 =>
     (ev (envF N) k F_lake_unless [(.bool (asB (nth (asT r5) 2))), (.int .i64 (22 : Int))]).bind fun r6 =>
      some (.tup [(.agg [(.int .i64 (asI (nth (asA (nth (asT r5) 0)) 0))), (.int .i64 (asI (nth (asA (nth (asT r5) 0)) 1)))]), (.agg [(.int .i64 (asI (nth (asA (nth (asT r5) 1)) 0))), (.int .i64 (asI (nth (asA (nth (asT r5) 1)) 1)))]), (.int .i64 (asI r6))]))) := by kernel_rfl

theorem E_lake_CheckPair (N k : Nat) (x0 : List (List PV)) (x1 : List (List PV)) (x2 : Int) : ev (envF N) (k + 1) F_lake_CheckPair [(.agg [(.sl none [.int .i64, .int .i64] x0), (.sl none [.int .i64, .int .i64] x1), (.int .i64 x2)])] =
 ((ev (envF N) k F_lake_tableErr [(.agg [(.sl none [.int .i64, .int .i64] x0)])]).bind fun r1 =>
 (ev (envF N) k F_lake_tableErr [(.agg [(.sl none [.int .i64, .int .i64] x1)])]).bind fun r2 =>
  (ev (envF N) k F_lake_within [(.int .i64 x2), (.int .i64 (0 : Int)), (.int .i64 (1000 : Int))]).bind fun r3 =>
   (ev (envF N) k F_lake_unless [(.bool (asB r3)), (.int .i64 (2 : Int))]).bind fun r4 =>
    (ev (envF N) k F_lake_first [(.sl none [.int .i64] [[(.int .i64 (asI r1))], [(.int .i64 (asI r2))], [(.int .i64 (asI r4))]])]).bind fun r5 =>
     some (.int .i64 (asI r5))) := by kernel_rfl

theorem E_ref01_PairErr (N k : Nat) (x0 : List (List PV)) (x1 : List (List PV)) (x2 : Int) : ev (envF N) (k + 1) F_ref01_PairErr [(.agg [(.sl none [.int .i64, .int .i64] x0), (.sl none [.int .i64, .int .i64] x1), (.int .i64 x2)])] =
 ((ev (envF N) k F_ref01_TableErr [(.agg [(.sl none [.int .i64, .int .i64] x0)])]).bind fun r1 =>
 cond (!(decide ((asI r1) = (0 : Int))))
  (some (.int .i64 (asI r1)))
  ((ev (envF N) k F_ref01_TableErr [(.agg [(.sl none [.int .i64, .int .i64] x1)])]).bind fun r3 =>
   cond (!(decide ((asI r3) = (0 : Int))))
    (some (.int .i64 (asI r3)))
    ((ev (envF N) k F_base_Within [(.int .i64 x2), (.int .i64 (0 : Int)), (.int .i64 (1000 : Int))]).bind fun r5 =>
     cond (!(asB r5))
      (some (.int .i64 (2 : Int)))
      (some (.int .i64 (0 : Int)))))) := by kernel_rfl

theorem E_lake_CheckState (N k : Nat) (x0 : List (List PV)) (x1 : List (List PV)) (x2 : Int) (x3 : Int) (x4 : Int) : ev (envF N) (k + 1) F_lake_CheckState [(.agg [(.sl none [.int .i64, .int .i64] x0), (.sl none [.int .i64, .int .i64] x1), (.int .i64 x2)]), (.agg [(.int .i64 x3), (.int .i64 x4)])] =
 ((ev (envF N) k F_lake_openState [(.agg [(.sl none [.int .i64, .int .i64] x0), (.sl none [.int .i64, .int .i64] x1), (.int .i64 x2)]), (.agg [(.int .i64 x3), (.int .i64 x4)])]).bind fun r1 =>
 some (.int .i64 (asI (nth (asT r1) 1)))) := by kernel_rfl

theorem E_ref01_Usable (N k : Nat) (x0 : List (List PV)) (x1 : List (List PV)) (x2 : Int) (x3 : Int) (x4 : Int) : ev (envF N) (k + 1) F_ref01_Usable [(.agg [(.sl none [.int .i64, .int .i64] x0), (.sl none [.int .i64, .int .i64] x1), (.int .i64 x2)]), (.agg [(.int .i64 x3), (.int .i64 x4)])] =
 ((ev (envF N) k F_ref01_Top [(.agg [(.sl none [.int .i64, .int .i64] x0)])]).bind fun r1 =>
 (ev (envF N) k F_ref01_Top [(.agg [(.sl none [.int .i64, .int .i64] x1)])]).bind fun r2 =>
  (ev (envF N) k F_ref01_Bottom [(.agg [(.sl none [.int .i64, .int .i64] x0)])]).bind fun r3 =>
   (ev (envF N) k F_ref01_Bottom [(.agg [(.sl none [.int .i64, .int .i64] x1)])]).bind fun r4 =>
    some (.agg [(.int .i64 ((imin (w64 (x3 - (asI (nth (asA r3) 1)))) (w64 ((asI (nth (asA r2) 1)) - x4))))), (.int .i64 ((imin (w64 (x4 - (asI (nth (asA r4) 1)))) (w64 ((asI (nth (asA r1) 1)) - x3)))))])) := by kernel_rfl

theorem E_ref01_FlowsErr (N k : Nat) (x0 : Int) (x1 : Int) (x2 : Int) : ev (envF N) (k + 1) F_ref01_FlowsErr [(.agg [(.int .i64 x0), (.int .i64 x1), (.int .i64 x2)])] =
 ((ev (envF N) k F_base_Within [(.int .i64 x0), (.int .i64 (0 : Int)), (.int .i64 (10000000 : Int))]).bind fun r1 =>
 cond (!(asB r1))
  (some (.int .i64 (2 : Int)))
  ((ev (envF N) k F_base_Within [(.int .i64 x1), (.int .i64 (0 : Int)), (.int .i64 (10000000 : Int))]).bind fun r3 =>
   cond (!(asB r3))
    (some (.int .i64 (2 : Int)))
    ((ev (envF N) k F_base_Within [(.int .i64 x2), (.int .i64 (-10000000 : Int)), (.int .i64 (10000000 : Int))]).bind fun r5 =>
     cond (!(asB r5))
      (some (.int .i64 (2 : Int)))
      (some (.int .i64 (0 : Int)))))) := by kernel_rfl

theorem E_ref01_Step (N k : Nat) (x0 : List (List PV)) (x1 : List (List PV)) (x2 : Int) (x3 : Int) (x4 : Int) (x5 : Int) (x6 : Int) (x7 : Int) : ev (envF N) (k + 1) F_ref01_Step [(.agg [(.sl none [.int .i64, .int .i64] x0), (.sl none [.int .i64, .int .i64] x1), (.int .i64 x2)]), (.agg [(.int .i64 x3), (.int .i64 x4)]), (.agg [(.int .i64 x5), (.int .i64 x6), (.int .i64 x7)])] =
 ((ev (envF N) k F_ref01_evaporated [(.agg [(.sl none [.int .i64, .int .i64] x0)]), (.int .i64 x2), (.int .i64 x3)]).bind fun r1 =>
 (ev (envF N) k F_ref01_evaporated [(.agg [(.sl none [.int .i64, .int .i64] x1)]), (.int .i64 x2), (.int .i64 x4)]).bind fun r2 =>
  (ev (envF N) k F_ref01_Bottom [(.agg [(.sl none [.int .i64, .int .i64] x0)])]).bind fun r3 =>
   cond (decide ((w64 ((w64 ((w64 (x3 - (asI r1))) + x5)) + x7)) < (asI (nth (asA r3) 1))))
    (some (.tup [(.agg [(.int .i64 (0 : Int)), (.int .i64 (0 : Int))]), (.agg [(.int .i64 (0 : Int)), (.int .i64 (0 : Int))]), (.bool (false))]))
    ((ev (envF N) k F_ref01_Bottom [(.agg [(.sl none [.int .i64, .int .i64] x1)])]).bind fun r5 =>
     cond (decide ((w64 ((w64 ((w64 (x4 - (asI r2))) + x6)) - x7)) < (asI (nth (asA r5) 1))))
      (some (.tup [(.agg [(.int .i64 (0 : Int)), (.int .i64 (0 : Int))]), (.agg [(.int .i64 (0 : Int)), (.int .i64 (0 : Int))]), (.bool (false))]))
      ((ev (envF N) k F_ref01_Top [(.agg [(.sl none [.int .i64, .int .i64] x0)])]).bind fun r7 =>
       (ev (envF N) k F_ref01_Top [(.agg [(.sl none [.int .i64, .int .i64] x1)])]).bind fun r8 =>
        some (.tup [(.agg [(.int .i64 (w64 ((w64 ((w64 ((w64 (x3 - (asI r1))) + x5)) + x7)) - ((imax (0 : Int) (w64 ((w64 ((w64 ((w64 (x3 - (asI r1))) + x5)) + x7)) - (asI (nth (asA r7) 1))))))))), (.int .i64 (w64 ((w64 ((w64 ((w64 (x4 - (asI r2))) + x6)) - x7)) - ((imax (0 : Int) (w64 ((w64 ((w64 ((w64 (x4 - (asI r2))) + x6)) - x7)) - (asI (nth (asA r8) 1)))))))))]), (.agg [(.int .i64 (w64 ((asI r1) + (asI r2)))), (.int .i64 (w64 (((imax (0 : Int) (w64 ((w64 ((w64 ((w64 (x3 - (asI r1))) + x5)) + x7)) - (asI (nth (asA r7) 1)))))) + ((imax (0 : Int) (w64 ((w64 ((w64 ((w64 (x4 - (asI r2))) + x6)) - x7)) - (asI (nth (asA r8) 1)))))))))]), (.bool (true))])))) := by kernel_rfl

theorem E_law01_Few (N k : Nat) (x0 : List (List PV)) : ev (envF N) (k + 1) F_law01_Few [(.agg [(.sl none [.int .i64, .int .i64] x0)])] =
 (some (.bool (decide (((List.length x0) : Int) ≤ (12 : Int))))) := by kernel_rfl

theorem E_law01_short (N k : Nat) (x0 : Int) : ev (envF N) (k + 1) F_law01_short [(.int .i64 x0)] =
 (cond (decide (x0 ≤ (24 : Int)))
 (some (.bool (true)))
 (cond (decide ((200 : Int) < x0))
  (some (.bool (decide (x0 ≤ (202 : Int)))))
  (some (.bool (false))))) := by kernel_rfl

theorem E_lake_AgreedOf (N k : Nat) (x0 : List (List PV)) (x1 : List (List PV)) (x2 : List (List PV)) : ev (envF N) (k + 1) F_lake_AgreedOf [(.agg [(.sl none [.int .i64, .int .i64] x0)]), (.sl none [.int .i64] x1), (.sl none [.int .i64, .int .i64, .int .i64] x2)] =
 ((ev (envF N) k F_lake_permitted [(.agg [(.sl none [.int .i64, .int .i64] x0)]), (.sl none [.int .i64] x1), (.sl none [.int .i64, .int .i64, .int .i64] x2)]).bind fun r1 =>
 cond (!(decide ((asI (nth (asT r1) 1)) = (0 : Int))))
  (some (.tup [(.agg [(.int .i64 (0 : Int)), (.int .i64 (0 : Int))]), (.int .i64 (asI (nth (asT r1) 1)))]))
  ((ev (envF N) k F_lake_common [(.sl none [.int .i64, .int .i64] (asL (nth (asT r1) 0)))]).bind fun r3 =>
   cond (!(asB (nth (asT r3) 1)))
    (some (.tup [(.agg [(.int .i64 (0 : Int)), (.int .i64 (0 : Int))]), (.int .i64 (13 : Int))]))
    (some (.tup [(.agg [(.int .i64 (asI (nth (asA (nth (asT r3) 0)) 0))), (.int .i64 (asI (nth (asA (nth (asT r3) 0)) 1)))]), (.int .i64 (0 : Int))])))) := by kernel_rfl

theorem E_ref01_Copy (N k : Nat) (x0 : List (List PV)) : ev (envF N) (k + 1) F_ref01_Copy [(.agg [(.sl none [.int .i64, .int .i64] x0)])] =
 (cond (room [] x0 16)
 (some (.agg [(.sl none [.int .i64, .int .i64] x0)]))
 (none)) := by kernel_rfl

theorem E_base_CopyInts (N k : Nat) (x0 : List (List PV)) : ev (envF N) (k + 1) F_base_CopyInts [(.sl none [.int .i64] x0)] =
 (cond (room [] x0 8)
 (some (.sl none [.int .i64] x0))
 (none)) := by kernel_rfl

theorem E_ref01_CopyReadings (N k : Nat) (x0 : List (List PV)) : ev (envF N) (k + 1) F_ref01_CopyReadings [(.sl none [.int .i64, .int .i64, .int .i64] x0)] =
 (cond (room [] x0 24)
 (some (.sl none [.int .i64, .int .i64, .int .i64] x0))
 (none)) := by kernel_rfl

/-- Loop 5 of lake_Contradicting. -/
noncomputable def L_lake_Contradicting_5 (N k n5  : Nat) (x0 : List (List PV)) (x1 : List (List PV)) (x2 : Int) (x3 : Int) (x4 : List (List PV)) : Option PV := loopAt (envF N) (ev (envF N) k) (evI (envF N) k) F_lake_Contradicting Go.Proofs.Try.f33 [.r, .r, .r, .l, .r, .b] n5 { slots := (und 8 ((.sl none [.int .i64, .int .i64] x0) :: und 21 ((.sl none [.int .i64, .int .i64] x1) :: (.int .i64 x2) :: (.int .i64 x3) :: und 49 []))), boxes := (nos 3 ((some (.cells [(.sl none [.int .i64, .int .i64] x4)] false)) :: nos 78 [])), vers := List.replicate 82 0 }
/-- Loop 12 of lake_Contradicting. -/
noncomputable def L_lake_Contradicting_12 (N k n12  : Nat) (x0 : List (List PV)) (x1 : List (List PV)) (x2 : Int) (x3 : Int) (x4 : List (List PV)) : Option PV := loopAt (envF N) (ev (envF N) k) (evI (envF N) k) F_lake_Contradicting Go.Proofs.Try.f33 [.r, .r, .r, .r, .l, .r, .b] n12 { slots := (und 8 ((.sl none [.int .i64, .int .i64] x0) :: und 39 ((.sl none [.int .i64, .int .i64] x1) :: (.int .i64 x2) :: (.int .i64 x3) :: und 31 []))), boxes := (nos 3 ((some (.cells [(.sl none [.int .i64, .int .i64] x4)] false)) :: nos 78 [])), vers := List.replicate 82 0 }
/-- Loop 15 of lake_Contradicting. -/
noncomputable def L_lake_Contradicting_15 (N k n15 n12 : Nat) (x0 : List (List PV)) (x1 : Int) (x2 : List (List PV)) (x3 : Int) (x4 : Int) (x5 : List (List PV)) (x6 : Int) (x7 : Int) (x8 : List (List PV)) (x9 : Int) (x10 : Int) : Option PV := loopAt (envF N) (ev (envF N) k) (evI (envF N) k) F_lake_Contradicting Go.Proofs.Try.f33 [.r, .r, .r, .r, .l, .r, .b, .p n12, .r, .r, .l, .b, .r, .r, .b] n15 { slots := (und 8 ((.sl none [.int .i64, .int .i64] x0) :: und 5 ((.int .i64 x1) :: (.ptr 15 0) :: und 32 ((.sl none [.int .i64, .int .i64] x2) :: (.int .i64 x3) :: (.int .i64 x4) :: und 7 ((.sl none [.int .i64, .int .i64] x5) :: (.int .i64 x6) :: (.int .i64 x7) :: und 21 []))))), boxes := (nos 3 ((some (.cells [(.sl none [.int .i64, .int .i64] x8)] false)) :: nos 11 ((some (.cells [(.int .i64 x9), (.int .i64 x10)] false)) :: nos 66 []))), vers := List.replicate 82 0 }
theorem L_lake_Contradicting_5_eq (N k n5  : Nat) (x0 : List (List PV)) (x1 : List (List PV)) (x2 : Int) (x3 : Int) (x4 : List (List PV)) : L_lake_Contradicting_5 N k (n5 + 1)  x0 x1 x2 x3 x4 =
 (cond (decide (x3 < x2))
 (cond (decide ((0 : Int) ≤ x3))
  (cond (decide (x3 < ((List.length x1) : Int)))
   ((ev (envF N) k F_lake_common [(.sl none [.int .i64, .int .i64] [[(.int .i64 (asI (nth (nths x1 (Int.toNat x3)) 0))), (.int .i64 (asI (nth (nths x1 (Int.toNat x3)) 1)))]])]).bind fun r4 =>
    cond (!(asB (nth (asT r4) 1)))
     (some (.tup [(.sl none [.int .i64] [[(.int .i64 x3)]]), (.int .i64 (0 : Int))]))
     (L_lake_Contradicting_5 N k n5  x0 x1 x2 (w64 (x3 + (1 : Int))) x4))
   (none))
  (none))
 (L_lake_Contradicting_12 N k N  x0 x0 ((List.length x0) : Int) (0 : Int) x4)) := by kernel_rfl
theorem L_lake_Contradicting_12_eq (N k n12  : Nat) (x0 : List (List PV)) (x1 : List (List PV)) (x2 : Int) (x3 : Int) (x4 : List (List PV)) : L_lake_Contradicting_12 N k (n12 + 1)  x0 x1 x2 x3 x4 =
 (cond (decide (x3 < x2))
 (cond (decide ((0 : Int) ≤ x3))
  (cond (decide (x3 < ((List.length x1) : Int)))
   (cond (decide ((0 : Int) ≤ (w64 (x3 + (1 : Int)))))
    (cond (decide ((w64 (x3 + (1 : Int))) ≤ ((List.length x0) : Int)))
     (L_lake_Contradicting_15 N k N n12 x0 x3 x1 x2 x3 (List.drop (Int.toNat (w64 (x3 + (1 : Int)))) (List.take (List.length x0) x0)) ((List.length (List.drop (Int.toNat (w64 (x3 + (1 : Int)))) (List.take (List.length x0) x0))) : Int) (0 : Int) x4 (asI (nth (nths x1 (Int.toNat x3)) 0)) (asI (nth (nths x1 (Int.toNat x3)) 1)))
     (none))
    (none))
   (none))
  (none))
 (some (.tup [(.sl none [.int .i64] []), (.int .i64 (12 : Int))]))) := by kernel_rfl
theorem L_lake_Contradicting_15_eq (N k n15 n12 : Nat) (x0 : List (List PV)) (x1 : Int) (x2 : List (List PV)) (x3 : Int) (x4 : Int) (x5 : List (List PV)) (x6 : Int) (x7 : Int) (x8 : List (List PV)) (x9 : Int) (x10 : Int) : L_lake_Contradicting_15 N k (n15 + 1) n12 x0 x1 x2 x3 x4 x5 x6 x7 x8 x9 x10 =
 (cond (decide (x7 < x6))
 (cond (decide ((0 : Int) ≤ x7))
  (cond (decide (x7 < ((List.length x5) : Int)))
   ((ev (envF N) k F_lake_common [(.sl none [.int .i64, .int .i64] [[(.int .i64 x9), (.int .i64 x10)], [(.int .i64 (asI (nth (nths x5 (Int.toNat x7)) 0))), (.int .i64 (asI (nth (nths x5 (Int.toNat x7)) 1)))]])]).bind fun r4 =>
    cond (!(asB (nth (asT r4) 1)))
     (some (.tup [(.sl none [.int .i64] [[(.int .i64 x1)], [(.int .i64 (w64 ((w64 (x1 + (1 : Int))) + x7)))]]), (.int .i64 (0 : Int))]))
     (L_lake_Contradicting_15 N k n15 n12 x0 x1 x2 x3 x4 x5 x6 (w64 (x7 + (1 : Int))) x8 x9 x10))
   (none))
  (none))
 (L_lake_Contradicting_12 N k n12  x0 x2 x3 (w64 (x4 + (1 : Int))) x8)) := by kernel_rfl
theorem E_lake_Contradicting (N k : Nat) (x0 : List (List PV)) (x1 : List (List PV)) (x2 : List (List PV)) : ev (envF N) (k + 1) F_lake_Contradicting [(.agg [(.sl none [.int .i64, .int .i64] x0)]), (.sl none [.int .i64] x1), (.sl none [.int .i64, .int .i64, .int .i64] x2)] =
 ((ev (envF N) k F_lake_permitted [(.agg [(.sl none [.int .i64, .int .i64] x0)]), (.sl none [.int .i64] x1), (.sl none [.int .i64, .int .i64, .int .i64] x2)]).bind fun r1 =>
 cond (!(decide ((asI (nth (asT r1) 1)) = (0 : Int))))
  (some (.tup [(.sl none [.int .i64] []), (.int .i64 (asI (nth (asT r1) 1)))]))
  (L_lake_Contradicting_5 N k N  (asL (nth (asT r1) 0)) (asL (nth (asT r1) 0)) ((List.length (asL (nth (asT r1) 0))) : Int) (0 : Int) x0)) := by kernel_rfl

theorem E_ref01_AllErr (N k : Nat) (x0 : List (List PV)) (x1 : List (List PV)) (x2 : List (List PV)) : ev (envF N) (k + 1) F_ref01_AllErr [(.agg [(.sl none [.int .i64, .int .i64] x0)]), (.sl none [.int .i64] x1), (.sl none [.int .i64, .int .i64, .int .i64] x2)] =
 ((ev (envF N) k F_ref01_TableErr [(.agg [(.sl none [.int .i64, .int .i64] x0)])]).bind fun r1 =>
 cond (!(decide ((asI r1) = (0 : Int))))
  (some (.int .i64 (asI r1)))
  ((ev (envF N) k F_ref01_NetErr [(.sl none [.int .i64] x1)]).bind fun r3 =>
   cond (!(decide ((asI r3) = (0 : Int))))
    (some (.int .i64 (asI r3)))
    ((ev (envF N) k F_ref01_ReadingsErr [(.agg [(.sl none [.int .i64, .int .i64] x0)]), (.sl none [.int .i64] x1), (.sl none [.int .i64, .int .i64, .int .i64] x2)]).bind fun r5 =>
     some (.int .i64 (asI r5))))) := by kernel_rfl

/-- Loop 3 of ref01_AgreedOf. -/
noncomputable def L_ref01_AgreedOf_3 (N k n3  : Nat) (x0 : List (List PV)) (x1 : List (List PV)) (x2 : Int) (x3 : List (List PV)) (x4 : Int) (x5 : Int) (x6 : Int) (x7 : Int) : Option PV := loopAt (envF N) (ev (envF N) k) (evI (envF N) k) F_ref01_AgreedOf Go.Proofs.Try.f35 [.r, .r, .l, .r, .b] n3 { slots := (und 1 ((.sl none [.int .i64] x0) :: (.sl none [.int .i64, .int .i64, .int .i64] x1) :: (.ptr 3 0) :: und 2 ((.ptr 6 0) :: und 1 ((.ptr 8 0) :: (.int .i64 x2) :: und 38 [])))), boxes := (nos 3 ((some (.cells [(.sl none [.int .i64, .int .i64] x3)] false)) :: nos 2 ((some (.cells [(.int .i64 x4), (.int .i64 x5)] false)) :: nos 1 ((some (.cells [(.int .i64 x6), (.int .i64 x7)] false)) :: nos 39 [])))), vers := List.replicate 48 0 }
theorem L_ref01_AgreedOf_3_eq (N k n3  : Nat) (x0 : List (List PV)) (x1 : List (List PV)) (x2 : Int) (x3 : List (List PV)) (x4 : Int) (x5 : Int) (x6 : Int) (x7 : Int) : L_ref01_AgreedOf_3 N k (n3 + 1)  x0 x1 x2 x3 x4 x5 x6 x7 =
 (cond (decide (x2 < ((List.length x1) : Int)))
 (cond (decide ((0 : Int) ≤ x2))
  (cond (decide (x2 < ((List.length x1) : Int)))
   ((ev (envF N) k F_ref01_permitted [(.agg [(.sl none [.int .i64, .int .i64] x3)]), (.sl none [.int .i64] x0), (.agg [(.int .i64 (asI (nth (nths x1 (Int.toNat x2)) 0))), (.int .i64 (asI (nth (nths x1 (Int.toNat x2)) 1))), (.int .i64 (asI (nth (nths x1 (Int.toNat x2)) 2)))])]).bind fun r4 =>
    L_ref01_AgreedOf_3 N k n3  x0 x1 (w64 (x2 + (1 : Int))) x3 x4 x5 ((imax x6 (asI (nth (asA r4) 0)))) ((imin x7 (asI (nth (asA r4) 1)))))
   (none))
  (none))
 (cond (decide (x7 < x6))
  (some (.tup [(.agg [(.int .i64 (0 : Int)), (.int .i64 (0 : Int))]), (.bool (false))]))
  (some (.tup [(.agg [(.int .i64 x6), (.int .i64 x7)]), (.bool (true))])))) := by kernel_rfl
theorem E_ref01_AgreedOf (N k : Nat) (x0 : List (List PV)) (x1 : List (List PV)) (x2 : List (List PV)) : ev (envF N) (k + 1) F_ref01_AgreedOf [(.agg [(.sl none [.int .i64, .int .i64] x0)]), (.sl none [.int .i64] x1), (.sl none [.int .i64, .int .i64, .int .i64] x2)] =
 (cond (decide ((0 : Int) < ((List.length x2) : Int)))
 ((ev (envF N) k F_ref01_permitted [(.agg [(.sl none [.int .i64, .int .i64] x0)]), (.sl none [.int .i64] x1), (.agg [(.int .i64 (asI (nth (nths x2 (Int.toNat (0 : Int))) 0))), (.int .i64 (asI (nth (nths x2 (Int.toNat (0 : Int))) 1))), (.int .i64 (asI (nth (nths x2 (Int.toNat (0 : Int))) 2)))])]).bind fun r2 =>
  L_ref01_AgreedOf_3 N k N  x1 x2 (1 : Int) x0 (0 : Int) (0 : Int) (asI (nth (asA r2) 0)) (asI (nth (asA r2) 1)))
 (none)) := by kernel_rfl

/-- Loop 2 of ref01_Contradicting. -/
noncomputable def L_ref01_Contradicting_2 (N k n2  : Nat) (x0 : List (List PV)) (x1 : List (List PV)) (x2 : Int) (x3 : List (List PV)) : Option PV := loopAt (envF N) (ev (envF N) k) (evI (envF N) k) F_ref01_Contradicting Go.Proofs.Try.f36 [.r, .l, .r, .b] n2 { slots := (und 1 ((.sl none [.int .i64] x0) :: (.sl none [.int .i64, .int .i64, .int .i64] x1) :: (.ptr 3 0) :: und 4 ((.int .i64 x2) :: und 61 []))), boxes := (nos 3 ((some (.cells [(.sl none [.int .i64, .int .i64] x3)] false)) :: nos 66 [])), vers := List.replicate 70 0 }
/-- Loop 8 of ref01_Contradicting. -/
noncomputable def L_ref01_Contradicting_8 (N k n8  : Nat) (x0 : List (List PV)) (x1 : List (List PV)) (x2 : Int) (x3 : List (List PV)) : Option PV := loopAt (envF N) (ev (envF N) k) (evI (envF N) k) F_ref01_Contradicting Go.Proofs.Try.f36 [.r, .r, .l, .r, .b] n8 { slots := (und 1 ((.sl none [.int .i64] x0) :: (.sl none [.int .i64, .int .i64, .int .i64] x1) :: (.ptr 3 0) :: und 7 ((.int .i64 x2) :: und 58 []))), boxes := (nos 3 ((some (.cells [(.sl none [.int .i64, .int .i64] x3)] false)) :: nos 66 [])), vers := List.replicate 70 0 }
/-- Loop 11 of ref01_Contradicting. -/
noncomputable def L_ref01_Contradicting_11 (N k n11 n8 : Nat) (x0 : List (List PV)) (x1 : List (List PV)) (x2 : Int) (x3 : Int) (x4 : List (List PV)) : Option PV := loopAt (envF N) (ev (envF N) k) (evI (envF N) k) F_ref01_Contradicting Go.Proofs.Try.f36 [.r, .r, .l, .r, .b, .p n8, .r, .l, .b, .r, .b] n11 { slots := (und 1 ((.sl none [.int .i64] x0) :: (.sl none [.int .i64, .int .i64, .int .i64] x1) :: (.ptr 3 0) :: und 7 ((.int .i64 x2) :: (.int .i64 x3) :: und 57 []))), boxes := (nos 3 ((some (.cells [(.sl none [.int .i64, .int .i64] x4)] false)) :: nos 66 [])), vers := List.replicate 70 0 }
theorem L_ref01_Contradicting_2_eq (N k n2  : Nat) (x0 : List (List PV)) (x1 : List (List PV)) (x2 : Int) (x3 : List (List PV)) : L_ref01_Contradicting_2 N k (n2 + 1)  x0 x1 x2 x3 =
 (cond (decide (x2 < ((List.length x1) : Int)))
 (cond (decide ((0 : Int) ≤ x2))
  (cond (decide (x2 < ((List.length x1) : Int)))
   ((ev (envF N) k F_ref01_AgreedOf [(.agg [(.sl none [.int .i64, .int .i64] x3)]), (.sl none [.int .i64] x0), (.sl none [.int .i64, .int .i64, .int .i64] [[(.int .i64 (asI (nth (nths x1 (Int.toNat x2)) 0))), (.int .i64 (asI (nth (nths x1 (Int.toNat x2)) 1))), (.int .i64 (asI (nth (nths x1 (Int.toNat x2)) 2)))]])]).bind fun r4 =>
    cond (!(asB (nth (asT r4) 1)))
     (some (.tup [(.sl none [.int .i64] [[(.int .i64 x2)]]), (.bool (true))]))
     (L_ref01_Contradicting_2 N k n2  x0 x1 (w64 (x2 + (1 : Int))) x3))
   (none))
  (none))
 (L_ref01_Contradicting_8 N k N  x0 x1 (0 : Int) x3)) := by kernel_rfl
theorem L_ref01_Contradicting_8_eq (N k n8  : Nat) (x0 : List (List PV)) (x1 : List (List PV)) (x2 : Int) (x3 : List (List PV)) : L_ref01_Contradicting_8 N k (n8 + 1)  x0 x1 x2 x3 =
 (cond (decide (x2 < ((List.length x1) : Int)))
 (L_ref01_Contradicting_11 N k N n8 x0 x1 x2 (w64 (x2 + (1 : Int))) x3)
 (some (.tup [(.sl none [.int .i64] []), (.bool (false))]))) := by kernel_rfl
theorem L_ref01_Contradicting_11_eq (N k n11 n8 : Nat) (x0 : List (List PV)) (x1 : List (List PV)) (x2 : Int) (x3 : Int) (x4 : List (List PV)) : L_ref01_Contradicting_11 N k (n11 + 1) n8 x0 x1 x2 x3 x4 =
 (cond (decide (x3 < ((List.length x1) : Int)))
 (cond (decide ((0 : Int) ≤ x2))
  (cond (decide (x2 < ((List.length x1) : Int)))
   (cond (decide ((0 : Int) ≤ x3))
    (cond (decide (x3 < ((List.length x1) : Int)))
     ((ev (envF N) k F_ref01_AgreedOf [(.agg [(.sl none [.int .i64, .int .i64] x4)]), (.sl none [.int .i64] x0), (.sl none [.int .i64, .int .i64, .int .i64] [[(.int .i64 (asI (nth (nths x1 (Int.toNat x2)) 0))), (.int .i64 (asI (nth (nths x1 (Int.toNat x2)) 1))), (.int .i64 (asI (nth (nths x1 (Int.toNat x2)) 2)))], [(.int .i64 (asI (nth (nths x1 (Int.toNat x3)) 0))), (.int .i64 (asI (nth (nths x1 (Int.toNat x3)) 1))), (.int .i64 (asI (nth (nths x1 (Int.toNat x3)) 2)))]])]).bind fun r6 =>
      cond (!(asB (nth (asT r6) 1)))
       (some (.tup [(.sl none [.int .i64] [[(.int .i64 x2)], [(.int .i64 x3)]]), (.bool (true))]))
       (L_ref01_Contradicting_11 N k n11 n8 x0 x1 x2 (w64 (x3 + (1 : Int))) x4))
     (none))
    (none))
   (none))
  (none))
 (L_ref01_Contradicting_8 N k n8  x0 x1 (w64 (x2 + (1 : Int))) x4)) := by kernel_rfl
theorem E_ref01_Contradicting (N k : Nat) (x0 : List (List PV)) (x1 : List (List PV)) (x2 : List (List PV)) : ev (envF N) (k + 1) F_ref01_Contradicting [(.agg [(.sl none [.int .i64, .int .i64] x0)]), (.sl none [.int .i64] x1), (.sl none [.int .i64, .int .i64, .int .i64] x2)] =
 (L_ref01_Contradicting_2 N k N  x1 x2 (0 : Int) x0) := by kernel_rfl

/-- Loop 4 of base_Ints. -/
noncomputable def L_base_Ints_4 (N k n4  : Nat) (x0 : List (List PV)) (x1 : List (List PV)) (x2 : Int) : Option PV := loopAt (envF N) (ev (envF N) k) (evI (envF N) k) F_base_Ints Go.Proofs.Try.f37 [.r, .r, .l, .r, .b] n4 { slots := ((.sl none [.int .i64] x0) :: (.sl none [.int .i64] x1) :: und 3 ((.int .i64 x2) :: und 20 [])), boxes := (nos 26 []), vers := List.replicate 26 0 }
theorem L_base_Ints_4_eq (N k n4  : Nat) (x0 : List (List PV)) (x1 : List (List PV)) (x2 : Int) : L_base_Ints_4 N k (n4 + 1)  x0 x1 x2 =
 (cond (decide (x2 < ((List.length x0) : Int)))
 (cond (decide ((0 : Int) ≤ x2))
  (cond (decide (x2 < ((List.length x0) : Int)))
   (cond (decide ((0 : Int) ≤ x2))
    (cond (decide (x2 < ((List.length x1) : Int)))
     (cond (!(decide ((asI (nth (nths x0 (Int.toNat x2)) 0)) = (asI (nth (nths x1 (Int.toNat x2)) 0)))))
      (some (.bool (false)))
      (L_base_Ints_4 N k n4  x0 x1 (w64 (x2 + (1 : Int)))))
     (none))
    (none))
   (none))
  (none))
 (some (.bool (true)))) := by kernel_rfl
theorem E_base_Ints (N k : Nat) (x0 : List (List PV)) (x1 : List (List PV)) : ev (envF N) (k + 1) F_base_Ints [(.sl none [.int .i64] x0), (.sl none [.int .i64] x1)] =
 (cond (!(decide (((List.length x0) : Int) = ((List.length x1) : Int))))
 (some (.bool (false)))
 (L_base_Ints_4 N k N  x0 x1 (0 : Int))) := by kernel_rfl

theorem E_lake_LevelAt (N k : Nat) (x0 : List (List PV)) (x1 : Int) : ev (envF N) (k + 1) F_lake_LevelAt [(.agg [(.sl none [.int .i64, .int .i64] x0)]), (.int .i64 x1)] =
 ((ev (envF N) k F_lake_openVolume [(.agg [(.sl none [.int .i64, .int .i64] x0)]), (.int .i64 x1)]).bind fun r1 =>
 cond (!(decide ((asI (nth (asT r1) 1)) = (0 : Int))))
  (some (.tup [(.agg [(.int .i64 (0 : Int)), (.int .i64 (0 : Int))]), (.int .i64 (asI (nth (asT r1) 1)))]))
  ((ev (envF N) k F_lake_table_levelAt [(.agg [(.sl none [.int .i64, .int .i64] (asL (nth (asA (nth (asT r1) 0)) 0)))]), (.int .i64 x1)]).bind fun r3 =>
   some (.tup [(.agg [(.int .i64 (asI (nth (asA r3) 0))), (.int .i64 (w64 ((asI (nth (asA r3) 0)) + ((imin (asI (nth (asA r3) 1)) (1 : Int))))))]), (.int .i64 (0 : Int))]))) := by kernel_rfl

/-- Loop 8 of lake_RunOf. -/
noncomputable def L_lake_RunOf_8 (N k n8  : Nat) (x0 : List (List PV)) (x1 : List (List PV)) (x2 : Int) (x3 : Int) (x4 : List (List PV)) (x5 : List (List PV)) (x6 : Int) (x7 : Int) (x8 : Int) (x9 : Int) (x10 : Int) (x11 : List (List PV)) (x12 : List (List PV)) (x13 : Int) (x14 : Int) (x15 : Int) : Option PV := loopAt (envF N) (ev (envF N) k) (evI (envF N) k) F_lake_RunOf Go.Proofs.Try.f41 [.r, .r, .r, .r, .r, .l, .r, .b] n8 { slots := (und 4 ((.ptr 4 0) :: und 2 ((.ptr 7 0) :: und 1 ((.ptr 9 0) :: und 1 ((.sl (some (11, 0)) [.int .i64, .int .i64] x0) :: (.ptr 12 0) :: und 20 ((.sl none [.int .i64, .int .i64, .int .i64] x1) :: (.int .i64 x2) :: (.int .i64 x3) :: und 33 [])))))), boxes := (nos 3 ((some (.cells [(.sl none [.int .i64, .int .i64] x4), (.sl none [.int .i64, .int .i64] x5), (.int .i64 x6)] false)) :: (some (.cells [(.int .i64 x7), (.int .i64 x8)] false)) :: nos 2 ((some (.cells [(.int .i64 x9), (.int .i64 x10)] false)) :: nos 1 ((some (.cells [(.sl none [.int .i64, .int .i64] x11), (.sl none [.int .i64, .int .i64] x12), (.int .i64 x13)] false)) :: nos 2 ((some (.cells [(.int .i64 x14), (.int .i64 x15)] false)) :: nos 56 []))))), vers := List.replicate 69 0 }
theorem L_lake_RunOf_8_eq (N k n8  : Nat) (x0 : List (List PV)) (x1 : List (List PV)) (x2 : Int) (x3 : Int) (x4 : List (List PV)) (x5 : List (List PV)) (x6 : Int) (x7 : Int) (x8 : Int) (x9 : Int) (x10 : Int) (x11 : List (List PV)) (x12 : List (List PV)) (x13 : Int) (x14 : Int) (x15 : Int) : L_lake_RunOf_8 N k (n8 + 1)  x0 x1 x2 x3 x4 x5 x6 x7 x8 x9 x10 x11 x12 x13 x14 x15 =
 (cond (decide (x3 < x2))
 (cond (decide ((0 : Int) ≤ x3))
  (cond (decide (x3 < ((List.length x1) : Int)))
   ((ev (envF N) k F_lake_pair_step [(.agg [(.sl none [.int .i64, .int .i64] x11), (.sl none [.int .i64, .int .i64] x12), (.int .i64 x13)]), (.agg [(.int .i64 x7), (.int .i64 x8)]), (.agg [(.int .i64 (asI (nth (nths x1 (Int.toNat x3)) 0))), (.int .i64 (asI (nth (nths x1 (Int.toNat x3)) 1))), (.int .i64 (asI (nth (nths x1 (Int.toNat x3)) 2)))])]).bind fun r4 =>
    cond (!(asB (nth (asT r4) 2)))
     (some (.tup [(.sl none [.int .i64, .int .i64] []), (.agg [(.int .i64 (0 : Int)), (.int .i64 (0 : Int))]), (.int .i64 (22 : Int))]))
     (cond (room x0 [[(.int .i64 (asI (nth (asA (nth (asT r4) 0)) 0))), (.int .i64 (asI (nth (asA (nth (asT r4) 0)) 1)))]] 16)
      (L_lake_RunOf_8 N k n8  (x0 ++ [[(.int .i64 (asI (nth (asA (nth (asT r4) 0)) 0))), (.int .i64 (asI (nth (asA (nth (asT r4) 0)) 1)))]]) x1 x2 (w64 (x3 + (1 : Int))) x4 x5 x6 (asI (nth (asA (nth (asT r4) 0)) 0)) (asI (nth (asA (nth (asT r4) 0)) 1)) x9 x10 x11 x12 x13 (w64 (x14 + (asI (nth (asA (nth (asT r4) 1)) 0)))) (w64 (x15 + (asI (nth (asA (nth (asT r4) 1)) 1)))))
      (none)))
   (none))
  (none))
 (some (.tup [(.sl none [.int .i64, .int .i64] x0), (.agg [(.int .i64 x14), (.int .i64 x15)]), (.int .i64 (0 : Int))]))) := by kernel_rfl
theorem E_lake_RunOf (N k : Nat) (x0 : List (List PV)) (x1 : List (List PV)) (x2 : Int) (x3 : Int) (x4 : Int) (x5 : List (List PV)) : ev (envF N) (k + 1) F_lake_RunOf [(.agg [(.sl none [.int .i64, .int .i64] x0), (.sl none [.int .i64, .int .i64] x1), (.int .i64 x2)]), (.agg [(.int .i64 x3), (.int .i64 x4)]), (.sl none [.int .i64, .int .i64, .int .i64] x5)] =
 ((ev (envF N) k F_lake_openState [(.agg [(.sl none [.int .i64, .int .i64] x0), (.sl none [.int .i64, .int .i64] x1), (.int .i64 x2)]), (.agg [(.int .i64 x3), (.int .i64 x4)])]).bind fun r1 =>
 (ev (envF N) k F_lake_ticksErr [(.sl none [.int .i64, .int .i64, .int .i64] x5)]).bind fun r2 =>
  (ev (envF N) k F_lake_first [(.sl none [.int .i64] [[(.int .i64 (asI (nth (asT r1) 1)))], [(.int .i64 (asI r2))]])]).bind fun r3 =>
   cond (!(decide ((asI r3) = (0 : Int))))
    (some (.tup [(.sl none [.int .i64, .int .i64] []), (.agg [(.int .i64 (0 : Int)), (.int .i64 (0 : Int))]), (.int .i64 (asI r3))]))
    (L_lake_RunOf_8 N k N  [] x5 ((List.length x5) : Int) (0 : Int) x0 x1 x2 x3 x4 (0 : Int) (0 : Int) (asL (nth (asA (nth (asT r1) 0)) 0)) (asL (nth (asA (nth (asT r1) 0)) 1)) (asI (nth (asA (nth (asT r1) 0)) 2)) (0 : Int) (0 : Int))) := by kernel_rfl

theorem E_ref01_CopyList (N k : Nat) (x0 : List (List PV)) : ev (envF N) (k + 1) F_ref01_CopyList [(.sl none [.int .i64, .int .i64, .int .i64] x0)] =
 (cond (room [] x0 24)
 (some (.sl none [.int .i64, .int .i64, .int .i64] x0))
 (none)) := by kernel_rfl

/-- Loop 5 of lake_CheckTable. -/
noncomputable def L_lake_CheckTable_5 (N k n5  : Nat) (x0 : List (List PV)) (x1 : Int) (x2 : Int) (x3 : List (List PV)) : Option PV := loopAt (envF N) (ev (envF N) k) (evI (envF N) k) F_lake_CheckTable Go.Proofs.Try.f44 [.r, .r, .l, .r, .b] n5 { slots := (und 1 ((.ptr 1 0) :: und 22 ((.sl none [.int .i64, .int .i64] x0) :: (.int .i64 x1) :: (.int .i64 x2) :: und 55 []))), boxes := (nos 1 ((some (.cells [(.sl none [.int .i64, .int .i64] x3)] false)) :: nos 80 [])), vers := List.replicate 82 0 }
theorem L_lake_CheckTable_5_eq (N k n5  : Nat) (x0 : List (List PV)) (x1 : Int) (x2 : Int) (x3 : List (List PV)) : L_lake_CheckTable_5 N k (n5 + 1)  x0 x1 x2 x3 =
 (cond (decide (x2 < x1))
 (cond (decide ((0 : Int) ≤ x2))
  (cond (decide (x2 < ((List.length x0) : Int)))
   ((ev (envF N) k F_lake_within [(.int .i64 (asI (nth (nths x0 (Int.toNat x2)) 0))), (.int .i64 (0 : Int)), (.int .i64 (1000000 : Int))]).bind fun r4 =>
    cond (!(asB r4))
     (some (.tup [(.int .i64 x2), (.int .i64 (2 : Int))]))
     ((ev (envF N) k F_lake_within [(.int .i64 (asI (nth (nths x0 (Int.toNat x2)) 1))), (.int .i64 (0 : Int)), (.int .i64 (1000000000 : Int))]).bind fun r6 =>
      cond (!(asB r6))
       (some (.tup [(.int .i64 x2), (.int .i64 (2 : Int))]))
       (cond (decide (x2 = (0 : Int)))
        (L_lake_CheckTable_5 N k n5  x0 x1 (w64 (x2 + (1 : Int))) x3)
        (cond (decide ((0 : Int) ≤ (w64 (x2 - (1 : Int)))))
         (cond (decide ((w64 (x2 - (1 : Int))) < ((List.length x3) : Int)))
          ((ev (envF N) k F_lake_piece_height [(.agg [(.int .i64 (asI (nth (nths x3 (Int.toNat (w64 (x2 - (1 : Int))))) 0))), (.int .i64 (asI (nth (nths x3 (Int.toNat (w64 (x2 - (1 : Int))))) 1))), (.int .i64 (asI (nth (nths x0 (Int.toNat x2)) 0))), (.int .i64 (asI (nth (nths x0 (Int.toNat x2)) 1)))])]).bind fun r11 =>
           cond (decide ((asI r11) ≤ (0 : Int)))
            (some (.tup [(.int .i64 x2), (.int .i64 (9 : Int))]))
            ((ev (envF N) k F_lake_piece_volume [(.agg [(.int .i64 (asI (nth (nths x3 (Int.toNat (w64 (x2 - (1 : Int))))) 0))), (.int .i64 (asI (nth (nths x3 (Int.toNat (w64 (x2 - (1 : Int))))) 1))), (.int .i64 (asI (nth (nths x0 (Int.toNat x2)) 0))), (.int .i64 (asI (nth (nths x0 (Int.toNat x2)) 1)))])]).bind fun r13 =>
             cond (decide ((asI r13) ≤ (0 : Int)))
              (some (.tup [(.int .i64 x2), (.int .i64 (9 : Int))]))
              (cond (decide ((1 : Int) < x2))
               (cond (decide ((0 : Int) ≤ (w64 (x2 - (2 : Int)))))
                (cond (decide ((w64 (x2 - (2 : Int))) < ((List.length x3) : Int)))
                 (cond (decide ((0 : Int) ≤ (w64 (x2 - (1 : Int)))))
                  (cond (decide ((w64 (x2 - (1 : Int))) < ((List.length x3) : Int)))
                   ((ev (envF N) k F_lake_piece_narrower [(.agg [(.int .i64 (asI (nth (nths x3 (Int.toNat (w64 (x2 - (1 : Int))))) 0))), (.int .i64 (asI (nth (nths x3 (Int.toNat (w64 (x2 - (1 : Int))))) 1))), (.int .i64 (asI (nth (nths x0 (Int.toNat x2)) 0))), (.int .i64 (asI (nth (nths x0 (Int.toNat x2)) 1)))]), (.agg [(.int .i64 (asI (nth (nths x3 (Int.toNat (w64 (x2 - (2 : Int))))) 0))), (.int .i64 (asI (nth (nths x3 (Int.toNat (w64 (x2 - (2 : Int))))) 1))), (.int .i64 (asI (nth (nths x3 (Int.toNat (w64 (x2 - (1 : Int))))) 0))), (.int .i64 (asI (nth (nths x3 (Int.toNat (w64 (x2 - (1 : Int))))) 1)))])]).bind fun r20 =>
                    cond (asB r20)
                     (some (.tup [(.int .i64 x2), (.int .i64 (22 : Int))]))
                     (L_lake_CheckTable_5 N k n5  x0 x1 (w64 (x2 + (1 : Int))) x3))
                   (none))
                  (none))
                 (none))
                (none))
               (L_lake_CheckTable_5 N k n5  x0 x1 (w64 (x2 + (1 : Int))) x3))))
          (none))
         (none)))))
   (none))
  (none))
 (some (.tup [(.int .i64 (0 : Int)), (.int .i64 (0 : Int))]))) := by kernel_rfl
theorem E_lake_CheckTable (N k : Nat) (x0 : List (List PV)) : ev (envF N) (k + 1) F_lake_CheckTable [(.agg [(.sl none [.int .i64, .int .i64] x0)])] =
 ((ev (envF N) k F_lake_unless [(.bool (decide ((1 : Int) < ((List.length x0) : Int)))), (.int .i64 (10 : Int))]).bind fun r1 =>
 (ev (envF N) k F_lake_unless [(.bool (decide (((List.length x0) : Int) ≤ (10 : Int)))), (.int .i64 (8 : Int))]).bind fun r2 =>
  (ev (envF N) k F_lake_first [(.sl none [.int .i64] [[(.int .i64 (asI r1))], [(.int .i64 (asI r2))]])]).bind fun r3 =>
   cond (!(decide ((asI r3) = (0 : Int))))
    (some (.tup [(.int .i64 (0 : Int)), (.int .i64 (asI r3))]))
    (L_lake_CheckTable_5 N k N  x0 ((List.length x0) : Int) (0 : Int) x0)) := by kernel_rfl

theorem E_lake_VolumeAt (N k : Nat) (x0 : List (List PV)) (x1 : Int) : ev (envF N) (k + 1) F_lake_VolumeAt [(.agg [(.sl none [.int .i64, .int .i64] x0)]), (.int .i64 x1)] =
 ((ev (envF N) k F_lake_tableErr [(.agg [(.sl none [.int .i64, .int .i64] x0)])]).bind fun r1 =>
 cond (!(decide ((asI r1) = (0 : Int))))
  (some (.tup [(.agg [(.int .i64 (0 : Int)), (.int .i64 (0 : Int))]), (.int .i64 (asI r1))]))
  ((ev (envF N) k F_lake_table_bottom [(.agg [(.sl none [.int .i64, .int .i64] x0)])]).bind fun r3 =>
   (ev (envF N) k F_lake_table_top [(.agg [(.sl none [.int .i64, .int .i64] x0)])]).bind fun r4 =>
    (ev (envF N) k F_lake_within [(.int .i64 x1), (.int .i64 (asI (nth (asA r3) 0))), (.int .i64 (asI (nth (asA r4) 0)))]).bind fun r5 =>
     cond (!(asB r5))
      (some (.tup [(.agg [(.int .i64 (0 : Int)), (.int .i64 (0 : Int))]), (.int .i64 (2 : Int))]))
      ((ev (envF N) k F_lake_table_volumeAt [(.agg [(.sl none [.int .i64, .int .i64] x0)]), (.int .i64 x1)]).bind fun r7 =>
       some (.tup [(.agg [(.int .i64 (asI (nth (asA r7) 0))), (.int .i64 (asI (nth (asA r7) 1)))]), (.int .i64 (0 : Int))])))) := by kernel_rfl

theorem E_lake_AreaAt (N k : Nat) (x0 : List (List PV)) (x1 : Int) : ev (envF N) (k + 1) F_lake_AreaAt [(.agg [(.sl none [.int .i64, .int .i64] x0)]), (.int .i64 x1)] =
 ((ev (envF N) k F_lake_openVolume [(.agg [(.sl none [.int .i64, .int .i64] x0)]), (.int .i64 x1)]).bind fun r1 =>
 cond (!(decide ((asI (nth (asT r1) 1)) = (0 : Int))))
  (some (.tup [(.agg [(.int .i64 (0 : Int)), (.int .i64 (0 : Int))]), (.int .i64 (asI (nth (asT r1) 1)))]))
  ((ev (envF N) k F_lake_table_byVolume [(.agg [(.sl none [.int .i64, .int .i64] (asL (nth (asA (nth (asT r1) 0)) 0)))]), (.int .i64 x1)]).bind fun r3 =>
   (ev (envF N) k F_lake_piece_volume [(.agg [(.int .i64 (asI (nth (asA r3) 0))), (.int .i64 (asI (nth (asA r3) 1))), (.int .i64 (asI (nth (asA r3) 2))), (.int .i64 (asI (nth (asA r3) 3)))])]).bind fun r4 =>
    (ev (envF N) k F_lake_piece_height [(.agg [(.int .i64 (asI (nth (asA r3) 0))), (.int .i64 (asI (nth (asA r3) 1))), (.int .i64 (asI (nth (asA r3) 2))), (.int .i64 (asI (nth (asA r3) 3)))])]).bind fun r5 =>
     (ev (envF N) k F_lake_divisor [(.int .i64 (asI r4)), (.int .i64 (asI r5))]).bind fun r6 =>
      (ev (envF N) k F_lake_piece_volume [(.agg [(.int .i64 (asI (nth (asA r3) 0))), (.int .i64 (asI (nth (asA r3) 1))), (.int .i64 (asI (nth (asA r3) 2))), (.int .i64 (asI (nth (asA r3) 3)))])]).bind fun r7 =>
       cond (!(decide ((asI r6) = (0 : Int))))
        ((ev (envF N) k F_lake_piece_height [(.agg [(.int .i64 (asI (nth (asA r3) 0))), (.int .i64 (asI (nth (asA r3) 1))), (.int .i64 (asI (nth (asA r3) 2))), (.int .i64 (asI (nth (asA r3) 3)))])]).bind fun r9 =>
         cond (!(decide ((asI r6) = (0 : Int))))
          (some (.tup [(.agg [(.int .i64 (w64 (Int.tdiv (asI r7) (asI r6)))), (.int .i64 (w64 (Int.tdiv (asI r9) (asI r6))))]), (.int .i64 (0 : Int))]))
          (none))
        (none))) := by kernel_rfl

/-- Loop 6 of ref01_CheckTable. -/
noncomputable def L_ref01_CheckTable_6 (N k n6  : Nat) (x0 : Int) (x1 : List (List PV)) : Option PV := loopAt (envF N) (ev (envF N) k) (evI (envF N) k) F_ref01_CheckTable Go.Proofs.Try.f47 [.r, .r, .r, .l, .r, .b] n6 { slots := (und 1 ((.ptr 1 0) :: und 2 ((.int .i64 x0) :: und 71 []))), boxes := (nos 1 ((some (.cells [(.sl none [.int .i64, .int .i64] x1)] false)) :: nos 74 [])), vers := List.replicate 76 0 }
theorem L_ref01_CheckTable_6_eq (N k n6  : Nat) (x0 : Int) (x1 : List (List PV)) : L_ref01_CheckTable_6 N k (n6 + 1)  x0 x1 =
 (cond (decide (x0 < ((List.length x1) : Int)))
 (cond (decide ((0 : Int) ≤ x0))
  (cond (decide (x0 < ((List.length x1) : Int)))
   ((ev (envF N) k F_base_Within [(.int .i64 (asI (nth (nths x1 (Int.toNat x0)) 0))), (.int .i64 (0 : Int)), (.int .i64 (1000000 : Int))]).bind fun r4 =>
    cond (!(asB r4))
     (some (.tup [(.int .i64 x0), (.int .i64 (2 : Int))]))
     ((ev (envF N) k F_base_Within [(.int .i64 (asI (nth (nths x1 (Int.toNat x0)) 1))), (.int .i64 (0 : Int)), (.int .i64 (1000000000 : Int))]).bind fun r6 =>
      cond (!(asB r6))
       (some (.tup [(.int .i64 x0), (.int .i64 (2 : Int))]))
       (cond (decide (x0 = (0 : Int)))
        (L_ref01_CheckTable_6 N k n6  (w64 (x0 + (1 : Int))) x1)
        (cond (decide ((0 : Int) ≤ (w64 (x0 - (1 : Int)))))
         (cond (decide ((w64 (x0 - (1 : Int))) < ((List.length x1) : Int)))
          (cond (decide ((asI (nth (nths x1 (Int.toNat x0)) 0)) ≤ (asI (nth (nths x1 (Int.toNat (w64 (x0 - (1 : Int))))) 0))))
           (some (.tup [(.int .i64 x0), (.int .i64 (9 : Int))]))
           (cond (decide ((0 : Int) ≤ (w64 (x0 - (1 : Int)))))
            (cond (decide ((w64 (x0 - (1 : Int))) < ((List.length x1) : Int)))
             (cond (decide ((asI (nth (nths x1 (Int.toNat x0)) 1)) ≤ (asI (nth (nths x1 (Int.toNat (w64 (x0 - (1 : Int))))) 1))))
              (some (.tup [(.int .i64 x0), (.int .i64 (9 : Int))]))
              (cond (decide ((1 : Int) < x0))
               ((ev (envF N) k F_ref01_piece [(.agg [(.sl none [.int .i64, .int .i64] x1)]), (.int .i64 x0)]).bind fun r16 =>
                (ev (envF N) k F_ref01_piece [(.agg [(.sl none [.int .i64, .int .i64] x1)]), (.int .i64 (w64 (x0 - (1 : Int))))]).bind fun r17 =>
                 (ev (envF N) k F_base_RatioCmp [(.agg [(.int .i64 (asI (nth (asA r16) 0))), (.sl none [.int .i64] (asL (nth (asA r16) 1))), (.int .i64 (asI (nth (asA r16) 2))), (.sl none [.int .i64] (asL (nth (asA r16) 3)))]), (.agg [(.int .i64 (asI (nth (asA r17) 0))), (.sl none [.int .i64] (asL (nth (asA r17) 1))), (.int .i64 (asI (nth (asA r17) 2))), (.sl none [.int .i64] (asL (nth (asA r17) 3)))])]).bind fun r18 =>
                  cond (decide ((asI r18) < (0 : Int)))
                   (some (.tup [(.int .i64 x0), (.int .i64 (22 : Int))]))
                   (L_ref01_CheckTable_6 N k n6  (w64 (x0 + (1 : Int))) x1))
               (L_ref01_CheckTable_6 N k n6  (w64 (x0 + (1 : Int))) x1)))
             (none))
            (none)))
          (none))
         (none)))))
   (none))
  (none))
 (some (.tup [(.int .i64 (0 : Int)), (.int .i64 (0 : Int))]))) := by kernel_rfl
theorem E_ref01_CheckTable (N k : Nat) (x0 : List (List PV)) : ev (envF N) (k + 1) F_ref01_CheckTable [(.agg [(.sl none [.int .i64, .int .i64] x0)])] =
 (cond (decide (((List.length x0) : Int) < (2 : Int)))
 (some (.tup [(.int .i64 (0 : Int)), (.int .i64 (10 : Int))]))
 (cond (decide ((10 : Int) < ((List.length x0) : Int)))
  (some (.tup [(.int .i64 (0 : Int)), (.int .i64 (8 : Int))]))
  (L_ref01_CheckTable_6 N k N  (0 : Int) x0))) := by kernel_rfl

theorem E_ref01_IsLevel (N k : Nat) (x0 : List (List PV)) (x1 : Int) : ev (envF N) (k + 1) F_ref01_IsLevel [(.agg [(.sl none [.int .i64, .int .i64] x0)]), (.int .i64 x1)] =
 ((ev (envF N) k F_ref01_Bottom [(.agg [(.sl none [.int .i64, .int .i64] x0)])]).bind fun r1 =>
 (ev (envF N) k F_ref01_Top [(.agg [(.sl none [.int .i64, .int .i64] x0)])]).bind fun r2 =>
  (ev (envF N) k F_base_Within [(.int .i64 x1), (.int .i64 (asI (nth (asA r1) 0))), (.int .i64 (asI (nth (asA r2) 0)))]).bind fun r3 =>
   some (.bool (asB r3))) := by kernel_rfl

theorem E_ref01_VolumeAt (N k : Nat) (x0 : List (List PV)) (x1 : Int) : ev (envF N) (k + 1) F_ref01_VolumeAt [(.agg [(.sl none [.int .i64, .int .i64] x0)]), (.int .i64 x1)] =
 ((ev (envF N) k F_ref01_volume [(.agg [(.sl none [.int .i64, .int .i64] x0)]), (.int .i64 x1)]).bind fun r1 =>
 (ev (envF N) k F_ref01_rounded [(.agg [(.int .i64 (asI (nth (asA r1) 0))), (.sl none [.int .i64] (asL (nth (asA r1) 1))), (.int .i64 (asI (nth (asA r1) 2))), (.sl none [.int .i64] (asL (nth (asA r1) 3)))])]).bind fun r2 =>
  some (.agg [(.int .i64 (asI (nth (asA r2) 0))), (.int .i64 (asI (nth (asA r2) 1)))])) := by kernel_rfl

theorem E_ref01_IsVolume (N k : Nat) (x0 : List (List PV)) (x1 : Int) : ev (envF N) (k + 1) F_ref01_IsVolume [(.agg [(.sl none [.int .i64, .int .i64] x0)]), (.int .i64 x1)] =
 ((ev (envF N) k F_ref01_Bottom [(.agg [(.sl none [.int .i64, .int .i64] x0)])]).bind fun r1 =>
 (ev (envF N) k F_ref01_Top [(.agg [(.sl none [.int .i64, .int .i64] x0)])]).bind fun r2 =>
  (ev (envF N) k F_base_Within [(.int .i64 x1), (.int .i64 (asI (nth (asA r1) 1))), (.int .i64 (asI (nth (asA r2) 1)))]).bind fun r3 =>
   some (.bool (asB r3))) := by kernel_rfl

theorem E_ref01_LevelAt (N k : Nat) (x0 : List (List PV)) (x1 : Int) : ev (envF N) (k + 1) F_ref01_LevelAt [(.agg [(.sl none [.int .i64, .int .i64] x0)]), (.int .i64 x1)] =
 ((ev (envF N) k F_ref01_Level [(.agg [(.sl none [.int .i64, .int .i64] x0)]), (.int .i64 x1)]).bind fun r1 =>
 (ev (envF N) k F_ref01_rounded [(.agg [(.int .i64 (asI (nth (asA r1) 0))), (.sl none [.int .i64] (asL (nth (asA r1) 1))), (.int .i64 (asI (nth (asA r1) 2))), (.sl none [.int .i64] (asL (nth (asA r1) 3)))])]).bind fun r2 =>
  some (.agg [(.int .i64 (asI (nth (asA r2) 0))), (.int .i64 (asI (nth (asA r2) 1)))])) := by kernel_rfl

theorem E_ref01_AreaAt (N k : Nat) (x0 : List (List PV)) (x1 : Int) : ev (envF N) (k + 1) F_ref01_AreaAt [(.agg [(.sl none [.int .i64, .int .i64] x0)]), (.int .i64 x1)] =
 ((ev (envF N) k F_ref01_above [(.agg [(.sl none [.int .i64, .int .i64] x0)]), (.int .i64 x1)]).bind fun r1 =>
 cond (decide ((0 : Int) ≤ (w64 ((asI r1) - (1 : Int)))))
  (cond (decide ((w64 ((asI r1) - (1 : Int))) < ((List.length x0) : Int)))
   (cond (decide ((0 : Int) ≤ (asI r1)))
    (cond (decide ((asI r1) < ((List.length x0) : Int)))
     ((ev (envF N) k F_base_Lowest [(.int .i64 (w64 ((asI (nth (nths x0 (Int.toNat (asI r1))) 1)) - (asI (nth (nths x0 (Int.toNat (w64 (asI r1 - (1 : Int))))) 1))))), (.int .i64 (w64 ((asI (nth (nths x0 (Int.toNat (asI r1))) 0)) - (asI (nth (nths x0 (Int.toNat (w64 (asI r1 - (1 : Int))))) 0)))))]).bind fun r6 =>
      some (.agg [(.int .i64 (asI (nth (asA r6) 0))), (.int .i64 (asI (nth (asA r6) 1)))]))
     (none))
    (none))
   (none))
  (none)) := by kernel_rfl

theorem E_base_Size (N k : Nat) (x0 : Int) : ev (envF N) (k + 1) F_base_Size [(.int .i64 x0)] =
 (some (.int .i64 ((imax x0 (w64 ((0 : Int) - x0)))))) := by kernel_rfl

theorem E_ref01_TableErr (N k : Nat) (x0 : List (List PV)) : ev (envF N) (k + 1) F_ref01_TableErr [(.agg [(.sl none [.int .i64, .int .i64] x0)])] =
 ((ev (envF N) k F_ref01_CheckTable [(.agg [(.sl none [.int .i64, .int .i64] x0)])]).bind fun r1 =>
 some (.int .i64 (asI (nth (asT r1) 1)))) := by kernel_rfl

theorem E_ref01_Top (N k : Nat) (x0 : List (List PV)) : ev (envF N) (k + 1) F_ref01_Top [(.agg [(.sl none [.int .i64, .int .i64] x0)])] =
 (cond (decide ((0 : Int) ≤ (w64 (((List.length x0) : Int) - (1 : Int)))))
 (cond (decide ((w64 (((List.length x0) : Int) - (1 : Int))) < ((List.length x0) : Int)))
  (some (.agg [(.int .i64 (asI (nth (nths x0 (Int.toNat (w64 ((x0.length : Int) - (1 : Int))))) 0))), (.int .i64 (asI (nth (nths x0 (Int.toNat (w64 ((x0.length : Int) - (1 : Int))))) 1)))]))
  (none))
 (none)) := by kernel_rfl

theorem E_law01_small (N k : Nat) (x0 : Int) (x1 : Int) : ev (envF N) (k + 1) F_law01_small [(.agg [(.int .i64 x0), (.int .i64 x1)])] =
 ((ev (envF N) k F_base_IsLowest [(.agg [(.int .i64 x0), (.int .i64 x1)])]).bind fun r1 =>
 cond (asB r1)
  ((ev (envF N) k F_base_IsSmall [(.agg [(.int .i64 x0), (.int .i64 x1)])]).bind fun r3 =>
   some (.bool (asB r3)))
  (some (.bool (false)))) := by kernel_rfl

theorem E_base_Cmp (N k : Nat) (x0 : Int) (x1 : Int) (x2 : Int) (x3 : Int) : ev (envF N) (k + 1) F_base_Cmp [(.agg [(.int .i64 x0), (.int .i64 x1)]), (.agg [(.int .i64 x2), (.int .i64 x3)])] =
 (cond (decide ((w64 (x0 * x3)) < (w64 (x2 * x1))))
 (some (.int .i64 (-1 : Int)))
 (cond (decide ((w64 (x2 * x1)) < (w64 (x0 * x3))))
  (some (.int .i64 (1 : Int)))
  (some (.int .i64 (0 : Int))))) := by kernel_rfl

/-- Loop 5 of lake_MinimumOn. -/
noncomputable def L_lake_MinimumOn_5 (N k n5  : Nat) (x0 : List (List PV)) (x1 : Int) (x2 : List (List PV)) (x3 : Int) (x4 : Int) : Option PV := loopAt (envF N) (ev (envF N) k) (evI (envF N) k) F_lake_MinimumOn Go.Proofs.Try.f72 [.r, .r, .r, .l, .r, .b] n5 { slots := ((.sl none [.int .i64, .int .i64, .int .i64] x0) :: (.int .i64 x1) :: und 4 ((.fn F_lake_MinimumOn_c1 []) :: und 8 ((.sl none [.int .i64, .int .i64, .int .i64] x2) :: (.int .i64 x3) :: (.int .i64 x4) :: und 41 []))), boxes := (nos 59 []), vers := List.replicate 59 0 }
/-- Loop 14 of lake_MinimumOn. -/
noncomputable def L_lake_MinimumOn_14 (N k n14  : Nat) (x0 : Int) (x1 : Int) (x2 : List (List PV)) (x3 : Int) (x4 : Int) : Option PV := loopAt (envF N) (ev (envF N) k) (evI (envF N) k) F_lake_MinimumOn Go.Proofs.Try.f72 [.r, .r, .r, .r, .r, .r, .l, .r, .b] n14 { slots := (und 1 ((.int .i64 x0) :: und 7 ((.int .i64 x1) :: und 33 ((.sl none [.int .i64, .int .i64, .int .i64] x2) :: (.int .i64 x3) :: (.int .i64 x4) :: und 13 [])))), boxes := (nos 59 []), vers := List.replicate 59 0 }
theorem L_lake_MinimumOn_5_eq (N k n5  : Nat) (x0 : List (List PV)) (x1 : Int) (x2 : List (List PV)) (x3 : Int) (x4 : Int) : L_lake_MinimumOn_5 N k (n5 + 1)  x0 x1 x2 x3 x4 =
 (cond (decide (x4 < x3))
 (cond (decide ((0 : Int) ≤ x4))
  (cond (decide (x4 < ((List.length x2) : Int)))
   ((ev (envF N) k F_lake_MinimumOn_c1 [(.int .i64 (asI (nth (nths x2 (Int.toNat x4)) 0)))]).bind fun r4 =>
    cond (!(asB r4))
     (some (.tup [(.int .i64 (0 : Int)), (.int .i64 (2 : Int))]))
     ((ev (envF N) k F_lake_MinimumOn_c1 [(.int .i64 (asI (nth (nths x2 (Int.toNat x4)) 1)))]).bind fun r6 =>
      cond (!(asB r6))
       (some (.tup [(.int .i64 (0 : Int)), (.int .i64 (2 : Int))]))
       ((ev (envF N) k F_lake_within [(.int .i64 (asI (nth (nths x2 (Int.toNat x4)) 2))), (.int .i64 (0 : Int)), (.int .i64 (1000000 : Int))]).bind fun r8 =>
        cond (!(asB r8))
         (some (.tup [(.int .i64 (0 : Int)), (.int .i64 (2 : Int))]))
         (L_lake_MinimumOn_5 N k n5  x0 x1 x2 x3 (w64 (x4 + (1 : Int)))))))
   (none))
  (none))
 ((ev (envF N) k F_lake_within [(.int .i64 x1), (.int .i64 (0 : Int)), (.int .i64 (100000 : Int))]).bind fun r2 =>
  cond (!(asB r2))
   (some (.tup [(.int .i64 (0 : Int)), (.int .i64 (2 : Int))]))
   (L_lake_MinimumOn_14 N k N  x1 (0 : Int) x0 ((List.length x0) : Int) (0 : Int)))) := by kernel_rfl
theorem L_lake_MinimumOn_14_eq (N k n14  : Nat) (x0 : Int) (x1 : Int) (x2 : List (List PV)) (x3 : Int) (x4 : Int) : L_lake_MinimumOn_14 N k (n14 + 1)  x0 x1 x2 x3 x4 =
 (cond (decide (x4 < x3))
 (cond (decide ((0 : Int) ≤ x4))
  (cond (decide (x4 < ((List.length x2) : Int)))
   ((ev (envF N) k F_lake_contains [(.agg [(.int .i64 (asI (nth (nths x2 (Int.toNat x4)) 0))), (.int .i64 (asI (nth (nths x2 (Int.toNat x4)) 1))), (.int .i64 (asI (nth (nths x2 (Int.toNat x4)) 2)))]), (.int .i64 (Int.tmod x0 (365 : Int)))]).bind fun r4 =>
    cond (asB r4)
     (L_lake_MinimumOn_14 N k n14  x0 ((imax x1 (asI (nth (nths x2 (Int.toNat x4)) 2)))) x2 x3 (w64 (x4 + (1 : Int))))
     (L_lake_MinimumOn_14 N k n14  x0 x1 x2 x3 (w64 (x4 + (1 : Int)))))
   (none))
  (none))
 (some (.tup [(.int .i64 x1), (.int .i64 (0 : Int))]))) := by kernel_rfl
theorem E_lake_MinimumOn (N k : Nat) (x0 : List (List PV)) (x1 : Int) : ev (envF N) (k + 1) F_lake_MinimumOn [(.sl none [.int .i64, .int .i64, .int .i64] x0), (.int .i64 x1)] =
 (cond (decide ((12 : Int) < ((List.length x0) : Int)))
 (some (.tup [(.int .i64 (0 : Int)), (.int .i64 (8 : Int))]))
 (L_lake_MinimumOn_5 N k N  x0 x1 x0 ((List.length x0) : Int) (0 : Int))) := by kernel_rfl

theorem E_ref01_CopySeasons (N k : Nat) (x0 : List (List PV)) : ev (envF N) (k + 1) F_ref01_CopySeasons [(.sl none [.int .i64, .int .i64, .int .i64] x0)] =
 (cond (room [] x0 24)
 (some (.sl none [.int .i64, .int .i64, .int .i64] x0))
 (none)) := by kernel_rfl

/-- Loop 4 of ref01_MinimumOn. -/
noncomputable def L_ref01_MinimumOn_4 (N k n4  : Nat) (x0 : List (List PV)) (x1 : Int) (x2 : Int) : Option PV := loopAt (envF N) (ev (envF N) k) (evI (envF N) k) F_ref01_MinimumOn Go.Proofs.Try.f74 [.r, .r, .l, .r, .b] n4 { slots := ((.sl none [.int .i64, .int .i64, .int .i64] x0) :: (.int .i64 x1) :: und 4 ((.int .i64 x2) :: und 97 [])), boxes := (nos 104 []), vers := List.replicate 104 0 }
/-- Loop 12 of ref01_MinimumOn. -/
noncomputable def L_ref01_MinimumOn_12 (N k n12  : Nat) (x0 : List (List PV)) (x1 : Int) (x2 : Int) (x3 : Int) : Option PV := loopAt (envF N) (ev (envF N) k) (evI (envF N) k) F_ref01_MinimumOn Go.Proofs.Try.f74 [.r, .r, .r, .r, .r, .l, .r, .b] n12 { slots := ((.sl none [.int .i64, .int .i64, .int .i64] x0) :: und 6 ((.int .i64 x1) :: (.int .i64 x2) :: (.int .i64 x3) :: und 94 [])), boxes := (nos 104 []), vers := List.replicate 104 0 }
theorem L_ref01_MinimumOn_4_eq (N k n4  : Nat) (x0 : List (List PV)) (x1 : Int) (x2 : Int) : L_ref01_MinimumOn_4 N k (n4 + 1)  x0 x1 x2 =
 (cond (decide (x2 < ((List.length x0) : Int)))
 (cond (decide ((0 : Int) ≤ x2))
  (cond (decide (x2 < ((List.length x0) : Int)))
   ((ev (envF N) k F_base_Within [(.int .i64 (asI (nth (nths x0 (Int.toNat x2)) 0))), (.int .i64 (0 : Int)), (.int .i64 (364 : Int))]).bind fun r4 =>
    cond (!(asB r4))
     (some (.tup [(.int .i64 (0 : Int)), (.int .i64 (2 : Int))]))
     (cond (decide ((0 : Int) ≤ x2))
      (cond (decide (x2 < ((List.length x0) : Int)))
       ((ev (envF N) k F_base_Within [(.int .i64 (asI (nth (nths x0 (Int.toNat x2)) 1))), (.int .i64 (0 : Int)), (.int .i64 (364 : Int))]).bind fun r8 =>
        cond (!(asB r8))
         (some (.tup [(.int .i64 (0 : Int)), (.int .i64 (2 : Int))]))
         (cond (decide ((0 : Int) ≤ x2))
          (cond (decide (x2 < ((List.length x0) : Int)))
           ((ev (envF N) k F_base_Within [(.int .i64 (asI (nth (nths x0 (Int.toNat x2)) 2))), (.int .i64 (0 : Int)), (.int .i64 (1000000 : Int))]).bind fun r12 =>
            cond (!(asB r12))
             (some (.tup [(.int .i64 (0 : Int)), (.int .i64 (2 : Int))]))
             (L_ref01_MinimumOn_4 N k n4  x0 x1 (w64 (x2 + (1 : Int)))))
           (none))
          (none)))
       (none))
      (none)))
   (none))
  (none))
 ((ev (envF N) k F_base_Within [(.int .i64 x1), (.int .i64 (0 : Int)), (.int .i64 (100000 : Int))]).bind fun r2 =>
  cond (!(asB r2))
   (some (.tup [(.int .i64 (0 : Int)), (.int .i64 (2 : Int))]))
   (L_ref01_MinimumOn_12 N k N  x0 (Int.tmod x1 (365 : Int)) (0 : Int) (0 : Int)))) := by kernel_rfl
theorem L_ref01_MinimumOn_12_eq (N k n12  : Nat) (x0 : List (List PV)) (x1 : Int) (x2 : Int) (x3 : Int) : L_ref01_MinimumOn_12 N k (n12 + 1)  x0 x1 x2 x3 =
 (cond (decide (x3 < ((List.length x0) : Int)))
 (cond (decide ((0 : Int) ≤ x3))
  (cond (decide (x3 < ((List.length x0) : Int)))
   (cond (decide ((0 : Int) ≤ x3))
    (cond (decide (x3 < ((List.length x0) : Int)))
     ((ev (envF N) k F_base_Within [(.int .i64 x1), (.int .i64 (asI (nth (nths x0 (Int.toNat x3)) 0))), (.int .i64 (asI (nth (nths x0 (Int.toNat x3)) 1)))]).bind fun r6 =>
      cond (decide ((0 : Int) ≤ x3))
       (cond (decide (x3 < ((List.length x0) : Int)))
        (cond (decide ((0 : Int) ≤ x3))
         (cond (decide (x3 < ((List.length x0) : Int)))
          (cond (decide ((asI (nth (nths x0 (Int.toNat x3)) 1)) < (asI (nth (nths x0 (Int.toNat x3)) 0))))
           (cond (decide ((0 : Int) ≤ x3))
            (cond (decide (x3 < ((List.length x0) : Int)))
             (cond (decide ((asI (nth (nths x0 (Int.toNat x3)) 0)) ≤ x1))
              (cond (decide ((0 : Int) ≤ x3))
               (cond (decide (x3 < ((List.length x0) : Int)))
                (L_ref01_MinimumOn_12 N k n12  x0 x1 ((imax x2 (asI (nth (nths x0 (Int.toNat x3)) 2)))) (w64 (x3 + (1 : Int))))
                (none))
               (none))
              (cond (decide ((0 : Int) ≤ x3))
               (cond (decide (x3 < ((List.length x0) : Int)))
                (cond (decide (x1 ≤ (asI (nth (nths x0 (Int.toNat x3)) 1))))
                 (cond (decide ((0 : Int) ≤ x3))
                  (cond (decide (x3 < ((List.length x0) : Int)))
                   (L_ref01_MinimumOn_12 N k n12  x0 x1 ((imax x2 (asI (nth (nths x0 (Int.toNat x3)) 2)))) (w64 (x3 + (1 : Int))))
                   (none))
                  (none))
                 (L_ref01_MinimumOn_12 N k n12  x0 x1 x2 (w64 (x3 + (1 : Int)))))
                (none))
               (none)))
             (none))
            (none))
           (cond (asB r6)
            (cond (decide ((0 : Int) ≤ x3))
             (cond (decide (x3 < ((List.length x0) : Int)))
              (L_ref01_MinimumOn_12 N k n12  x0 x1 ((imax x2 (asI (nth (nths x0 (Int.toNat x3)) 2)))) (w64 (x3 + (1 : Int))))
              (none))
             (none))
            (L_ref01_MinimumOn_12 N k n12  x0 x1 x2 (w64 (x3 + (1 : Int))))))
          (none))
         (none))
        (none))
       (none))
     (none))
    (none))
   (none))
  (none))
 (some (.tup [(.int .i64 x2), (.int .i64 (0 : Int))]))) := by kernel_rfl
theorem E_ref01_MinimumOn (N k : Nat) (x0 : List (List PV)) (x1 : Int) : ev (envF N) (k + 1) F_ref01_MinimumOn [(.sl none [.int .i64, .int .i64, .int .i64] x0), (.int .i64 x1)] =
 (cond (decide ((12 : Int) < ((List.length x0) : Int)))
 (some (.tup [(.int .i64 (0 : Int)), (.int .i64 (8 : Int))]))
 (L_ref01_MinimumOn_4 N k N  x0 x1 (0 : Int))) := by kernel_rfl

/-- Loop 4 of ref01_ListErr. -/
noncomputable def L_ref01_ListErr_4 (N k n4  : Nat) (x0 : List (List PV)) (x1 : Int) : Option PV := loopAt (envF N) (ev (envF N) k) (evI (envF N) k) F_ref01_ListErr Go.Proofs.Try.f75 [.r, .r, .l, .r, .b] n4 { slots := ((.sl none [.int .i64, .int .i64, .int .i64] x0) :: und 2 ((.int .i64 x1) :: und 18 [])), boxes := (nos 22 []), vers := List.replicate 22 0 }
theorem L_ref01_ListErr_4_eq (N k n4  : Nat) (x0 : List (List PV)) (x1 : Int) : L_ref01_ListErr_4 N k (n4 + 1)  x0 x1 =
 (cond (decide (x1 < ((List.length x0) : Int)))
 (cond (decide ((0 : Int) ≤ x1))
  (cond (decide (x1 < ((List.length x0) : Int)))
   ((ev (envF N) k F_ref01_FlowsErr [(.agg [(.int .i64 (asI (nth (nths x0 (Int.toNat x1)) 0))), (.int .i64 (asI (nth (nths x0 (Int.toNat x1)) 1))), (.int .i64 (asI (nth (nths x0 (Int.toNat x1)) 2)))])]).bind fun r4 =>
    cond (!(decide ((asI r4) = (0 : Int))))
     (some (.int .i64 (asI r4)))
     (L_ref01_ListErr_4 N k n4  x0 (w64 (x1 + (1 : Int)))))
   (none))
  (none))
 (some (.int .i64 (0 : Int)))) := by kernel_rfl
theorem E_ref01_ListErr (N k : Nat) (x0 : List (List PV)) : ev (envF N) (k + 1) F_ref01_ListErr [(.sl none [.int .i64, .int .i64, .int .i64] x0)] =
 (cond (decide ((200 : Int) < ((List.length x0) : Int)))
 (some (.int .i64 (8 : Int)))
 (L_ref01_ListErr_4 N k N  x0 (0 : Int))) := by kernel_rfl

end Go.PewTab
