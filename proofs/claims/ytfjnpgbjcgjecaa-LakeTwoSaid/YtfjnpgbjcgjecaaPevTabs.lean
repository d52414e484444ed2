/- TABLES: levels and volumes of a lake, in plain numbers, without a program. -/
namespace Go.Num

/-- A knot: a level, and the volume below it. -/
structure Knot where
  l : Int
  v : Int
  deriving DecidableEq

abbrev Tab := List Knot
def kn (t : Tab) (i : Nat) : Knot := t.getD i ⟨0, 0⟩

/-- What is wrong with the knots from i on, d of them left. -/
def knotErr (t : Tab) (i : Nat) : Int :=
  if ¬ (0 ≤ (kn t i).l ∧ (kn t i).l ≤ 1000000 ∧ 0 ≤ (kn t i).v ∧ (kn t i).v ≤ 1000000000) then 2
  else if i = 0 then 0
  else if (kn t i).l ≤ (kn t (i - 1)).l ∨ (kn t i).v ≤ (kn t (i - 1)).v then 9
  else if 1 < i ∧ ((kn t i).v - (kn t (i - 1)).v) * ((kn t (i - 1)).l - (kn t (i - 2)).l) < ((kn t (i - 1)).v - (kn t (i - 2)).v) * ((kn t i).l - (kn t (i - 1)).l) then 22
  else 0

def knotsErr (t : Tab) : Nat → Nat → Int × Int
  | 0, _ => (0, 0)
  | d + 1, i => if knotErr t i = 0 then knotsErr t d (i + 1) else ((i : Int), knotErr t i)

/-- The index and the error of a table. -/
def tabErr (t : Tab) : Int × Int :=
  if t.length < 2 then (0, 10) else if 10 < t.length then (0, 8) else knotsErr t t.length 0

/-- A valid table. -/
structure Ok (t : Tab) : Prop where
  two : 2 ≤ t.length
  ten : t.length ≤ 10
  range : ∀ i, i < t.length → 0 ≤ (kn t i).l ∧ (kn t i).l ≤ 1000000 ∧ 0 ≤ (kn t i).v ∧ (kn t i).v ≤ 1000000000
  up : ∀ i, 1 ≤ i → i < t.length → (kn t (i - 1)).l < (kn t i).l ∧ (kn t (i - 1)).v < (kn t i).v
  wide : ∀ i, 2 ≤ i → i < t.length → ((kn t (i - 1)).v - (kn t (i - 2)).v) * ((kn t i).l - (kn t (i - 1)).l) ≤ ((kn t i).v - (kn t (i - 1)).v) * ((kn t (i - 1)).l - (kn t (i - 2)).l)

theorem knotErr_zero {t : Tab} {i : Nat} (h : knotErr t i = 0) : (0 ≤ (kn t i).l ∧ (kn t i).l ≤ 1000000 ∧ 0 ≤ (kn t i).v ∧ (kn t i).v ≤ 1000000000) ∧
    (1 ≤ i → (kn t (i - 1)).l < (kn t i).l ∧ (kn t (i - 1)).v < (kn t i).v) ∧
    (2 ≤ i → ((kn t (i - 1)).v - (kn t (i - 2)).v) * ((kn t i).l - (kn t (i - 1)).l) ≤ ((kn t i).v - (kn t (i - 1)).v) * ((kn t (i - 1)).l - (kn t (i - 2)).l)) := by
  unfold knotErr at h
  split at h
  · simp at h
  · rename_i h1
    split at h
    · exact ⟨Decidable.not_not.1 h1, by omega, by omega⟩
    · split at h
      · simp at h
      · rename_i h3
        split at h
        · simp at h
        · rename_i h4
          refine ⟨Decidable.not_not.1 h1, fun _ => by omega, fun h2 => ?_⟩
          have := not_and.1 h4 (by omega)
          exact Int.not_lt.1 this

theorem knotsErr_zero {t : Tab} : ∀ (d i : Nat), (knotsErr t d i).2 = 0 → ∀ j, i ≤ j → j < i + d → knotErr t j = 0
  | 0, i, _, j, h1, h2 => by omega
  | d + 1, i, h, j, h1, h2 => by
    unfold knotsErr at h
    split at h
    · rename_i he
      by_cases hj : j = i
      · rw [hj]; exact he
      · exact knotsErr_zero d (i + 1) h j (by omega) (by omega)
    · rename_i he
      exact absurd h he

theorem ok_of {t : Tab} (h : (tabErr t).2 = 0) : Ok t := by
  unfold tabErr at h
  split at h
  · simp at h
  · split at h
    · simp at h
    · have := fun j => knotsErr_zero t.length 0 h j
      exact ⟨by omega, by omega, fun i hi => (knotErr_zero (this i (by omega) (by omega))).1, fun i h1 hi => (knotErr_zero (this i (by omega) (by omega))).2.1 h1, fun i h1 hi => (knotErr_zero (this i (by omega) (by omega))).2.2 h1⟩

theorem Ok.mono {t : Tab} (h : Ok t) {i j : Nat} (hij : i ≤ j) (hj : j < t.length) : (kn t i).l ≤ (kn t j).l ∧ (kn t i).v ≤ (kn t j).v := by
  induction j with
  | zero => rw [show i = 0 by omega]; exact ⟨Int.le_refl _, Int.le_refl _⟩
  | succ j ih =>
    by_cases e : i = j + 1
    · rw [e]; exact ⟨Int.le_refl _, Int.le_refl _⟩
    · have h1 := ih (by omega) (by omega)
      have h2 := h.up (j + 1) (by omega) hj
      rw [Nat.add_sub_cancel] at h2
      omega

theorem Ok.lt {t : Tab} (h : Ok t) {i j : Nat} (hij : i < j) (hj : j < t.length) : (kn t i).l < (kn t j).l ∧ (kn t i).v < (kn t j).v := by
  have h1 := h.mono (i := i) (j := j - 1) (by omega) (by omega)
  have h2 := h.up j (by omega) hj
  omega

/-- The first piece that reaches up to a volume (by its upper knot), and that to a level. -/
def byV (t : Tab) (v : Int) : Nat := 1 + (t.drop 1).findIdx fun k => decide (v ≤ k.v)
def byL (t : Tab) (l : Int) : Nat := 1 + (t.drop 1).findIdx fun k => decide (l ≤ k.l)

theorem drop_kn (t : Tab) (i : Nat) (h : i < (t.drop 1).length) : (t.drop 1)[i] = kn t (i + 1) := by
  simp only [List.length_drop] at h
  rw [List.getElem_drop]
  unfold kn
  rw [List.getD_eq_getElem?_getD, List.getElem?_eq_getElem (by omega)]
  simp [Nat.add_comm]

structure At (t : Tab) (f : Knot → Int) (x : Int) (i : Nat) : Prop where
  one : 1 ≤ i
  lt : i < t.length
  reach : x ≤ f (kn t i)
  first : ∀ j, 1 ≤ j → j < i → f (kn t j) < x

theorem at_find {t : Tab} (f : Knot → Int) (x : Int) (h2 : 2 ≤ t.length) (h : x ≤ f (kn t (t.length - 1))) : At t f x (1 + (t.drop 1).findIdx fun k => decide (x ≤ f k)) := by
  have hlt : (t.drop 1).findIdx (fun k => decide (x ≤ f k)) < (t.drop 1).length := by
    rw [List.findIdx_lt_length]
    have hl : t.length - 2 < (t.drop 1).length := by simp; omega
    refine ⟨(t.drop 1)[t.length - 2], List.getElem_mem hl, ?_⟩
    rw [drop_kn t _ hl, show t.length - 2 + 1 = t.length - 1 by omega]
    simpa using h
  refine ⟨by omega, by rw [List.length_drop] at hlt; omega, ?_, fun j h1 hj => ?_⟩
  · have := List.findIdx_getElem (w := hlt)
    rw [drop_kn t _ hlt] at this
    rw [Nat.add_comm]
    simpa using this
  · have := List.not_of_lt_findIdx (p := fun k => decide (x ≤ f k)) (xs := t.drop 1) (i := j - 1) (by omega)
    rw [drop_kn t _ (by omega), show j - 1 + 1 = j by omega] at this
    simpa using this

theorem At.unique {t : Tab} {f : Knot → Int} {x : Int} {i j : Nat} (h : At t f x i) (k : At t f x j) : i = j := by
  rcases Nat.lt_trichotomy i j with h1 | h1 | h1
  · have := k.first i h.one h1; have := h.reach; omega
  · exact h1
  · have := h.first j k.one h1; have := k.reach; omega

theorem Ok.atV {t : Tab} (h : Ok t) {v : Int} (hv : v ≤ (kn t (t.length - 1)).v) : At t Knot.v v (byV t v) := at_find Knot.v v h.two hv
theorem Ok.atL {t : Tab} (h : Ok t) {l : Int} (hl : l ≤ (kn t (t.length - 1)).l) : At t Knot.l l (byL t l) := at_find Knot.l l h.two hl

end Go.Num
