/- TABLES: levels and volumes of a lake: floors and ceilings meet, in plain numbers. -/
import Derived.Test.YtfjnpgbjcgjecaaPevTabs
namespace Go.Num

def cdiv (n d : Int) : Int := -((-n) / d)

theorem cdiv_le {n d x : Int} (hd : 0 < d) : cdiv n d ≤ x ↔ n ≤ x * d := by
  unfold cdiv
  have : -((-n) / d) ≤ x ↔ -x ≤ (-n) / d := by omega
  rw [this, Int.le_ediv_iff_mul_le hd, Int.neg_mul]
  omega
theorem le_div {n d x : Int} (hd : 0 < d) : x ≤ n / d ↔ x * d ≤ n := Int.le_ediv_iff_mul_le hd
theorem cdiv_eq {n d : Int} (hd : 0 < d) : n / d + min (n % d) 1 = cdiv n d := by
  have h1 := Int.mul_ediv_add_emod n d
  have h2 := Int.emod_nonneg n (Int.ne_of_gt hd)
  have h3 := Int.emod_lt_of_pos n hd
  apply Int.le_antisymm
  · by_cases h : n % d = 0
    · rw [h]
      have : n / d ≤ cdiv n d := by
        rcases Int.lt_or_le (cdiv n d) (n / d) with h4 | h4
        · have : cdiv n d ≤ n / d - 1 := by omega
          rw [cdiv_le hd, Int.sub_mul, Int.one_mul] at this
          rw [Int.mul_comm] at h1
          omega
        · exact h4
      omega
    · have : n / d + 1 ≤ cdiv n d := by
        rcases Int.lt_or_le (cdiv n d) (n / d + 1) with h4 | h4
        · have : cdiv n d ≤ n / d := by omega
          rw [cdiv_le hd] at this
          rw [Int.mul_comm] at h1
          omega
        · exact h4
      omega
  · rw [cdiv_le hd, Int.add_mul]
    rw [Int.mul_comm] at h1
    by_cases h : n % d = 0
    · rw [h, show min (0 : Int) 1 = 0 by decide, Int.zero_mul]; omega
    · rw [show min (n % d) 1 = 1 by omega, Int.one_mul]; omega

theorem cdiv_mul_self {n d : Int} (hd : 0 < d) : cdiv (n * d) d = n := by
  unfold cdiv
  rw [← Int.neg_mul, Int.mul_ediv_cancel _ (Int.ne_of_gt hd)]
  omega

/-- Of the piece below knot i: its height and volume. -/
def hgt (t : Tab) (i : Nat) : Int := (kn t i).l - (kn t (i - 1)).l
def vol (t : Tab) (i : Nat) : Int := (kn t i).v - (kn t (i - 1)).v

theorem Ok.pos {t : Tab} (h : Ok t) {i : Nat} (h1 : 1 ≤ i) (hi : i < t.length) : 0 < hgt t i ∧ 0 < vol t i := by
  have := h.up i h1 hi
  unfold hgt vol; omega

def lvN (t : Tab) (v : Int) : Int := (v - (kn t (byV t v - 1)).v) * hgt t (byV t v)
def lvLo (t : Tab) (v : Int) : Int := (kn t (byV t v - 1)).l + lvN t v / vol t (byV t v)
def lvHi (t : Tab) (v : Int) : Int := (kn t (byV t v - 1)).l + cdiv (lvN t v) (vol t (byV t v))
def vlN (t : Tab) (l : Int) : Int := (l - (kn t (byL t l - 1)).l) * vol t (byL t l)
def vlLo (t : Tab) (l : Int) : Int := (kn t (byL t l - 1)).v + vlN t l / hgt t (byL t l)
def vlHi (t : Tab) (l : Int) : Int := (kn t (byL t l - 1)).v + cdiv (vlN t l) (hgt t (byL t l))

def IsV (t : Tab) (v : Int) : Prop := (kn t 0).v ≤ v ∧ v ≤ (kn t (t.length - 1)).v
def IsL (t : Tab) (l : Int) : Prop := (kn t 0).l ≤ l ∧ l ≤ (kn t (t.length - 1)).l

section
variable {t : Tab} (h : Ok t)
include h

theorem Ok.pieceV {v : Int} (hv : IsV t v) : 1 ≤ byV t v ∧ byV t v < t.length ∧ (kn t (byV t v - 1)).v ≤ v ∧ v ≤ (kn t (byV t v)).v := by
  have a := h.atV hv.2
  refine ⟨a.one, a.lt, ?_, a.reach⟩
  by_cases e : byV t v = 1
  · rw [e]; exact hv.1
  · exact Int.le_of_lt (a.first _ (by have := a.one; omega) (by have := a.one; omega))
theorem Ok.pieceL {l : Int} (hl : IsL t l) : 1 ≤ byL t l ∧ byL t l < t.length ∧ (kn t (byL t l - 1)).l ≤ l ∧ l ≤ (kn t (byL t l)).l := by
  have a := h.atL hl.2
  refine ⟨a.one, a.lt, ?_, a.reach⟩
  by_cases e : byL t l = 1
  · rw [e]; exact hl.1
  · exact Int.le_of_lt (a.first _ (by have := a.one; omega) (by have := a.one; omega))

theorem Ok.lvN_bounds {v : Int} (hv : IsV t v) : 0 ≤ lvN t v ∧ lvN t v ≤ hgt t (byV t v) * vol t (byV t v) := by
  obtain ⟨h1, h2, h3, h4⟩ := h.pieceV hv
  obtain ⟨p1, p2⟩ := h.pos h1 h2
  refine ⟨Int.mul_nonneg (by omega) (by omega), ?_⟩
  unfold lvN
  rw [Int.mul_comm (hgt t _)]
  exact Int.mul_le_mul_of_nonneg_right (by unfold vol; omega) (by omega)
theorem Ok.vlN_bounds {l : Int} (hl : IsL t l) : 0 ≤ vlN t l ∧ vlN t l ≤ hgt t (byL t l) * vol t (byL t l) := by
  obtain ⟨h1, h2, h3, h4⟩ := h.pieceL hl
  obtain ⟨p1, p2⟩ := h.pos h1 h2
  refine ⟨Int.mul_nonneg (by omega) (by omega), ?_⟩
  unfold vlN
  exact Int.mul_le_mul_of_nonneg_right (by unfold hgt; omega) (by omega)

/-- Levels lie between the knots of their piece. -/
theorem Ok.lv_between {v : Int} (hv : IsV t v) : (kn t (byV t v - 1)).l ≤ lvLo t v ∧ lvLo t v ≤ lvHi t v ∧ lvHi t v ≤ (kn t (byV t v)).l := by
  obtain ⟨h1, h2, h3, h4⟩ := h.pieceV hv
  obtain ⟨p1, p2⟩ := h.pos h1 h2
  obtain ⟨b1, b2⟩ := h.lvN_bounds hv
  have e1 : 0 ≤ lvN t v / vol t (byV t v) := Int.ediv_nonneg b1 (by omega)
  have e2 : cdiv (lvN t v) (vol t (byV t v)) ≤ hgt t (byV t v) := (cdiv_le p2).2 b2
  have e3 := cdiv_eq (n := lvN t v) p2
  have e4 := Int.emod_nonneg (lvN t v) (Int.ne_of_gt p2)
  unfold lvLo lvHi
  unfold hgt at e2
  omega
theorem Ok.vl_between {l : Int} (hl : IsL t l) : (kn t (byL t l - 1)).v ≤ vlLo t l ∧ vlLo t l ≤ vlHi t l ∧ vlHi t l ≤ (kn t (byL t l)).v := by
  obtain ⟨h1, h2, h3, h4⟩ := h.pieceL hl
  obtain ⟨p1, p2⟩ := h.pos h1 h2
  obtain ⟨b1, b2⟩ := h.vlN_bounds hl
  have e1 : 0 ≤ vlN t l / hgt t (byL t l) := Int.ediv_nonneg b1 (by omega)
  have e2 : cdiv (vlN t l) (hgt t (byL t l)) ≤ vol t (byL t l) := (cdiv_le p1).2 (by rw [Int.mul_comm]; exact b2)
  have e3 := cdiv_eq (n := vlN t l) p1
  have e4 := Int.emod_nonneg (vlN t l) (Int.ne_of_gt p1)
  unfold vlLo vlHi
  unfold vol at e2
  omega

theorem Ok.lv_level {v : Int} (hv : IsV t v) : IsL t (lvLo t v) ∧ IsL t (lvHi t v) := by
  obtain ⟨h1, h2, h3, h4⟩ := h.pieceV hv
  obtain ⟨a, b, c⟩ := h.lv_between hv
  have k1 := h.mono (i := 0) (j := byV t v - 1) (by omega) (by omega)
  have k2 := h.mono (i := byV t v) (j := t.length - 1) (by omega) (by omega)
  unfold IsL; omega
theorem Ok.vl_volume {l : Int} (hl : IsL t l) : IsV t (vlLo t l) ∧ IsV t (vlHi t l) := by
  obtain ⟨h1, h2, h3, h4⟩ := h.pieceL hl
  obtain ⟨a, b, c⟩ := h.vl_between hl
  have k1 := h.mono (i := 0) (j := byL t l - 1) (by omega) (by omega)
  have k2 := h.mono (i := byL t l) (j := t.length - 1) (by omega) (by omega)
  unfold IsV; omega

/-- A level is at most that of a volume exactly if its volume is at most that one. -/
theorem Ok.galois_lo {v l : Int} (hv : IsV t v) (hl : IsL t l) : l ≤ lvLo t v ↔ vlHi t l ≤ v := by
  obtain ⟨i1, i2, i3, i4⟩ := h.pieceV hv
  obtain ⟨j1, j2, j3, j4⟩ := h.pieceL hl
  obtain ⟨pi1, pi2⟩ := h.pos i1 i2
  obtain ⟨pj1, pj2⟩ := h.pos j1 j2
  obtain ⟨a1, a2, a3⟩ := h.lv_between hv
  obtain ⟨b1, b2, b3⟩ := h.vl_between hl
  have aV := h.atV hv.2
  have aL := h.atL hl.2
  rcases Nat.lt_trichotomy (byL t l) (byV t v) with e | e | e
  · have m := h.mono (i := byL t l) (j := byV t v - 1) (by omega) (by omega)
    omega
  · have r1 : l ≤ lvLo t v ↔ (l - (kn t (byV t v - 1)).l) * vol t (byV t v) ≤ lvN t v := by
      rw [← le_div pi2]; unfold lvLo; omega
    have r2 : vlHi t l ≤ v ↔ vlN t l ≤ (v - (kn t (byL t l - 1)).v) * hgt t (byL t l) := by
      rw [← cdiv_le pj1]; unfold vlHi; omega
    rw [r1, r2]
    unfold lvN vlN
    rw [e]
  · have m := h.mono (i := byV t v) (j := byL t l - 1) (by omega) (by omega)
    have f := aL.first (byL t l - 1) (by omega) (by omega)
    have g : 0 < cdiv (vlN t l) (hgt t (byL t l)) := by
      rcases Int.lt_or_le 0 (cdiv (vlN t l) (hgt t (byL t l))) with g | g
      · exact g
      · rw [cdiv_le pj1, Int.zero_mul] at g
        have : 0 < vlN t l := Int.mul_pos (by omega) pj2
        omega
    unfold vlHi
    omega

theorem Ok.galois_hi {v l : Int} (hv : IsV t v) (hl : IsL t l) : lvHi t v ≤ l ↔ v ≤ vlLo t l := by
  obtain ⟨i1, i2, i3, i4⟩ := h.pieceV hv
  obtain ⟨j1, j2, j3, j4⟩ := h.pieceL hl
  obtain ⟨pi1, pi2⟩ := h.pos i1 i2
  obtain ⟨pj1, pj2⟩ := h.pos j1 j2
  obtain ⟨a1, a2, a3⟩ := h.lv_between hv
  obtain ⟨b1, b2, b3⟩ := h.vl_between hl
  have aV := h.atV hv.2
  have aL := h.atL hl.2
  rcases Nat.lt_trichotomy (byV t v) (byL t l) with e | e | e
  · have m := h.mono (i := byV t v) (j := byL t l - 1) (by omega) (by omega)
    omega
  · have r1 : lvHi t v ≤ l ↔ lvN t v ≤ (l - (kn t (byV t v - 1)).l) * vol t (byV t v) := by
      rw [← cdiv_le pi2]; unfold lvHi; omega
    have r2 : v ≤ vlLo t l ↔ (v - (kn t (byL t l - 1)).v) * hgt t (byL t l) ≤ vlN t l := by
      rw [← le_div pj1]; unfold vlLo; omega
    rw [r1, r2]
    unfold lvN vlN
    rw [e]
  · have m := h.mono (i := byL t l) (j := byV t v - 1) (by omega) (by omega)
    have f := aV.first (byV t v - 1) (by omega) (by omega)
    have g : 0 < cdiv (lvN t v) (vol t (byV t v)) := by
      rcases Int.lt_or_le 0 (cdiv (lvN t v) (vol t (byV t v))) with g | g
      · exact g
      · rw [cdiv_le pi2, Int.zero_mul] at g
        have : 0 < lvN t v := Int.mul_pos (by omega) pi1
        omega
    unfold lvHi
    omega

theorem Ok.lv_mono {v w : Int} (hv : IsV t v) (hw : IsV t w) (hvw : v ≤ w) : lvLo t v ≤ lvLo t w ∧ lvHi t v ≤ lvHi t w := by
  obtain ⟨a1, a2⟩ := h.lv_level hv
  obtain ⟨b1, b2⟩ := h.lv_level hw
  have g1 := (h.galois_lo hv a1).1 (Int.le_refl _)
  have g2 := (h.galois_lo hw a1).2 (by omega)
  have g3 := (h.galois_hi hw b2).1 (Int.le_refl _)
  have g4 := (h.galois_hi hv b2).2 (by omega)
  exact ⟨g2, g4⟩

theorem Ok.lv_encloses {v : Int} (hv : IsV t v) : vlLo t (lvLo t v) ≤ v ∧ v ≤ vlHi t (lvHi t v) := by
  obtain ⟨a1, a2⟩ := h.lv_level hv
  have g1 := (h.galois_lo hv a1).1 (Int.le_refl _)
  have g3 := (h.galois_hi hv a2).1 (Int.le_refl _)
  have b := (h.vl_between a1).2.1
  have c := (h.vl_between a2).2.1
  omega

theorem Ok.byV_knot {i : Nat} (hi : i < t.length) : byV t (kn t i).v = max i 1 := by
  have hv : (kn t i).v ≤ (kn t (t.length - 1)).v := (h.mono (i := i) (j := t.length - 1) (by omega) (by omega)).2
  have h2 := h.two
  refine (h.atV hv).unique ⟨by omega, by omega, ?_, fun j h1 hj => (h.lt (by omega) hi).2⟩
  exact (h.mono (by omega) (by omega)).2
theorem Ok.byL_knot {i : Nat} (hi : i < t.length) : byL t (kn t i).l = max i 1 := by
  have hv : (kn t i).l ≤ (kn t (t.length - 1)).l := (h.mono (i := i) (j := t.length - 1) (by omega) (by omega)).1
  have h2 := h.two
  refine (h.atL hv).unique ⟨by omega, by omega, ?_, fun j h1 hj => (h.lt (by omega) hi).1⟩
  exact (h.mono (by omega) (by omega)).1

theorem Ok.lv_knot {i : Nat} (hi : i < t.length) : lvLo t (kn t i).v = (kn t i).l ∧ lvHi t (kn t i).v = (kn t i).l := by
  have e := h.byV_knot hi
  have h2 := h.two
  unfold lvLo lvHi lvN
  rw [e]
  by_cases h0 : i = 0
  · subst h0
    have : ((kn t 0).v - (kn t (max 0 1 - 1)).v) * hgt t (max 0 1) = 0 * vol t (max 0 1) := by simp
    have p := (h.pos (i := max 0 1) (by omega) (by omega)).2
    rw [this, Int.mul_ediv_cancel _ (Int.ne_of_gt p), cdiv_mul_self p]
    simp
  · rw [show max i 1 = i by omega]
    have p := (h.pos (i := i) (by omega) (by omega)).2
    rw [show ((kn t i).v - (kn t (i - 1)).v) * hgt t i = hgt t i * vol t i by unfold vol; rw [Int.mul_comm], Int.mul_ediv_cancel _ (Int.ne_of_gt p), cdiv_mul_self p]
    unfold hgt; omega
theorem Ok.vl_knot {i : Nat} (hi : i < t.length) : vlLo t (kn t i).l = (kn t i).v ∧ vlHi t (kn t i).l = (kn t i).v := by
  have e := h.byL_knot hi
  have h2 := h.two
  unfold vlLo vlHi vlN
  rw [e]
  by_cases h0 : i = 0
  · subst h0
    have : ((kn t 0).l - (kn t (max 0 1 - 1)).l) * vol t (max 0 1) = 0 * hgt t (max 0 1) := by simp
    have p := (h.pos (i := max 0 1) (by omega) (by omega)).1
    rw [this, Int.mul_ediv_cancel _ (Int.ne_of_gt p), cdiv_mul_self p]
    simp
  · rw [show max i 1 = i by omega]
    have p := (h.pos (i := i) (by omega) (by omega)).1
    rw [show ((kn t i).l - (kn t (i - 1)).l) * vol t i = vol t i * hgt t i by unfold hgt; rw [Int.mul_comm], Int.mul_ediv_cancel _ (Int.ne_of_gt p), cdiv_mul_self p]
    unfold vol; omega

end
end Go.Num
