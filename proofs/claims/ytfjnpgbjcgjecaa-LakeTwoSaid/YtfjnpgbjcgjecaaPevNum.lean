/- WHOLE NUMBERS BY DIGITS: plain lemmas, without a program. -/
namespace Go.Num




/-- The number that digits tell, the lowest one first. -/
def val : List Nat → Nat
  | [] => 0
  | d :: l => d + 1000000000 * val l

/-- The digits of a number, without zeros at the end. -/
def digs (n : Nat) : List Nat := if h : n = 0 then [] else n % 1000000000 :: digs (n / 1000000000)
termination_by n
decreasing_by exact Nat.div_lt_self (Nat.pos_of_ne_zero h) (by decide)

/-- All below the base. -/
def Dig (l : List Nat) : Prop := ∀ d ∈ l, d < 1000000000

theorem digs_zero : digs 0 = [] := by unfold digs; simp
theorem digs_pos {n : Nat} (h : n ≠ 0) : digs n = n % 1000000000 :: digs (n / 1000000000) := by rw [digs.eq_1, dif_neg h]

theorem val_digs (n : Nat) : val (digs n) = n := by
  induction n using Nat.strongRecOn with
  | _ n ih =>
    by_cases h : n = 0
    · subst h; rw [digs_zero]; rfl
    · rw [digs_pos h, val, ih _ (Nat.div_lt_self (Nat.pos_of_ne_zero h) (by decide))]
      omega

theorem dig_digs (n : Nat) : Dig (digs n) := by
  induction n using Nat.strongRecOn with
  | _ n ih =>
    by_cases h : n = 0
    · subst h; rw [digs_zero]; intro d hd; cases hd
    · rw [digs_pos h]
      intro d hd
      rcases List.mem_cons.1 hd with rfl | hd
      · exact Nat.mod_lt _ (by decide)
      · exact ih _ (Nat.div_lt_self (Nat.pos_of_ne_zero h) (by decide)) d hd

theorem Dig.tail {d : Nat} {l : List Nat} (h : Dig (d :: l)) : Dig l := fun x hx => h x (List.mem_cons_of_mem _ hx)
theorem Dig.head {d : Nat} {l : List Nat} (h : Dig (d :: l)) : d < 1000000000 := h d (List.mem_cons_self ..)
theorem Dig.append {l m : List Nat} (h : Dig l) (k : Dig m) : Dig (l ++ m) := fun x hx => (List.mem_append.1 hx).elim (h x) (k x)
theorem Dig.take {l : List Nat} (h : Dig l) (n : Nat) : Dig (l.take n) := fun x hx => h x (List.mem_of_mem_take hx)
theorem Dig.getD {l : List Nat} (h : Dig l) (i : Nat) : l.getD i 0 < 1000000000 := by
  rw [List.getD_eq_getElem?_getD]
  cases hh : l[i]? with
  | none => decide
  | some x => exact h x (List.mem_of_getElem? hh)
theorem Dig.set {l : List Nat} (h : Dig l) (i : Nat) {x : Nat} (hx : x < 1000000000) : Dig (l.set i x) := fun y hy => by
  rcases List.mem_or_eq_of_mem_set hy with hy | rfl
  · exact h y hy
  · exact hx

theorem val_lt {l : List Nat} (h : Dig l) : val l < 1000000000 ^ l.length := by
  induction l with
  | nil => simp [val]
  | cons d l ih =>
    have := ih h.tail
    have hd := h.head
    rw [val, List.length_cons, Nat.pow_succ]
    calc d + 1000000000 * val l < 1000000000 + 1000000000 * val l := by omega
      _ = 1000000000 * (val l + 1) := by rw [Nat.mul_add]; omega
      _ ≤ 1000000000 * 1000000000 ^ l.length := Nat.mul_le_mul_left _ this
      _ = 1000000000 ^ l.length * 1000000000 := Nat.mul_comm _ _

theorem val_append (l m : List Nat) : val (l ++ m) = val l + 1000000000 ^ l.length * val m := by
  induction l with
  | nil => simp [val]
  | cons d l ih =>
    rw [List.cons_append, val, val, ih, List.length_cons, Nat.pow_succ, Nat.mul_add, Nat.add_assoc, Nat.mul_comm (1000000000 ^ l.length) 1000000000, Nat.mul_assoc]

/-- Without a zero at the end the digits are those of the number. -/
theorem eq_digs {l : List Nat} (h : Dig l) (hz : l ≠ [] → l.getD (l.length - 1) 0 ≠ 0) : l = digs (val l) := by
  induction l with
  | nil => rw [val, digs_zero]
  | cons d l ih =>
    have hne : val (d :: l) ≠ 0 := by
      have key : ∀ (l : List Nat), l ≠ [] → l.getD (l.length - 1) 0 ≠ 0 → val l ≠ 0 := by
        intro l
        induction l with
        | nil => intro h; exact absurd rfl h
        | cons d l ih =>
          intro _ hz
          cases l with
          | nil => simp [val] at hz ⊢; exact hz
          | cons e l =>
            have := ih (by simp) (by simpa using hz)
            rw [val]; omega
      exact key _ (by simp) (hz (by simp))
    rw [digs_pos hne, val]
    have hd := h.head
    have h1 : (d + 1000000000 * val l) % 1000000000 = d := by omega
    have h2 : (d + 1000000000 * val l) / 1000000000 = val l := by omega
    rw [h1, h2]
    congr 1
    exact ih h.tail fun hl => by
      cases l with
      | nil => exact absurd rfl hl
      | cons e l => simpa using hz (by simp)

theorem val_take_succ (l : List Nat) (n : Nat) : val (l.take (n + 1)) = val (l.take n) + 1000000000 ^ n * l.getD n 0 := by
  induction l generalizing n with
  | nil => simp [val]
  | cons d l ih =>
    cases n with
    | zero => simp [val]
    | succ n =>
      rw [List.take_succ_cons, val, ih, List.take_succ_cons, val, Nat.pow_succ]
      simp only [List.getD_cons_succ]
      rw [Nat.mul_add, Nat.add_assoc, Nat.mul_comm (1000000000 ^ n) 1000000000, Nat.mul_assoc]

theorem val_drop (l : List Nat) (n : Nat) : val (l.drop n) = l.getD n 0 + 1000000000 * val (l.drop (n + 1)) := by
  induction l generalizing n with
  | nil => simp [val]
  | cons d l ih =>
    cases n with
    | zero => simp [val]
    | succ n => simpa using ih n

theorem val_set (l : List Nat) (n x : Nat) (h : n < l.length) : val (l.set n x) + 1000000000 ^ n * l.getD n 0 = val l + 1000000000 ^ n * x := by
  induction l generalizing n with
  | nil => simp at h
  | cons d l ih =>
    cases n with
    | zero => simp [val]; omega
    | succ n =>
      have := ih n (by simpa using h)
      simp only [List.set_cons_succ, val, List.getD_cons_succ, Nat.pow_succ]
      have e1 : 1000000000 ^ n * 1000000000 * l.getD n 0 = 1000000000 * (1000000000 ^ n * l.getD n 0) := by rw [Nat.mul_comm (1000000000 ^ n) 1000000000, Nat.mul_assoc]
      have e2 : 1000000000 ^ n * 1000000000 * x = 1000000000 * (1000000000 ^ n * x) := by rw [Nat.mul_comm (1000000000 ^ n) 1000000000, Nat.mul_assoc]
      rw [e1, e2]
      have e3 := congrArg (1000000000 * ·) this
      simp only [Nat.mul_add] at e3
      omega

theorem val_replicate (n : Nat) : val (List.replicate n 0) = 0 := by
  induction n with
  | zero => rfl
  | succ n ih => rw [List.replicate_succ, val, ih]
theorem dig_replicate (n : Nat) : Dig (List.replicate n 0) := fun d hd => by
  rw [List.eq_of_mem_replicate hd]; decide

theorem digs_len (n k : Nat) (h : n < 1000000000 ^ k) : (digs n).length ≤ k := by
  induction k generalizing n with
  | zero => rw [show n = 0 by simpa using h, digs_zero]; decide
  | succ k ih =>
    by_cases hn : n = 0
    · subst hn; rw [digs_zero]; simp
    · rw [digs_pos hn, List.length_cons]
      have : n / 1000000000 < 1000000000 ^ k := by
        rw [Nat.div_lt_iff_lt_mul (by decide)]
        rwa [Nat.pow_succ] at h
      have := ih _ this
      omega

/-- The digits down from the top tell which number is greater. -/
theorem digs_len_lt {a b : Nat} (h : (digs a).length < (digs b).length) : a < b := by
  rcases Nat.lt_or_ge a b with h' | h'
  · exact h'
  · have h1 : b < 1000000000 ^ (digs a).length := Nat.lt_of_le_of_lt h' (by have := val_lt (dig_digs a); rwa [val_digs] at this)
    have := digs_len b _ h1
    omega

theorem val_lt_of {l m : List Nat} (hl : Dig l) (hm : Dig m) (hlen : l.length = m.length) {n : Nat} (hn : n < l.length) (hlt : l.getD n 0 < m.getD n 0) (he : ∀ i, n < i → l.getD i 0 = m.getD i 0) : val l < val m := by
  induction l generalizing m n with
  | nil => simp at hn
  | cons d l ih =>
    cases m with
    | nil => simp at hlen
    | cons e m =>
      have hd := hl.head
      have he' := hm.head
      cases n with
      | zero =>
        have hlm : l = m := by
          apply List.ext_getElem (by simpa using hlen)
          intro i h1 h2
          have := he (i + 1) (by omega)
          simpa [List.getD_eq_getElem?_getD, h1, h2] using this
        subst hlm
        simp only [List.getD_cons_zero] at hlt
        simp only [val]; omega
      | succ n =>
        have := ih hl.tail hm.tail (by simpa using hlen) (n := n) (by simpa using hn) (by simpa using hlt) (fun i hi => by simpa using he (i + 1) (by omega))
        simp only [val]
        have h3 : 1000000000 * (val l + 1) ≤ 1000000000 * val m := Nat.mul_le_mul_left _ this
        rw [Nat.mul_add] at h3
        omega

end Go.Num
