/- THE LAWS' ARGUMENTS as plain data. -/
import Derived.Test.YtfjnpgbjcgjecaaPevRow
import Derived.Test.YtfjnpgbjcgjecaaPevTabOk
import Derived.Test.YtfjnpgbjcgjecaaPevSpec
namespace Go.PevTab
open Go.Pev Go.Num Go.RowKit

theorem confTs_cons {E : Env} {t : Nat} {ts : List Nat} {vs : List PV} (h : confTs E (t :: ts) vs = true) : ∃ v ws, vs = v :: ws ∧ confT E t v = true ∧ confTs E ts ws = true := by
  cases vs with
  | nil => simp [confTs] at h
  | cons v ws => rw [confTs, Bool.and_eq_true] at h; exact ⟨v, ws, rfl, h.1, h.2⟩
theorem confTs_nil {E : Env} {vs : List PV} (h : confTs E [] vs = true) : vs = [] := by
  cases vs with
  | nil => rfl
  | cons v ws => simp [confTs] at h

theorem confT_agg {E : Env} {t : Nat} {ti : TI} (ht : E.ty t = some ti) (ha : ti.agg = true) {v : PV} (h : confT E t v = true) : ∃ cs, v = .agg cs ∧ confs ti.lk cs = true := by
  unfold confT at h
  rw [ht] at h
  simp only [ha, if_true] at h
  split at h
  · exact ⟨_, rfl, h⟩
  · cases h
theorem confT_leaf {E : Env} {t : Nat} {ti : TI} {l : LK} (ht : E.ty t = some ti) (ha : ti.agg = false) (hl : ti.lk = [l]) {v : PV} (h : confT E t v = true) : conf l v = true := by
  unfold confT at h
  rw [ht] at h
  simpa [ha, hl] using h

theorem conf_int {k : IntKind} {v : PV} (h : conf (.int k) v = true) : ∃ n, v = .int k n := by
  cases v <;> simp [conf] at h
  subst h
  exact ⟨_, rfl⟩
theorem conf_sl {ls : List LK} {v : PV} (h : conf (.sl ls) v = true) : ∃ xs, v = .sl none ls xs := by
  cases v <;> simp [conf] at h
  rename_i tag ls' xs
  obtain ⟨h1, h2⟩ := h
  cases tag with
  | none => exact ⟨xs, by rw [sameLK_eq _ _ h2]⟩
  | some _ => simp at h1

theorem i64_of {n : Int} (h : fit (.int .i64 n)) : I64 n := by
  simp only [fit, Lit.wf, IntKind.min, IntKind.max, IntKind.signed, IntKind.bits, Bool.and_eq_true, decide_eq_true_eq, if_true] at h
  simp at h
  exact ⟨by omega, by omega⟩

/-- Rows of cells that conform are rows of plain data. -/
theorem rows_of {α : Type} {ls : List LK} {c : α → List PV} (hc : ∀ y, confs ls y = true → ∃ a, y = c a) : ∀ {xs : List (List PV)}, (∀ y ∈ xs, confs ls y = true) → ∃ l : List α, xs = l.map c
  | [], _ => ⟨[], rfl⟩
  | x :: xs, h => by
    obtain ⟨a, rfl⟩ := hc x (h x (List.mem_cons_self ..))
    obtain ⟨l, rfl⟩ := rows_of hc fun y hy => h y (List.mem_cons_of_mem _ hy)
    exact ⟨a :: l, rfl⟩

theorem int1 {y : List PV} (h : confs [.int .i64] y = true) : ∃ a, y = [.int .i64 a] := by
  obtain ⟨p, ps, rfl, h1, h2⟩ := confs_cons h
  obtain ⟨a, rfl⟩ := conf_int h1
  rw [confs_nil h2]
  exact ⟨a, rfl⟩
theorem int2 {y : List PV} (h : confs [.int .i64, .int .i64] y = true) : ∃ a b, y = [.int .i64 a, .int .i64 b] := by
  obtain ⟨p, ps, rfl, h1, h2⟩ := confs_cons h
  obtain ⟨a, rfl⟩ := conf_int h1
  obtain ⟨b, rfl⟩ := int1 h2
  exact ⟨a, b, rfl⟩
theorem int3 {y : List PV} (h : confs [.int .i64, .int .i64, .int .i64] y = true) : ∃ a b c, y = [.int .i64 a, .int .i64 b, .int .i64 c] := by
  obtain ⟨p, ps, rfl, h1, h2⟩ := confs_cons h
  obtain ⟨a, rfl⟩ := conf_int h1
  obtain ⟨b, c, rfl⟩ := int2 h2
  exact ⟨a, b, c, rfl⟩

end Go.PevTab
