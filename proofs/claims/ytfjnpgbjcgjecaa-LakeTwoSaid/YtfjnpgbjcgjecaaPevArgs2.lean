/- THE LAWS' ARGUMENTS as plain data: this seat's types. -/
import Derived.Test.YtfjnpgbjcgjecaaPevArgs
import Derived.Test.YtfjnpgbjcgjecaaPevSLake3
namespace Go.PevTab
open Go.Pev Go.Num Go.RowKit

section
variable {p : PV}

theorem arg_int (h : confT (envF 1000000) 3 p = true) (hf : fit p) : ∃ n, p = .int .i64 n ∧ I64 n := by
  obtain ⟨n, rfl⟩ := conf_int (confT_leaf (l := .int .i64) (t := 3) (ti := ty3) (by kernel_rfl) (by kernel_rfl) (by kernel_rfl) h)
  exact ⟨n, rfl, i64_of hf⟩

theorem rows_K {xs : List (List PV)} (h : ∀ y ∈ xs, confs [.int .i64, .int .i64] y = true) : ∃ t : Tab, xs = t.map cK :=
  rows_of (c := cK) (fun y hy => by
    obtain ⟨a, b, rfl⟩ := int2 hy
    exact ⟨⟨a, b⟩, rfl⟩) h
theorem rows_F {xs : List (List PV)} (h : ∀ y ∈ xs, confs [.int .i64, .int .i64, .int .i64] y = true) : ∃ t : List Flow, xs = t.map cF :=
  rows_of (c := cF) (fun y hy => by
    obtain ⟨a, b, c, rfl⟩ := int3 hy
    exact ⟨⟨a, b, c⟩, rfl⟩) h
theorem rows_I {xs : List (List PV)} (h : ∀ y ∈ xs, confs [.int .i64] y = true) : ∃ t : List Int, xs = t.map cI :=
  rows_of (c := cI) (fun y hy => by
    obtain ⟨a, rfl⟩ := int1 hy
    exact ⟨a, rfl⟩) h

theorem arg_tab (h : confT (envF 1000000) 24 p = true) (hf : fit p) : ∃ t, p = vTab t := by
  obtain ⟨cs, rfl, h⟩ := confT_agg (t := 24) (ti := ty24) (by kernel_rfl) (by kernel_rfl) h
  obtain ⟨q, qs, rfl, h1, h2⟩ := confs_cons (show confs [.sl [.int .i64, .int .i64]] cs = true from h)
  obtain ⟨x, rfl⟩ := conf_sl h1
  rw [confs_nil h2] at *
  obtain ⟨t, rfl⟩ := rows_K hf.1.2.1
  exact ⟨t, rfl⟩

theorem arg_pair (h : confT (envF 1000000) 26 p = true) (hf : fit p) : ∃ q, p = vPair q := by
  obtain ⟨cs, rfl, h⟩ := confT_agg (t := 26) (ti := ty26) (by kernel_rfl) (by kernel_rfl) h
  obtain ⟨q, qs, rfl, h1, h⟩ := confs_cons (show confs [.sl [.int .i64, .int .i64], .sl [.int .i64, .int .i64], .int .i64] cs = true from h)
  obtain ⟨q2, qs2, rfl, h2, h⟩ := confs_cons h
  obtain ⟨q3, qs3, rfl, h3, h⟩ := confs_cons h
  obtain ⟨x, rfl⟩ := conf_sl h1
  obtain ⟨y, rfl⟩ := conf_sl h2
  obtain ⟨r, rfl⟩ := conf_int h3
  rw [confs_nil h] at *
  obtain ⟨t, rfl⟩ := rows_K hf.1.2.1
  obtain ⟨u, rfl⟩ := rows_K hf.2.1.2.1
  exact ⟨⟨t, u, r⟩, rfl⟩

theorem arg_vols (h : confT (envF 1000000) 28 p = true) : ∃ s, p = vVols s := by
  obtain ⟨cs, rfl, h⟩ := confT_agg (t := 28) (ti := ty28) (by kernel_rfl) (by kernel_rfl) h
  obtain ⟨a, b, rfl⟩ := int2 (show confs [.int .i64, .int .i64] cs = true from h)
  exact ⟨⟨a, b⟩, rfl⟩
theorem arg_flow (h : confT (envF 1000000) 42 p = true) : ∃ s, p = vFlow s := by
  obtain ⟨cs, rfl, h⟩ := confT_agg (t := 42) (ti := ty42) (by kernel_rfl) (by kernel_rfl) h
  obtain ⟨a, b, c, rfl⟩ := int3 (show confs [.int .i64, .int .i64, .int .i64] cs = true from h)
  exact ⟨⟨a, b, c⟩, rfl⟩
theorem arg_flows (h : confT (envF 1000000) 82 p = true) (hf : fit p) : ∃ l : List Flow, p = .sl none [.int .i64, .int .i64, .int .i64] (l.map cF) := by
  obtain ⟨x, rfl⟩ := conf_sl (confT_leaf (l := .sl [.int .i64, .int .i64, .int .i64]) (t := 82) (ti := ty82) (by kernel_rfl) (by kernel_rfl) (by kernel_rfl) h)
  obtain ⟨t, rfl⟩ := rows_F hf.2.1
  exact ⟨t, rfl⟩
theorem arg_ints (h : confT (envF 1000000) 52 p = true) (hf : fit p) : ∃ l : List Int, p = .sl none [.int .i64] (l.map cI) := by
  obtain ⟨x, rfl⟩ := conf_sl (confT_leaf (l := .sl [.int .i64]) (t := 52) (ti := ty52) (by kernel_rfl) (by kernel_rfl) (by kernel_rfl) h)
  obtain ⟨t, rfl⟩ := rows_I hf.2.1
  exact ⟨t, rfl⟩

end
end Go.PevTab
