/- THE LAWS' ARGUMENTS as plain data: readings. -/
import Derived.Test.YtfjnpgbjcgjecaaPevArgs2
import Derived.Test.YtfjnpgbjcgjecaaPevSRead
namespace Go.PevTab
open Go.Pev Go.Num Go.RowKit

section
variable {p : PV}

theorem rows_R {xs : List (List PV)} (h : ∀ y ∈ xs, confs [.int .i64, .int .i64, .int .i64] y = true) : ∃ t : List Reading, xs = t.map cR :=
  rows_of (c := cR) (fun y hy => by
    obtain ⟨a, b, c, rfl⟩ := int3 hy
    exact ⟨⟨a, b, c⟩, rfl⟩) h

theorem arg_readings (h : confT (envF 1000000) 53 p = true) (hf : fit p) : ∃ l : List Reading, p = vReadings l := by
  obtain ⟨x, rfl⟩ := conf_sl (confT_leaf (l := .sl [.int .i64, .int .i64, .int .i64]) (t := 53) (ti := ty53) (by kernel_rfl) (by kernel_rfl) (by kernel_rfl) h)
  obtain ⟨t, rfl⟩ := rows_R hf.2.1
  exact ⟨t, rfl⟩
theorem arg_gauges (h : confT (envF 1000000) 73 p = true) (hf : fit p) : ∃ (l : List Reading) (v : Int), p = .agg [.sl none [.int .i64, .int .i64, .int .i64] (l.map cR), .int .i64 v] := by
  obtain ⟨cs, rfl, h⟩ := confT_agg (t := 73) (ti := ty73) (by kernel_rfl) (by kernel_rfl) h
  obtain ⟨q, qs, rfl, h1, h⟩ := confs_cons (show confs [.sl [.int .i64, .int .i64, .int .i64], .int .i64] cs = true from h)
  obtain ⟨q2, qs2, rfl, h2, h⟩ := confs_cons h
  obtain ⟨x, rfl⟩ := conf_sl h1
  obtain ⟨v, rfl⟩ := conf_int h2
  rw [confs_nil h] at *
  obtain ⟨t, rfl⟩ := rows_R hf.1.2.1
  exact ⟨t, v, rfl⟩

end
end Go.PevTab
