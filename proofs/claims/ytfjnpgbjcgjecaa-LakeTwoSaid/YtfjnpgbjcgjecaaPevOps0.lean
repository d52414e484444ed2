/- THE MACHINE'S OPERATIONS, RUN: over types that the tables tell rightly. -/
import Derived.Test.YtfjnpgbjcgjecaaPevSim2
import Derived.Laws.Entries
namespace Go.Pev
open Go.RowKit
set_option linter.unusedVariables false
set_option linter.unusedSimpArgs false

def aggDesc : TypeDesc → Bool
  | .struct _ => true
  | .array _ _ => true
  | _ => false

structure TyOk (P : Program) (t : Nat) (ti : TI) : Prop where
  info : ∃ i z, P.info? t = some i ∧ i.size = ti.size ∧ i.bytes = ti.bytes ∧ i.zero = some z ∧ ∀ C, Reps C ti.zero z.cells.toList
  und : P.underlying t = some ti.desc
  agg : ti.agg = aggDesc ti.desc
  lk : ti.lk.length = ti.size
  zl : ti.zero.length = ti.size

section
variable {P : Program} {t : Nat} {ti : TI}

theorem TyOk.run_sizeOf (h : TyOk P t ti) (w : World) : (sizeOf t).run P w = .ok ti.size w := by
  obtain ⟨i, z, h1, h2, _⟩ := h.info
  simp [sizeOf, typeInfo, h1, h2]

theorem TyOk.run_und (h : TyOk P t ti) (w : World) : (underlying t).run P w = .ok ti.desc w := Go.run_underlying h.und w

theorem TyOk.run_isAgg (h : TyOk P t ti) (w : World) : (isAgg t).run P w = .ok ti.agg w := by
  unfold isAgg
  rw [Sem.run_bind, h.run_und w, h.agg]
  cases ti.desc <;> rfl

theorem TyOk.run_bytes (h : TyOk P t ti) (w : World) : ((fun i => i.bytes) <$> typeInfo t).run P w = .ok ti.bytes w := by
  obtain ⟨i, z, h1, h2, h3, _⟩ := h.info
  simp [typeInfo, h1, h3]

theorem addr_add (B o j : Nat) : (⟨B, o, none⟩ : Addr).add j = ⟨B, o + j, none⟩ := by
  unfold Addr.add
  split
  · rename_i h; simp [h]
  · rfl

/-- Part of some cells, as the machine's value. -/
def partVal (ti : TI) (us : List Value) (off : Nat) : Value := if ti.agg then .agg ((us.drop off).take ti.size).toArray else us.getD off undef

theorem TyOk.run_loadVar (h : TyOk P t ti) {w : World} {B o off : Nat} {us : List Value} (hu : ∀ j u, us[j]? = some u → w.cell? ⟨B, o + j, none⟩ = some u)
    (hf : if ti.agg then off + ti.size ≤ us.length else off < us.length) : (loadVar t ⟨B, o + off, none⟩).run P w = .ok (partVal ti us off) w := by
  unfold loadVar
  rw [Sem.run_bind, h.run_isAgg w]
  simp only [Result.andThen_ok]
  cases hq : ti.agg with
  | true =>
    rw [hq] at hf
    simp only [if_true] at hf
    simp only [if_true, Sem.run_bind, h.run_sizeOf w, Result.andThen_ok]
    have hl : ((us.drop off).take ti.size).length = ti.size := by simp; omega
    have := run_loadCells_list (P := P) w ⟨B, o + off, none⟩ ((us.drop off).take ti.size) (fun j v hv => by
      rw [addr_add, Nat.add_assoc]
      simp only [List.getElem?_take, List.getElem?_drop] at hv
      split at hv
      · exact hu _ _ hv
      · cases hv)
    rw [hl] at this
    rw [this]
    simp [partVal, hq]
  | false =>
    rw [hq] at hf
    simp only [Bool.false_eq_true, if_false] at hf
    have hc := hu off us[off] (by simp [hf])
    simp [hc, partVal, hq, hf]

theorem Rep.part {C : Ctx} {cs : List PV} {us : List Value} (hr : Reps C cs us) {off : Nat} (hf : partFits ti cs off = true) : Rep C (partPV ti cs off) (partVal ti us off) := by
  have hl := hr.length
  unfold partPV partVal
  unfold partFits at hf
  cases hq : ti.agg with
  | true =>
    simp only [if_true]
    exact ⟨_, rfl, by simpa using (hr.drop off).take ti.size⟩
  | false =>
    rw [hq] at hf
    simp at hf
    simp only [Bool.false_eq_true, if_false]
    have : us[off]? = some us[off] := by simp [hl, hf]
    have := hr.get off _ this
    simpa [hl, hf] using this

theorem partFits_us {C : Ctx} {cs : List PV} {us : List Value} (hr : Reps C cs us) {off : Nat} (hf : partFits ti cs off = true) : if ti.agg then off + ti.size ≤ us.length else off < us.length := by
  have hl := hr.length
  unfold partFits at hf
  cases hq : ti.agg <;> simp [hq] at hf ⊢ <;> omega

theorem TyOk.run_part (h : TyOk P t ti) {w : World} {us : Array Value} {off : Nat} (hf : if ti.agg then off + ti.size ≤ us.toList.length else off < us.toList.length) :
    (part t us off).run P w = .ok (partVal ti us.toList off) w := by
  unfold part
  rw [Sem.run_bind, h.run_isAgg w]
  simp only [Result.andThen_ok]
  cases hq : ti.agg with
  | true =>
    simp only [if_true, Sem.run_bind, h.run_sizeOf w, Result.andThen_ok, Sem.run_pure, partVal, hq]
    congr 2
    apply Array.ext'
    simp [Array.toList_extract, List.extract_eq_take_drop, Nat.add_sub_cancel_left]
  | false =>
    rw [hq] at hf
    simp at hf
    simp [partVal, hq, hf]

end

/-! ### what does not lean on variables -/
structure Ctx.Le0 (C C' : Ctx) : Prop where
  st : ∀ B o, C.st B o → C'.st B o
  cell : ∀ B o, C.st B o → C'.w.cell? ⟨B, o, none⟩ = C.w.cell? ⟨B, o, none⟩

theorem Ctx.Le0.reads {C C' : Ctx} (h : C.Le0 C') {B o : Nat} {us : List Value} (r : C.reads B o us) : C'.reads B o us := fun j u hj => by
  obtain ⟨h1, h2⟩ := r j u hj
  exact ⟨(h.cell _ _ h2).trans h1, h.st _ _ h2⟩

theorem conf_plain {l : LK} {p : PV} (h : conf l p = true) : plain p = true := by
  cases l <;> cases p <;> simp_all [conf, plain]

theorem confs_plains : ∀ {ls : List LK} {cs : List PV}, confs ls cs = true → plains cs = true
  | [], [], _ => rfl
  | [], _ :: _, h => by simp [confs] at h
  | _ :: _, [], h => by simp [confs] at h
  | l :: ls, c :: cs, h => by
    simp only [confs, Bool.and_eq_true] at h
    simp [plains, conf_plain h.1, confs_plains h.2]

mutual
theorem Rep.mono0 {C C' : Ctx} (h : C.Le0 C') : (p : PV) → (v : Value) → plain p = true → Rep C p v → Rep C' p v
  | .undef, v, hp, r => by simp [plain] at hp
  | .bool b, v, hp, r => r
  | .int k n, v, hp, r => r
  | .str s, v, hp, r => r
  | .nilp, v, hp, r => r
  | .ptr d off, v, hp, r => by simp [plain] at hp
  | .rp cells off, v, hp, r => by
    obtain ⟨B, o, us, h1, h2, h3⟩ := r
    exact ⟨B, o, us, h1, Reps.mono0 h cells us (by simpa [plain] using hp) h2, h.reads h3⟩
  | .sl tag ls xs, v, hp, r => by
    obtain ⟨A, cap, rows, h1, h2, h3, h4, h5, h6, h7⟩ := r
    refine ⟨A, cap, rows, h1, h2, RepRows.mono0 h xs rows (fun x hx => confs_plains (h6 x hx)) h3, h4, ?_, h6, fun d k e => ?_⟩
    · rcases h5 with h5 | ⟨B, o, h5, h8⟩
      · exact .inl h5
      · exact .inr ⟨B, o, h5, h.reads h8⟩
    · rw [e] at hp; simp [plain] at hp
  | .row d, v, hp, r => by simp [plain] at hp
  | .rowp d i off, v, hp, r => by simp [plain] at hp
  | .agg cells, v, hp, r => by
    obtain ⟨us, h1, h2⟩ := r
    exact ⟨us, h1, Reps.mono0 h cells _ (by simpa [plain] using hp) h2⟩
  | .tup vs, v, hp, r => by simp [plain] at hp
  | .fn f caps, v, hp, r => by
    obtain ⟨us, h1, h2⟩ := r
    exact ⟨us, h1, Reps.mono0 h caps _ (by simpa [plain] using hp) h2⟩
termination_by structural p => p
theorem Reps.mono0 {C C' : Ctx} (h : C.Le0 C') : (ps : List PV) → (us : List Value) → plains ps = true → Reps C ps us → Reps C' ps us
  | [], us, hp, r => r
  | p :: ps, us, hp, r => by
    simp only [plains, Bool.and_eq_true] at hp
    obtain ⟨u, ws, h1, h2, h3⟩ := r
    exact ⟨u, ws, h1, Rep.mono0 h p u hp.1 h2, Reps.mono0 h ps ws hp.2 h3⟩
termination_by structural ps => ps
theorem RepRows.mono0 {C C' : Ctx} (h : C.Le0 C') : (ps : List (List PV)) → (us : List (List Value)) → (∀ x ∈ ps, plains x = true) → RepRows C ps us → RepRows C' ps us
  | [], us, hp, r => r
  | p :: ps, us, hp, r => by
    obtain ⟨u, ws, h1, h2, h3⟩ := r
    exact ⟨u, ws, h1, Reps.mono0 h p u (hp p (List.mem_cons_self ..)) h2, RepRows.mono0 h ps ws (fun x hx => hp x (List.mem_cons_of_mem _ hx)) h3⟩
termination_by structural ps => ps
end

end Go.Pev
