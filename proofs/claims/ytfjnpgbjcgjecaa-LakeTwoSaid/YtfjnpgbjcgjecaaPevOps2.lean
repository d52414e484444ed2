/- EACH OPERATION OF THE MACHINE DOES WHAT THE EVALUATOR TELLS: numbers, fields, elements, stores. -/
import Derived.Test.YtfjnpgbjcgjecaaPevOps
import Derived.Laws.Strings
namespace Go.Pev
open Go.RowKit
set_option linter.unusedVariables false
set_option linter.unusedSimpArgs false

section
variable {P : Program} {E : Env} {call : Nat → List PV → Option PV} {base n : Nat} {w0 : Start} {g : Gh} {s : St} {a : Act} {w : World} {o : Oper} {e : Eff}

/-- '==' on a struct type, cell by cell. -/
def EqOk (P : Program) (t : Nat) (ls : List LK) : Prop :=
  ∀ (C : Ctx) (xs ys : List PV) (us vs : Array Value) (b : Bool) (x y : Operand) (w : World), confs ls xs = true → confs ls ys = true → Reps C xs us.toList → Reps C ys vs.toList → eqCells xs ys = some b →
    (do eqGuard .eql t x y (.agg us) (.agg vs); binOp .eql t (.agg us) (.agg vs) : Sem Value).run P w = .ok (.bool b) w ∧
    (do eqGuard .neq t x y (.agg us) (.agg vs); binOp .neq t (.agg us) (.agg vs) : Sem Value).run P w = .ok (.bool (!b)) w

theorem guardK_some {R : Type} {b : Bool} {x : Option R} {r : R} (h : guardK b x = some r) : b = true ∧ x = some r := by
  cases b
  · cases h
  · exact ⟨rfl, h⟩

theorem run_intOp {op : BinOp} {k : IntKind} {x y : Int} {p : PV} (h : intOp op k x y (fun v => some v) = some p) (t : Nat) (w : World) :
    ∃ v, (binOp op t (.int k x) (.int k y)).run P w = .ok v w ∧ ∀ C, Rep C p v := by
  cases op <;> simp only [intOp] at h
  case add => cases h; exact ⟨_, by simp [binOp, Op.intArith], fun _ => rfl⟩
  case sub => cases h; exact ⟨_, by simp [binOp, Op.intArith], fun _ => rfl⟩
  case mul => cases h; exact ⟨_, by simp [binOp, Op.intArith], fun _ => rfl⟩
  case quo => obtain ⟨h1, h2⟩ := guardK_some h; cases h2; simp at h1; exact ⟨_, by simp [binOp, Op.intDiv, h1], fun _ => rfl⟩
  case rem => obtain ⟨h1, h2⟩ := guardK_some h; cases h2; simp at h1; exact ⟨_, by simp [binOp, Op.intDiv, h1], fun _ => rfl⟩
  case eql => cases h; exact ⟨.bool (x == y), by simp [binOp, Op.intCmp], fun _ => rfl⟩
  case neq => cases h; exact ⟨.bool (x != y), by simp [binOp, Op.intCmp], fun _ => rfl⟩
  case lss => cases h; exact ⟨_, by simp [binOp, Op.intCmp], fun _ => rfl⟩
  case leq => cases h; exact ⟨_, by simp [binOp, Op.intCmp], fun _ => rfl⟩
  case gtr => cases h; exact ⟨_, by simp [binOp, Op.intCmp], fun _ => rfl⟩
  case geq => cases h; exact ⟨_, by simp [binOp, Op.intCmp], fun _ => rfl⟩
  case and => cases h; exact ⟨_, by simp [binOp, Op.intBits], fun _ => rfl⟩
  case or => cases h; exact ⟨_, by simp [binOp, Op.intBits], fun _ => rfl⟩
  case shl => obtain ⟨h1, h2⟩ := guardK_some h; cases h2; simp at h1; exact ⟨_, by simp [binOp, Op.shift, show ¬ y < 0 by omega], fun _ => rfl⟩
  case shr => obtain ⟨h1, h2⟩ := guardK_some h; cases h2; simp at h1; exact ⟨_, by simp [binOp, Op.shift, show ¬ y < 0 by omega], fun _ => rfl⟩
  all_goals cases h

theorem run_shift {op : BinOp} {k k' : IntKind} {x y : Int} {p : PV} (hop : op = .shl ∨ op = .shr) (h : intOp op k x y (fun v => some v) = some p) (t : Nat) (w : World) :
    ∃ v, (binOp op t (.int k x) (.int k' y)).run P w = .ok v w ∧ ∀ C, Rep C p v := by
  rcases hop with rfl | rfl
  · simp only [intOp] at h
    obtain ⟨h1, h2⟩ := guardK_some h; cases h2; simp at h1; exact ⟨_, by simp [binOp, Op.shift, show ¬ y < 0 by omega], fun _ => rfl⟩
  · simp only [intOp] at h
    obtain ⟨h1, h2⟩ := guardK_some h; cases h2; simp at h1; exact ⟨_, by simp [binOp, Op.shift, show ¬ y < 0 by omega], fun _ => rfl⟩

theorem run_eqGuard_plain (op : BinOp) (t : Nat) (x y : Operand) (u v : Value) (w : World) (hu : ∀ cs, u ≠ .agg cs) (hn : u ≠ .nilIface) : (eqGuard op t x y u v).run P w = .ok () w := by
  unfold eqGuard
  cases op <;> cases u <;> simp_all

theorem run_equalIn_bool (d : Nat) {t : Nat} (i j : Bool) (ht : P.underlying t = some .bool) (w : World) : (Op.equalIn (d + 1) t (.bool i) (.bool j)).run P w = .ok (i == j) w := by
  simp only [Op.equalIn, Sem.run_bind, Go.run_underlying ht w, Result.andThen_ok]
  rfl

theorem run_eql_bool {t : Nat} (i j : Bool) (ht : P.underlying t = some .bool) (w : World) : (binOp .eql t (.bool i) (.bool j)).run P w = .ok (.bool (i == j)) w := by
  have := run_equalIn_bool (P := P) 9999 i j ht w
  simp only [binOp, Op.equal, Op.maxDepth, Sem.run_bind]
  rw [this]; rfl
theorem run_neq_bool {t : Nat} (i j : Bool) (ht : P.underlying t = some .bool) (w : World) : (binOp .neq t (.bool i) (.bool j)).run P w = .ok (.bool (!(i == j))) w := by
  have := run_equalIn_bool (P := P) 9999 i j ht w
  simp only [binOp, Op.equal, Op.maxDepth, Sem.run_bind]
  rw [this]; rfl

theorem run_eql_str {t : Nat} (i j : ByteArray) (w : World) : (binOp .eql t (.string i) (.string j)).run P w = .ok (.bool (i.data.toList == j.data.toList)) w := by
  simp [binOp, Op.stringOp, ByteArray.toList_eq]
theorem run_neq_str {t : Nat} (i j : ByteArray) (w : World) : (binOp .neq t (.string i) (.string j)).run P w = .ok (.bool (!(i.data.toList == j.data.toList))) w := by
  simp [binOp, Op.stringOp, ByteArray.toList_eq]

theorem act_binOp (T : ∀ t ti, E.ty t = some ti → TyOk P t ti) (TE : ∀ t ti, E.eq t = true → E.ty t = some ti → EqOk P t ti.lk) (h : SimG base w0 n g s a w) {op : BinOp} {t yt : Nat} {x y : Operand} (ho : o.op = .binOp op t x y yt) (ha : actBinOp E call s op t x y some = some e) :
    Good P o a w (Sim base w0 n (upd s o.dst e)) := by
  have hx := operand_rep h x
  have hy := operand_rep h y
  have key : ∃ p v, e = .val p ∧ (execOp a.eval o).run P w = .ok (.value v) w ∧ Rep (ctx s w g) p v := by
    unfold actBinOp binK at ha
    have run_of : ∀ {v : Value}, (eqGuard op t x y (a.eval x) (a.eval y)).run P w = .ok () w → (binOp op t (a.eval x) (a.eval y)).run P w = .ok v w → (execOp a.eval o).run P w = .ok (.value v) w := fun h1 h2 => by
      simp [execOp, ho, h1, h2]
    split at ha
    · rename_i k i k' j h1 h2
      rw [h1] at hx; rw [h2] at hy
      have hx : a.eval x = .int k i := hx
      have hy : a.eval y = .int k' j := hy
      have hg : (eqGuard op t x y (a.eval x) (a.eval y)).run P w = .ok () w := run_eqGuard_plain _ _ _ _ _ _ _ (by rw [hx]; simp) (by rw [hx]; simp)
      have fin : ∀ {op' : BinOp} {q : IntKind}, op' = op → (∃ p, intOp op' k i j (fun v => some v) = some p ∧ e = .val p ∧ ∃ v, (binOp op t (a.eval x) (a.eval y)).run P w = .ok v w ∧ ∀ C, Rep C p v) →
          ∃ p v, e = .val p ∧ (execOp a.eval o).run P w = .ok (.value v) w ∧ Rep (ctx s w g) p v := by
        rintro _ _ _ ⟨p, _, he, v, hv, hr⟩
        exact ⟨p, v, he, run_of hg hv, hr _⟩
      have nat : ∀ {op' : BinOp}, intOp op' k i j (fun v => some (Eff.val v)) = some e → ∃ p, intOp op' k i j (fun v => some v) = some p ∧ e = .val p := by
        intro op' hh
        have : intOp op' k i j (fun v => some (Eff.val v)) = (intOp op' k i j (fun v => some v)).bind fun v => some (Eff.val v) := by rw [intOp_nat]; rfl
        rw [this] at hh
        obtain ⟨p, hp, he⟩ := Option.bind_eq_some_iff.1 hh
        cases he
        exact ⟨p, hp, rfl⟩
      split at ha
      · obtain ⟨p, hp, he⟩ := nat ha
        obtain ⟨v, hv, hr⟩ := run_shift (P := P) (k' := k') (.inl rfl) hp t w
        exact ⟨p, v, he, run_of hg (by rw [hx, hy]; exact hv), hr _⟩
      · obtain ⟨p, hp, he⟩ := nat ha
        obtain ⟨v, hv, hr⟩ := run_shift (P := P) (k' := k') (.inr rfl) hp t w
        exact ⟨p, v, he, run_of hg (by rw [hx, hy]; exact hv), hr _⟩
      · split at ha
        · rename_i hk
          subst hk
          obtain ⟨p, hp, he⟩ := nat ha
          obtain ⟨v, hv, hr⟩ := run_intOp (P := P) hp t w
          exact ⟨p, v, he, run_of hg (by rw [hx, hy]; exact hv), hr _⟩
        · cases ha
    · rename_i i j h1 h2
      rw [h1] at hx; rw [h2] at hy
      have hx : a.eval x = .bool i := hx
      have hy : a.eval y = .bool j := hy
      have hg : (eqGuard op t x y (a.eval x) (a.eval y)).run P w = .ok () w := run_eqGuard_plain _ _ _ _ _ _ _ (by rw [hx]; simp) (by rw [hx]; simp)
      split at ha
      · rename_i ti hti
        have ht := (T t ti hti).und
        split at ha
        · rename_i hd
          cases ha
          rw [hd] at ht
          exact ⟨_, .bool (i == j), rfl, run_of hg (by rw [hx, hy]; exact run_eql_bool i j ht w), rfl⟩
        · rename_i hd
          cases ha
          rw [hd] at ht
          exact ⟨_, .bool (!(i == j)), rfl, run_of hg (by rw [hx, hy]; exact run_neq_bool i j ht w), rfl⟩
        · cases ha
      · cases ha
    · rename_i i j h1 h2
      rw [h1] at hx; rw [h2] at hy
      have hx : a.eval x = .string i := hx
      have hy : a.eval y = .string j := hy
      have hg : (eqGuard op t x y (a.eval x) (a.eval y)).run P w = .ok () w := run_eqGuard_plain _ _ _ _ _ _ _ (by rw [hx]; simp) (by rw [hx]; simp)
      split at ha
      · cases ha
        exact ⟨_, .bool (i.data.toList == j.data.toList), rfl, run_of hg (by rw [hx, hy]; exact run_eql_str i j w), rfl⟩
      · cases ha
        exact ⟨_, .bool (!(i.data.toList == j.data.toList)), rfl, run_of hg (by rw [hx, hy]; exact run_neq_str i j w), rfl⟩
      · cases ha
    · rename_i xs ys h1 h2
      rw [h1] at hx; rw [h2] at hy
      obtain ⟨us, hx, hxr⟩ := hx
      obtain ⟨vs, hy, hyr⟩ := hy
      split at ha
      · rename_i ti hti
        obtain ⟨heq, ha1⟩ := guardK_some ha
        obtain ⟨hc1, ha2⟩ := guardK_some ha1
        obtain ⟨hc2, ha3⟩ := guardK_some ha2
        clear ha ha1 ha2
        have ha := ha3
        clear ha3
        split at ha
        · rename_i b hb
          cases ha
          have := (TE t ti heq hti _ xs ys us vs b x y w hc1 hc2 hxr hyr hb).1
          exact ⟨_, .bool b, rfl, by simp only [execOp, ho, hx, hy]; rw [Sem.run_bind, this]; rfl, rfl⟩
        · rename_i b hb
          cases ha
          have := (TE t ti heq hti _ xs ys us vs b x y w hc1 hc2 hxr hyr hb).2
          exact ⟨_, .bool (!b), rfl, by simp only [execOp, ho, hx, hy]; rw [Sem.run_bind, this]; rfl, rfl⟩
        · cases ha
      · cases ha
    · cases ha
  obtain ⟨p, v, rfl, h1, h2⟩ := key
  exact good_val h h1 h2

theorem act_unOp (h : SimG base w0 n g s a w) {op : UnOp} {t : Nat} {x : Operand} (ho : o.op = .unOp op t x) (ha : actUnOp E call s op x some = some e) : Good P o a w (Sim base w0 n (upd s o.dst e)) := by
  have hx := operand_rep h x
  unfold actUnOp unK at ha
  split at ha
  · rename_i k i hi
    rw [hi] at hx
    have hx : a.eval x = .int k i := hx
    cases ha
    exact good_val h (v := .int k (k.wrap (0 - i))) (by simp [execOp, ho, hx, Op.unary, Op.intArith]) rfl
  · rename_i b hb
    rw [hb] at hx
    have hx : a.eval x = .bool b := hx
    cases ha
    exact good_val h (v := .bool (!b)) (by simp [execOp, ho, hx, Op.unary]) rfl
  · cases ha

theorem act_extract (h : SimG base w0 n g s a w) {x : Operand} {i : Nat} (ho : o.op = .extract x i) (ha : actExtract E call s x i some = some e) : Good P o a w (Sim base w0 n (upd s o.dst e)) := by
  have hx := operand_rep h x
  unfold actExtract at ha
  split at ha
  · rename_i vs hv
    rw [hv] at hx
    obtain ⟨us, hx, hr⟩ := hx
    split at ha
    · rename_i hi
      cases ha
      have hl := hr.length
      have hlt : i < us.size := by simp at hl; omega
      have hget : us.toList[i]? = some us[i] := by simp [hlt]
      exact good_val h (v := us[i]) (by simp [execOp, ho, hx, Instr.extract, hlt]) (hr.get i _ hget)
    · cases ha
  · cases ha

theorem act_nilCheck (h : SimG base w0 n g s a w) {x : Operand} (ho : o.op = .nilCheck x) (ha : actNilCheck E call s x some = some e) : Good P o a w (Sim base w0 n (upd s o.dst e)) := by
  have hx := operand_rep h x
  unfold actNilCheck at ha
  split at ha
  · rename_i d off hv
    rw [hv] at hx
    have hx0 := hx
    obtain ⟨B, _, hx⟩ := hx
    cases ha
    exact good_val h (v := a.eval x) (by simp [execOp, ho, hx]) hx0
  · rename_i cs off hv
    rw [hv] at hx
    have hx0 := hx
    obtain ⟨B, q, us, hx, _⟩ := hx
    cases ha
    exact good_val h (v := a.eval x) (by simp [execOp, ho, hx]) hx0
  · cases ha

theorem act_fieldAddr (T : ∀ t ti, E.ty t = some ti → TyOk P t ti) (h : SimG base w0 n g s a w) {t f : Nat} {x : Operand} (ho : o.op = .fieldAddr t x f) (ha : actFieldAddr E call s t x f some = some e) : Good P o a w (Sim base w0 n (upd s o.dst e)) := by
  have hx := operand_rep h x
  unfold actFieldAddr at ha
  split at ha
  · cases ha
  · rename_i ti hti
    have ht := T t ti hti
    split at ha
    · cases ha
    · rename_i off tf hf
      unfold fieldOff at hf
      split at hf
      · rename_i fs hfs
        obtain ⟨fd, hfd, hq⟩ := Option.map_eq_some_iff.1 hf
        simp only [Prod.mk.injEq] at hq
        obtain ⟨rfl, rfl⟩ := hq
        split at ha
        · cases ha
        · rename_i tif htif
          have htf := T _ tif htif
          split at ha
          · cases ha
          · rename_i hnz
            have hrun : ∀ {B q : Nat}, a.eval x = .pointer (some ⟨B, q, none⟩) → (execOp a.eval o).run P w = .ok (.value (.pointer (some ⟨B, q + fd.offset, none⟩))) w := by
              intro B q hq
              have hu := ht.run_und w
              rw [hfs] at hu
              simp [execOp, ho, hq, Instr.fieldAt, hu, hfd, Instr.sureAddr, fieldPlace, htf.run_sizeOf w, hnz, addr_add]
            split at ha
            · rename_i d q hd
              rw [hd] at hx
              obtain ⟨B, hB, hv⟩ := hx
              cases ha
              exact good_val h (hrun hv) ⟨B, hB, rfl⟩
            · rename_i cs q hd
              rw [hd] at hx
              obtain ⟨B, m, us, hv, hr, hc⟩ := hx
              cases ha
              exact good_val h (hrun hv) ⟨B, m, us, by rw [Nat.add_assoc], hr, hc⟩
            · rename_i d i q hd
              rw [hd] at hx
              obtain ⟨B, hB, hv, hi⟩ := hx
              cases ha
              exact good_val h (hrun hv) ⟨B, hB, by rw [Nat.add_assoc], hi⟩
            · cases ha
      · cases hf

theorem act_field (T : ∀ t ti, E.ty t = some ti → TyOk P t ti) (h : SimG base w0 n g s a w) {t f : Nat} {x : Operand} (ho : o.op = .field t x f) (ha : actField E call s t x f some = some e) : Good P o a w (Sim base w0 n (upd s o.dst e)) := by
  have hx := operand_rep h x
  unfold actField at ha
  split at ha
  · cases ha
  · rename_i ti hti
    have ht := T t ti hti
    split at ha
    · cases ha
    · rename_i off tf hf
      unfold fieldOff at hf
      split at hf
      · rename_i fs hfs
        obtain ⟨fd, hfd, hq⟩ := Option.map_eq_some_iff.1 hf
        simp only [Prod.mk.injEq] at hq
        obtain ⟨rfl, rfl⟩ := hq
        split at ha
        · rename_i tif cs htif hd
          have htf := T _ tif htif
          rw [hd] at hx
          obtain ⟨us, hv, hr⟩ := hx
          split at ha
          · rename_i hft
            cases ha
            have hu := ht.run_und w
            rw [hfs] at hu
            exact good_val h (v := partVal tif us.toList fd.offset) (by simp [execOp, ho, hv, Instr.field, hu, hfd, asAgg, htf.run_part (partFits_us hr hft)]) (Rep.part hr hft)
          · cases ha
        · cases ha
      · cases hf

theorem indexK_some {R : Type} {p : PV} {m : Nat} {κ : Nat → Option R} {r : R} (h : indexK p m κ = some r) : ∃ k i, p = .int k i ∧ 0 ≤ i ∧ i < m ∧ κ i.toNat = some r := by
  unfold indexK at h
  split at h
  · rename_i k i
    obtain ⟨h1, h⟩ := guardK_some h
    obtain ⟨h2, h⟩ := guardK_some h
    exact ⟨k, i, rfl, of_decide_eq_true h1, of_decide_eq_true h2, h⟩
  · cases h

theorem act_indexAddr (T : ∀ t ti, E.ty t = some ti → TyOk P t ti) (h : SimG base w0 n g s a w) {t : Nat} {x i : Operand} (ho : o.op = .indexAddr t x i) (ha : actIndexAddr E call s t x i some = some e) : Good P o a w (Sim base w0 n (upd s o.dst e)) := by
  have hx := operand_rep h x
  have hi := operand_rep h i
  unfold actIndexAddr at ha
  split at ha
  · cases ha
  · rename_i ti hti
    have ht := T t ti hti
    have hu := ht.run_und w
    split at ha
    · rename_i el tag ls xs hd hxd
      rw [hxd] at hx
      obtain ⟨A, cap, rows, hv, hcap, hrr, hrl, hmem, hcf, _⟩ := hx
      split at ha
      · rename_i te hte
        have hTe := T el te hte
        split at ha
        · rename_i hsz
          obtain ⟨k, j, hj, h0, hlt, ha⟩ := indexK_some ha
          cases ha
          rw [hj] at hi
          have hi : a.eval i = .int k j := hi
          rw [hd] at hu
          have hjr : j.toNat < rows.length := by rw [hrr.length]; omega
          rcases hmem with rfl | ⟨B, q, rfl, hrd⟩
          · simp at hjr
          · have hjr' : j < (rows.length : Int) := by omega
            refine good_val h (v := .pointer (some ⟨B, q + j.toNat * te.size, none⟩)) (by simp [execOp, ho, hv, hi, Instr.indexAt, asIntOf, hu, h0, hjr', hTe.run_sizeOf w, addr_add]) ?_
            have hget : rows[j.toNat]? = some rows[j.toNat] := by simp [hjr]
            have hcj : confs ls (nths xs j.toNat) = true := by
              have hix : j.toNat < xs.length := by rw [← hrr.length]; exact hjr
              have : nths xs j.toNat = xs[j.toNat] := by simp [nths, hix]
              rw [this]
              exact hcf _ (List.getElem_mem _)
            refine ⟨B, q + j.toNat * te.size, rows[j.toNat], rfl, Reps.etas hcj (hrr.get _ _ hget), fun m u hm => ?_⟩
            have hml : m < ls.length := by
              have := (List.getElem?_eq_some_iff.1 hm).1
              rw [hrl _ (List.getElem_mem _)] at this
              exact this
            have := hrd _ _ (flatten_get hrl hjr hml hm)
            rw [hsz, Nat.add_assoc]
            exact this
        · cases ha
      · cases ha
    · rename_i el d hd hxd
      rw [hxd] at hx
      obtain ⟨B, hB, hv⟩ := hx
      split at ha
      · rename_i te ls xs fz hte hb
        have hTe := T el te hte
        split at ha
        · rename_i hsz
          obtain ⟨k, j, hj, h0, hlt, ha⟩ := indexK_some ha
          cases ha
          rw [hj] at hi
          have hi : a.eval i = .int k j := hi
          rw [hd] at hu
          have hrl : (ctx s w g).rl d = xs.length := by show rowLen (s.box d) = _; rw [hb]; rfl
          have hrs : (ctx s w g).rs d = ls.length := by show rowSize (s.box d) = _; rw [hb]; rfl
          rw [hrl] at hv
          refine good_load h (v := .pointer (some ⟨B, 0 + j.toNat * te.size, none⟩)) (by simp [execOp, ho, hv, hi, Instr.indexAt, asIntOf, hu, h0, hlt, hTe.run_sizeOf w, addr_add]) ?_
          exact ⟨B, hB, by rw [hrs, hsz, Nat.zero_add, Nat.add_zero], by rw [hrl]; omega⟩
        · cases ha
      · cases ha
    · rename_i m el d off hd hxd
      rw [hxd] at hx
      obtain ⟨B, hB, hv⟩ := hx
      split at ha
      · rename_i te hte
        have hTe := T el te hte
        obtain ⟨k, j, hj, h0, hlt, ha⟩ := indexK_some ha
        cases ha
        rw [hj] at hi
        have hi : a.eval i = .int k j := hi
        rw [hd] at hu
        exact good_val h (v := .pointer (some ⟨B, off + j.toNat * te.size, none⟩)) (by simp [execOp, ho, hv, hi, Instr.indexAt, asIntOf, hu, h0, hlt, Instr.sureAddr, hTe.run_sizeOf w, addr_add]) ⟨B, hB, rfl⟩
      · cases ha
    · rename_i m el cs off hd hxd
      rw [hxd] at hx
      obtain ⟨B, q, us, hv, hr, hc⟩ := hx
      split at ha
      · rename_i te hte
        have hTe := T el te hte
        obtain ⟨k, j, hj, h0, hlt, ha⟩ := indexK_some ha
        cases ha
        rw [hj] at hi
        have hi : a.eval i = .int k j := hi
        rw [hd] at hu
        exact good_val h (v := .pointer (some ⟨B, q + off + j.toNat * te.size, none⟩)) (by simp [execOp, ho, hv, hi, Instr.indexAt, asIntOf, hu, h0, hlt, Instr.sureAddr, hTe.run_sizeOf w, addr_add]) ⟨B, q, us, by rw [Nat.add_assoc], hr, hc⟩
      · cases ha
    · cases ha

theorem act_index (T : ∀ t ti, E.ty t = some ti → TyOk P t ti) (h : SimG base w0 n g s a w) {t : Nat} {x i : Operand} (ho : o.op = .index t x i) (ha : actIndex E call s t x i some = some e) : Good P o a w (Sim base w0 n (upd s o.dst e)) := by
  have hx := operand_rep h x
  have hi := operand_rep h i
  unfold actIndex at ha
  split at ha
  · cases ha
  · rename_i ti hti
    have ht := T t ti hti
    have hu := ht.run_und w
    split at ha
    · rename_i m el cs hd hxd
      rw [hxd] at hx
      obtain ⟨us, hv, hr⟩ := hx
      split at ha
      · rename_i te hte
        have hTe := T el te hte
        obtain ⟨k, j, hj, h0, hlt, ha⟩ := indexK_some ha
        split at ha
        · rename_i hft
          cases ha
          rw [hj] at hi
          have hi : a.eval i = .int k j := hi
          rw [hd] at hu
          exact good_val h (v := partVal te us.toList (j.toNat * te.size)) (by simp [execOp, ho, hv, hi, Instr.index, asIntOf, hu, h0, hlt, hTe.run_sizeOf w, hTe.run_part (partFits_us hr hft)]) (Rep.part hr hft)
        · cases ha
      · cases ha
    · rename_i b hd hxd
      rw [hxd] at hx
      have hx : a.eval x = .string b := hx
      obtain ⟨k, j, hj, h0, hlt, ha⟩ := indexK_some ha
      cases ha
      rw [hj] at hi
      have hi : a.eval i = .int k j := hi
      rw [hd] at hu
      have hjb : j.toNat < b.size := by omega
      have hb : b[j.toNat]? = some (b.data.toList.getD j.toNat 0) := by
        rw [getElem?_pos b j.toNat hjb]
        congr 1
        have hjd : j.toNat < b.data.size := hjb
        have hq : b[j.toNat] = b.data[j.toNat]'hjd := rfl
        have hl : b.data.toList[j.toNat]? = some b.data[j.toNat] := by rw [Array.getElem?_toList, Array.getElem?_eq_getElem hjd]
        rw [hq, List.getD_eq_getElem?_getD, hl]
        rfl
      exact good_val h (v := .int .u8 ((b.data.toList.getD j.toNat 0).toNat : Int)) (by simp [execOp, ho, hx, hi, Instr.index, asIntOf, hu, h0, hb]) rfl
    · cases ha

end
end Go.Pev
