/- EVERY OPERATION OF THE MACHINE DOES WHAT THE EVALUATOR TELLS. -/
import Derived.Test.YtfjnpgbjcgjecaaPevOps8
namespace Go.Pev
open Go.RowKit
set_option linter.unusedVariables false
set_option linter.unusedSimpArgs false

structure EnvOk (P : Program) (E : Env) : Prop where
  ty : ∀ t ti, E.ty t = some ti → TyOk P t ti
  eq : ∀ t ti, E.eq t = true → E.ty t = some ti → EqOk P t ti.lk
  fn : FnOk P E

section
variable {P : Program} {E : Env} {call : Nat → List PV → Option PV} {base n : Nat} {w0 : Start} {g : Gh} {s : St} {a : Act} {w : World} {o : Oper} {e : Eff}

theorem act_sound (O : EnvOk P E) (hcall : ∀ f args r, call f args = some r → Contract P E f args r) (h : SimG base w0 n g s a w) (ha : act E call s o = some e) (hok : okEff s o.dst e = true) :
    Good P o a w (Sim base w0 n (upd s o.dst e)) := by
  unfold act actK at ha
  split at ha
  · rename_i x ho; exact act_move h (by simp [execOp, ho]) ha hok
  · rename_i x ho; exact act_move h (by simp [execOp, ho]) ha hok
  · rename_i ho; exact act_pick h ho ha
  · rename_i ho; exact act_alloc O.ty h ho ha hok
  · rename_i ho; exact act_box h ho ha hok
  · rename_i ho; exact act_build O.ty h ho ha
  · rename_i ho; exact act_buildSlice O.ty h ho ha hok
  · rename_i ho; exact act_load O.ty h ho ha
  · rename_i ho; exact act_store O.ty h ho ha
  · rename_i ho; exact act_binOp O.ty O.eq h ho ha
  · rename_i ho; exact act_unOp h ho ha
  · rename_i ho; exact act_convert O.ty h ho ha
  · rename_i ho; exact act_makeFunc h ho ha
  · rename_i ho; exact act_makeSlice O.ty h ho ha hok
  · rename_i ho; exact act_slice O.ty h ho ha
  · rename_i ho; exact act_fieldAddr O.ty h ho ha
  · rename_i ho; exact act_field O.ty h ho ha
  · rename_i ho; exact act_indexAddr O.ty h ho ha
  · rename_i ho; exact act_index O.ty h ho ha
  · rename_i ho; exact act_extract h ho ha
  · rename_i ho; exact act_nilCheck h ho ha
  · rename_i c ho
    cases hc : c.callee with
    | value f => exact act_call O.fn hcall h ho hc ha hok
    | invoke r m => unfold actCall at ha; rw [hc] at ha; cases ha
    | builtin b =>
      obtain ⟨callee, args, ts⟩ := c
      cases hc
      unfold actCall at ha
      dsimp only at ha
      cases b with
      | len =>
        dsimp only at ha
        split at ha
        · rename_i x t rest hx ht
          exact act_len O.ty h ho hx ht ha
        · cases ha
      | max =>
        dsimp only at ha
        split at ha
        · rename_i v hv
          cases ha
          exact act_minmax (b := true) h ho hv
        · cases ha
      | min =>
        dsimp only at ha
        split at ha
        · rename_i v hv
          cases ha
          exact act_minmax (b := false) h ho hv
        · cases ha
      | append =>
        dsimp only at ha
        split at ha
        · rename_i x y t u hx ht
          exact act_append O.ty h ho hx ht ha hok
        · cases ha
      | _ => cases ha
  · cases ha

end
end Go.Pev
