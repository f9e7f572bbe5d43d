/- Contracts of functions of the seat's program, and what follows of them: Yd. Conditions are in each statement. -/
import Derived.Test.YtfhpojedoijghaaDoorYc
set_option linter.unusedSimpArgs false
set_option linter.unusedVariables false
namespace Go.Proofs.YtfhpojedoijghaaDoor
open Go Go.Proofs Go.Vm

set_option maxRecDepth 100000 in
set_option maxHeartbeats 8000000 in
theorem law_RecordWrites (l : List Flt) (hb : l.length < top) :
    CallV Tryd.prog G0 4 [.ro 2 (flts l)] [] fun v _ => v = .c (.bool true) := by
  refine callV_ic hm (fn := Tryd.f4) rfl ic4_eq ic4_nm ic4_ok (by simp) ?_
  by_cases z1 : 30 < (l.length : Int)
  · repeat' first
      | simp -dsimp [ic4, z1]
      | (with_reducible refine (CallD.pure (ct_law03_awake) (by simp) ?_).callV)
      | exact exitV.now rfl
  have z1' : ¬ 30 < l.length := by omega
  cases hr : rightB l
  · have w := ct_WriteBad l hb hr
    have v := ct_ref_WriteBad l hb hr
    have f := ct_from [119, 114, 105, 116, 101] rfl
    have hok : ∀ p : Nat → Prop, (badV [119, 114, 105, 116, 101]).ok p := fun p => by simp
    generalize badV [119, 114, 105, 116, 101] = x at *
    repeat' first
      | simp -dsimp [ic4, z1, z1', hok]
      | (with_reducible refine (CallD.pure (ct_law03_awake) (by simp) ?_).callV)
      | (with_reducible refine (CallD.pure (w) (by simp) ?_).callV)
      | (with_reducible refine (CallD.pure (v) (by simp) ?_).callV)
      | (with_reducible refine (CallD.pure f (by simp [hok]) ?_).callV)
      | (with_reducible refine ordI (by kernel_rfl) ?_)
      | exact exitV.now rfl
  · have w := ct_Write l hb hr
    have v := ct_ref_Write l hb hr
    have s := ct_Same3 (recR l) (recR l) (by rw [recR_length]; unfold top; omega)
    simp only [decide_true] at s
    repeat' first
      | simp -dsimp [ic4, z1, z1']
      | (with_reducible refine (CallD.pure (ct_law03_awake) (by simp) ?_).callV)
      | (with_reducible refine (CallD.pure (w) (by simp) ?_).callV)
      | (with_reducible refine (CallD.pure (v) (by simp) ?_).callV)
      | (with_reducible refine (CallD.pure (s) (by simp) ?_).callV)
      | (with_reducible refine ordI (by kernel_rfl) ?_)
      | exact exitV.now rfl
end Go.Proofs.YtfhpojedoijghaaDoor
