/- Contracts of functions of the seat's program, and what follows of them: Ki. Conditions are in each statement. -/
import Derived.Test.YtfpkodajcpcabaaKh
set_option linter.unusedSimpArgs false
set_option linter.unusedVariables false
namespace Go.Proofs.Ytfpkodajcpcabaa
open Go Go.Proofs Go.Vm

theorem fineB_good {c : Cfg} {x : Int} (h : fineB c x = true) : Good c ∧ -2147483648 ≤ x ∧ x ≤ 2147483648 := by
  simp only [fineB, Bool.and_eq_true, List.isEmpty_iff, near31, decide_eq_true_eq] at h
  exact ⟨good_of h.1.2, h.2.1, h.2.2⟩

set_option maxRecDepth 100000 in
theorem law_ShaftTells (c : Cfg) (x : Int) (hb : c.lv.length < top) (ho : c.op.length < top) : CallV Try.prog G0 3 [c.enc, vi x] [] fun v _ => v = .c (.bool true) := by
  refine callV_ic hm (fn := Try.f3) rfl ic3_eq ic3_nm ic3_ok (by simp) ?_
  simp -dsimp [ic3]
  refine (CallD.pure ct_law06_awake (by simp) ?_).callV
  simp -dsimp
  refine (CallD.pure (ct_law06_fine _ _ ho) (by simp) ?_).callV
  simp -dsimp
  refine brV.intro (fun hf => ?_) (fun hf => ?_)
  rotate_left
  · simp -dsimp
    refine (CallD.pure ct_law06_awake (by simp) ?_).callV
    simp -dsimp
    exact exitV.now rfl
  obtain ⟨g, hx1, hx2⟩ := fineB_good hf
  have hp : 0 < c.lv.length := by have := g.h2; omega
  have e1 := (near_eq c.lv x c.lv.length hp).1
  have e2 := zone_eq (c := c) x hp
  have e3 := sense_eq (c := c) x hp
  repeat' first
    | simp -dsimp [e1, e2, e3, Fr.cells]
    | (with_reducible refine (CallD.pure (ct_shaft_Zone _ _ hb) (by simp) ?_).callV)
    | (with_reducible refine (CallD.pure (ct_shaft_Nearest _ _ hb) (by simp) ?_).callV)
    | (with_reducible refine (CallD.pure (ct_shaft_Sense _ _ hb hp) (by simp) ?_).callV)
    | (with_reducible refine (CallD.pure (ct_ref06_Zone _ _ hb hp) (by simp) ?_).callV)
    | (with_reducible refine (CallD.pure (ct_ref06_Nearest _ _ hb) (by simp) ?_).callV)
    | (with_reducible refine (CallD.pure (ct_ref06_Sense _ _ hb hp) (by simp) ?_).callV)
    | (with_reducible refine CallD.pure (ct_shaft_Zone _ _ hb) (by simp) ?_)
    | (with_reducible refine CallD.pure (ct_shaft_Nearest _ _ hb) (by simp) ?_)
    | (with_reducible refine CallD.pure (ct_shaft_Sense _ _ hb hp) (by simp) ?_)
    | (with_reducible refine CallD.pure (ct_ref06_Zone _ _ hb hp) (by simp) ?_)
    | (with_reducible refine CallD.pure (ct_ref06_Nearest _ _ hb) (by simp) ?_)
    | (with_reducible refine CallD.pure (ct_ref06_Sense _ _ hb hp) (by simp) ?_)
    | (with_reducible refine ordI (by kernel_rfl) ?_)
  exact exitV.now rfl

end Go.Proofs.Ytfpkodajcpcabaa
