/- Contracts of functions of the seat's program, and what follows of them: Ga. Conditions are in each statement. -/
import Derived.Test.YtdnigflmcmammaaDoorXd
set_option linter.unusedSimpArgs false
set_option linter.unusedVariables false
namespace Go.Proofs.YtdnigflmcmammaaDoor
open Go Go.Proofs Go.Vm Go.Extern
set_option maxRecDepth 100000

/-! ### errors.Is -/
@[simp] theorem cmpS : cmpT Tryd.prog 52 = true := by kernel_rfl
@[simp] theorem flatS : flat Tryd.prog 40 52 = some [.i, .i] := by kernel_rfl
@[simp] theorem taSI : taB Tryd.prog 52 81 = some true := by kernel_rfl
@[simp] theorem taFI : taB Tryd.prog 54 81 = some false := by kernel_rfl
theorem xComparable : Xt Tryd.prog 86 (ReflectliteType.method fun t => do Rtype.noPackHeld "Comparable" t; pure (.bool (← typeInfo t).comparable)) :=
  xtOf Tryd.func86 (by kernel_rfl) (by kernel_rfl) (by kernel_rfl) (by kernel_rfl)
theorem mComparable (t : Nat) : MethV Tryd.prog 79 (.agg [.c (hnd t)]) "Comparable" 86 (.agg [.c (hnd t)]) := by
  intro e x w h
  have h' := h
  rw [cn_agg1 h] at h' ⊢
  exact ⟨_, by kernel_rfl, h'⟩
theorem comparableE {t : Nat} {b : Bool} {h : List Blk} {K : V → List Blk → Prop} (hr : ∀ w, (ReflectliteType.method (fun t => do Rtype.noPackHeld "Comparable" t; pure (.bool (← typeInfo t).comparable)) #[.agg #[hnd t]]).run Tryd.prog w = .ok (.bool b) w) (k : K (vb b) h) :
    ExtC Tryd.prog G0 86 [.agg [.c (hnd t)]] h K :=
  ExtC.val xComparable _ (fun e xs w hx => by
    simp only [CnL] at hx
    obtain ⟨y, _, rfl, hy, rfl⟩ := hx
    rw [cn_agg1 hy]
    exact ⟨_, hr w, by simp [Cn]⟩) k
theorem coS (w : World) : (ReflectliteType.method (fun t => do Rtype.noPackHeld "Comparable" t; pure (.bool (← typeInfo t).comparable)) #[.agg #[hnd 52]]).run Tryd.prog w = .ok (.bool true) w := by kernel_rfl
theorem mIs (x : V) : MethV Tryd.prog 52 x "Is" 77 x := by
  intro e y w h
  exact ⟨y, by kernel_rfl, h⟩
theorem ct_singleIs (k t : Int) (e : Er) : Ct Tryd.prog G0 77 [.agg [vi k, vi t], e.v] [] (vb (e.leaf.1 == k)) [] := by
  have f := ct_Of e
  refine callV_ic hm (fn := Tryd.f77) rfl ic77_eq ic77_nm ic77_ok (by simp) ?_
  simp -dsimp [ic77]
  generalize hx : e.v = x at *
  have hok : ∀ p : Nat → Prop, x.ok p := fun p => by rw [← hx]; simp
  repeat' first
    | simp -dsimp
    | (with_reducible refine (CallD.pure f (by simp [hok]) ?_).callV)
    | (with_reducible refine ordI (by kernel_rfl) ?_)
  exact exitV.cut (by simp) (by simp) (by simp) (by simp) ⟨rfl, by simp⟩
end Go.Proofs.YtdnigflmcmammaaDoor
