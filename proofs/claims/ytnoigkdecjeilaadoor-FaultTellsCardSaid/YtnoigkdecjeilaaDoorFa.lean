/- Contracts of functions of the seat's program, and what follows of them: Fa. Conditions are in each statement. -/
import Derived.Test.YtnoigkdecjeilaaDoorXd
set_option linter.unusedSimpArgs false
set_option linter.unusedVariables false
namespace Go.Proofs.YtnoigkdecjeilaaDoor
open Go Go.Proofs Go.Vm Go.Extern
set_option maxRecDepth 100000

structure Flt where
  kind : Int
  tick : Int
abbrev Flt.enc (f : Flt) : V := .agg [vi f.kind, vi f.tick]
/-! ### Errors -/
def canP (k : Int) : Bool := decide (1 ≤ k) && decide (k ≤ 11)
theorem ct_fault_can (k : Int) : Ct Tryd.prog G0 32 [vi k] [] (vb (canP k)) [] := by
  refine callV_ic hm (fn := Tryd.f32) rfl ic32_eq ic32_nm ic32_ok (by simp) ?_
  simp -dsimp [ic32]
  repeat' first
    | simp -dsimp [*]
    | (with_reducible refine brV.intro (fun h => ?_) (fun h => ?_))
    | (with_reducible refine exitV.cut (by simp) (by simp) (by simp) (by simp) ⟨?_, by simp⟩)
    | (with_reducible refine ordI (by kernel_rfl) ?_)
  all_goals first | rfl | (simp only [canP, *]; simp; done) | (simp_all [canP]; done) | (simp_all [canP]; intros; omega)
theorem ct_ref02_Can (k : Int) : Ct Tryd.prog G0 19 [vi k] [] (vb (canP k)) [] := by
  refine callV_ic hm (fn := Tryd.f19) rfl ic19_eq ic19_nm ic19_ok (by simp) ?_
  simp -dsimp [ic19]
  repeat' first
    | simp -dsimp [*]
    | (with_reducible refine brV.intro (fun h => ?_) (fun h => ?_))
    | (with_reducible refine exitV.cut (by simp) (by simp) (by simp) (by simp) ⟨?_, by simp⟩)
    | (with_reducible refine ordI (by kernel_rfl) ?_)
  all_goals first | rfl | (simp only [canP, *]; simp; done) | (simp_all [canP]; done) | (simp_all [canP]; intros; omega)
def mid (t : Int) : Int := max 0 (min t 1099511627775)
theorem ct_fault_New (k t : Int) (h : canP k = true) : Ct Tryd.prog G0 17 [vi k, vi t] [] (Er.s k (mid t)).v [] := by
  refine callV_ic hm (fn := Tryd.f17) rfl ic17_eq ic17_nm ic17_ok (by simp) ?_
  simp -dsimp [ic17]
  repeat' first
    | simp -dsimp [*]
    | (with_reducible refine exitV.cut (by simp) (by simp) (by simp) (by simp) ⟨?_, by simp⟩)
    | (with_reducible refine (CallD.pure (ct_fault_can _) (by simp) ?_).callV)
    | (with_reducible refine ordI (by kernel_rfl) ?_)
  all_goals first | rfl | exact exitV.cut (by simp) (by simp) (by simp) (by simp) ⟨rfl, by simp⟩
theorem ct_fault_NewNo (k t : Int) (h : canP k = false) : Ct Tryd.prog G0 17 [vi k, vi t] [] (.c .nilIface) [] := by
  refine callV_ic hm (fn := Tryd.f17) rfl ic17_eq ic17_nm ic17_ok (by simp) ?_
  simp -dsimp [ic17]
  repeat' first
    | simp -dsimp [*]
    | (with_reducible refine exitV.cut (by simp) (by simp) (by simp) (by simp) ⟨?_, by simp⟩)
    | (with_reducible refine (CallD.pure (ct_fault_can _) (by simp) ?_).callV)
    | (with_reducible refine ordI (by kernel_rfl) ?_)
  all_goals first | rfl | exact exitV.cut (by simp) (by simp) (by simp) (by simp) ⟨rfl, by simp⟩
theorem ct_fault_Wrap (p : List UInt8) (e : Er) : Ct Tryd.prog G0 18 [vs p, e.v] [] (Er.f p e).v [] := by
  obtain ⟨t', v', hv⟩ : ∃ t v, e.v = .iface t v := by cases e <;> exact ⟨_, _, rfl⟩
  have hok : ∀ q : Nat → Prop, (V.iface t' v').ok q := fun q => by rw [← hv]; simp
  have fin : (Er.f p e).v = .iface 70 (.agg [vs p, .iface t' v']) := by rw [← hv]; rfl
  rw [fin, hv]
  have hok' : ∀ q : Nat → Prop, v'.ok q := fun q => by have := hok q; simpa using this
  refine callV_ic hm (fn := Tryd.f18) rfl ic18_eq ic18_nm ic18_ok (by simp) ?_
  simp -dsimp [ic18]
  repeat' first
    | simp -dsimp [*]
    | (with_reducible refine ordI (by kernel_rfl) ?_)
  exact exitV.cut (by simp) (by simp) (by simp) (by simp [hok']) ⟨rfl, by simp⟩
theorem ct_fault_WrapNo (p : List UInt8) : Ct Tryd.prog G0 18 [vs p, .c .nilIface] [] (.c .nilIface) [] := by
  refine callV_ic hm (fn := Tryd.f18) rfl ic18_eq ic18_nm ic18_ok (by simp) ?_
  simp -dsimp [ic18]
  repeat' first
    | simp -dsimp
    | (with_reducible refine ordI (by kernel_rfl) ?_)
  exact exitV.cut (by simp) (by simp) (by simp) (by simp) ⟨rfl, by simp⟩
/-! ### errors.Is -/
@[simp] theorem cmpS : cmpT Tryd.prog 65 = true := by kernel_rfl
@[simp] theorem flatS : flat Tryd.prog 40 65 = some [.i, .i] := by kernel_rfl
@[simp] theorem taSI : taB Tryd.prog 65 100 = some true := by kernel_rfl
@[simp] theorem taFI : taB Tryd.prog 70 100 = some false := by kernel_rfl
theorem xComparable : Xt Tryd.prog 81 (ReflectliteType.method fun t => do Rtype.noPackHeld "Comparable" t; pure (.bool (← typeInfo t).comparable)) :=
  xtOf Tryd.func81 (by kernel_rfl) (by kernel_rfl) (by kernel_rfl) (by kernel_rfl)
theorem mComparable (t : Nat) : MethV Tryd.prog 89 (.agg [.c (hnd t)]) "Comparable" 81 (.agg [.c (hnd t)]) := by
  intro e x w h
  have h' := h
  rw [cn_agg1 h] at h' ⊢
  exact ⟨_, by kernel_rfl, h'⟩
theorem comparableE {t : Nat} {b : Bool} {h : List Blk} {K : V → List Blk → Prop} (hr : ∀ w, (ReflectliteType.method (fun t => do Rtype.noPackHeld "Comparable" t; pure (.bool (← typeInfo t).comparable)) #[.agg #[hnd t]]).run Tryd.prog w = .ok (.bool b) w) (k : K (vb b) h) :
    ExtC Tryd.prog G0 81 [.agg [.c (hnd t)]] h K :=
  ExtC.val xComparable _ (fun e xs w hx => by
    simp only [CnL] at hx
    obtain ⟨y, _, rfl, hy, rfl⟩ := hx
    rw [cn_agg1 hy]
    exact ⟨_, hr w, by simp [Cn]⟩) k
theorem coS (w : World) : (ReflectliteType.method (fun t => do Rtype.noPackHeld "Comparable" t; pure (.bool (← typeInfo t).comparable)) #[.agg #[hnd 65]]).run Tryd.prog w = .ok (.bool true) w := by kernel_rfl
theorem mIs (x : V) : MethV Tryd.prog 65 x "Is" 73 x := by
  intro e y w h
  exact ⟨y, by kernel_rfl, h⟩
theorem ct_singleIs (k t : Int) (e : Er) : Ct Tryd.prog G0 73 [.agg [vi k, vi t], e.v] [] (vb (e.leaf.1 == k)) [] := by
  have f := ct_Of e
  refine callV_ic hm (fn := Tryd.f73) rfl ic73_eq ic73_nm ic73_ok (by simp) ?_
  simp -dsimp [ic73]
  generalize hx : e.v = x at *
  have hok : ∀ p : Nat → Prop, x.ok p := fun p => by rw [← hx]; simp
  repeat' first
    | simp -dsimp
    | (with_reducible refine (CallD.pure f (by simp [hok]) ?_).callV)
    | (with_reducible refine ordI (by kernel_rfl) ?_)
  exact exitV.cut (by simp) (by simp) (by simp) (by simp) ⟨rfl, by simp⟩
end Go.Proofs.YtnoigkdecjeilaaDoor
