/- Contracts of functions of the seat's program, and what follows of them: Xa. Conditions are in each statement. -/
import Derived.Test.YtnoigkdecjeilaaDoorKa
import Derived.Test.YtnoigkdecjeilaaDoorIc
import Derived.Test.YtnoigkdecjeilaaDoorV6
set_option linter.unusedSimpArgs false
set_option linter.unusedVariables false
namespace Go.Proofs.YtnoigkdecjeilaaDoor
open Go Go.Proofs Go.Vm Go.Extern

/-- The handle of a type. -/
abbrev hnd (t : Nat) : Value := .pointer (some ⟨4, t, none⟩)
abbrev rtyp (t : Nat) : V := .iface 89 (.agg [.c (hnd t)])
abbrev rvV (t i n : Nat) : V := .agg [.c (hnd t), .p i 0, .c (.int .u64 (n : Int))]

theorem xtOf {P : Program} {f : FuncId} {fn : Func} {e : Array Value → Sem Value} (hf : P.funcs[f]? = some fn) (hname : (fn.name == "runtime.NumGoroutine") = false) (hb : fn.body.isNone = true) (hn : Extern.findNext fn = none) (he : Extern.find fn = some e) : Xt P f e :=
  fun args w => run_callFunc_extern hf hname hb hn he args w
theorem xValueOf : Xt Tryd.prog 33 (fun args => ReflectliteValue.unpack (args.getD 0 (.tuple #[]))) :=
  xtOf Tryd.func33 (by kernel_rfl) (by kernel_rfl) (by kernel_rfl) (by kernel_rfl)
theorem xType : Xt Tryd.prog 34 (ReflectliteValue.methodAny (ReflectliteValue.valueError "reflectlite.Value.Type" 0) fun t _ _ _ => ReflectliteType.toType t) :=
  xtOf Tryd.func34 (by kernel_rfl) (by kernel_rfl) (by kernel_rfl) (by kernel_rfl)
theorem xIsNil : Xt Tryd.prog 35 (ReflectliteValue.method (ReflectliteValue.valueError "reflectlite.Value.IsNil" 0) ReflectliteValue.isNil) :=
  xtOf Tryd.func35 (by kernel_rfl) (by kernel_rfl) (by kernel_rfl) (by kernel_rfl)
theorem xElem : Xt Tryd.prog 40 (ReflectliteValue.method (ReflectliteValue.valueError "reflectlite.Value.Elem" 0) ReflectliteValue.elem) :=
  xtOf Tryd.func40 (by kernel_rfl) (by kernel_rfl) (by kernel_rfl) (by kernel_rfl)
theorem xSet : Xt Tryd.prog 41 ReflectliteValue.set :=
  xtOf Tryd.func41 (by kernel_rfl) (by kernel_rfl) (by kernel_rfl) (by kernel_rfl)
theorem xTypeOf : Xt Tryd.prog 37 ReflectliteType.typeOf :=
  xtOf Tryd.func37 (by kernel_rfl) (by kernel_rfl) (by kernel_rfl) (by kernel_rfl)
theorem xKind : Xt Tryd.prog 69 (ReflectliteType.abiMethod fun t => do pure (.int .u8 (← Rtype.kind t))) :=
  xtOf Tryd.func69 (by kernel_rfl) (by kernel_rfl) (by kernel_rfl) (by kernel_rfl)
theorem xRElem : Xt Tryd.prog 82 (ReflectliteType.method ReflectliteType.elem) :=
  xtOf Tryd.func82 (by kernel_rfl) (by kernel_rfl) (by kernel_rfl) (by kernel_rfl)
theorem xImpl : Xt Tryd.prog 83 (ReflectliteType.relation "Implements" ReflectliteType.implements_) :=
  xtOf Tryd.func83 (by kernel_rfl) (by kernel_rfl) (by kernel_rfl) (by kernel_rfl)
theorem xAssignable : Xt Tryd.prog 80 (ReflectliteType.relation "AssignableTo" ReflectliteType.assignableTo) :=
  xtOf Tryd.func80 (by kernel_rfl) (by kernel_rfl) (by kernel_rfl) (by kernel_rfl)

theorem cn_c1 {e : En} {x : Value} {xs : List Value} (h : CnL e [.c x] xs) : xs = [x] := by
  simp only [CnL, Cn] at h
  obtain ⟨_, _, rfl, rfl, rfl⟩ := h; rfl
theorem cn_hnd {e : En} {t : Nat} {x : Value} (h : Cn e (rtyp t) x) : x = .iface 89 (.agg #[hnd t]) := by
  simp only [Cn, CnL] at h
  obtain ⟨_, rfl, ys, rfl, ⟨_, _, h1, rfl, rfl⟩, _⟩ := h
  congr 2
  exact Array.ext' h1
theorem cn_agg1 {e : En} {t : Nat} {x : Value} (h : Cn e (.agg [.c (hnd t)]) x) : x = .agg #[hnd t] := by
  simp only [Cn, CnL] at h
  obtain ⟨ys, rfl, ⟨_, _, h1, rfl, rfl⟩, _⟩ := h
  congr 1
  exact Array.ext' h1
theorem rtyp_cn (e : En) (t : Nat) : Cn e (rtyp t) (.iface 89 (.agg #[hnd t])) := by
  simp only [Cn, CnL]
  exact ⟨_, rfl, #[hnd t], rfl, ⟨_, _, rfl, rfl, rfl⟩, fun z hz => by simp at hz; subst hz; rfl⟩
/-! ### Methods of types -/
theorem mKind (t : Nat) : MethV Tryd.prog 89 (.agg [.c (hnd t)]) "Kind" 69 (.c (hnd t)) := by
  intro e x w h
  rw [cn_agg1 h]
  exact ⟨hnd t, by kernel_rfl, by simp [Cn]⟩
theorem mElem (t : Nat) : MethV Tryd.prog 89 (.agg [.c (hnd t)]) "Elem" 82 (.agg [.c (hnd t)]) := by
  intro e x w h
  have h' := h
  rw [cn_agg1 h] at h' ⊢
  exact ⟨_, by kernel_rfl, h'⟩
theorem mImpl (t : Nat) : MethV Tryd.prog 89 (.agg [.c (hnd t)]) "Implements" 83 (.agg [.c (hnd t)]) := by
  intro e x w h
  have h' := h
  rw [cn_agg1 h] at h' ⊢
  exact ⟨_, by kernel_rfl, h'⟩
theorem mAssignable (t : Nat) : MethV Tryd.prog 89 (.agg [.c (hnd t)]) "AssignableTo" 80 (.agg [.c (hnd t)]) := by
  intro e x w h
  have h' := h
  rw [cn_agg1 h] at h' ⊢
  exact ⟨_, by kernel_rfl, h'⟩
end Go.Proofs.YtnoigkdecjeilaaDoor
