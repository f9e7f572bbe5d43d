/- Contracts of functions of the seat's program, and what follows of them: Xa. Conditions are in each statement. -/
import Derived.Test.YtfhpojedoijghaaDoorKa
import Derived.Test.YtfhpojedoijghaaDoorIc
import Derived.Test.YtfhpojedoijghaaDoorV6
set_option linter.unusedSimpArgs false
set_option linter.unusedVariables false
namespace Go.Proofs.YtfhpojedoijghaaDoor
open Go Go.Proofs Go.Vm Go.Extern

/-- The handle of a type. -/
abbrev hnd (t : Nat) : Value := .pointer (some ⟨1, t, none⟩)
abbrev rtyp (t : Nat) : V := .iface 80 (.agg [.c (hnd t)])
abbrev rvV (t i n : Nat) : V := .agg [.c (hnd t), .p i 0, .c (.int .u64 (n : Int))]

theorem xtOf {P : Program} {f : FuncId} {fn : Func} {e : Array Value → Sem Value} (hf : P.funcs[f]? = some fn) (hname : (fn.name == "runtime.NumGoroutine") = false) (hb : fn.body.isNone = true) (hn : Extern.findNext fn = none) (he : Extern.find fn = some e) : Xt P f e :=
  fun args w => run_callFunc_extern hf hname hb hn he args w
theorem xValueOf : Xt Tryd.prog 29 (fun args => ReflectliteValue.unpack (args.getD 0 (.tuple #[]))) :=
  xtOf Tryd.func29 (by kernel_rfl) (by kernel_rfl) (by kernel_rfl) (by kernel_rfl)
theorem xType : Xt Tryd.prog 30 (ReflectliteValue.methodAny (ReflectliteValue.valueError "reflectlite.Value.Type" 0) fun t _ _ _ => ReflectliteType.toType t) :=
  xtOf Tryd.func30 (by kernel_rfl) (by kernel_rfl) (by kernel_rfl) (by kernel_rfl)
theorem xIsNil : Xt Tryd.prog 31 (ReflectliteValue.method (ReflectliteValue.valueError "reflectlite.Value.IsNil" 0) ReflectliteValue.isNil) :=
  xtOf Tryd.func31 (by kernel_rfl) (by kernel_rfl) (by kernel_rfl) (by kernel_rfl)
theorem xElem : Xt Tryd.prog 34 (ReflectliteValue.method (ReflectliteValue.valueError "reflectlite.Value.Elem" 0) ReflectliteValue.elem) :=
  xtOf Tryd.func34 (by kernel_rfl) (by kernel_rfl) (by kernel_rfl) (by kernel_rfl)
theorem xSet : Xt Tryd.prog 35 ReflectliteValue.set :=
  xtOf Tryd.func35 (by kernel_rfl) (by kernel_rfl) (by kernel_rfl) (by kernel_rfl)
theorem xTypeOf : Xt Tryd.prog 33 ReflectliteType.typeOf :=
  xtOf Tryd.func33 (by kernel_rfl) (by kernel_rfl) (by kernel_rfl) (by kernel_rfl)
theorem xKind : Xt Tryd.prog 50 (ReflectliteType.abiMethod fun t => do pure (.int .u8 (← Rtype.kind t))) :=
  xtOf Tryd.func50 (by kernel_rfl) (by kernel_rfl) (by kernel_rfl) (by kernel_rfl)
theorem xRElem : Xt Tryd.prog 63 (ReflectliteType.method ReflectliteType.elem) :=
  xtOf Tryd.func63 (by kernel_rfl) (by kernel_rfl) (by kernel_rfl) (by kernel_rfl)
theorem xImpl : Xt Tryd.prog 64 (ReflectliteType.relation "Implements" ReflectliteType.implements_) :=
  xtOf Tryd.func64 (by kernel_rfl) (by kernel_rfl) (by kernel_rfl) (by kernel_rfl)
theorem xAssignable : Xt Tryd.prog 61 (ReflectliteType.relation "AssignableTo" ReflectliteType.assignableTo) :=
  xtOf Tryd.func61 (by kernel_rfl) (by kernel_rfl) (by kernel_rfl) (by kernel_rfl)

theorem cn_c1 {e : En} {x : Value} {xs : List Value} (h : CnL e [.c x] xs) : xs = [x] := by
  simp only [CnL, Cn] at h
  obtain ⟨_, _, rfl, rfl, rfl⟩ := h; rfl
theorem cn_hnd {e : En} {t : Nat} {x : Value} (h : Cn e (rtyp t) x) : x = .iface 80 (.agg #[hnd t]) := by
  simp only [Cn, CnL] at h
  obtain ⟨_, rfl, ys, rfl, ⟨_, _, h1, rfl, rfl⟩, _⟩ := h
  congr 2
  exact Array.ext' h1
theorem cn_agg1 {e : En} {t : Nat} {x : Value} (h : Cn e (.agg [.c (hnd t)]) x) : x = .agg #[hnd t] := by
  simp only [Cn, CnL] at h
  obtain ⟨ys, rfl, ⟨_, _, h1, rfl, rfl⟩, _⟩ := h
  congr 1
  exact Array.ext' h1
theorem rtyp_cn (e : En) (t : Nat) : Cn e (rtyp t) (.iface 80 (.agg #[hnd t])) := by
  simp only [Cn, CnL]
  exact ⟨_, rfl, #[hnd t], rfl, ⟨_, _, rfl, rfl, rfl⟩, fun z hz => by simp at hz; subst hz; rfl⟩
/-! ### Methods of types -/
theorem mKind (t : Nat) : MethV Tryd.prog 80 (.agg [.c (hnd t)]) "Kind" 50 (.c (hnd t)) := by
  intro e x w h
  rw [cn_agg1 h]
  exact ⟨hnd t, by kernel_rfl, by simp [Cn]⟩
theorem mElem (t : Nat) : MethV Tryd.prog 80 (.agg [.c (hnd t)]) "Elem" 63 (.agg [.c (hnd t)]) := by
  intro e x w h
  have h' := h
  rw [cn_agg1 h] at h' ⊢
  exact ⟨_, by kernel_rfl, h'⟩
theorem mImpl (t : Nat) : MethV Tryd.prog 80 (.agg [.c (hnd t)]) "Implements" 64 (.agg [.c (hnd t)]) := by
  intro e x w h
  have h' := h
  rw [cn_agg1 h] at h' ⊢
  exact ⟨_, by kernel_rfl, h'⟩
theorem mAssignable (t : Nat) : MethV Tryd.prog 80 (.agg [.c (hnd t)]) "AssignableTo" 61 (.agg [.c (hnd t)]) := by
  intro e x w h
  have h' := h
  rw [cn_agg1 h] at h' ⊢
  exact ⟨_, by kernel_rfl, h'⟩
end Go.Proofs.YtfhpojedoijghaaDoor
