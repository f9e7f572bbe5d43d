/- Contracts of functions of the seat's program, and what follows of them: Xb. Conditions are in each statement. -/
import Derived.Test.YtnoigkdecjeilaaDoorXa
set_option linter.unusedSimpArgs false
set_option linter.unusedVariables false
namespace Go.Proofs.YtnoigkdecjeilaaDoor
open Go Go.Proofs Go.Vm Go.Extern

/-- An error of ours: a fault alone, or told from somewhere. -/
inductive Er where
  | s (k t : Int)
  | f (w : List UInt8) (e : Er)
def Er.v : Er → V
  | .s k t => .iface 65 (.agg [vi k, vi t])
  | .f w e => .iface 70 (.agg [vs w, e.v])
def Er.deep : Er → Nat
  | .s _ _ => 0
  | .f _ e => e.deep + 1
def Er.leaf : Er → Int × Int
  | .s k t => (k, t)
  | .f _ e => e.leaf
@[simp] theorem Er.ok (p : Nat → Prop) : ∀ e : Er, e.v.ok p
  | .s k t => by simp [Er.v]
  | .f w e => by simp [Er.v, Er.ok p e]
@[simp] theorem Er.ren (ρ : Nat → Nat) : ∀ e : Er, e.v.ren ρ = e.v
  | .s k t => by simp [Er.v]
  | .f w e => by simp [Er.v, Er.ren ρ e]
@[simp] theorem Er.one : ∀ e : Er, e.v.one = true
  | .s k t => rfl
  | .f w e => rfl
@[simp] theorem Er.fills : ∀ e : Er, e.v.fills = true
  | .s k t => rfl
  | .f w e => rfl
@[simp] theorem Er.cells : ∀ e : Er, e.v.cells = [e.v]
  | .s k t => rfl
  | .f w e => rfl
@[simp] theorem Er.fitsE (i n : Nat) (g : Bool) : ∀ e : Er, e.v.fits i n g
  | .s k t => by simp [Er.v]
  | .f w e => by simp [Er.v, Er.fitsE i n g e]
@[simp] theorem Er.frzE (i : Nat) (cs : List V) (g : Bool) : ∀ e : Er, e.v.frz i cs g = e.v
  | .s k t => by simp [Er.v]
  | .f w e => by simp [Er.v, Er.frzE i cs g e]
@[simp] theorem isIface_err0 : isIface Tryd.prog 27 = true := by kernel_rfl
@[simp] theorem isIface_any : isIface Tryd.prog 20 = true := by kernel_rfl
@[simp] theorem concS : Tryd.prog.concrete 65 = true := by kernel_rfl
@[simp] theorem concF : Tryd.prog.concrete 70 = true := by kernel_rfl
@[simp] theorem concPS : Tryd.prog.concrete 67 = true := by kernel_rfl
@[simp] theorem concPF : Tryd.prog.concrete 71 = true := by kernel_rfl
/-! ### What is asked of types -/
theorem tyS (e : En) (x : V) (y : Value) (w : World) (h : Cn e (.iface 65 x) y) : (ReflectliteType.typeOf #[y]).run Tryd.prog w = .ok (.iface 89 (.agg #[hnd 65])) w := by
  simp only [Cn] at h
  obtain ⟨u, rfl, _⟩ := h
  kernel_rfl
theorem tyF (e : En) (x : V) (y : Value) (w : World) (h : Cn e (.iface 70 x) y) : (ReflectliteType.typeOf #[y]).run Tryd.prog w = .ok (.iface 89 (.agg #[hnd 70])) w := by
  simp only [Cn] at h
  obtain ⟨u, rfl, _⟩ := h
  kernel_rfl
theorem typeOfS {h : List Blk} {x : V} {K : V → List Blk → Prop} (k : K (rtyp 65) h) : ExtC Tryd.prog G0 37 [.iface 65 x] h K :=
  ExtC.val xTypeOf _ (fun e xs w hx => by
    simp only [CnL] at hx
    obtain ⟨y, _, rfl, hy, rfl⟩ := hx
    exact ⟨_, tyS e x y w hy, rtyp_cn e _⟩) k
theorem typeOfF {h : List Blk} {x : V} {K : V → List Blk → Prop} (k : K (rtyp 70) h) : ExtC Tryd.prog G0 37 [.iface 70 x] h K :=
  ExtC.val xTypeOf _ (fun e xs w hx => by
    simp only [CnL] at hx
    obtain ⟨y, _, rfl, hy, rfl⟩ := hx
    exact ⟨_, tyF e x y w hy, rtyp_cn e _⟩) k
theorem assignE {t u : Nat} {b : Bool} {h : List Blk} {K : V → List Blk → Prop} (hr : ∀ w, (ReflectliteType.relation "AssignableTo" ReflectliteType.assignableTo #[.agg #[hnd t], .iface 89 (.agg #[hnd u])]).run Tryd.prog w = .ok (.bool b) w) (k : K (vb b) h) :
    ExtC Tryd.prog G0 80 [.agg [.c (hnd t)], rtyp u] h K :=
  ExtC.val xAssignable _ (fun e xs w hx => by
    simp only [CnL] at hx
    obtain ⟨y, _, rfl, hy, z, _, rfl, hz, rfl⟩ := hx
    rw [cn_agg1 hy, cn_hnd hz]
    exact ⟨_, hr w, by simp [Cn]⟩) k
theorem asSS (w : World) : (ReflectliteType.relation "AssignableTo" ReflectliteType.assignableTo #[.agg #[hnd 65], .iface 89 (.agg #[hnd 65])]).run Tryd.prog w = .ok (.bool true) w := by kernel_rfl
theorem asSF (w : World) : (ReflectliteType.relation "AssignableTo" ReflectliteType.assignableTo #[.agg #[hnd 65], .iface 89 (.agg #[hnd 70])]).run Tryd.prog w = .ok (.bool false) w := by kernel_rfl
theorem asFS (w : World) : (ReflectliteType.relation "AssignableTo" ReflectliteType.assignableTo #[.agg #[hnd 70], .iface 89 (.agg #[hnd 65])]).run Tryd.prog w = .ok (.bool false) w := by kernel_rfl
theorem asFF (w : World) : (ReflectliteType.relation "AssignableTo" ReflectliteType.assignableTo #[.agg #[hnd 70], .iface 89 (.agg #[hnd 70])]).run Tryd.prog w = .ok (.bool true) w := by kernel_rfl
@[simp] theorem taSA : taB Tryd.prog 65 93 = some false := by kernel_rfl
@[simp] theorem taFA : taB Tryd.prog 70 93 = some false := by kernel_rfl
@[simp] theorem taSU : taB Tryd.prog 65 96 = some false := by kernel_rfl
@[simp] theorem taFU : taB Tryd.prog 70 96 = some true := by kernel_rfl
@[simp] theorem taSV : taB Tryd.prog 65 97 = some false := by kernel_rfl
theorem mUnwrap (x : V) : MethV Tryd.prog 70 x "Unwrap" 75 x := by
  intro e y w h
  exact ⟨y, by kernel_rfl, h⟩
theorem ct_Unwrap (w : List UInt8) (e : Er) : Ct Tryd.prog G0 75 [.agg [vs w, e.v]] [] e.v [] := by
  refine callV_ic hm (fn := Tryd.f75) rfl ic75_eq ic75_nm ic75_ok (by simp) ?_
  simp -dsimp [ic75]
  repeat' first
    | simp -dsimp
    | (with_reducible refine ordI (by kernel_rfl) ?_)
  exact exitV.cut (by simp) (by simp) (by simp) (by simp) ⟨rfl, by simp⟩
/-! ### Values of variables -/
theorem partsP (t : Nat) : True := trivial
theorem mkPS (a : Addr) (w : World) : (ReflectliteValue.mk 67 a 0).run Tryd.prog w = .ok (.agg #[hnd 67, .pointer (some a), .int .u64 150]) w := by kernel_rfl
theorem mkPF (a : Addr) (w : World) : (ReflectliteValue.mk 71 a 0).run Tryd.prog w = .ok (.agg #[hnd 71, .pointer (some a), .int .u64 150]) w := by kernel_rfl
theorem mkS (a : Addr) (w : World) : (ReflectliteValue.mk 65 a 0).run Tryd.prog w = .ok (.agg #[hnd 65, .pointer (some a), .int .u64 153]) w := by kernel_rfl
theorem mkF (a : Addr) (w : World) : (ReflectliteValue.mk 70 a 0).run Tryd.prog w = .ok (.agg #[hnd 70, .pointer (some a), .int .u64 153]) w := by kernel_rfl
theorem mkSA (a : Addr) (w : World) : (ReflectliteValue.mk 65 a ReflectliteValue.flagAddr).run Tryd.prog w = .ok (.agg #[hnd 65, .pointer (some a), .int .u64 409]) w := by kernel_rfl
theorem mkFA (a : Addr) (w : World) : (ReflectliteValue.mk 70 a ReflectliteValue.flagAddr).run Tryd.prog w = .ok (.agg #[hnd 70, .pointer (some a), .int .u64 409]) w := by kernel_rfl
theorem ptPS (a : Addr) (w : World) : (ReflectliteValue.parts (.agg #[hnd 67, .pointer (some a), .int .u64 (150 : Nat)])).run Tryd.prog w = .ok (some (67, a, 150)) w := by kernel_rfl
theorem ptPF (a : Addr) (w : World) : (ReflectliteValue.parts (.agg #[hnd 71, .pointer (some a), .int .u64 (150 : Nat)])).run Tryd.prog w = .ok (some (71, a, 150)) w := by kernel_rfl
theorem ptS1 (a : Addr) (w : World) : (ReflectliteValue.parts (.agg #[hnd 65, .pointer (some a), .int .u64 (409 : Nat)])).run Tryd.prog w = .ok (some (65, a, 409)) w := by kernel_rfl
theorem ptS2 (a : Addr) (w : World) : (ReflectliteValue.parts (.agg #[hnd 65, .pointer (some a), .int .u64 (153 : Nat)])).run Tryd.prog w = .ok (some (65, a, 153)) w := by kernel_rfl
theorem ptF1 (a : Addr) (w : World) : (ReflectliteValue.parts (.agg #[hnd 70, .pointer (some a), .int .u64 (409 : Nat)])).run Tryd.prog w = .ok (some (70, a, 409)) w := by kernel_rfl
theorem ptF2 (a : Addr) (w : World) : (ReflectliteValue.parts (.agg #[hnd 70, .pointer (some a), .int .u64 (153 : Nat)])).run Tryd.prog w = .ok (some (70, a, 153)) w := by kernel_rfl
theorem elPS (w : World) : (Rtype.elem? 67).run Tryd.prog w = .ok (some 65) w := by kernel_rfl
theorem elPF (w : World) : (Rtype.elem? 71).run Tryd.prog w = .ok (some 70) w := by kernel_rfl
theorem daS (w : World) : (Rtype.directlyAssignable 65 65).run Tryd.prog w = .ok true w := by kernel_rfl
theorem daF (w : World) : (Rtype.directlyAssignable 70 70).run Tryd.prog w = .ok true w := by kernel_rfl
set_option maxRecDepth 100000 in
/-- errors.as, for a fault alone. -/
theorem ct_asS (e : Er) (a b : V) : Ct Tryd.prog G0 36 [e.v, .iface 67 (.p 0 0), rvV 67 1 150, rtyp 65] [.cells 65 [a, b], .cells 67 [.p 0 0]] (vb true)
    [.cells 65 [vi e.leaf.1, vi e.leaf.2], .cells 67 [.p 0 0]] := by
  refine callV_ic hm (fn := Tryd.f36) rfl ic36_eq ic36_nm ic36_ok (by simp) ?_
  simp -dsimp [ic36]
  refine Ti.loopW hm (fun k s => ∃ e' : Er, e'.deep = k ∧ e'.leaf = e.leaf ∧ s = { t := [(0, e'.v), (1, .iface 67 (.p 0 0)), (3, rtyp 65), (6, .p 2 0)], d := [], h := [.cells 65 [a, b], .cells 67 [.p 0 0], .cells 76 [.c (hnd 67), .p 1 0, .c (.int .u64 (150 : Nat))]] }) (k := e.deep) ?_ ?_
  · exact Wk.sub [(0, e.v), (1, .iface 67 (.p 0 0)), (3, rtyp 65), (6, .p 2 0)] (by simp) (Wk.now ⟨e, rfl, rfl, rfl⟩)
  rintro k s ⟨e', hk, hl, rfl⟩
  cases e' with
  | s kk tt =>
    simp -dsimp [Er.v]
    refine typeOfS ?_
    simp -dsimp
    refine ⟨_, _, mAssignable _, ?_⟩
    simp -dsimp
    refine assignE asSS ?_
    repeat' first
      | simp -dsimp
      | (with_reducible refine ordI (by kernel_rfl) ?_)
    refine ext_elemV xElem (n := 150) ptPS (by decide) (by simp) elPS mkSA rfl rfl ?_
    repeat' first
      | simp -dsimp
      | (with_reducible refine ordI (by kernel_rfl) ?_)
    refine ext_valueOf xValueOf rfl rfl mkS ?_
    repeat' first
      | simp -dsimp
      | (with_reducible refine ordI (by kernel_rfl) ?_)
    refine ext_set xSet (n1 := 409) (n2 := 153) ptS1 ptS2 (by decide) daS (by simp) (by simp) rfl rfl (by simp) ?_
    repeat' first
      | simp -dsimp
      | (with_reducible refine ordI (by kernel_rfl) ?_)
    refine exitV.cut (by simp) (by simp) (by simp) (by simp) ⟨rfl, ?_⟩
    rw [← hl]; simp [Er.leaf]
  | f ww ee =>
    have hnil : ∀ x : Er, ∃ t v, x.v = .iface t v := fun x => by cases x <;> exact ⟨_, _, rfl⟩
    have hd : ee.deep < k := by simp only [Er.deep] at hk; omega
    have hl' : ee.leaf = e.leaf := hl
    simp -dsimp [Er.v]
    refine typeOfF ?_
    simp -dsimp
    refine ⟨_, _, mAssignable _, ?_⟩
    simp -dsimp
    refine assignE asFS ?_
    repeat' first
      | simp -dsimp
      | (with_reducible refine ordI (by kernel_rfl) ?_)
    refine ⟨_, _, mUnwrap _, ?_⟩
    simp -dsimp
    refine (CallD.pure (ct_Unwrap ww ee) (by simp) ?_).callV
    have hw : Wk G0 62 2 { t := [(0, ee.v), (1, .iface 67 (.p 0 0)), (3, rtyp 65), (6, .p 2 0)], d := [], h := [.cells 65 [a, b], .cells 67 [.p 0 0], .cells 76 [.c (hnd 67), .p 1 0, .c (.int .u64 (150 : Nat))]] } (fun s => ∃ e' : Er, e'.deep = ee.deep ∧ e'.leaf = e.leaf ∧ s = { t := [(0, e'.v), (1, .iface 67 (.p 0 0)), (3, rtyp 65), (6, .p 2 0)], d := [], h := [.cells 65 [a, b], .cells 67 [.p 0 0], .cells 76 [.c (hnd 67), .p 1 0, .c (.int .u64 (150 : Nat))]] }) := Wk.now ⟨ee, rfl, hl', rfl⟩
    obtain ⟨t', v', hv⟩ := hnil ee
    rw [hv] at hw ⊢
    repeat' first
      | simp -dsimp
      | (with_reducible refine ordI (by kernel_rfl) ?_)
    exact ⟨ee.deep, hd, Wk.sub [(0, .iface t' v'), (1, .iface 67 (.p 0 0)), (3, rtyp 65), (6, .p 2 0)] (by simp) hw⟩
end Go.Proofs.YtnoigkdecjeilaaDoor
