/- Contracts of functions of the seat's program, and what follows of them: Xb. Conditions are in each statement. -/
import Derived.Test.YtdnigflmcmammaaDoorXa
set_option linter.unusedSimpArgs false
set_option linter.unusedVariables false
namespace Go.Proofs.YtdnigflmcmammaaDoor
open Go Go.Proofs Go.Vm Go.Extern

/-- An error of ours: a fault alone, or told from somewhere. -/
inductive Er where
  | s (k t : Int)
  | f (w : List UInt8) (e : Er)
def Er.v : Er → V
  | .s k t => .iface 52 (.agg [vi k, vi t])
  | .f w e => .iface 54 (.agg [vs w, e.v])
def Er.deep : Er → Nat
  | .s _ _ => 0
  | .f _ e => e.deep + 1
def Er.leaf : Er → Int × Int
  | .s k t => (k, t)
  | .f _ e => e.leaf
@[simp] theorem Er.ok (p : Nat → Prop) : ∀ e : Er, e.v.ok p
  | .s k t => by simp [Er.v]
  | .f w e => by simp [Er.v, Er.ok p e]
@[simp] theorem Er.ren (ρ : Nat → Nat) : ∀ e : Er, e.v.ren ρ = e.v
  | .s k t => by simp [Er.v]
  | .f w e => by simp [Er.v, Er.ren ρ e]
@[simp] theorem Er.one : ∀ e : Er, e.v.one = true
  | .s k t => rfl
  | .f w e => rfl
@[simp] theorem Er.fills : ∀ e : Er, e.v.fills = true
  | .s k t => rfl
  | .f w e => rfl
@[simp] theorem Er.cells : ∀ e : Er, e.v.cells = [e.v]
  | .s k t => rfl
  | .f w e => rfl
@[simp] theorem Er.fitsE (i n : Nat) (g : Bool) : ∀ e : Er, e.v.fits i n g
  | .s k t => by simp [Er.v]
  | .f w e => by simp [Er.v, Er.fitsE i n g e]
@[simp] theorem Er.frzE (i : Nat) (cs : List V) (g : Bool) : ∀ e : Er, e.v.frz i cs g = e.v
  | .s k t => by simp [Er.v]
  | .f w e => by simp [Er.v, Er.frzE i cs g e]
@[simp] theorem isIface_err0 : isIface Tryd.prog 34 = true := by kernel_rfl
@[simp] theorem isIface_any : isIface Tryd.prog 20 = true := by kernel_rfl
@[simp] theorem concS : Tryd.prog.concrete 52 = true := by kernel_rfl
@[simp] theorem concF : Tryd.prog.concrete 54 = true := by kernel_rfl
@[simp] theorem concPS : Tryd.prog.concrete 112 = true := by kernel_rfl
@[simp] theorem concPF : Tryd.prog.concrete 56 = true := by kernel_rfl
/-! ### What is asked of types -/
theorem tyS (e : En) (x : V) (y : Value) (w : World) (h : Cn e (.iface 52 x) y) : (ReflectliteType.typeOf #[y]).run Tryd.prog w = .ok (.iface 79 (.agg #[hnd 52])) w := by
  simp only [Cn] at h
  obtain ⟨u, rfl, _⟩ := h
  kernel_rfl
theorem tyF (e : En) (x : V) (y : Value) (w : World) (h : Cn e (.iface 54 x) y) : (ReflectliteType.typeOf #[y]).run Tryd.prog w = .ok (.iface 79 (.agg #[hnd 54])) w := by
  simp only [Cn] at h
  obtain ⟨u, rfl, _⟩ := h
  kernel_rfl
theorem typeOfS {h : List Blk} {x : V} {K : V → List Blk → Prop} (k : K (rtyp 52) h) : ExtC Tryd.prog G0 48 [.iface 52 x] h K :=
  ExtC.val xTypeOf _ (fun e xs w hx => by
    simp only [CnL] at hx
    obtain ⟨y, _, rfl, hy, rfl⟩ := hx
    exact ⟨_, tyS e x y w hy, rtyp_cn e _⟩) k
theorem typeOfF {h : List Blk} {x : V} {K : V → List Blk → Prop} (k : K (rtyp 54) h) : ExtC Tryd.prog G0 48 [.iface 54 x] h K :=
  ExtC.val xTypeOf _ (fun e xs w hx => by
    simp only [CnL] at hx
    obtain ⟨y, _, rfl, hy, rfl⟩ := hx
    exact ⟨_, tyF e x y w hy, rtyp_cn e _⟩) k
theorem assignE {t u : Nat} {b : Bool} {h : List Blk} {K : V → List Blk → Prop} (hr : ∀ w, (ReflectliteType.relation "AssignableTo" ReflectliteType.assignableTo #[.agg #[hnd t], .iface 79 (.agg #[hnd u])]).run Tryd.prog w = .ok (.bool b) w) (k : K (vb b) h) :
    ExtC Tryd.prog G0 85 [.agg [.c (hnd t)], rtyp u] h K :=
  ExtC.val xAssignable _ (fun e xs w hx => by
    simp only [CnL] at hx
    obtain ⟨y, _, rfl, hy, z, _, rfl, hz, rfl⟩ := hx
    rw [cn_agg1 hy, cn_hnd hz]
    exact ⟨_, hr w, by simp [Cn]⟩) k
theorem asSS (w : World) : (ReflectliteType.relation "AssignableTo" ReflectliteType.assignableTo #[.agg #[hnd 52], .iface 79 (.agg #[hnd 52])]).run Tryd.prog w = .ok (.bool true) w := by kernel_rfl
theorem asSF (w : World) : (ReflectliteType.relation "AssignableTo" ReflectliteType.assignableTo #[.agg #[hnd 52], .iface 79 (.agg #[hnd 54])]).run Tryd.prog w = .ok (.bool false) w := by kernel_rfl
theorem asFS (w : World) : (ReflectliteType.relation "AssignableTo" ReflectliteType.assignableTo #[.agg #[hnd 54], .iface 79 (.agg #[hnd 52])]).run Tryd.prog w = .ok (.bool false) w := by kernel_rfl
theorem asFF (w : World) : (ReflectliteType.relation "AssignableTo" ReflectliteType.assignableTo #[.agg #[hnd 54], .iface 79 (.agg #[hnd 54])]).run Tryd.prog w = .ok (.bool true) w := by kernel_rfl
@[simp] theorem taSA : taB Tryd.prog 52 91 = some false := by kernel_rfl
@[simp] theorem taFA : taB Tryd.prog 54 91 = some false := by kernel_rfl
@[simp] theorem taSU : taB Tryd.prog 52 84 = some false := by kernel_rfl
@[simp] theorem taFU : taB Tryd.prog 54 84 = some true := by kernel_rfl
@[simp] theorem taSV : taB Tryd.prog 52 86 = some false := by kernel_rfl
theorem mUnwrap (x : V) : MethV Tryd.prog 54 x "Unwrap" 80 x := by
  intro e y w h
  exact ⟨y, by kernel_rfl, h⟩
theorem ct_Unwrap (w : List UInt8) (e : Er) : Ct Tryd.prog G0 80 [.agg [vs w, e.v]] [] e.v [] := by
  refine callV_ic hm (fn := Tryd.f80) rfl ic80_eq ic80_nm ic80_ok (by simp) ?_
  simp -dsimp [ic80]
  repeat' first
    | simp -dsimp
    | (with_reducible refine ordI (by kernel_rfl) ?_)
  exact exitV.cut (by simp) (by simp) (by simp) (by simp) ⟨rfl, by simp⟩
/-! ### Values of variables -/
theorem partsP (t : Nat) : True := trivial
theorem mkPS (a : Addr) (w : World) : (ReflectliteValue.mk 112 a 0).run Tryd.prog w = .ok (.agg #[hnd 112, .pointer (some a), .int .u64 150]) w := by kernel_rfl
theorem mkPF (a : Addr) (w : World) : (ReflectliteValue.mk 56 a 0).run Tryd.prog w = .ok (.agg #[hnd 56, .pointer (some a), .int .u64 150]) w := by kernel_rfl
theorem mkS (a : Addr) (w : World) : (ReflectliteValue.mk 52 a 0).run Tryd.prog w = .ok (.agg #[hnd 52, .pointer (some a), .int .u64 153]) w := by kernel_rfl
theorem mkF (a : Addr) (w : World) : (ReflectliteValue.mk 54 a 0).run Tryd.prog w = .ok (.agg #[hnd 54, .pointer (some a), .int .u64 153]) w := by kernel_rfl
theorem mkSA (a : Addr) (w : World) : (ReflectliteValue.mk 52 a ReflectliteValue.flagAddr).run Tryd.prog w = .ok (.agg #[hnd 52, .pointer (some a), .int .u64 409]) w := by kernel_rfl
theorem mkFA (a : Addr) (w : World) : (ReflectliteValue.mk 54 a ReflectliteValue.flagAddr).run Tryd.prog w = .ok (.agg #[hnd 54, .pointer (some a), .int .u64 409]) w := by kernel_rfl
theorem ptPS (a : Addr) (w : World) : (ReflectliteValue.parts (.agg #[hnd 112, .pointer (some a), .int .u64 (150 : Nat)])).run Tryd.prog w = .ok (some (112, a, 150)) w := by kernel_rfl
theorem ptPF (a : Addr) (w : World) : (ReflectliteValue.parts (.agg #[hnd 56, .pointer (some a), .int .u64 (150 : Nat)])).run Tryd.prog w = .ok (some (56, a, 150)) w := by kernel_rfl
theorem ptS1 (a : Addr) (w : World) : (ReflectliteValue.parts (.agg #[hnd 52, .pointer (some a), .int .u64 (409 : Nat)])).run Tryd.prog w = .ok (some (52, a, 409)) w := by kernel_rfl
theorem ptS2 (a : Addr) (w : World) : (ReflectliteValue.parts (.agg #[hnd 52, .pointer (some a), .int .u64 (153 : Nat)])).run Tryd.prog w = .ok (some (52, a, 153)) w := by kernel_rfl
theorem ptF1 (a : Addr) (w : World) : (ReflectliteValue.parts (.agg #[hnd 54, .pointer (some a), .int .u64 (409 : Nat)])).run Tryd.prog w = .ok (some (54, a, 409)) w := by kernel_rfl
theorem ptF2 (a : Addr) (w : World) : (ReflectliteValue.parts (.agg #[hnd 54, .pointer (some a), .int .u64 (153 : Nat)])).run Tryd.prog w = .ok (some (54, a, 153)) w := by kernel_rfl
theorem elPS (w : World) : (Rtype.elem? 112).run Tryd.prog w = .ok (some 52) w := by kernel_rfl
theorem elPF (w : World) : (Rtype.elem? 56).run Tryd.prog w = .ok (some 54) w := by kernel_rfl
theorem daS (w : World) : (Rtype.directlyAssignable 52 52).run Tryd.prog w = .ok true w := by kernel_rfl
theorem daF (w : World) : (Rtype.directlyAssignable 54 54).run Tryd.prog w = .ok true w := by kernel_rfl
set_option maxRecDepth 100000 in
/-- errors.as, for a fault alone. -/
theorem ct_asS (e : Er) (a b : V) : Ct Tryd.prog G0 53 [e.v, .iface 112 (.p 0 0), rvV 112 1 150, rtyp 52] [.cells 52 [a, b], .cells 112 [.p 0 0]] (vb true)
    [.cells 52 [vi e.leaf.1, vi e.leaf.2], .cells 112 [.p 0 0]] := by
  refine callV_ic hm (fn := Tryd.f53) rfl ic53_eq ic53_nm ic53_ok (by simp) ?_
  simp -dsimp [ic53]
  refine Ti.loopW hm (fun k s => ∃ e' : Er, e'.deep = k ∧ e'.leaf = e.leaf ∧ s = { t := [(0, e'.v), (1, .iface 112 (.p 0 0)), (3, rtyp 52), (6, .p 2 0)], d := [], h := [.cells 52 [a, b], .cells 112 [.p 0 0], .cells 71 [.c (hnd 112), .p 1 0, .c (.int .u64 (150 : Nat))]] }) (k := e.deep) ?_ ?_
  · exact Wk.sub [(0, e.v), (1, .iface 112 (.p 0 0)), (3, rtyp 52), (6, .p 2 0)] (by simp) (Wk.now ⟨e, rfl, rfl, rfl⟩)
  rintro k s ⟨e', hk, hl, rfl⟩
  cases e' with
  | s kk tt =>
    simp -dsimp [Er.v]
    refine typeOfS ?_
    simp -dsimp
    refine ⟨_, _, mAssignable _, ?_⟩
    simp -dsimp
    refine assignE asSS ?_
    repeat' first
      | simp -dsimp
      | (with_reducible refine ordI (by kernel_rfl) ?_)
    refine ext_elemV xElem (n := 150) ptPS (by decide) (by simp) elPS mkSA rfl rfl ?_
    repeat' first
      | simp -dsimp
      | (with_reducible refine ordI (by kernel_rfl) ?_)
    refine ext_valueOf xValueOf rfl rfl mkS ?_
    repeat' first
      | simp -dsimp
      | (with_reducible refine ordI (by kernel_rfl) ?_)
    refine ext_set xSet (n1 := 409) (n2 := 153) ptS1 ptS2 (by decide) daS (by simp) (by simp) rfl rfl (by simp) ?_
    repeat' first
      | simp -dsimp
      | (with_reducible refine ordI (by kernel_rfl) ?_)
    refine exitV.cut (by simp) (by simp) (by simp) (by simp) ⟨rfl, ?_⟩
    rw [← hl]; simp [Er.leaf]
  | f ww ee =>
    have hnil : ∀ x : Er, ∃ t v, x.v = .iface t v := fun x => by cases x <;> exact ⟨_, _, rfl⟩
    have hd : ee.deep < k := by simp only [Er.deep] at hk; omega
    have hl' : ee.leaf = e.leaf := hl
    simp -dsimp [Er.v]
    refine typeOfF ?_
    simp -dsimp
    refine ⟨_, _, mAssignable _, ?_⟩
    simp -dsimp
    refine assignE asFS ?_
    repeat' first
      | simp -dsimp
      | (with_reducible refine ordI (by kernel_rfl) ?_)
    refine ⟨_, _, mUnwrap _, ?_⟩
    simp -dsimp
    refine (CallD.pure (ct_Unwrap ww ee) (by simp) ?_).callV
    have hw : Wk G0 62 2 { t := [(0, ee.v), (1, .iface 112 (.p 0 0)), (3, rtyp 52), (6, .p 2 0)], d := [], h := [.cells 52 [a, b], .cells 112 [.p 0 0], .cells 71 [.c (hnd 112), .p 1 0, .c (.int .u64 (150 : Nat))]] } (fun s => ∃ e' : Er, e'.deep = ee.deep ∧ e'.leaf = e.leaf ∧ s = { t := [(0, e'.v), (1, .iface 112 (.p 0 0)), (3, rtyp 52), (6, .p 2 0)], d := [], h := [.cells 52 [a, b], .cells 112 [.p 0 0], .cells 71 [.c (hnd 112), .p 1 0, .c (.int .u64 (150 : Nat))]] }) := Wk.now ⟨ee, rfl, hl', rfl⟩
    obtain ⟨t', v', hv⟩ := hnil ee
    rw [hv] at hw ⊢
    repeat' first
      | simp -dsimp
      | (with_reducible refine ordI (by kernel_rfl) ?_)
    exact ⟨ee.deep, hd, Wk.sub [(0, .iface t' v'), (1, .iface 112 (.p 0 0)), (3, rtyp 52), (6, .p 2 0)] (by simp) hw⟩
end Go.Proofs.YtdnigflmcmammaaDoor
