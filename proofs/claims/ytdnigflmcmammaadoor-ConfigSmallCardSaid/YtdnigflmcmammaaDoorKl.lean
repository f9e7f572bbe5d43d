/- Contracts of functions of the seat's program, and what follows of them: Kl. Conditions are in each statement. -/
import Derived.Test.YtdnigflmcmammaaDoorKw
set_option linter.unusedSimpArgs false
set_option linter.unusedVariables false
namespace Go.Proofs.YtdnigflmcmammaaDoor
open Go Go.Proofs Go.Vm

abbrev v8 (x : Int) : V := .c (.int .u8 x)
abbrev v16 (x : Int) : V := .c (.int .u16 x)
theorem wu8_of {x : Int} (h1 : 0 ≤ x) (h2 : x ≤ 255) : IntKind.wrap .u8 x = x := by
  simp only [IntKind.wrap, IntKind.signed, IntKind.bits]
  simp; omega
theorem wu16_of {x : Int} (h1 : 0 ≤ x) (h2 : x ≤ 65535) : IntKind.wrap .u16 x = x := by
  simp only [IntKind.wrap, IntKind.signed, IntKind.bits]
  simp; omega
def small0 : V := .agg [v8 0, v8 0, v8 0, v8 0, v8 0, v8 0, v8 0, v8 0, v8 0, v8 0, v16 0, v8 0, v8 0, v8 0, v16 0, v16 0, v16 0, v8 0, v8 0, v16 0]
def cfg0 : Cfg := ⟨[0, 21], [1, 1], 6, 3, 3, 3, 9, 2, 2, 2, 2, 0, 1, 0, 1, 0, 1, 1, 1, 1, 1⟩
@[simp] theorem c0a : coastR 1 2000 2 0 = 1 := by decide +kernel
@[simp] theorem c0b : tickR 1 2000 2 0 = 2 := by decide +kernel
@[simp] theorem mx31 : max (3 : Int) 1 = 3 := by decide
@[simp] theorem mx364 : max (36 : Int) 4 = 36 := by decide
set_option maxRecDepth 100000 in
theorem ct_Lift0 : Ct Tryd.prog G0 5 [small0] [] cfg0.enc [] := by
  refine callV_ic hm (fn := Tryd.f5) rfl ic5_eq ic5_nm ic5_ok (by simp) ?_
  unfold small0
  simp -dsimp [ic5, w64_of, wu8_of, wu16_of]
  repeat' first
    | (with_reducible refine ordI (by kernel_rfl) ?_)
    | (with_reducible refine CallD.pure (ct_ref05_coast _ _) (by simp) ?_)
    | (with_reducible refine CallD.pure (ct_ref05_ticks _ _) (by simp) ?_)
    | (with_reducible refine (CallD.pure (ct_ref05_coast _ _) (by simp) ?_).callV)
    | (with_reducible refine (CallD.pure (ct_ref05_ticks _ _) (by simp) ?_).callV)
    | (with_reducible refine Ti.unroll hm 3 ?_)
    | simp -dsimp [w64_of, wu8_of, wu16_of]
  refine exitV.freeze 8 _ _ false rfl (by simp) ?_
  refine exitV.freeze 10 _ _ false rfl (by simp) ?_
  simp -dsimp
  exact exitV.cut (by simp) (by simp) (by simp) (by simp) (by simp [cfg0, Cfg.cells, ints])

def small6 : V := .agg [v8 0, v8 6, v8 0, v8 0, v8 0, v8 0, v8 0, v8 0, v8 0, v8 0, v16 0, v8 0, v8 0, v8 0, v16 0, v16 0, v16 0, v8 0, v8 0, v16 0]
def cfg6 : Cfg := ⟨[0, 225], [1, 1], 72, 36, 36, 36, 108, 8, 8, 8, 8, 0, 1, 0, 1, 0, 1, 1, 1, 1, 1⟩
@[simp] theorem c6a : coastR 1 2000 8 0 = 28 := by decide +kernel
@[simp] theorem c6b : tickR 1 2000 8 0 = 8 := by decide +kernel
set_option maxRecDepth 100000 in
theorem ct_Lift6 : Ct Tryd.prog G0 5 [small6] [] cfg6.enc [] := by
  refine callV_ic hm (fn := Tryd.f5) rfl ic5_eq ic5_nm ic5_ok (by simp) ?_
  unfold small6
  simp -dsimp [ic5, w64_of, wu8_of, wu16_of]
  repeat' first
    | (with_reducible refine ordI (by kernel_rfl) ?_)
    | (with_reducible refine CallD.pure (ct_ref05_coast _ _) (by simp) ?_)
    | (with_reducible refine CallD.pure (ct_ref05_ticks _ _) (by simp) ?_)
    | (with_reducible refine (CallD.pure (ct_ref05_coast _ _) (by simp) ?_).callV)
    | (with_reducible refine (CallD.pure (ct_ref05_ticks _ _) (by simp) ?_).callV)
    | (with_reducible refine Ti.unroll hm 3 ?_)
    | simp -dsimp [w64_of, wu8_of, wu16_of]
  refine exitV.freeze 8 _ _ false rfl (by simp) ?_
  refine exitV.freeze 10 _ _ false rfl (by simp) ?_
  simp -dsimp
  exact exitV.cut (by simp) (by simp) (by simp) (by simp) (by simp [cfg6, Cfg.cells, ints])

end Go.Proofs.YtdnigflmcmammaaDoor
