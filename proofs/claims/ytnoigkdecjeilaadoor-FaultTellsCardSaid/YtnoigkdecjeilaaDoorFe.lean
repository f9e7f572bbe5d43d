/- Contracts of functions of the seat's program, and what follows of them: Fe. Conditions are in each statement. -/
import Derived.Test.YtnoigkdecjeilaaDoorFd
set_option linter.unusedSimpArgs false
set_option linter.unusedVariables false
namespace Go.Proofs.YtnoigkdecjeilaaDoor
open Go Go.Proofs Go.Vm Go.Extern
set_option maxRecDepth 100000

@[simp] theorem isStr_string : isStr Tryd.prog 9 = true := by kernel_rfl
theorem ba_size (l : List UInt8) : (ByteArray.mk (Array.mk l)).size = l.length := rfl
theorem ba_app (a b : List UInt8) : ByteArray.mk (Array.mk a) ++ ByteArray.mk (Array.mk b) = ByteArray.mk (Array.mk (a ++ b)) := by
  apply ByteArray.ext
  rw [ByteArray.data_append]
  simp
theorem ct_small6 : Ct Tryd.prog G0 44 [vi 6] [] (vs [54]) [] := by
  refine callV_ic hm (fn := Tryd.f44) rfl ic44_eq ic44_nm ic44_ok (by simp) ?_
  simp -dsimp [ic44]
  repeat' first
    | simp -dsimp [show IntKind.wrap .i64 7 = 7 by decide]
    | (with_reducible refine ordI (by kernel_rfl) ?_)
  exact exitV.cut (by simp) (by simp) (by simp) (by simp) ⟨by kernel_rfl, by simp⟩
theorem ct_small5 : Ct Tryd.prog G0 44 [vi 5] [] (vs [53]) [] := by
  refine callV_ic hm (fn := Tryd.f44) rfl ic44_eq ic44_nm ic44_ok (by simp) ?_
  simp -dsimp [ic44]
  repeat' first
    | simp -dsimp [show IntKind.wrap .i64 6 = 6 by decide]
    | (with_reducible refine ordI (by kernel_rfl) ?_)
  exact exitV.cut (by simp) (by simp) (by simp) (by simp) ⟨by kernel_rfl, by simp⟩
theorem ct_Format6 : Ct Tryd.prog G0 43 [vi 6, vi 10] [] (vs [54]) [] := by
  refine callV_ic hm (fn := Tryd.f43) rfl ic43_eq ic43_nm ic43_ok (by simp) ?_
  simp -dsimp [ic43]
  repeat' first
    | simp -dsimp
    | (with_reducible refine (CallD.pure (ct_small6) (by simp) ?_).callV)
    | (with_reducible refine ordI (by kernel_rfl) ?_)
  exact exitV.cut (by simp) (by simp) (by simp) (by simp) ⟨rfl, by simp⟩
theorem ct_Format5 : Ct Tryd.prog G0 43 [vi 5, vi 10] [] (vs [53]) [] := by
  refine callV_ic hm (fn := Tryd.f43) rfl ic43_eq ic43_nm ic43_ok (by simp) ?_
  simp -dsimp [ic43]
  repeat' first
    | simp -dsimp
    | (with_reducible refine (CallD.pure (ct_small5) (by simp) ?_).callV)
    | (with_reducible refine ordI (by kernel_rfl) ?_)
  exact exitV.cut (by simp) (by simp) (by simp) (by simp) ⟨rfl, by simp⟩
theorem ct_iItoa6 : Ct Tryd.prog G0 42 [vi 6] [] (vs [54]) [] := by
  refine callV_ic hm (fn := Tryd.f42) rfl ic42_eq ic42_nm ic42_ok (by simp) ?_
  simp -dsimp [ic42]
  repeat' first
    | simp -dsimp
    | (with_reducible refine (CallD.pure (ct_Format6) (by simp) ?_).callV)
    | (with_reducible refine ordI (by kernel_rfl) ?_)
  exact exitV.cut (by simp) (by simp) (by simp) (by simp) ⟨rfl, by simp⟩
theorem ct_iItoa5 : Ct Tryd.prog G0 42 [vi 5] [] (vs [53]) [] := by
  refine callV_ic hm (fn := Tryd.f42) rfl ic42_eq ic42_nm ic42_ok (by simp) ?_
  simp -dsimp [ic42]
  repeat' first
    | simp -dsimp
    | (with_reducible refine (CallD.pure (ct_Format5) (by simp) ?_).callV)
    | (with_reducible refine ordI (by kernel_rfl) ?_)
  exact exitV.cut (by simp) (by simp) (by simp) (by simp) ⟨rfl, by simp⟩
theorem ct_Itoa6 : Ct Tryd.prog G0 39 [vi 6] [] (vs [54]) [] := by
  refine callV_ic hm (fn := Tryd.f39) rfl ic39_eq ic39_nm ic39_ok (by simp) ?_
  simp -dsimp [ic39]
  repeat' first
    | simp -dsimp
    | (with_reducible refine (CallD.pure (ct_iItoa6) (by simp) ?_).callV)
    | (with_reducible refine ordI (by kernel_rfl) ?_)
  exact exitV.cut (by simp) (by simp) (by simp) (by simp) ⟨rfl, by simp⟩
theorem ct_Itoa5 : Ct Tryd.prog G0 39 [vi 5] [] (vs [53]) [] := by
  refine callV_ic hm (fn := Tryd.f39) rfl ic39_eq ic39_nm ic39_ok (by simp) ?_
  simp -dsimp [ic39]
  repeat' first
    | simp -dsimp
    | (with_reducible refine (CallD.pure (ct_iItoa5) (by simp) ?_).callV)
    | (with_reducible refine ordI (by kernel_rfl) ?_)
  exact exitV.cut (by simp) (by simp) (by simp) (by simp) ⟨rfl, by simp⟩
/-- 'fault 6 at 5'. -/
def text65 : List UInt8 := [102, 97, 117, 108, 116, 32, 54, 32, 97, 116, 32, 53]
theorem ct_FaultError : Ct Tryd.prog G0 31 [.agg [vi 6, vi 5]] [] (vs text65) [] := by
  refine callV_ic hm (fn := Tryd.f31) rfl ic31_eq ic31_nm ic31_ok (by simp) ?_
  simp -dsimp [ic31]
  repeat' first
    | simp -dsimp [ba_size, ba_app]
    | (with_reducible refine (CallD.pure (ct_Itoa6) (by simp) ?_))
    | (with_reducible refine (CallD.pure (ct_Itoa5) (by simp) ?_))
    | (with_reducible refine ordI (by kernel_rfl) ?_)
  exact exitV.cut (by simp) (by simp) (by simp) (by simp) ⟨rfl, by simp⟩
theorem ct_singleError : Ct Tryd.prog G0 72 [.agg [vi 6, vi 5]] [] (vs text65) [] := by
  refine callV_ic hm (fn := Tryd.f72) rfl ic72_eq ic72_nm ic72_ok (by simp) ?_
  simp -dsimp [ic72]
  repeat' first
    | simp -dsimp
    | (with_reducible refine (CallD.pure (ct_FaultError) (by simp) ?_).callV)
    | (with_reducible refine ordI (by kernel_rfl) ?_)
  exact exitV.cut (by simp) (by simp) (by simp) (by simp) ⟨by kernel_rfl, by simp⟩
theorem mErrorS (x : V) : MethV Tryd.prog 65 x "Error" 72 x := by
  intro e y w h
  exact ⟨y, by kernel_rfl, h⟩
theorem mErrorF (x : V) : MethV Tryd.prog 70 x "Error" 74 x := by
  intro e y w h
  exact ⟨y, by kernel_rfl, h⟩
def text65f : List UInt8 := [100, 114, 105, 118, 101, 58, 32] ++ text65
abbrev hot : Er := .f [100, 114, 105, 118, 101] (.s 6 5)
theorem ct_fromError : Ct Tryd.prog G0 74 [.agg [vs [100, 114, 105, 118, 101], .iface 65 (.agg [vi 6, vi 5])]] [] (vs text65f) [] := by
  have f := ct_singleError
  have tl : text65.length = 12 := rfl
  refine callV_ic hm (fn := Tryd.f74) rfl ic74_eq ic74_nm ic74_ok (by simp) ?_
  simp -dsimp [ic74]
  repeat' first
    | simp -dsimp [ba_size, ba_app]
    | (with_reducible refine ordI (by kernel_rfl) ?_)
  refine ⟨_, _, mErrorS _, ?_⟩
  repeat' first
    | simp -dsimp [ba_size, ba_app, tl]
    | (with_reducible refine (CallD.pure (f) (by simp) ?_))
    | (with_reducible refine ordI (by kernel_rfl) ?_)
  exact exitV.cut (by simp) (by simp) (by simp) (by simp) ⟨rfl, by simp⟩
end Go.Proofs.YtnoigkdecjeilaaDoor
