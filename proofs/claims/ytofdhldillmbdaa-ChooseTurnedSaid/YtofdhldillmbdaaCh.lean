/- Contracts of functions of the seat's program, and what follows of them: Ch. Conditions are in each statement. -/
import Derived.Test.YtofdhldillmbdaaCg
set_option linter.unusedSimpArgs false
set_option linter.unusedVariables false
namespace Go.Proofs.Ytofdhldillmbdaa
open Go Go.Proofs Go.Vm

/-- The lift of awake: its levels are a slice that was just built. -/
def cells0 : List V := [.sl 1 0 0 3, .c (.slice none 0 0), vi 0, vi 0, vi 0, vi 0, vi 0, vi 0, vi 0, vi 0, vi 0, vi 0, vi 0, vi 0, vi 0, vi 0, vi 0, vi 0, vi 0, vi 0, vi 0]
def blk0 : Blk := .cells 3 [vi 0, vi 9, vi 18]
set_option maxRecDepth 100000 in
theorem ct_There0 : Ct Try.prog G0 27 [.agg cells0] [blk0] (vi 7) [blk0] := by
  refine callV_ic hm (fn := Try.f27) rfl ic27_eq ic27_nm ic27_ok (by simp) ?_
  simp -dsimp [ic27, cells0, blk0]
  refine ⟨by decide, ?_⟩
  rw [show IntKind.wrap .i64 (IntKind.wrap .i64 (2 ^ min ((min (3 : Int) 16).toNat) (IntKind.bits .i64)) - 1) = 7 from by decide +kernel]
  exact exitV.cut (by simp) (by simp) (by simp) (by simp) ⟨rfl, by simp [blk0]⟩
set_option maxRecDepth 100000 in
theorem ct_With0 : Ct Try.prog G0 26 [vi 0, .agg cells0, vi 13] [blk0] (vi 5) [blk0] := by
  refine callV_ic hm (fn := Try.f26) rfl ic26_eq ic26_nm ic26_ok (by simp) ?_
  simp -dsimp [ic26, cells0, blk0]
  refine (CallD.look (i := 0) ct_There0 rfl rfl (by simp [blk0]) (by simp [cells0]) rfl ?_).callV
  simp -dsimp [V.ren]
  exact exitV.cut (by simp) (by simp) (by simp) (by simp) ⟨by rw [show bits .or .i64 (bits .and .i64 0 65535) (bits .and .i64 13 7) = 5 from by decide], by simp [blk0]⟩
set_option maxRecDepth 100000 in
theorem ct_law17_awake : Ct Try.prog G0 11 [] [] (vb true) [] := by
  refine callV_ic hm (fn := Try.f11) rfl ic11_eq ic11_nm ic11_ok (by simp) ?_
  simp -dsimp [ic11]
  refine (CallD.look (i := 0) ct_With0 rfl rfl (by simp [blk0]) (by simp [cells0]) rfl ?_).callV
  simp -dsimp [V.ren]
  refine (CallD.look (i := 0) ct_There0 rfl rfl (by simp [blk0]) (by simp [cells0]) rfl ?_).callV
  have w0 : without 5 0 = 4 := by decide
  have h2 : hasB 5 2 = true := by decide
  have a1 : aboveR 5 1 16 = true := by decide +kernel
  have b1 : belowR 5 1 = true := by decide +kernel
  have l5 : listV 5 = .ro 1 [vi 0, vi 2] := by
    have : listR 5 16 = [0, 2] := by decide +kernel
    unfold listV
    rw [this]; rfl
  have sW := ct_Without 5 0
  have sH := ct_Has 5 2
  have sA := ct_Above 5 1
  have sB := ct_Below 5 1
  have sL := ct_List 5
  rw [w0] at sW
  rw [h2] at sH
  rw [a1] at sA
  rw [b1] at sB
  rw [l5] at sL
  repeat' first
    | simp -dsimp [V.ren]
    | (with_reducible refine (CallD.pure sW (by simp) ?_).callV)
    | (with_reducible refine (CallD.pure sH (by simp) ?_).callV)
    | (with_reducible refine (CallD.pure sA (by simp) ?_).callV)
    | (with_reducible refine (CallD.pure sB (by simp) ?_).callV)
    | (with_reducible refine (CallD.pure sL (by simp) ?_).callV)
  exact exitV.cut (by simp) (by simp) (by simp) (by simp) ⟨by simp, by simp⟩
end Go.Proofs.Ytofdhldillmbdaa
