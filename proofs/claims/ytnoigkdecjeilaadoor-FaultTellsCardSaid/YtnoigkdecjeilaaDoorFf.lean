/- Contracts of functions of the seat's program, and what follows of them: Ff. Conditions are in each statement. -/
import Derived.Test.YtnoigkdecjeilaaDoorFe
set_option linter.unusedSimpArgs false
set_option linter.unusedVariables false
namespace Go.Proofs.YtnoigkdecjeilaaDoor
open Go Go.Proofs Go.Vm Go.Extern
set_option maxRecDepth 100000

abbrev Z12 : List Flt := List.replicate 12 f0
theorem z24 : fltC Z12 = [vi 0, vi 0, vi 0, vi 0, vi 0, vi 0, vi 0, vi 0, vi 0, vi 0, vi 0, vi 0, vi 0, vi 0, vi 0, vi 0, vi 0, vi 0, vi 0, vi 0, vi 0, vi 0, vi 0, vi 0] := rfl
theorem ct_law02_awake : Ct Tryd.prog G0 9 [] [] (vb true) [] := by
  have n := ct_fault_New 6 5 (by decide)
  rw [show mid 5 = 5 from rfl] at n
  have w := ct_fault_Wrap [100, 114, 105, 118, 101] (Er.s 6 5)
  have o := ct_Of (Er.f [100, 114, 105, 118, 101] (Er.s 6 5))
  have i := ct_fault_Is (Er.f [100, 114, 105, 118, 101] (Er.s 6 5)) 6
  have p := ct_Path (Er.f [100, 114, 105, 118, 101] (Er.s 6 5)) (by simp [Er.deep])
  have a := ct_Add Z12 rfl (Er.f [100, 114, 105, 118, 101] (Er.s 6 5)) (by decide)
  obtain ⟨L1, h1⟩ : ∃ L1, L1 = addL Z12 ⟨6, 5⟩ := ⟨_, rfl⟩
  have hl1 : L1.length = 12 := by rw [h1]; simp
  have h := ct_Has L1 hl1 6
  have al := ct_All L1 hl1
  have er := ct_Err L1 hl1 (by rw [h1]; decide)
  rw [show hasL L1 6 = true by rw [h1]; decide] at h
  rw [show allF L1 = [⟨6, 5⟩] by rw [h1]; rfl] at al er
  have er' : Ct Tryd.prog G0 28 [.p 0 0] [.cells 47 (fltC L1)] (.iface 65 (.agg [vi 6, vi 5])) [.cells 47 (fltC L1)] := er
  clear er
  simp only [Er.leaf, Er.path, pathV, strs, List.map_cons, List.map_nil] at o i p a
  rw [← h1] at a
  rw [show hasL Z12 6 = false by decide, z24] at a
  simp only [Er.v] at n w o i p a
  refine callV_ic hm (fn := Tryd.f9) rfl ic9_eq ic9_nm ic9_ok (by simp) ?_
  simp -dsimp [ic9]
  repeat' first
    | simp -dsimp
    | (with_reducible refine (CallD.pure (n) (by simp) ?_).callV)
    | (with_reducible refine (CallD.pure (w) (by simp) ?_).callV)
    | (with_reducible refine (CallD.pure (o) (by simp) ?_).callV)
    | (with_reducible refine (CallD.pure (i) (by simp) ?_).callV)
    | (with_reducible refine (CallD.pure (p) (by simp) ?_).callV)
    | (with_reducible refine (CallD.touch (i := 1) a (by simp) rfl (by simp) (by simp) (by simp) ?_).callV)
    | (with_reducible refine (CallD.look (i := 1) h (by simp) rfl (by simp) (by simp) (by simp) ?_).callV)
    | (with_reducible refine (CallD.look (i := 1) al (by simp) rfl (by simp) (by simp) (by simp) ?_).callV)
    | (with_reducible refine (CallD.look (i := 1) er' (by simp) rfl (by simp) (by simp) (by simp) ?_).callV)
    | (with_reducible refine ordI (by kernel_rfl) ?_)
  refine ⟨_, _, mErrorF _, ?_⟩
  repeat' first
    | simp -dsimp
    | (with_reducible refine (CallD.pure (ct_fromError) (by simp) ?_).callV)
    | (with_reducible refine ordI (by kernel_rfl) ?_)
  exact exitV.cut (by simp) (by simp) (by simp) (by simp) ⟨rfl, by simp⟩
end Go.Proofs.YtnoigkdecjeilaaDoor
