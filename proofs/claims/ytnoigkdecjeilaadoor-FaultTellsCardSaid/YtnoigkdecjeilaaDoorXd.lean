/- Contracts of functions of the seat's program, and what follows of them: Xd. Conditions are in each statement. -/
import Derived.Test.YtnoigkdecjeilaaDoorXc
set_option linter.unusedSimpArgs false
set_option linter.unusedVariables false
namespace Go.Proofs.YtnoigkdecjeilaaDoor
open Go Go.Proofs Go.Vm Go.Extern

@[simp] theorem tslice_strs : tslice Tryd.prog 23 = true := by kernel_rfl
/-- The path, nil if there is none. -/
def pathV (l : List (List UInt8)) : V := .ro 1 (strs l)
set_option maxRecDepth 100000 in
theorem ct_Path (e : Er) (hd : e.deep ≤ 1000000) : Ct Tryd.prog G0 15 [e.v] [] (pathV e.path) [] := by
  have hby : Tryd.prog.bytesOf 9 = 16 := by kernel_rfl
  have hL := e.path_len
  refine callV_ic hm (fn := Tryd.f15) rfl ic15_eq ic15_nm ic15_ok (by simp) ?_
  simp -dsimp [ic15]
  refine Ti.loopW hm (fun k s => ∃ (e' : Er) (l : List (List UInt8)) (a b : V), e'.deep = k ∧ l ++ e'.path = e.path ∧ (a.ok (fun _ => False) ∧ b.ok (fun _ => False)) ∧ s = { t := [(0, e'.v), (3, .sl 1 1 0 l.length), (4, .p 0 0)], d := [], h := [.cells 70 [a, b], .cells 9 (strs l)] }) (k := e.deep) ?_ ?_
  · refine Wk.sub [(0, e.v), (3, .c (.slice none 0 0)), (4, .p 0 0)] (by simp) ?_
    exact Wk.nil 3 1 9 (by simp) (Wk.sub [(0, e.v), (3, .sl 1 1 0 0), (4, .p 0 0)] (by simp) (Wk.now ⟨e, [], _, _, rfl, rfl, ⟨by simp, by simp⟩, rfl⟩))
  rintro k s ⟨e', l, a, b, hk, hl, ⟨ha, hb⟩, rfl⟩
  have oka : ∀ p : Nat → Prop, a.ok p := fun p => V.ok_mono (fun _ h => h.elim) ha
  have okb : ∀ p : Nat → Prop, b.ok p := fun p => V.ok_mono (fun _ h => h.elim) hb
  have rena : ∀ ρ : Nat → Nat, a.ren ρ = a := fun ρ => V.ren_same (p := fun _ => False) (fun _ h => h.elim) ha
  have renb : ∀ ρ : Nat → Nat, b.ren ρ = b := fun ρ => V.ren_same (p := fun _ => False) (fun _ h => h.elim) hb
  cases e' with
  | s kk tt =>
    have f := ct_AsF0 kk tt a b ha hb
    simp only [Er.v] at f
    simp -dsimp [Er.v]
    refine (CallD.touch (i := 0) f (by simp [rena, renb]) rfl (by simp [oka, okb]) (by simp) (by simp) ?_).callV
    repeat' first
      | simp -dsimp
      | (with_reducible refine ordI (by kernel_rfl) ?_)
    refine exitV.freeze 1 _ _ false rfl (by simp) ?_
    simp -dsimp [rows_strs]
    have : l = e.path := by simpa [Er.path] using hl
    exact exitV.cut (by simp) (by simp) (by simp) (by simp) ⟨by rw [this]; rfl, by simp⟩
  | f ww ee =>
    have f := ct_AsF ww ee a b ha hb
    simp only [Er.v] at f
    have hll : l.length < 1000000 := by
      have := congrArg List.length hl
      simp only [Er.path, List.length_append, List.length_cons] at this; omega
    have y1 : (l.length + 1) * 16 ≤ 140737488355328 := by omega
    have y2 : l.length + 1 ≤ 9223372036854775807 := by omega
    have hs : strs l ++ [vs ww] = strs (l ++ [ww]) := by rw [strs_app]; rfl
    simp -dsimp [Er.v]
    refine (CallD.touch (i := 0) f (by simp [rena, renb]) rfl (by simp [oka, okb]) (by simp) (by simp) ?_).callV
    repeat' first
      | simp -dsimp [hby, y1, y2, hs]
      | (with_reducible refine ordI (by kernel_rfl) ?_)
    refine ⟨rfl, ee.deep, by simp only [Er.deep] at hk; omega, Wk.some [0, 3] [.cells 70 [vs ww, ee.v], .cells 9 (strs (l ++ [ww]))] [(0, ee.v), (3, .sl 1 1 0 (l ++ [ww]).length), (4, .p 0 0)] rfl (by simp) (by simp) (by simp) (by simp) (by simp [rho]) (by simp)
      (Wk.now ⟨ee, l ++ [ww], _, _, rfl, by rw [← hl]; simp [Er.path], ⟨by simp, by simp⟩, rfl⟩)⟩
set_option maxRecDepth 100000 in
theorem ct_Path0 : Ct Tryd.prog G0 15 [.c .nilIface] [] (.c (.slice none 0 0)) [] := by
  have f := ct_As0 71 (.cells 70 [.c (.string ⟨⟨[]⟩⟩), .c .nilIface]) (by simp) rfl
  refine callV_ic hm (fn := Tryd.f15) rfl ic15_eq ic15_nm ic15_ok (by simp) ?_
  simp -dsimp [ic15]
  refine Ti.unroll hm 1 ?_
  simp -dsimp
  refine (CallD.touch (i := 0) f (by simp) rfl (by simp) (by simp) (by simp) ?_).callV
  repeat' first
    | simp -dsimp
    | (with_reducible refine ordI (by kernel_rfl) ?_)
  exact exitV.cut (by simp) (by simp) (by simp) (by simp) ⟨rfl, by simp⟩
end Go.Proofs.YtnoigkdecjeilaaDoor
