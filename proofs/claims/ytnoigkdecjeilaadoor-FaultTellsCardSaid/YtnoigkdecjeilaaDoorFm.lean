/- Contracts of functions of the seat's program, and what follows of them: Fm. Conditions are in each statement. -/
import Derived.Test.YtnoigkdecjeilaaDoorFl
set_option linter.unusedSimpArgs false
set_option linter.unusedVariables false
namespace Go.Proofs.YtnoigkdecjeilaaDoor
open Go Go.Proofs Go.Vm Go.Extern
set_option maxRecDepth 100000

/-! ### What is told from some places -/
def fewB (p : List (List UInt8)) : Bool := allB (fun k => decide ((p.getD k []).length ≤ 30)) p.length && decide (p.length ≤ 8)
@[simp] theorem tstr_string : tstr Tryd.prog 9 = true := by kernel_rfl
@[simp] theorem strs_get (p : List (List UInt8)) (k : Nat) (h : k < (strs p).length) : (strs p)[k] = vs (p[k]'(by simpa [strs] using h)) := by simp [strs]
theorem ct_few (p : List (List UInt8)) (hb : p.length < top) : Ct Tryd.prog G0 10 [.ro 1 (strs p)] [] (vb (fewB p)) [] := by
  have hsl : (strs p).length = p.length := by simp [strs]
  refine callV_ic hm (fn := Tryd.f10) rfl ic10_eq ic10_nm ic10_ok (by simp) ?_
  simp -dsimp [ic10]
  refine Ti.loopW hm (fun j s => ∃ q : Nat, q + j = p.length ∧ allB (fun k => decide ((p.getD k []).length ≤ 30)) q = true ∧ s = { t := [(6, vi q), (5, vi p.length), (0, .ro 1 (strs p))], d := [], h := [] }) (k := p.length) ?_ ?_
  · exact Wk.sub [(6, vi (0 : Nat)), (5, vi p.length), (0, .ro 1 (strs p))] (by simp [hsl]) (Wk.now ⟨0, by omega, rfl, rfl⟩)
  rintro j s ⟨q, hq, ha, rfl⟩
  simp -dsimp
  refine brV.intro (fun hlt => ?_) (fun hlt => ?_)
  · have hlt : q < p.length := by simpa using hlt
    have hlt2 : q < (strs p).length := by omega
    have hw := wq hlt hb
    have hwl : p.getD q [] = p[q] := by simp [List.getD, hlt]
    by_cases c : (p[q]).length ≤ 30
    · have c' : ¬ 30 < ((p[q]).length : Int) := by omega
      have c2 : ¬ 30 < (p[q]).length := by omega
      have hs : allB (fun k => decide ((p.getD k []).length ≤ 30)) (q + 1) = true := allB_succ ha (by rw [hwl]; simpa using c)
      repeat' first
        | simp -dsimp [hlt, hlt2, hsl, ba_size, c', c2, hw]
        | (with_reducible refine ordI (by kernel_rfl) ?_)
      exact ⟨j - 1, by omega, Wk.sub [(6, vi (q + 1 : Nat)), (5, vi p.length), (0, .ro 1 (strs p))] (by simp) (Wk.now ⟨q + 1, by omega, hs, rfl⟩)⟩
    · have c' : 30 < ((p[q]).length : Int) := by omega
      have c2 : 30 < (p[q]).length := by omega
      have res : fewB p = false := by
        have := allB_false (p := fun k => decide ((p.getD k []).length ≤ 30)) hlt (by simp only [hwl]; simpa using c)
        simp only [fewB, this, Bool.false_and]
      repeat' first
        | simp -dsimp [hlt, hlt2, hsl, ba_size, c', c2]
        | (with_reducible refine ordI (by kernel_rfl) ?_)
      exact exitV.cut (by simp) (by simp) (by simp) (by simp) ⟨by simp [res], by simp⟩
  · have hqe : q = p.length := by simp at hlt; omega
    rw [hqe] at ha
    have res : fewB p = decide (p.length ≤ 8) := by simp only [fewB, ha, Bool.true_and]
    simp -dsimp [hsl]
    exact exitV.cut (by simp) (by simp) (by simp) (by simp) ⟨by rw [res, show decide ((p.length : Int) ≤ 8) = decide (p.length ≤ 8) from decide_eq_decide.2 (by omega)], by simp⟩
def wrapE (p : List (List UInt8)) (e : Er) : Er := p.foldl (fun e w => .f w e) e
theorem wrapE_leaf : ∀ (p : List (List UInt8)) (e : Er), (wrapE p e).leaf = e.leaf
  | [], _ => rfl
  | w :: p, e => wrapE_leaf p (.f w e)
theorem wrapE_succ {p : List (List UInt8)} {q : Nat} (h : q < p.length) (e : Er) : wrapE (p.take (q + 1)) e = .f p[q] (wrapE (p.take q) e) := by
  unfold wrapE
  rw [List.take_add_one, List.getElem?_eq_getElem h, List.foldl_append]
  rfl
theorem ct_made (k t : Int) (p : List (List UInt8)) (hb : p.length < top) (c : canP k = true) : Ct Tryd.prog G0 11 [vi k, vi t, .ro 1 (strs p)] [] (wrapE p (.s k (mid t))).v [] := by
  have hsl : (strs p).length = p.length := by simp [strs]
  have nw := ct_fault_New k t c
  refine callV_ic hm (fn := Tryd.f11) rfl ic11_eq ic11_nm ic11_ok (by simp) ?_
  simp -dsimp [ic11]
  repeat' first
    | simp -dsimp [hsl]
    | (with_reducible refine (CallD.pure (nw) (by simp) ?_).callV)
    | (with_reducible refine ordI (by kernel_rfl) ?_)
  refine Ti.loopW hm (fun j s => ∃ q : Nat, q + j = p.length ∧ s = { t := [(14, vi q), (13, vi p.length), (2, .ro 1 (strs p)), (7, (wrapE (p.take q) (.s k (mid t))).v)], d := [], h := [] }) (k := p.length) ?_ ?_
  · exact Wk.sub [(14, vi (0 : Nat)), (13, vi p.length), (2, .ro 1 (strs p)), (7, (Er.s k (mid t)).v)] (by simp [hsl]) (Wk.now ⟨0, by omega, rfl⟩)
  rintro j s ⟨q, hq, rfl⟩
  simp -dsimp
  refine brV.intro (fun hlt => ?_) (fun hlt => ?_)
  · have hlt : q < p.length := by simpa using hlt
    have hlt2 : q < (strs p).length := by omega
    have hw := wq hlt hb
    have wr := ct_fault_Wrap p[q] (wrapE (p.take q) (.s k (mid t)))
    rw [← wrapE_succ hlt] at wr
    repeat' first
      | simp -dsimp [hlt, hlt2, hsl, hw]
      | (with_reducible refine (CallD.pure (wr) (by simp) ?_).callV)
      | (with_reducible refine ordI (by kernel_rfl) ?_)
    exact ⟨j - 1, by omega, Wk.sub [(14, vi (q + 1 : Nat)), (13, vi p.length), (2, .ro 1 (strs p)), (7, (wrapE (p.take (q + 1)) (.s k (mid t))).v)] (by simp) (Wk.now ⟨q + 1, by omega, rfl⟩)⟩
  · have hqe : q = p.length := by simp at hlt; omega
    simp -dsimp
    exact exitV.cut (by simp) (by simp) (by simp) (by simp) ⟨by rw [hqe, List.take_length], by simp⟩
theorem ct_madeNo (k t : Int) (p : List (List UInt8)) (hb : p.length < top) (c : canP k = false) : Ct Tryd.prog G0 11 [vi k, vi t, .ro 1 (strs p)] [] (.c .nilIface) [] := by
  have hsl : (strs p).length = p.length := by simp [strs]
  have nw := ct_fault_NewNo k t c
  refine callV_ic hm (fn := Tryd.f11) rfl ic11_eq ic11_nm ic11_ok (by simp) ?_
  simp -dsimp [ic11]
  repeat' first
    | simp -dsimp [hsl]
    | (with_reducible refine (CallD.pure (nw) (by simp) ?_).callV)
    | (with_reducible refine ordI (by kernel_rfl) ?_)
  refine Ti.loopW hm (fun j s => ∃ q : Nat, q + j = p.length ∧ s = { t := [(14, vi q), (13, vi p.length), (2, .ro 1 (strs p)), (7, .c .nilIface)], d := [], h := [] }) (k := p.length) ?_ ?_
  · exact Wk.sub [(14, vi (0 : Nat)), (13, vi p.length), (2, .ro 1 (strs p)), (7, .c .nilIface)] (by simp [hsl]) (Wk.now ⟨0, by omega, rfl⟩)
  rintro j s ⟨q, hq, rfl⟩
  simp -dsimp
  refine brV.intro (fun hlt => ?_) (fun hlt => ?_)
  · have hlt : q < p.length := by simpa using hlt
    have hlt2 : q < (strs p).length := by omega
    have hw := wq hlt hb
    have wr := ct_fault_WrapNo p[q]
    repeat' first
      | simp -dsimp [hlt, hlt2, hsl, hw]
      | (with_reducible refine (CallD.pure (wr) (by simp) ?_).callV)
      | (with_reducible refine ordI (by kernel_rfl) ?_)
    exact ⟨j - 1, by omega, Wk.sub [(14, vi (q + 1 : Nat)), (13, vi p.length), (2, .ro 1 (strs p)), (7, .c .nilIface)] (by simp) (Wk.now ⟨q + 1, by omega, rfl⟩)⟩
  · simp -dsimp
    exact exitV.cut (by simp) (by simp) (by simp) (by simp) ⟨rfl, by simp⟩
end Go.Proofs.YtnoigkdecjeilaaDoor
