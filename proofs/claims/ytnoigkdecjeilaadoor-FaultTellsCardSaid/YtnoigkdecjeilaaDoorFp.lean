/- Contracts of functions of the seat's program, and what follows of them: Fp. Conditions are in each statement. -/
import Derived.Test.YtnoigkdecjeilaaDoorFo
set_option linter.unusedSimpArgs false
set_option linter.unusedVariables false
namespace Go.Proofs.YtnoigkdecjeilaaDoor
open Go Go.Proofs Go.Vm Go.Extern
set_option maxRecDepth 100000

def tdS (k t : Int) (p : List (List UInt8)) : Nat → St
  | 0 => { t := [(21, vi (0 : Nat)), (20, vi p.length), (2, .ro 1 (strs p)), (7, .p 1 0), (6, .p 0 0)], d := [], h := [.cells 32 [vb false, vi 0, vi 0, .c (.slice none 0 0)], .cells 32 [vb true, vi k, vi (mid t), .c (.slice none 0 0)]] }
  | q + 1 => { t := [(21, vi (q + 1 : Nat)), (20, vi p.length), (2, .ro 1 (strs p)), (7, .p 1 0), (6, .p 0 0)], d := [], h := [.cells 32 [vb false, vi 0, vi 0, .c (.slice none 0 0)], .cells 32 [vb true, vi k, vi (mid t), .sl 1 2 0 (q + 1)], .cells 9 (strs (p.take (q + 1)).reverse)] }
theorem ct_MakeNo (k t : Int) (p : List (List UInt8)) (c : canP k = false) : Ct Tryd.prog G0 12 [vi k, vi t, .ro 1 (strs p)] [] (.agg [vb false, vi 0, vi 0, .c (.slice none 0 0)]) [] := by
  have can := ct_ref02_Can k
  rw [c] at can
  refine callV_ic hm (fn := Tryd.f12) rfl ic12_eq ic12_nm ic12_ok (by simp) ?_
  simp -dsimp [ic12]
  repeat' first
    | simp -dsimp
    | (with_reducible refine (CallD.pure (can) (by simp) ?_).callV)
    | (with_reducible refine ordI (by kernel_rfl) ?_)
  exact exitV.cut (by simp) (by simp) (by simp) (by simp) ⟨rfl, by simp⟩
theorem ct_Make (k t : Int) (p : List (List UInt8)) (hb : p.length ≤ 1000) (c : canP k = true) : Ct Tryd.prog G0 12 [vi k, vi t, .ro 1 (strs p)] [] (.agg [vb true, vi k, vi (mid t), if p = [] then .c (.slice none 0 0) else .ro 1 (strs p.reverse)]) [] := by
  have can := ct_ref02_Can k
  rw [c] at can
  have hsl : (strs p).length = p.length := by simp [strs]
  have hby : Tryd.prog.bytesOf 9 = 16 := by kernel_rfl
  refine callV_ic hm (fn := Tryd.f12) rfl ic12_eq ic12_nm ic12_ok (by simp) ?_
  simp -dsimp [ic12]
  repeat' first
    | simp -dsimp [hsl]
    | (with_reducible refine (CallD.pure (can) (by simp) ?_).callV)
    | (with_reducible refine ordI (by kernel_rfl) ?_)
  refine Ti.loopW hm (fun j s => ∃ q : Nat, q + j = p.length ∧ s = tdS k t p q) (k := p.length) ?_ ?_
  · exact Wk.sub [(21, vi (0 : Nat)), (20, vi p.length), (2, .ro 1 (strs p)), (7, .p 1 0), (6, .p 0 0)] (by simp [hsl]) (Wk.now ⟨0, by omega, rfl⟩)
  rintro j s ⟨q, hq, rfl⟩
  by_cases hlt : q < p.length
  · have hlt2 : q < (strs p).length := by omega
    have hw := wq hlt (by unfold top; omega)
    have wone : IntKind.wrap .i64 1 = 1 := by decide
    rcases q with _ | q
    · have h1 : strs (p.take 1).reverse = [vs p[0]] := by
        rw [List.take_add_one, List.getElem?_eq_getElem hlt]; simp [strs]
      simp -dsimp [tdS]
      repeat' first
        | simp -dsimp [hlt, hlt2, hsl, hby]
        | (with_reducible refine ordI (by kernel_rfl) ?_)
      refine ⟨by kernel_rfl, by kernel_rfl, j - 1, by omega, Wk.some [0, 1, 3] [.cells 32 [vb false, vi 0, vi 0, .c (.slice none 0 0)], .cells 32 [vb true, vi k, vi (mid t), .sl 1 2 0 1], .cells 9 (strs (p.take 1).reverse)] [(21, vi (0 + 1 : Nat)), (20, vi p.length), (2, .ro 1 (strs p)), (7, .p 1 0), (6, .p 0 0)] rfl (by simp [h1, rho]) (by simp) (by simp) (by simp) (by simp [rho, wone]) (by simp)
        (Wk.now ⟨1, by omega, rfl⟩)⟩
    · have hlt' : (q : Int) + 1 < p.length := by omega
      have z0 : (0 : Int) ≤ (q : Int) + 1 := by omega
      have hw2 : IntKind.wrap .i64 ((q : Int) + 1 + 1) = (q : Int) + 2 := by rw [w64_of (by omega) (by omega)]; omega
      have hr : vs p[q + 1] :: strs (p.take (q + 1)).reverse = strs (p.take (q + 1 + 1)).reverse := by
        have e : (p.take (q + 1 + 1)).reverse = p[q + 1] :: (p.take (q + 1)).reverse := by
          rw [List.take_add_one, List.getElem?_eq_getElem hlt]; simp only [Option.toList_some, List.reverse_append, List.reverse_cons, List.reverse_nil, List.nil_append, List.singleton_append]
        rw [e]; rfl
      have hA : (strs (p.take (q + 1)).reverse).length = q + 1 := by simp [strs]; omega
      have okA : ∀ f : Nat → Prop, okL f (strs (p.take (q + 1)).reverse) := fun f => by simp
      have renA : ∀ f : Nat → Nat, renL f (strs (p.take (q + 1)).reverse) = strs (p.take (q + 1)).reverse := fun f => by simp
      simp -dsimp [tdS]
      generalize strs (p.take (q + 1)).reverse = A at *
      have tA : A.take (q + 1) = A := List.take_of_length_le (by omega)
      have y1 : (1 + (q + 1)) * 16 ≤ 140737488355328 := by omega
      have y2 : 1 + (q + 1) ≤ 9223372036854775807 := by omega
      repeat' first
        | simp -dsimp [hlt, hlt', hlt2, z0, hsl, hw, hby, hA, tA, y1, y2]
        | (with_reducible refine ordI (by kernel_rfl) ?_)
      refine ⟨by kernel_rfl, by kernel_rfl, j - 1, by omega, Wk.some [0, 1, 4] [.cells 32 [vb false, vi 0, vi 0, .c (.slice none 0 0)], .cells 32 [vb true, vi k, vi (mid t), .sl 1 2 0 (q + 2)], .cells 9 (vs p[q + 1] :: A)] [(21, vi (q + 2 : Nat)), (20, vi p.length), (2, .ro 1 (strs p)), (7, .p 1 0), (6, .p 0 0)] rfl (by simp [rho, renA]; omega) (by simp) (by simp) (by simp [okA]) (by simp [rho, hw2]) (by simp)
        (Wk.now ⟨q + 2, by omega, by rw [hr]; rfl⟩)⟩
  · have hqe : q = p.length := by omega
    have hnlt : ¬ q < p.length := hlt
    have hnlt' : ¬ (q : Int) < p.length := by omega
    rcases q with _ | q
    · have hp : p = [] := List.eq_nil_of_length_eq_zero hqe.symm
      subst hp
      simp -dsimp [tdS]
      repeat' first
        | simp -dsimp [hnlt, hnlt']
        | (with_reducible refine ordI (by kernel_rfl) ?_)
      exact exitV.cut (by simp) (by simp) (by simp) (by simp) ⟨by simp, by simp⟩
    · have hp : p ≠ [] := fun e => by rw [e] at hqe; simp at hqe
      have hn2 : ¬ (q : Int) + 1 < p.length := by omega
      have hA : (strs p.reverse).length = q + 1 := by simp [strs]; omega
      simp -dsimp [tdS]
      rw [hqe, List.take_length]
      rw [if_neg hp]
      repeat' first
        | simp -dsimp [hnlt, hnlt', hn2]
        | (with_reducible refine ordI (by kernel_rfl) ?_)
      have hrow : rows false 1 p.length (strs p.reverse) = strs p.reverse := by have := rows_strs p.reverse; rwa [List.length_reverse] at this
      refine exitV.freeze 2 _ _ false rfl (by simp) ?_
      simp -dsimp [hrow]
      exact exitV.cut (by simp) (by simp) (by simp) (by simp) ⟨rfl, by simp⟩
end Go.Proofs.YtnoigkdecjeilaaDoor
