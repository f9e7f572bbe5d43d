/- Contracts of functions of the seat's program, and what follows of them: Fl. Conditions are in each statement. -/
import Derived.Test.YtnoigkdecjeilaaDoorFi
set_option linter.unusedSimpArgs false
set_option linter.unusedVariables false
namespace Go.Proofs.YtnoigkdecjeilaaDoor
open Go Go.Proofs Go.Vm Go.Extern
set_option maxRecDepth 100000

/-! ### Lists of faults, rising -/
def has2 (l : List Flt) (k : Int) : Bool := l.any fun f => f.kind == k
theorem ct_ref_Has (l : List Flt) (k : Int) (hb : l.length < top) : Ct Tryd.prog G0 25 [.ro 2 (flts l), vi k] [] (vb (has2 l k)) [] := by
  refine callV_ic hm (fn := Tryd.f25) rfl ic25_eq ic25_nm ic25_ok (by simp) ?_
  simp -dsimp [ic25]
  refine Ti.loopW hm (fun j s => ∃ q : Nat, q + j = l.length ∧ has2 (l.take q) k = false ∧ s = { t := [(8, vi q), (7, vi l.length), (0, .ro 2 (flts l)), (1, vi k)], d := [], h := [] }) (k := l.length) ?_ ?_
  · exact Wk.sub [(8, vi (0 : Nat)), (7, vi l.length), (0, .ro 2 (flts l)), (1, vi k)] (by simp) (Wk.now ⟨0, by omega, by simp [has2], rfl⟩)
  rintro j s ⟨q, hq, hn, rfl⟩
  simp -dsimp
  refine brV.intro (fun hlt => ?_) (fun hlt => ?_)
  · have hlt : q < l.length := by simpa using hlt
    have hw := wq hlt hb
    have hs : has2 (l.take (q + 1)) k = ((atF l q).kind == k) := by
      rw [List.take_add_one, List.getElem?_eq_getElem hlt, atF_get hlt]
      simp only [has2, List.any_append, Option.toList_some, List.any_cons, List.any_nil, Bool.or_false]
      rw [show (l.take q).any (fun f => f.kind == k) = false from hn]; simp
    cases c : (atF l q).kind == k
    · rw [c] at hs
      repeat' first
        | simp -dsimp [hlt, c, hw]
        | (with_reducible refine ordI (by kernel_rfl) ?_)
      exact ⟨j - 1, by omega, Wk.sub [(8, vi (q + 1 : Nat)), (7, vi l.length), (0, .ro 2 (flts l)), (1, vi k)] (by simp) (Wk.now ⟨q + 1, by omega, hs, rfl⟩)⟩
    · have res : has2 l k = true := by
        simp only [has2, List.any_eq_true]
        exact ⟨l[q], List.getElem_mem hlt, by rw [atF_get hlt]; exact c⟩
      repeat' first
        | simp -dsimp [hlt, c]
        | (with_reducible refine ordI (by kernel_rfl) ?_)
      exact exitV.cut (by simp) (by simp) (by simp) (by simp) ⟨by simp [res], by simp⟩
  · have hqe : q = l.length := by simp at hlt; omega
    have res : has2 l k = false := by rw [hqe, List.take_length] at hn; exact hn
    simp -dsimp
    exact exitV.cut (by simp) (by simp) (by simp) (by simp) ⟨by simp [res], by simp⟩
def clear2 (l : List Flt) (k : Int) : List Flt := l.filter fun f => f.kind != k
theorem clear2_succ {l : List Flt} {q : Nat} (h : q < l.length) (k : Int) : clear2 (l.take (q + 1)) k = clear2 (l.take q) k ++ if (atF l q).kind != k then [atF l q] else [] := by
  rw [List.take_add_one, List.getElem?_eq_getElem h, atF_get h]
  simp only [clear2, List.filter_append, Option.toList_some]
  congr 1
  simp only [List.filter_cons, List.filter_nil]
theorem ct_ref_Clear (l : List Flt) (k : Int) (hb : l.length ≤ 1000) : Ct Tryd.prog G0 26 [.ro 2 (flts l), vi k] [] (.tup [.ro 2 (flts (clear2 l k)), vb (decide ((clear2 l k).length < l.length))]) [] := by
  have hby : Tryd.prog.bytesOf 30 = 16 := by kernel_rfl
  refine callV_ic hm (fn := Tryd.f26) rfl ic26_eq ic26_nm ic26_ok (by simp) ?_
  simp -dsimp [ic26]
  refine Ti.loopW hm (fun j s => ∃ (q : Nat) (r : List Flt), q + j = l.length ∧ r = clear2 (l.take q) k ∧ s = { t := [(10, vi q), (9, vi l.length), (0, .ro 2 (flts l)), (1, vi k), (6, .sl 2 0 0 r.length)], d := [], h := [.cells 30 (fltC r)] }) (k := l.length) ?_ ?_
  · refine Wk.sub [(10, vi (0 : Nat)), (9, vi l.length), (0, .ro 2 (flts l)), (1, vi k), (6, .c (.slice none 0 0))] (by simp) ?_
    exact Wk.nil 6 2 30 (by simp) (Wk.sub [(10, vi (0 : Nat)), (9, vi l.length), (0, .ro 2 (flts l)), (1, vi k), (6, .sl 2 0 0 0)] (by simp) (Wk.now ⟨0, [], by omega, by simp [clear2], rfl⟩))
  rintro j s ⟨q, r, hq, hr, rfl⟩
  have hrl : r.length ≤ q := by
    rw [hr]
    exact Nat.le_trans (List.length_filter_le _ _) (List.length_take_le q l)
  simp -dsimp
  refine brV.intro (fun hlt => ?_) (fun hlt => ?_)
  · have hlt : q < l.length := by simpa using hlt
    have hw := wq hlt (by unfold top; omega)
    have hs := clear2_succ hlt k
    rw [← hr] at hs
    have y1 : (r.length + 1) * 16 ≤ 140737488355328 := by omega
    have y2 : r.length + 1 ≤ 9223372036854775807 := by omega
    cases c : (atF l q).kind != k
    · rw [c] at hs
      simp only [Bool.false_eq_true, if_false, List.append_nil] at hs
      repeat' first
        | simp -dsimp [hlt, c, hw]
        | (with_reducible refine ordI (by kernel_rfl) ?_)
      exact ⟨j - 1, by omega, Wk.sub [(10, vi (q + 1 : Nat)), (9, vi l.length), (0, .ro 2 (flts l)), (1, vi k), (6, .sl 2 0 0 r.length)] (by simp) (Wk.now ⟨q + 1, r, by omega, hs.symm, rfl⟩)⟩
    · rw [c] at hs
      simp only [if_true] at hs
      have hc : fltC r ++ [vi (atF l q).kind, vi (atF l q).tick] = fltC (r ++ [atF l q]) := by rw [fltC_app]; rfl
      repeat' first
        | simp -dsimp [hlt, c, hw, hby, y1, y2, hc]
        | (with_reducible refine ordI (by kernel_rfl) ?_)
      refine ⟨by kernel_rfl, by omega, j - 1, by omega, Wk.some [2] [.cells 30 (fltC (r ++ [atF l q]))] [(10, vi (q + 1 : Nat)), (9, vi l.length), (0, .ro 2 (flts l)), (1, vi k), (6, .sl 2 0 0 (r ++ [atF l q]).length)] rfl (by simp [hc]) (by simp) (by simp) (by simp) (by simp [rho, hw]) (by simp)
        (Wk.now ⟨q + 1, r ++ [atF l q], by omega, hs.symm, rfl⟩)⟩
  · have hqe : q = l.length := by simp at hlt; omega
    have he : r = clear2 l k := by rw [hr, hqe, List.take_length]
    simp -dsimp
    refine exitV.freeze 0 _ _ true rfl (by simp; omega) ?_
    simp -dsimp [rows_flts]
    exact exitV.cut (by simp) (by simp) (by simp) (by simp) ⟨by rw [he], by simp⟩
end Go.Proofs.YtnoigkdecjeilaaDoor
