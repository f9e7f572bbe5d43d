/- Contracts of functions of the seat's program, and what follows of them: Fn. Conditions are in each statement. -/
import Derived.Test.YtnoigkdecjeilaaDoorFm
set_option linter.unusedSimpArgs false
set_option linter.unusedVariables false
namespace Go.Proofs.YtnoigkdecjeilaaDoor
open Go Go.Proofs Go.Vm Go.Extern
set_option maxRecDepth 100000

/-! ### A fault is put between others -/
def insS (f : Flt) (a : List Flt × Bool) (x : Flt) : List Flt × Bool := ((if !a.2 && decide (f.kind < x.kind) then a.1 ++ [f] else a.1) ++ [x], a.2 || decide (f.kind < x.kind))
def insA (f : Flt) (l : List Flt) : List Flt × Bool := l.foldl (insS f) ([], false)
def insF (f : Flt) (l : List Flt) : List Flt := if (insA f l).2 then (insA f l).1 else (insA f l).1 ++ [f]
theorem insA_succ {f : Flt} {l : List Flt} {q : Nat} (h : q < l.length) : insA f (l.take (q + 1)) = insS f (insA f (l.take q)) (atF l q) := by
  unfold insA
  rw [List.take_add_one, List.getElem?_eq_getElem h, List.foldl_append, atF_get h]
  rfl
theorem has2_succ {l : List Flt} {q : Nat} {k : Int} (hlt : q < l.length) (hn : has2 (l.take q) k = false) : has2 (l.take (q + 1)) k = ((atF l q).kind == k) := by
  rw [List.take_add_one, List.getElem?_eq_getElem hlt, atF_get hlt]
  simp only [has2, List.any_append, Option.toList_some, List.any_cons, List.any_nil, Bool.or_false]
  rw [show (l.take q).any (fun f => f.kind == k) = false from hn]; simp
set_option maxHeartbeats 8000000 in
theorem ct_ref_Add (l : List Flt) (f : Flt) (hb : l.length ≤ 1000) : Ct Tryd.prog G0 24 [.ro 2 (flts l), .agg [vi f.kind, vi f.tick]] [] (.tup [.ro 2 (flts (if has2 l f.kind then l else insF f l)), vb (!has2 l f.kind)]) [] := by
  have hby : Tryd.prog.bytesOf 30 = 16 := by kernel_rfl
  refine callV_ic hm (fn := Tryd.f24) rfl ic24_eq ic24_nm ic24_ok (by simp) ?_
  simp -dsimp [ic24]
  refine Ti.loopW hm (fun j s => ∃ (q : Nat) (r : List Flt) (dn : Bool), q + j = l.length ∧ has2 (l.take q) f.kind = false ∧ insA f (l.take q) = (r, dn) ∧ r.length ≤ 2 * q ∧ s = { t := [(11, vi q), (10, vi l.length), (0, .ro 2 (flts l)), (3, .p 0 0), (6, .sl 2 1 0 r.length), (7, vb dn)], d := [], h := [.cells 30 [vi f.kind, vi f.tick], .cells 30 (fltC r)] }) (k := l.length) ?_ ?_
  · refine Wk.sub [(11, vi (0 : Nat)), (10, vi l.length), (0, .ro 2 (flts l)), (3, .p 0 0), (6, .c (.slice none 0 0)), (7, vb false)] (by simp) ?_
    exact Wk.nil 6 2 30 (by simp) (Wk.sub [(11, vi (0 : Nat)), (10, vi l.length), (0, .ro 2 (flts l)), (3, .p 0 0), (6, .sl 2 1 0 0), (7, vb false)] (by simp) (Wk.now ⟨0, [], false, by omega, by simp [has2], by simp [insA], by simp, rfl⟩))
  rintro j s ⟨q, r, dn, hq, hn, hr, hl, rfl⟩
  simp -dsimp
  refine brV.intro (fun hlt => ?_) (fun hlt => ?_)
  · have hlt : q < l.length := by simpa using hlt
    have hw := wq hlt (by unfold top; omega)
    have hs := has2_succ hlt hn
    have hi := insA_succ (f := f) hlt
    rw [hr] at hi
    simp only [insS] at hi
    cases c : (atF l q).kind == f.kind
    rotate_left
    · have res : has2 l f.kind = true := by
        simp only [has2, List.any_eq_true]
        exact ⟨l[q], List.getElem_mem hlt, by rw [atF_get hlt]; exact c⟩
      repeat' first
        | simp -dsimp [hlt, c]
        | (with_reducible refine ordI (by kernel_rfl) ?_)
      exact exitV.cut (by simp) (by simp) (by simp) (by simp) ⟨by simp [res], by simp⟩
    rw [c] at hs
    have hc1 : fltC r ++ [vi (atF l q).kind, vi (atF l q).tick] = fltC (r ++ [atF l q]) := by rw [fltC_app]; rfl
    have hc2 : fltC r ++ [vi f.kind, vi f.tick, vi (atF l q).kind, vi (atF l q).tick] = fltC (r ++ [f] ++ [atF l q]) := by rw [fltC_app, fltC_app]; simp [fltC]
    have y1 : (r.length + 1) * 16 ≤ 140737488355328 := by omega
    have y2 : r.length + 1 ≤ 9223372036854775807 := by omega
    have y3 : (r.length + 1 + 1) * 16 ≤ 140737488355328 := by omega
    have y4 : r.length + 1 + 1 ≤ 9223372036854775807 := by omega
    by_cases g : f.kind < (atF l q).kind
    · cases dn
      · simp only [Bool.not_false, Bool.true_and, g, decide_true, if_true, Bool.or_true] at hi
        repeat' first
          | simp -dsimp [hlt, c, g, hw, hby, y1, y2, y3, y4, hc2]
          | (with_reducible refine ordI (by kernel_rfl) ?_)
        exact ⟨by kernel_rfl, by omega, by kernel_rfl, by omega, j - 1, by omega, Wk.some [0, 5] [.cells 30 [vi f.kind, vi f.tick], .cells 30 (fltC (r ++ [f] ++ [atF l q]))] [(11, vi (q + 1 : Nat)), (10, vi l.length), (0, .ro 2 (flts l)), (3, .p 0 0), (6, .sl 2 1 0 (r ++ [f] ++ [atF l q]).length), (7, vb true)] rfl (by simp) (by simp) (by simp) (by simp) (by simp [rho, hw]) (by simp)
          (Wk.now ⟨q + 1, r ++ [f] ++ [atF l q], true, by omega, hs, hi, by simp; omega, rfl⟩)⟩
      · simp only [Bool.not_true, Bool.false_and, Bool.false_eq_true, if_false, Bool.true_or] at hi
        repeat' first
          | simp -dsimp [hlt, c, g, hw, hby, y1, y2, hc1]
          | (with_reducible refine ordI (by kernel_rfl) ?_)
        exact ⟨by kernel_rfl, by omega, j - 1, by omega, Wk.some [0, 3] [.cells 30 [vi f.kind, vi f.tick], .cells 30 (fltC (r ++ [atF l q]))] [(11, vi (q + 1 : Nat)), (10, vi l.length), (0, .ro 2 (flts l)), (3, .p 0 0), (6, .sl 2 1 0 (r ++ [atF l q]).length), (7, vb true)] rfl (by simp) (by simp) (by simp) (by simp) (by simp [rho, hw]) (by simp)
          (Wk.now ⟨q + 1, r ++ [atF l q], true, by omega, hs, hi, by simp; omega, rfl⟩)⟩
    · cases dn
      · simp only [Bool.not_false, Bool.true_and, g, decide_false, Bool.false_eq_true, if_false, Bool.or_false] at hi
        repeat' first
          | simp -dsimp [hlt, c, g, hw, hby, y1, y2, hc1]
          | (with_reducible refine ordI (by kernel_rfl) ?_)
        exact ⟨by kernel_rfl, by omega, j - 1, by omega, Wk.some [0, 3] [.cells 30 [vi f.kind, vi f.tick], .cells 30 (fltC (r ++ [atF l q]))] [(11, vi (q + 1 : Nat)), (10, vi l.length), (0, .ro 2 (flts l)), (3, .p 0 0), (6, .sl 2 1 0 (r ++ [atF l q]).length), (7, vb false)] rfl (by simp) (by simp) (by simp) (by simp) (by simp [rho, hw]) (by simp)
          (Wk.now ⟨q + 1, r ++ [atF l q], false, by omega, hs, hi, by simp; omega, rfl⟩)⟩
      · simp only [Bool.not_true, Bool.false_and, Bool.false_eq_true, if_false, Bool.true_or] at hi
        repeat' first
          | simp -dsimp [hlt, c, g, hw, hby, y1, y2, hc1]
          | (with_reducible refine ordI (by kernel_rfl) ?_)
        exact ⟨by kernel_rfl, by omega, j - 1, by omega, Wk.some [0, 3] [.cells 30 [vi f.kind, vi f.tick], .cells 30 (fltC (r ++ [atF l q]))] [(11, vi (q + 1 : Nat)), (10, vi l.length), (0, .ro 2 (flts l)), (3, .p 0 0), (6, .sl 2 1 0 (r ++ [atF l q]).length), (7, vb true)] rfl (by simp) (by simp) (by simp) (by simp) (by simp [rho, hw]) (by simp)
          (Wk.now ⟨q + 1, r ++ [atF l q], true, by omega, hs, hi, by simp; omega, rfl⟩)⟩
  · have hqe : q = l.length := by simp at hlt; omega
    rw [hqe, List.take_length] at hn hr
    have res : insF f l = if dn then r else r ++ [f] := by simp only [insF, hr]
    have hc3 : fltC r ++ [vi f.kind, vi f.tick] = fltC (r ++ [f]) := by rw [fltC_app]; rfl
    have y1 : (r.length + 1) * 16 ≤ 140737488355328 := by omega
    have y2 : r.length + 1 ≤ 9223372036854775807 := by omega
    cases dn
    · repeat' first
        | simp -dsimp [hby, y1, y2, hc3]
        | (with_reducible refine ordI (by kernel_rfl) ?_)
      refine ⟨by kernel_rfl, by omega, ?_⟩
      rw [show r.length + 1 = (r ++ [f]).length by simp]
      refine exitV.freeze 3 _ _ true rfl (by simp; omega) ?_
      have rw2 := rows_flts (r ++ [f])
      generalize r ++ [f] = R at *
      simp -dsimp [rw2]
      exact exitV.cut (by simp) (by simp) (by simp) (by simp) ⟨by rw [hn, res]; rfl, by simp⟩
    · repeat' first
        | simp -dsimp
        | (with_reducible refine ordI (by kernel_rfl) ?_)
      refine exitV.freeze 1 _ _ true rfl (by simp; omega) ?_
      have rw2 := rows_flts r
      simp -dsimp [rw2]
      exact exitV.cut (by simp) (by simp) (by simp) (by simp) ⟨by rw [hn, res]; rfl, by simp⟩
end Go.Proofs.YtnoigkdecjeilaaDoor
