/- Contracts of functions of the seat's program, and what follows of them: Fd. Conditions are in each statement. -/
import Derived.Test.YtnoigkdecjeilaaDoorFc
set_option linter.unusedSimpArgs false
set_option linter.unusedVariables false
namespace Go.Vm
open Go Go.RowKit
variable {P : Program} {G : Addr → Option Value} {n m : Nat} {s : St}
/-- Some blocks alone are kept, the first ones where they are. -/
theorem Wk.someM {X : St → Prop} (is : List Nat) (small : List Blk) (t2 : List (Nat × V)) (hd : s.d = []) (him : imL s.h (rho is 0) is small) (nd : is.Nodup) (hl : m ≤ small.length) (h0 : ∀ i, i < m → rho is 0 i = i) (dm : ∀ b ∈ small, b.dm = true) (cl : ∀ b ∈ small, b.ok (· < small.length))
    (ht : subR (rho is 0) t2 s.t) (ok : allT (fun v => v.ok (· < small.length)) t2) (k : Wk G n m { t := t2, d := [], h := small } X) : Wk G n m s X := by
  have l1 := imL_len him
  have rho_lt : ∀ q, (hq : q < is.length) → rho is 0 q = is[q] := fun q hq => by simp [rho, List.getElem?_eq_getElem hq]
  refine Wk.drop small (rho is 0) t2 [] (subR_get ht) hd (by simp) hl h0 ?_ ?_ dm cl ok k
  · intro i j hi hj e
    rw [rho_lt i (by omega), rho_lt j (by omega)] at e
    exact idx_inj nd (x := is[j]'(by omega)) (by rw [List.getElem?_eq_getElem (by omega), e]) (List.getElem?_eq_getElem (by omega))
  · intro i b hb
    have hi : i < is.length := by have := (List.getElem?_eq_some_iff.1 hb).1; omega
    rw [rho_lt i hi]
    exact imL_at him (List.getElem?_eq_getElem hi) hb
theorem rho0 (r : List Nat) : ∀ i, i < 1 → rho (0 :: r) 0 i = i := fun i hi => by
  have : i = 0 := by omega
  subst this; rfl
end Go.Vm
namespace Go.Proofs.YtnoigkdecjeilaaDoor
open Go Go.Proofs Go.Vm Go.Extern
set_option maxRecDepth 100000

@[simp] theorem tslice_faults : tslice Tryd.prog 49 = true := by kernel_rfl
def allF (L : List Flt) : List Flt := L.filter fun f => f.kind != 0
theorem atF_get {l : List Flt} {k : Nat} (h : k < l.length) : l[k] = atF l k := by simp [atF, List.getD, h]
theorem allF_succ {L : List Flt} {q : Nat} (h : q < L.length) : allF (L.take (q + 1)) = allF (L.take q) ++ if (atF L q).kind != 0 then [atF L q] else [] := by
  rw [List.take_add_one, List.getElem?_eq_getElem h, atF_get h]
  simp only [allF, List.filter_append, Option.toList_some]
  congr 1
  simp only [List.filter_cons, List.filter_nil]
theorem allF_len (L : List Flt) (q : Nat) : (allF (L.take q)).length ≤ q := by
  have h1 := List.length_filter_le (fun f : Flt => f.kind != 0) (L.take q)
  have h2 := List.length_take_le q L
  exact Nat.le_trans h1 h2
theorem ct_All (L : List Flt) (hL : L.length = 12) : Ct Tryd.prog G0 21 [.p 0 0] [.cells 47 (fltC L)] (.ro 2 (flts (allF L))) [.cells 47 (fltC L)] := by
  have hby : Tryd.prog.bytesOf 30 = 16 := by kernel_rfl
  have hLC : (fltC L).length = 24 := by simp [hL]
  have hT : (fltC L).take 24 = fltC L := List.take_of_length_le (by omega)
  refine callV_ic hm (fn := Tryd.f21) rfl ic21_eq ic21_nm ic21_ok (by simp) ?_
  simp -dsimp [ic21]
  repeat' first
    | simp -dsimp [hL, hT]
    | (with_reducible refine ordI (by kernel_rfl) ?_)
  refine Ti.loopW hm (fun k s => ∃ (q : Nat) (l : List Flt), q + k = 12 ∧ l = allF (L.take q) ∧ s = { t := [(10, vi q), (9, .agg (fltC L)), (3, .sl 2 1 0 l.length)], d := [], h := [.cells 47 (fltC L), .cells 30 (fltC l)] }) (k := 12) ?_ ?_
  · refine Wk.sub [(10, vi (0 : Nat)), (9, .agg (fltC L)), (3, .c (.slice none 0 0))] (by simp) ?_
    exact Wk.nil 3 2 30 (by simp) (Wk.sub [(10, vi (0 : Nat)), (9, .agg (fltC L)), (3, .sl 2 1 0 0)] (by simp) (Wk.now ⟨0, [], by omega, by simp [allF], rfl⟩))
  rintro k s ⟨q, l, hq, hl, rfl⟩
  have hll : l.length ≤ q := by rw [hl]; exact allF_len L q
  simp -dsimp
  refine brV.intro (fun hlt => ?_) (fun hlt => ?_)
  · have hlt : q < 12 := by simp at hlt; omega
    have hlt' : (q : Int) < 12 := by omega
    have q2 : q * 2 ≤ 22 := by omega
    have q3 : 2 ≤ 24 - q * 2 := by omega
    have hw := wq hlt (by unfold top; omega)
    have hs := allF_succ (L := L) (q := q) (by omega)
    rw [← hl] at hs
    have pt := fltC_part (L := L) (k := q) (by omega)
    have y1 : (l.length + 1) * 16 ≤ 140737488355328 := by omega
    have y2 : l.length + 1 ≤ 9223372036854775807 := by omega
    cases hk : (atF L q).kind != 0
    · rw [hk] at hs
      simp only [Bool.false_eq_true, if_false, List.append_nil] at hs
      repeat' first
        | simp -dsimp [hlt, hlt', q2, q3, hL, hLC, pt, hk, hw]
        | (with_reducible refine ordI (by kernel_rfl) ?_)
      exact ⟨k - 1, by omega, Wk.someM [0, 1] [.cells 47 (fltC L), .cells 30 (fltC l)] [(10, vi (q + 1 : Nat)), (9, .agg (fltC L)), (3, .sl 2 1 0 l.length)] rfl (by simp) (by simp) (by simp) (rho0 _) (by simp) (by simp) (by simp [rho, hw]) (by simp)
        (Wk.now ⟨q + 1, l, by omega, hs.symm, rfl⟩)⟩
    · rw [hk] at hs
      simp only [if_true] at hs
      have hc : fltC l ++ [vi (atF L q).kind, vi (atF L q).tick] = fltC (l ++ [atF L q]) := by rw [fltC_app]; rfl
      repeat' first
        | simp -dsimp [hlt, hlt', q2, q3, hL, hLC, pt, hk, hw, hby, y1, y2, hc]
        | (with_reducible refine ordI (by kernel_rfl) ?_)
      trace_state
      refine ⟨by kernel_rfl, by omega, k - 1, by omega, Wk.someM [0, 4] [.cells 47 (fltC L), .cells 30 (fltC (l ++ [atF L q]))] [(10, vi (q + 1 : Nat)), (9, .agg (fltC L)), (3, .sl 2 1 0 (l ++ [atF L q]).length)] rfl (by simp [hc]) (by simp) (by simp) (rho0 _) (by simp) (by simp) (by simp [rho, hw]) (by simp)
        (Wk.now ⟨q + 1, l ++ [atF L q], by omega, hs.symm, rfl⟩)⟩
  · have hqe : q = 12 := by simp at hlt; omega
    have he : l = allF L := by rw [hl, hqe, List.take_of_length_le (by omega)]
    simp -dsimp
    refine exitV.freeze 1 _ _ true rfl (by simp; omega) ?_
    simp -dsimp [rows_flts]
    exact exitV.cut (by simp) (by simp) (by simp) (by simp) ⟨by rw [he], by simp⟩
/-- The one of the least kind. -/
def errV : List Flt → V
  | [] => .c .nilIface
  | f :: _ => (Er.s f.kind (mid f.tick)).v
theorem ct_Err (L : List Flt) (hL : L.length = 12) (hc : ∀ k, k < 12 → (atF L k).kind ≠ 0 → canP (atF L k).kind = true) : Ct Tryd.prog G0 28 [.p 0 0] [.cells 47 (fltC L)] (errV (allF L)) [.cells 47 (fltC L)] := by
  have hLC : (fltC L).length = 24 := by simp [hL]
  have hT : (fltC L).take 24 = fltC L := List.take_of_length_le (by omega)
  refine callV_ic hm (fn := Tryd.f28) rfl ic28_eq ic28_nm ic28_ok (by simp) ?_
  simp -dsimp [ic28]
  repeat' first
    | simp -dsimp [hL, hT]
    | (with_reducible refine ordI (by kernel_rfl) ?_)
  refine Ti.loopW hm (fun k s => ∃ q : Nat, q + k = 12 ∧ allF (L.take q) = [] ∧ s = { t := [(9, vi q), (8, .agg (fltC L))], d := [], h := [.cells 47 (fltC L)] }) (k := 12) ?_ ?_
  · exact Wk.sub [(9, vi (0 : Nat)), (8, .agg (fltC L))] (by simp) (Wk.now ⟨0, by omega, by simp [allF], rfl⟩)
  rintro k s ⟨q, hq, hl, rfl⟩
  simp -dsimp
  refine brV.intro (fun hlt => ?_) (fun hlt => ?_)
  · have hlt : q < 12 := by simp at hlt; omega
    have hlt' : (q : Int) < 12 := by omega
    have q2 : q * 2 ≤ 22 := by omega
    have q3 : 2 ≤ 24 - q * 2 := by omega
    have hw := wq hlt (by unfold top; omega)
    have hs := allF_succ (L := L) (q := q) (by omega)
    rw [hl] at hs
    have pt := fltC_part (L := L) (k := q) (by omega)
    cases hk : (atF L q).kind != 0
    · rw [hk] at hs
      simp only [Bool.false_eq_true, if_false, List.append_nil] at hs
      repeat' first
        | simp -dsimp [hlt, hlt', q2, q3, hL, hLC, pt, hk, hw]
        | (with_reducible refine ordI (by kernel_rfl) ?_)
      exact ⟨k - 1, by omega, Wk.someM [0] [.cells 47 (fltC L)] [(9, vi (q + 1 : Nat)), (8, .agg (fltC L))] rfl (by simp) (by simp) (by simp) (rho0 _) (by simp) (by simp) (by simp [rho, hw]) (by simp)
        (Wk.now ⟨q + 1, by omega, hs, rfl⟩)⟩
    · rw [hk] at hs
      simp only [if_true, List.nil_append] at hs
      have nw := ct_fault_New (atF L q).kind (atF L q).tick (hc q hlt (by simpa using hk))
      have he : ∃ r, allF L = atF L q :: r := by
        have : allF L = allF (L.take (q + 1)) ++ allF (L.drop (q + 1)) := by
          simp only [allF, ← List.filter_append, List.take_append_drop]
        rw [this, hs]; exact ⟨_, rfl⟩
      obtain ⟨r, he⟩ := he
      rw [he]
      repeat' first
        | simp -dsimp [hlt, hlt', q2, q3, hL, hLC, pt, hk, hw]
        | (with_reducible refine (CallD.pure (nw) (by simp) ?_).callV)
        | (with_reducible refine ordI (by kernel_rfl) ?_)
      refine exitV.cut (by simp) (by simp) (by simp) (by simp) ⟨rfl, by simp⟩
  · have hqe : q = 12 := by simp at hlt; omega
    have he : allF L = [] := by rw [← hl, hqe, List.take_of_length_le (by omega)]
    simp -dsimp
    exact exitV.cut (by simp) (by simp) (by simp) (by simp) ⟨by rw [he]; rfl, by simp⟩
end Go.Proofs.YtnoigkdecjeilaaDoor
