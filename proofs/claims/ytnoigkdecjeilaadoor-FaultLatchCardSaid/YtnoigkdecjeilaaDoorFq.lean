/- Contracts of functions of the seat's program, and what follows of them: Fq. Conditions are in each statement. -/
import Derived.Test.YtnoigkdecjeilaaDoorFp
set_option linter.unusedSimpArgs false
set_option linter.unusedVariables false
namespace Go.Proofs.YtnoigkdecjeilaaDoor
open Go Go.Proofs Go.Vm Go.Extern
set_option maxRecDepth 100000

/-! ### What is put between others is where its kind says -/
theorem insS_true (f : Flt) : ∀ (l r : List Flt), l.foldl (insS f) (r, true) = (r ++ l, true)
  | [], r => by simp
  | x :: l, r => by
    rw [List.foldl_cons, show insS f (r, true) x = (r ++ [x], true) by simp [insS], insS_true f l]
    simp
theorem insS_low (f : Flt) : ∀ (l r : List Flt), (∀ x ∈ l, x.kind < f.kind) → l.foldl (insS f) (r, false) = (r ++ l, false)
  | [], r, _ => by simp
  | x :: l, r, h => by
    have hx : ¬ f.kind < x.kind := by have := h x (List.mem_cons_self ..); omega
    rw [List.foldl_cons, show insS f (r, false) x = (r ++ [x], false) by simp [insS, hx], insS_low f l _ fun y hy => h y (List.mem_cons_of_mem _ hy)]
    simp
theorem insF_between (f : Flt) (A B : List Flt) (hA : ∀ x ∈ A, x.kind < f.kind) (hB : ∀ x ∈ B, f.kind < x.kind) : insF f (A ++ B) = A ++ f :: B := by
  unfold insF insA
  rw [List.foldl_append, insS_low f A [] hA]
  cases B with
  | nil => simp
  | cons b B =>
    have hb := hB b (List.mem_cons_self ..)
    rw [List.foldl_cons, show insS f ([] ++ A, false) b = (A ++ [f] ++ [b], true) by simp [insS, hb], insS_true]
    simp
theorem insF_allF {L : List Flt} (h : okLt L) {f : Flt} (c : canP f.kind = true) (hn : hasL L f.kind = false) : insF f (allF L) = allF (addL L f) := by
  obtain ⟨j, hj, j1, j2⟩ := canP_nat c
  have hjl : j < L.length := by rw [h.1]; exact j2
  have z : atF L j = f0 := by
    rcases h.2 j j2 with e | ⟨e, _⟩
    · exact e
    · rw [hj] at hn; simp [hasL, canP, e] at hn; omega
  unfold addL
  rw [hn, if_neg (by simp), hj, Int.toNat_natCast, List.set_eq_take_append_cons_drop, if_pos hjl]
  have e : L = L.take j ++ atF L j :: L.drop (j + 1) := by
    rw [← atF_get hjl, ← List.drop_eq_getElem_cons hjl, List.take_append_drop]
  have e0 : allF L = allF (L.take j) ++ allF (L.drop (j + 1)) := by
    conv => lhs; rw [e]
    unfold allF
    rw [List.filter_append, List.filter_cons, z]
    rfl
  have e1 : allF (L.take j ++ f :: L.drop (j + 1)) = allF (L.take j) ++ f :: allF (L.drop (j + 1)) := by
    unfold allF
    rw [List.filter_append, List.filter_cons]
    have : (f.kind != 0) = true := by simp; omega
    rw [this]; rfl
  rw [e0, e1]
  refine insF_between f _ _ (fun x hx => ?_) (fun x hx => ?_)
  · simp only [allF, List.mem_filter, bne_iff_ne] at hx
    obtain ⟨i, hi, rfl⟩ := List.getElem_of_mem hx.1
    have hi' : i < j := by have := hi; simp at this; omega
    have hx2 := hx.2
    rw [List.getElem_take, atF_get (by omega)] at hx2 ⊢
    rcases h.2 i (by omega) with e | ⟨e, _⟩
    · rw [e] at hx2; exact absurd rfl hx2
    · rw [e, hj]; omega
  · simp only [allF, List.mem_filter, bne_iff_ne] at hx
    obtain ⟨i, hi, rfl⟩ := List.getElem_of_mem hx.1
    have hi' : j + 1 + i < L.length := by have := hi; simp at this; omega
    have hx2 := hx.2
    rw [List.getElem_drop, atF_get hi'] at hx2 ⊢
    rcases h.2 (j + 1 + i) (by rw [h.1] at hi'; exact hi') with e | ⟨e, _⟩
    · rw [e] at hx2; exact absurd rfl hx2
    · rw [e, hj]; omega
/-- Each tick that is kept is one that may be. -/
def midLt (L : List Flt) : Prop := ∀ k, k < 12 → mid (atF L k).tick = (atF L k).tick
theorem midLt_zero : midLt Z12 := fun k _ => by rw [atF_zero]; rfl
theorem midLt_set {L : List Flt} (hL : L.length = 12) (h : midLt L) {j : Nat} {f : Flt} (hf : mid f.tick = f.tick) : midLt (L.set j f) := fun k hk => by
  rw [atF_set (by rw [hL]; exact hk)]
  by_cases e : j = k
  · rw [if_pos e]; exact hf
  · rw [if_neg e]; exact h k hk
theorem midLt_add {L : List Flt} (hL : L.length = 12) (h : midLt L) {f : Flt} (hf : mid f.tick = f.tick) : midLt (addL L f) := by
  unfold addL
  split
  · exact h
  · exact midLt_set hL h hf
theorem midLt_clear {L : List Flt} (hL : L.length = 12) (h : midLt L) (k : Int) : midLt (clearL L k) := by
  unfold clearL
  split
  · exact midLt_set hL h rfl
  · exact h
theorem midLt_all {L : List Flt} (hL : L.length = 12) (h : midLt L) {f : Flt} (hf : f ∈ allF L) : mid f.tick = f.tick := by
  simp only [allF, List.mem_filter] at hf
  obtain ⟨i, hi, rfl⟩ := List.getElem_of_mem hf.1
  have := h i (by omega)
  rw [← atF_get hi] at this
  exact this
end Go.Proofs.YtnoigkdecjeilaaDoor
