/- Contracts of functions of the seat's program, and what follows of them: De. Conditions are in each statement. -/
import Derived.Test.YtofdhldillmbdaaDd
set_option linter.unusedSimpArgs false
set_option linter.unusedVariables false
namespace Go.Proofs.Ytofdhldillmbdaa
open Go Go.Proofs Go.Vm

/-! ### Plain: the nearest on a way -/
def stepU (a b n : Int) : Int := if a < n ∧ (b < 0 ∨ n < b) then n else b
def stepL (a b n : Int) : Int := if n < a ∧ (b < 0 ∨ b < n) then n else b
def upO (x a : Int) : Int := (listR x 16).foldl (stepU a) (-1)
def dnO (x a : Int) : Int := (listR x 16).foldl (stepL a) (-1)
theorem stepU_stay {a b : Int} (hb : 0 ≤ b) : ∀ {l : List Int}, (∀ n ∈ l, b < n) → l.foldl (stepU a) b = b
  | [], _ => rfl
  | n :: l, h => by
    have := h n (by simp)
    have e : stepU a b n = b := by unfold stepU; rw [if_neg (by omega)]
    simp only [List.foldl_cons, e]
    exact stepU_stay hb fun n hn => h n (by simp [hn])
theorem stepU_all {a : Int} : ∀ {l : List Int}, l.Pairwise (· < ·) → (∀ n ∈ l, 0 ≤ n) → l.foldl (stepU a) (-1) = ((l.filter (fun n => decide (a < n))).head?).getD (-1)
  | [], _, _ => rfl
  | n :: l, hs, h0 => by
    have hs' := List.pairwise_cons.1 hs
    have h1 := h0 n (by simp)
    by_cases hc : a < n
    · have e : stepU a (-1) n = n := by unfold stepU; rw [if_pos (by omega)]
      simp only [List.foldl_cons, e, List.filter_cons, hc, decide_true, if_true, List.head?_cons, Option.getD_some]
      exact stepU_stay h1 hs'.1
    · have e : stepU a (-1) n = -1 := by unfold stepU; rw [if_neg (by omega)]
      simp only [List.foldl_cons, e, List.filter_cons, hc, decide_false, Bool.false_eq_true, if_false]
      exact stepU_all hs'.2 fun n hn => h0 n (by simp [hn])
theorem near_stay {a m : Int} (hm : a < m) : ∀ {l : List Int}, (∀ n ∈ l, m < n) → l.foldl (nearS a) m = m
  | [], _ => rfl
  | n :: l, h => by
    have := h n (by simp)
    have e : nearS a m n = m := by unfold nearS far; rw [if_neg (by omega)]
    simp only [List.foldl_cons, e]
    exact near_stay hm fun n hn => h n (by simp [hn])
theorem last_any (c : Int) (l : List Int) (x y : Int) : (c :: l).getLast?.getD x = (c :: l).getLast?.getD y := by rw [List.getLast?_cons]; rfl
theorem stepL_all {a : Int} : ∀ {l : List Int} {b : Int}, l.Pairwise (· < ·) → (∀ n ∈ l, 0 ≤ n) → (b < 0 ∨ ∀ n ∈ l, b < n) → l.foldl (stepL a) b = ((l.filter (fun n => decide (n < a))).getLast?).getD b
  | [], _, _, _, _ => rfl
  | n :: l, b, hs, h0, hb => by
    have hs' := List.pairwise_cons.1 hs
    have h1 := h0 n (by simp)
    by_cases hc : n < a
    · have e : stepL a b n = n := by
        have hor : b < 0 ∨ b < n := hb.imp id fun h => h n (by simp)
        unfold stepL; rw [if_pos ⟨hc, hor⟩]
      simp only [List.foldl_cons, e, List.filter_cons, hc, decide_true, if_true]
      rw [stepL_all hs'.2 (fun n hn => h0 n (by simp [hn])) (.inr hs'.1)]
      cases hf : l.filter (fun n => decide (n < a)) with
      | nil => rfl
      | cons c l' => rw [List.getLast?_cons_cons]; exact last_any ..
    · have e : stepL a b n = b := by unfold stepL; rw [if_neg (by omega)]
      simp only [List.foldl_cons, e, List.filter_cons, hc, decide_false, Bool.false_eq_true, if_false]
      exact stepL_all hs'.2 (fun n hn => h0 n (by simp [hn])) (hb.imp id fun h n hn => h n (by simp [hn]))
theorem near_last {a : Int} : ∀ {l : List Int} {m : Int}, (m :: l).Pairwise (· < ·) → (∀ n ∈ l, n < a) → l.foldl (nearS a) m = (l.getLast?).getD m
  | [], _, _, _ => rfl
  | n :: l, m, hs, h => by
    have hs' := List.pairwise_cons.1 hs
    have h1 := hs'.1 n (by simp)
    have h2 := h n (by simp)
    have e : nearS a m n = n := by unfold nearS far; rw [if_pos (by omega)]
    simp only [List.foldl_cons, e]
    rw [near_last hs'.2 fun n hn => h n (by simp [hn])]
    cases l with
    | nil => rfl
    | cons c l' => rw [List.getLast?_cons_cons]; exact last_any ..
theorem onP_up (a n : Int) : onP a 1 n = decide (a < n) := by unfold onP; congr 1; apply propext; omega
theorem onP_dn (a n : Int) : onP a (-1) n = decide (n < a) := by unfold onP; congr 1; apply propext; omega
theorem nonneg_listR (x : Int) : ∀ n ∈ listR x 16, 0 ≤ n := fun _ h => (listR_near (by omega) h).1
theorem onR_up (x a : Int) : (upO x a < 0 ∧ onR x a 1 = []) ∨ (0 ≤ upO x a ∧ a < upO x a ∧ onR x a 1 = [upO x a]) := by
  have h := stepU_all (a := a) (sorted_listR x 16) (nonneg_listR x)
  have e : onL x a 1 = (listR x 16).filter (fun n => decide (a < n)) := by unfold onL; congr 1; funext n; exact onP_up a n
  cases hf : (listR x 16).filter (fun n => decide (a < n)) with
  | nil =>
    left
    rw [hf] at h
    refine ⟨by unfold upO; rw [h]; decide, ?_⟩
    unfold onR; rw [e, hf]
  | cons m l =>
    right
    rw [hf] at h
    have hm : upO x a = m := h
    have hmem : m ∈ (listR x 16).filter (fun n => decide (a < n)) := by rw [hf]; simp
    have h1 := List.mem_filter.1 hmem
    have hs : (m :: l).Pairwise (· < ·) := by rw [← hf]; exact List.Pairwise.filter _ (sorted_listR x 16)
    have h2 : a < m := by simpa using h1.2
    refine ⟨by rw [hm]; exact nonneg_listR x _ h1.1, by rw [hm]; exact h2, ?_⟩
    rw [onR_ne (by rw [e, hf]; simp), e, hf, hm]
    simp only [nearR]
    rw [near_stay h2 (List.pairwise_cons.1 hs).1]
theorem onR_dn (x a : Int) : (dnO x a < 0 ∧ onR x a (-1) = []) ∨ (0 ≤ dnO x a ∧ dnO x a < a ∧ onR x a (-1) = [dnO x a]) := by
  have h := stepL_all (a := a) (b := -1) (sorted_listR x 16) (nonneg_listR x) (.inl (by omega))
  have e : onL x a (-1) = (listR x 16).filter (fun n => decide (n < a)) := by unfold onL; congr 1; funext n; exact onP_dn a n
  cases hf : (listR x 16).filter (fun n => decide (n < a)) with
  | nil =>
    left
    rw [hf] at h
    refine ⟨by unfold dnO; rw [h]; decide, ?_⟩
    unfold onR; rw [e, hf]
  | cons m l =>
    right
    rw [hf] at h
    have hs : (m :: l).Pairwise (· < ·) := by rw [← hf]; exact List.Pairwise.filter _ (sorted_listR x 16)
    have hall : ∀ n ∈ m :: l, 0 ≤ n ∧ n < a := fun n hn => by
      rw [← hf] at hn
      have h1 := List.mem_filter.1 hn
      exact ⟨nonneg_listR x _ h1.1, by simpa using h1.2⟩
    have hl : nearR a (m :: l) = (l.getLast?).getD m := near_last hs fun n hn => (hall n (by simp [hn])).2
    have hm : dnO x a = (l.getLast?).getD m := by
      unfold dnO; rw [h]
      cases l with
      | nil => rfl
      | cons c l' => rw [List.getLast?_cons_cons]; exact last_any ..
    have hin : dnO x a ∈ m :: l := by rw [hm, ← hl]; exact nearR_mem a (by simp)
    refine ⟨(hall _ hin).1, (hall _ hin).2, ?_⟩
    rw [onR_ne (by rw [e, hf]; simp), e, hf, hm, hl]
theorem onR_zero (x a : Int) : onR x a 0 = [] := by
  have e : onL x a 0 = [] := by
    unfold onL
    rw [List.filter_eq_nil_iff]
    intro n _
    simp [onP]
  unfold onR; rw [e]
theorem empty_on {x a : Int} (way : Int) (h : listR x 16 = []) : onR x a way = [] := by
  have e : onL x a way = [] := by unfold onL; rw [h]; rfl
  unfold onR; rw [e]
theorem pick_up {a m : Int} {l : List Int} (e : nearR a l = m) (h : a < m) : ((m, 1, true) : Int × Int × Bool) = if a < nearR a l then (nearR a l, 1, true) else (nearR a l, -1, true) := by rw [e, if_pos h]
theorem pick_dn {a m : Int} {l : List Int} (e : nearR a l = m) (h : m < a) : ((m, -1, true) : Int × Int × Bool) = if a < nearR a l then (nearR a l, 1, true) else (nearR a l, -1, true) := by rw [e, if_neg (by omega)]
/-- The document's answer. -/
def rNextR (x a way : Int) : Int × Int × Bool :=
  if listR x 16 = [] then (0, 0, false)
  else if a ∈ listR x 16 then (a, heldR way, true)
  else if 0 ≤ upO x a ∧ (heldR way = 1 ∨ dnO x a < 0) then (upO x a, 1, true)
  else if 0 ≤ dnO x a ∧ (heldR way = -1 ∨ upO x a < 0) then (dnO x a, -1, true)
  else if upO x a - a < a - dnO x a then (upO x a, 1, true)
  else (dnO x a, -1, true)
theorem rNext_eq (x a way : Int) : rNextR x a way = nextR x a way := by
  unfold rNextR
  by_cases h0 : listR x 16 = []
  · rw [if_pos h0]
    have hb : hasB x a = false := by
      rw [Bool.eq_false_iff]; intro h; have := mem_listR16.2 h; rw [h0] at this; simp at this
    rw [nextR_none hb (empty_on _ h0) (empty_on _ h0) (empty_on _ h0)]
  rw [if_neg h0]
  by_cases hb : hasB x a = true
  · rw [if_pos (mem_listR16.2 hb), nextR_has hb]
  rw [if_neg (fun h => hb (mem_listR16.1 h))]
  simp only [Bool.not_eq_true] at hb
  have hU := onR_up x a
  have hD := onR_dn x a
  have hZ := onR_zero x a
  have some_on : 0 ≤ upO x a ∨ 0 ≤ dnO x a := by
    obtain ⟨n, hn⟩ : ∃ n, n ∈ listR x 16 := List.exists_mem_of_ne_nil _ h0
    have hne : n ≠ a := by rintro rfl; rw [mem_listR16.1 hn] at hb; cases hb
    rcases Int.lt_or_gt_of_ne hne with h | h
    · right
      rcases hD with ⟨_, h2⟩ | h2
      · by_cases h3 : onL x a (-1) = []
        · unfold onL at h3
          rw [List.filter_eq_nil_iff] at h3
          have := h3 n hn
          rw [onP_dn] at this; simp at this; omega
        · rw [onR_ne h3] at h2; simp at h2
      · exact h2.1
    · left
      rcases hU with ⟨_, h2⟩ | h2
      · by_cases h3 : onL x a 1 = []
        · unfold onL at h3
          rw [List.filter_eq_nil_iff] at h3
          have := h3 n hn
          rw [onP_up] at this; simp at this; omega
        · rw [onR_ne h3] at h2; simp at h2
      · exact h2.1
  rcases heldR_way way with hw | hw | hw <;> rw [hw]
  · rcases hU with ⟨u1, u2⟩ | ⟨u1, u2, u3⟩
    · rcases hD with ⟨d1, d2⟩ | ⟨d1, d2, d3⟩
      · omega
      · rw [if_neg (by omega), if_pos (by omega), nextR_two hb (by rw [hw]; exact u2) (l := [dnO x a]) (by rw [d3, u2]; rfl) (by simp)]
        exact pick_dn rfl d2
    · rw [if_pos (by omega), nextR_on hb (by rw [hw]; exact u3), if_pos u2]
  · rcases hD with ⟨d1, d2⟩ | ⟨d1, d2, d3⟩
    · rcases hU with ⟨u1, u2⟩ | ⟨u1, u2, u3⟩
      · omega
      · rw [if_pos (by omega), nextR_two hb (by rw [hw]; exact d2) (l := [upO x a]) (by rw [d2, u3]; rfl) (by simp)]
        exact pick_up rfl u2
    · rw [if_neg (by omega), if_pos (by omega), nextR_on hb (by rw [hw]; exact d3), if_neg (by omega)]
  · rcases hD with ⟨d1, d2⟩ | ⟨d1, d2, d3⟩ <;> rcases hU with ⟨u1, u2⟩ | ⟨u1, u2, u3⟩
    · omega
    · rw [if_pos (by omega), nextR_two hb (by rw [hw]; exact hZ) (l := [upO x a]) (by rw [d2, u3]; rfl) (by simp)]
      exact pick_up rfl u2
    · rw [if_neg (by omega), if_pos (by omega), nextR_two hb (by rw [hw]; exact hZ) (l := [dnO x a]) (by rw [d3, u2]; rfl) (by simp)]
      exact pick_dn rfl d2
    · rw [if_neg (by omega), if_neg (by omega), nextR_two hb (by rw [hw]; exact hZ) (l := [dnO x a, upO x a]) (by rw [d3, u3]; rfl) (by simp)]
      by_cases hc : upO x a - a < a - dnO x a
      · rw [if_pos hc]
        exact pick_up (show nearS a (dnO x a) (upO x a) = upO x a by unfold nearS far; rw [if_pos (by omega)]) u2
      · rw [if_neg hc]
        exact pick_dn (show nearS a (dnO x a) (upO x a) = dnO x a by unfold nearS far; rw [if_neg (by omega)]) d2
end Go.Proofs.Ytofdhldillmbdaa
