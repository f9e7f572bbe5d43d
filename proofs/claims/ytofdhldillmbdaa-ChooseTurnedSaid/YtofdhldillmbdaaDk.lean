/- Contracts of functions of the seat's program, and what follows of them: Dk. Conditions are in each statement. -/
import Derived.Test.YtofdhldillmbdaaDj
set_option linter.unusedSimpArgs false
set_option linter.unusedVariables false
namespace Go.Proofs.Ytofdhldillmbdaa
open Go Go.Proofs Go.Vm

def sgn (d : Int) : Int := if 0 < d then 1 else if d < 0 then -1 else 0
/-- Nothing is called on that side. -/
def noneOn (x a w : Int) : Prop := ∀ n, hasB x n = true → ¬ 0 < (n - a) * w
theorem onR_none {x a w : Int} : onR x a w = [] ↔ noneOn x a w := by
  constructor
  · intro h n hn
    by_cases h0 : onL x a w = []
    · unfold onL at h0
      rw [List.filter_eq_nil_iff] at h0
      have := h0 n (mem_listR16.2 hn)
      simpa [onP] using this
    · rw [onR_ne h0] at h; simp at h
  · intro h
    have e : onL x a w = [] := by
      unfold onL
      rw [List.filter_eq_nil_iff]
      intro n hn
      have := h n (mem_listR16.1 hn)
      simpa [onP] using this
    unfold onR; rw [e]
/-- What is next on a way is nearest. -/
theorem up_near {x a : Int} (h : 0 ≤ upO x a) : hasB x (upO x a) = true ∧ a < upO x a ∧ ∀ n, hasB x n = true → a < n → upO x a ≤ n := by
  rcases onR_up x a with ⟨h1, _⟩ | ⟨h1, h2, h3⟩
  · omega
  refine ⟨(onR_mem (x := x) (a := a) (way := 1) (by rw [h3]; simp)).1, h2, fun n hn han => ?_⟩
  have hU := stepU_all (a := a) (sorted_listR x 16) (nonneg_listR x)
  have hin : n ∈ (listR x 16).filter (fun n => decide (a < n)) := List.mem_filter.2 ⟨mem_listR16.2 hn, by simpa using han⟩
  cases hf : (listR x 16).filter (fun n => decide (a < n)) with
  | nil => rw [hf] at hin; simp at hin
  | cons m l =>
    rw [hf] at hU hin
    have e : upO x a = m := hU
    have hs : (m :: l).Pairwise (· < ·) := by rw [← hf]; exact List.Pairwise.filter _ (sorted_listR x 16)
    rw [e]
    rcases List.mem_cons.1 hin with h | h
    · omega
    · have := (List.pairwise_cons.1 hs).1 n h; omega
theorem last_max : ∀ {l : List Int} {m : Int}, (m :: l).Pairwise (· < ·) → ∀ n ∈ m :: l, n ≤ (l.getLast?).getD m
  | [], m, _, n, h => by simp at h; simp [h]
  | c :: l, m, hs, n, h => by
    have hs' := List.pairwise_cons.1 hs
    rw [List.getLast?_cons]
    simp only [Option.getD_some]
    have ih := last_max hs'.2
    rcases List.mem_cons.1 h with h | h
    · have h1 := hs'.1 c (by simp)
      have h2 := ih c (by simp)
      omega
    · exact ih n h
theorem dn_near {x a : Int} (h : 0 ≤ dnO x a) : hasB x (dnO x a) = true ∧ dnO x a < a ∧ ∀ n, hasB x n = true → n < a → n ≤ dnO x a := by
  rcases onR_dn x a with ⟨h1, _⟩ | ⟨h1, h2, h3⟩
  · omega
  refine ⟨(onR_mem (x := x) (a := a) (way := -1) (by rw [h3]; simp)).1, h2, fun n hn han => ?_⟩
  have hU := stepL_all (a := a) (b := -1) (sorted_listR x 16) (nonneg_listR x) (.inl (by omega))
  have hin : n ∈ (listR x 16).filter (fun n => decide (n < a)) := List.mem_filter.2 ⟨mem_listR16.2 hn, by simpa using han⟩
  cases hf : (listR x 16).filter (fun n => decide (n < a)) with
  | nil => rw [hf] at hin; simp at hin
  | cons m l =>
    rw [hf] at hU hin
    have hs : (m :: l).Pairwise (· < ·) := by rw [← hf]; exact List.Pairwise.filter _ (sorted_listR x 16)
    have e : dnO x a = (l.getLast?).getD m := by
      have e0 : dnO x a = _ := hU
      rw [e0, List.getLast?_cons]; rfl
    rw [e]
    exact last_max hs n hin
theorem up_none {x a : Int} (h : upO x a < 0) : ∀ n, hasB x n = true → ¬ a < n := by
  rcases onR_up x a with ⟨_, h2⟩ | ⟨h1, _⟩
  · intro n hn
    have := onR_none.1 h2 n hn
    omega
  · omega
theorem dn_none {x a : Int} (h : dnO x a < 0) : ∀ n, hasB x n = true → ¬ n < a := by
  rcases onR_dn x a with ⟨_, h2⟩ | ⟨h1, _⟩
  · intro n hn
    have := onR_none.1 h2 n hn
    omega
  · omega
/-- What is next, told apart. -/
theorem next_cases {x a way to th : Int} (h : nextR x a way = (to, th, true)) :
    (hasB x a = true ∧ to = a ∧ th = heldR way) ∨
    (hasB x a = false ∧ 0 ≤ upO x a ∧ to = upO x a ∧ th = 1 ∧ (heldR way = 1 ∨ dnO x a < 0 ∨ (heldR way = 0 ∧ upO x a - a < a - dnO x a))) ∨
    (hasB x a = false ∧ 0 ≤ dnO x a ∧ to = dnO x a ∧ th = -1 ∧ (heldR way = -1 ∨ upO x a < 0 ∨ (heldR way = 0 ∧ ¬ upO x a - a < a - dnO x a))) := by
  rw [← rNext_eq] at h
  unfold rNextR at h
  have hw := heldR_way way
  by_cases h0 : listR x 16 = []
  · rw [if_pos h0] at h; cases h
  rw [if_neg h0] at h
  by_cases hb : hasB x a = true
  · rw [if_pos (mem_listR16.2 hb)] at h; cases h; exact .inl ⟨hb, rfl, rfl⟩
  rw [if_neg (fun h => hb (mem_listR16.1 h))] at h
  simp only [Bool.not_eq_true] at hb
  right
  by_cases c1 : 0 ≤ upO x a ∧ (heldR way = 1 ∨ dnO x a < 0)
  · rw [if_pos c1] at h; cases h
    exact .inl ⟨hb, c1.1, rfl, rfl, by rcases c1.2 with h | h <;> simp [h]⟩
  rw [if_neg c1] at h
  by_cases c2 : 0 ≤ dnO x a ∧ (heldR way = -1 ∨ upO x a < 0)
  · rw [if_pos c2] at h; cases h
    exact .inr ⟨hb, c2.1, rfl, rfl, by rcases c2.2 with h | h <;> simp [h]⟩
  rw [if_neg c2] at h
  have some_on : 0 ≤ upO x a ∨ 0 ≤ dnO x a := by
    obtain ⟨n, hn⟩ : ∃ n, n ∈ listR x 16 := List.exists_mem_of_ne_nil _ h0
    have hbn := mem_listR16.1 hn
    have hne : n ≠ a := by rintro rfl; rw [hbn] at hb; cases hb
    rcases Int.lt_or_gt_of_ne hne with h | h
    · right
      by_cases hd : dnO x a < 0
      · exact absurd h (dn_none hd n hbn)
      · omega
    · left
      by_cases hd : upO x a < 0
      · exact absurd h (up_none hd n hbn)
      · omega
  by_cases c3 : upO x a - a < a - dnO x a
  · rw [if_pos c3] at h; cases h
    refine .inl ⟨hb, by omega, rfl, rfl, .inr (.inr ⟨by omega, c3⟩)⟩
  · rw [if_neg c3] at h; cases h
    refine .inr ⟨hb, by omega, rfl, rfl, .inr (.inr ⟨by omega, c3⟩)⟩

/-- How often it turned so far. -/
def Turns (x a w t : Int) : Prop := t = 0 ∨ (t = 1 ∧ ((w = 1 ∧ ∀ n, hasB x n = true → ¬ n < a) ∨ (w = -1 ∧ ∀ n, hasB x n = true → ¬ a < n)))
theorem held_held {w : Int} (h : w = 1 ∨ w = -1 ∨ w = 0) : heldR w = w := by rcases h with rfl | rfl | rfl <;> rfl
/-- One step of the count. -/
def turnT (now last t : Int) : Int := if now ≠ 0 ∧ last ≠ 0 ∧ now ≠ last then t + 1 else t
def turnL (now last : Int) : Int := if now ≠ 0 then now else last
theorem turn_step {x a w t to th : Int} (hx : i64 x) (hw : w = 1 ∨ w = -1 ∨ w = 0) (h : nextR x a w = (to, th, true)) (ht : Turns x a w t) :
    turnL (sgn (to - a)) w = th ∧ (th = 1 ∨ th = -1 ∨ th = 0) ∧ Turns (without x to) to th (turnT (sgn (to - a)) w t) := by
  have hb := nextR_ok h
  have wo : ∀ n, hasB (without x to) n = true → hasB x n = true ∧ n ≠ to := fun n hn => by
    rw [without_hasB hx hb] at hn; simpa using hn
  have hh := held_held hw
  rcases next_cases h with ⟨h1, rfl, h3⟩ | ⟨h1, h2, h3, h4, h5⟩ | ⟨h1, h2, h3, h4, h5⟩
  · rw [hh] at h3
    subst h3
    have e : sgn (to - to) = 0 := by simp [sgn]
    rw [e]
    refine ⟨by simp [turnL], hw, ?_⟩
    simp only [turnT]
    rw [if_neg (by omega)]
    rcases ht with ht | ⟨ht, hc⟩
    · exact .inl ht
    · refine .inr ⟨ht, ?_⟩
      rcases hc with ⟨hc, hn⟩ | ⟨hc, hn⟩
      · exact .inl ⟨hc, fun n h => hn n (wo n h).1⟩
      · exact .inr ⟨hc, fun n h => hn n (wo n h).1⟩
  · obtain ⟨_, n2, n3⟩ := up_near h2
    rw [hh] at h5
    have e : sgn (to - a) = 1 := by unfold sgn; rw [if_pos (by omega)]
    rw [e, h4]
    refine ⟨by simp [turnL], .inl rfl, ?_⟩
    have clear : (t = 1 ∨ w = -1) → ∀ n, hasB (without x to) n = true → ¬ n < to := by
      intro hc n hn hlt
      obtain ⟨q1, q2⟩ := wo n hn
      have hna : n ≠ a := by rintro rfl; rw [q1] at h1; cases h1
      have nlt : n < a := by
        rcases Int.lt_or_gt_of_ne hna with h | h
        · exact h
        · have := n3 n q1 h; omega
      rcases hc with hc | hc
      · rcases ht with ht | ⟨_, hd | hd⟩
        · omega
        · exact hd.2 n q1 nlt
        · exact hd.2 to (by rw [h3]; assumption) (by omega)
      · by_cases hdn : dnO x a < 0
        · exact dn_none hdn n q1 nlt
        · omega
    by_cases hcc : (1 : Int) ≠ 0 ∧ w ≠ 0 ∧ 1 ≠ w
    · have hw1 : w = -1 := by omega
      simp only [turnT]
      rw [if_pos hcc]
      rcases ht with ht | ⟨ht, hd | hd⟩
      · exact .inr ⟨by omega, .inl ⟨rfl, clear (.inr hw1)⟩⟩
      · omega
      · exact absurd (show a < to by omega) (hd.2 to (by rw [h3]; assumption))
    · simp only [turnT]
      rw [if_neg hcc]
      rcases ht with ht | ⟨ht, _⟩
      · exact .inl ht
      · exact .inr ⟨ht, .inl ⟨rfl, clear (.inl ht)⟩⟩
  · obtain ⟨_, n2, n3⟩ := dn_near h2
    rw [hh] at h5
    have e : sgn (to - a) = -1 := by unfold sgn; rw [if_neg (by omega), if_pos (by omega)]
    rw [e, h4]
    refine ⟨by simp [turnL], .inr (.inl rfl), ?_⟩
    have clear : (t = 1 ∨ w = 1) → ∀ n, hasB (without x to) n = true → ¬ to < n := by
      intro hc n hn hlt
      obtain ⟨q1, q2⟩ := wo n hn
      have hna : n ≠ a := by rintro rfl; rw [q1] at h1; cases h1
      have nlt : a < n := by
        rcases Int.lt_or_gt_of_ne hna with h | h
        · have := n3 n q1 h; omega
        · exact h
      rcases hc with hc | hc
      · rcases ht with ht | ⟨_, hd | hd⟩
        · omega
        · exact hd.2 to (by rw [h3]; assumption) (by omega)
        · exact hd.2 n q1 nlt
      · by_cases hdn : upO x a < 0
        · exact up_none hdn n q1 nlt
        · omega
    by_cases hcc : (-1 : Int) ≠ 0 ∧ w ≠ 0 ∧ -1 ≠ w
    · have hw1 : w = 1 := by omega
      simp only [turnT]
      rw [if_pos hcc]
      rcases ht with ht | ⟨ht, hd | hd⟩
      · exact .inr ⟨by omega, .inr ⟨rfl, clear (.inr hw1)⟩⟩
      · exact absurd (show to < a by omega) (hd.2 to (by rw [h3]; assumption))
      · omega
    · simp only [turnT]
      rw [if_neg hcc]
      rcases ht with ht | ⟨ht, _⟩
      · exact .inl ht
      · exact .inr ⟨ht, .inr ⟨rfl, clear (.inl ht)⟩⟩
end Go.Proofs.Ytofdhldillmbdaa
