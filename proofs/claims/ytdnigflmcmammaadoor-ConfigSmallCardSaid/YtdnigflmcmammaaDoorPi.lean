/- Contracts of functions of the seat's program, and what follows of them: Pi. Conditions are in each statement. -/
import Derived.Test.YtdnigflmcmammaaDoorPh
set_option linter.unusedSimpArgs false
set_option linter.unusedVariables false
namespace Go.Proofs.YtdnigflmcmammaaDoor
open Go Go.Proofs Go.Vm

theorem near_all {c : Cfg} (h : nearC c = true) : c.lv.length ≤ 20 ∧ c.op.length ≤ 20 ∧ (∀ k, k < c.lv.length → -2147483648 ≤ at0 c.lv k ∧ at0 c.lv k ≤ 2147483648) ∧ (∀ x ∈ c.nums, -2147483648 ≤ x ∧ x ≤ 2147483648) := by
  simp only [nearC, Bool.and_eq_true, decide_eq_true_eq, allB_iff] at h
  obtain ⟨⟨h1, h2⟩, h3⟩ := h
  have hal : c.all.length = c.lv.length + c.op.length + 19 := by simp [Cfg.all, Cfg.nums]; omega
  refine ⟨h1, h2, fun k hk => ?_, fun x hx => ?_⟩
  · have := h3 k (by omega)
    simp only [near31, Bool.and_eq_true, decide_eq_true_eq] at this
    have e : at0 c.all k = at0 c.lv k := by simp [Cfg.all, at0, List.getD, List.getElem?_append, hk]
    rw [e] at this; exact this
  · obtain ⟨j, hj, rfl⟩ := List.mem_iff_getElem.1 hx
    have hj' : j < 19 := by simpa [Cfg.nums] using hj
    have := h3 (c.lv.length + c.op.length + j) (by omega)
    simp only [near31, Bool.and_eq_true, decide_eq_true_eq] at this
    have e : at0 c.all (c.lv.length + c.op.length + j) = c.nums[j] := by
      simp only [Cfg.all, at0, List.getD]
      rw [List.getElem?_append_right (by simp), List.length_append, show c.lv.length + c.op.length + j - (c.lv.length + c.op.length) = j by omega, List.getElem?_eq_getElem hj]; rfl
    rw [e] at this; exact this
theorem near_half {c : Cfg} (h : nearC c = true) : c.half ≤ 2147483648 ∧ -2147483648 ≤ c.half := by
  have := (near_all h).2.2.2 c.half (by simp [Cfg.nums])
  omega
theorem of_nil {c : Cfg} (h : wrongP c = []) (n : Int) : ofP c n = n := by simp [ofP, h]

def cnt (p : Nat → Bool) : Nat → Nat
  | 0 => 0
  | n + 1 => cnt p n + if p n = true then 1 else 0
theorem cnt_zero {p : Nat → Bool} : ∀ {n : Nat}, (∀ j, j < n → p j = true → False) → cnt p n = 0
  | 0, _ => rfl
  | n + 1, h => by
    unfold cnt
    rw [cnt_zero fun j hj => h j (by omega), if_neg (fun k => h n (by omega) k)]
theorem cnt_one {p : Nat → Bool} : ∀ {n : Nat}, (∀ j k, j < k → k < n → p j = true → p k = true → False) → cnt p n ≤ 1
  | 0, _ => by simp [cnt]
  | n + 1, h => by
    unfold cnt
    by_cases hp : p n = true
    · rw [cnt_zero fun j hj hj2 => h j n hj (by omega) hj2 hp, if_pos hp]; omega
    · rw [if_neg hp]
      have := cnt_one (p := p) (n := n) fun j k hj hk => h j k hj (by omega)
      omega
theorem cnt_le {p : Nat → Bool} : ∀ {n : Nat}, cnt p n ≤ n
  | 0 => by simp [cnt]
  | n + 1 => by
    unfold cnt
    have := cnt_le (p := p) (n := n)
    split <;> omega

def nearAt (c : Cfg) (pos : Int) (k : Nat) : Bool := decide (w64 (pos - at0 c.lv k) ≤ c.near) && decide (w64 (-(w64 (pos - at0 c.lv k))) ≤ c.near)
end Go.Proofs.YtdnigflmcmammaaDoor
