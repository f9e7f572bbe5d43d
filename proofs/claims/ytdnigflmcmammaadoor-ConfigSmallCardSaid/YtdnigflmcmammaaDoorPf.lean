/- Contracts of functions of the seat's program, and what follows of them: Pf. Conditions are in each statement. -/
import Derived.Test.YtdnigflmcmammaaDoorPe
import Derived.Test.YtdnigflmcmammaaDoorGd
set_option linter.unusedSimpArgs false
set_option linter.unusedVariables false
namespace Go.Proofs.YtdnigflmcmammaaDoor
open Go Go.Proofs Go.Vm

/-- How many ticks, rounded up. -/
def Tk (b s : Int) : Int := -((-s) / b)
theorem tk_spec {b : Int} (hb : 1 ≤ b) (s : Int) : b * Tk b s - b < s ∧ s ≤ b * Tk b s := by
  have h1 := Int.mul_ediv_add_emod (-s) b
  have h2 := Int.emod_nonneg (-s) (show b ≠ 0 by omega)
  have h3 := Int.emod_lt_of_pos (-s) (show 0 < b by omega)
  unfold Tk
  rw [Int.mul_neg]
  omega
theorem tk_unique {b s n : Int} (hb : 1 ≤ b) (h1 : b * n - b < s) (h2 : s ≤ b * n) : Tk b s = n := by
  obtain ⟨k1, k2⟩ := tk_spec hb s
  have a : ¬ n < Tk b s := fun h => by
    have := Int.mul_le_mul_of_nonneg_left (show n + 1 ≤ Tk b s by omega) (show 0 ≤ b by omega)
    rw [Int.mul_add] at this; omega
  have c : ¬ Tk b s < n := fun h => by
    have := Int.mul_le_mul_of_nonneg_left (show Tk b s + 1 ≤ n by omega) (show 0 ≤ b by omega)
    rw [Int.mul_add] at this; omega
  omega
theorem tk_zero {b : Int} (hb : 1 ≤ b) : Tk b 0 = 0 := tk_unique hb (by simp; omega) (by simp)
theorem tk_pos {b s : Int} (hb : 1 ≤ b) (hs : 0 < s) : 1 ≤ Tk b s := by
  obtain ⟨k1, k2⟩ := tk_spec hb s
  rcases Int.lt_or_le (Tk b s) 1 with h | h
  · have := Int.mul_le_mul_of_nonneg_left (show Tk b s ≤ 0 by omega) (show 0 ≤ b by omega)
    simp at this; omega
  · exact h
theorem tk_le {b s : Int} (hb : 1 ≤ b) (hs : 0 ≤ s) : Tk b s ≤ s := by
  rcases Int.lt_or_le 0 s with h | h
  · obtain ⟨k1, k2⟩ := tk_spec hb s
    have p := tk_pos hb h
    have := Int.mul_le_mul_of_nonneg_right hb (show 0 ≤ Tk b s - 1 by omega)
    rw [Int.mul_sub b] at this; omega
  · rw [show s = 0 by omega, tk_zero hb]; omega
theorem tk_step {b s : Int} (hb : 1 ≤ b) (hs : 0 < s) : Tk b s = 1 + Tk b (max (s - b) 0) := by
  obtain ⟨k1, k2⟩ := tk_spec hb s
  rcases Int.lt_or_le s b with h | h
  · rw [show max (s - b) 0 = 0 by omega, tk_zero hb]
    exact tk_unique hb (by simp; omega) (by simp; omega)
  · rw [show max (s - b) 0 = s - b by omega]
    obtain ⟨j1, j2⟩ := tk_spec hb (s - b)
    exact tk_unique hb (by rw [Int.mul_add]; omega) (by rw [Int.mul_add]; omega)
theorem tk_mono {b s s' : Int} (hb : 1 ≤ b) (h : s ≤ s') : Tk b s ≤ Tk b s' := by
  obtain ⟨k1, k2⟩ := tk_spec hb s
  obtain ⟨j1, j2⟩ := tk_spec hb s'
  rcases Int.lt_or_le (Tk b s') (Tk b s) with h' | h'
  · have := Int.mul_le_mul_of_nonneg_left (show Tk b s' + 1 ≤ Tk b s by omega) (show 0 ≤ b by omega)
    rw [Int.mul_add] at this; omega
  · exact h'

/-- Twice how far it goes. -/
def Dk (b s : Int) : Int := 2 * ((Tk b s - 1) * s) - b * (Tk b s - 1) * Tk b s
theorem dk_step {b s : Int} (hb : 1 ≤ b) (hs : 0 < s) : (if b < s then Dk b s = 2 * (s - b) + Dk b (s - b) else Dk b s = 0) := by
  have st := tk_step hb hs
  split
  · rename_i h
    rw [show max (s - b) 0 = s - b by omega] at st
    unfold Dk
    rw [st]
    generalize Tk b (s - b) = m
    grind
  · rename_i h
    rw [show max (s - b) 0 = 0 by omega, tk_zero hb] at st
    unfold Dk
    rw [st]
    simp
theorem tickR_eq {b : Int} (hb : 1 ≤ b) (hb2 : b ≤ 1000) : ∀ (k : Nat) (s n : Int), 0 ≤ s → s ≤ 1000 → s ≤ k → tickR b k s n = n + Tk b s
  | 0, s, n, h0, _, hk => by
    rw [show s = 0 by omega, tk_zero hb]; simp [tickR]
  | k + 1, s, n, h0, h1, hk => by
    unfold tickR
    split
    · rename_i h
      rw [towR_down h h1 hb hb2, tickR_eq hb hb2 k (max (s - b) 0) (n + 1) (by omega) (by omega) (by omega), tk_step hb h]; omega
    · rw [show s = 0 by omega, tk_zero hb]; omega
theorem coastR_eq {b : Int} (hb : 1 ≤ b) (hb2 : b ≤ 1000) : ∀ (k : Nat) (s sum : Int), 0 ≤ s → s ≤ 1000 → s ≤ k → 0 ≤ sum → sum + k * 1000 ≤ 1000000000 → 2 * coastR b k s sum = 2 * sum + Dk b s
  | 0, s, sum, h0, _, hk, _, _ => by
    rw [show s = 0 by omega]; simp [coastR, Dk, tk_zero hb]
  | k + 1, s, sum, h0, h1, hk, q1, q2 => by
    unfold coastR
    split
    · rename_i h
      rw [towR_down h h1 hb hb2]
      have e : w64 (sum + max (s - b) 0) = sum + max (s - b) 0 := w64_id (by omega) (by omega)
      rw [e, coastR_eq hb hb2 k (max (s - b) 0) _ (by omega) (by omega) (by omega) (by omega) (by omega)]
      have d := dk_step hb h
      split at d
      · rw [show max (s - b) 0 = s - b by omega, d]; omega
      · rw [show max (s - b) 0 = 0 by omega, d]; simp [Dk, tk_zero hb]
    · rw [show s = 0 by omega]; simp [Dk, tk_zero hb]

theorem down_eq {a b : Int} (hb : 1 ≤ b) (h1 : -4611686018427387904 ≤ a) (h2 : a ≤ 4611686018427387904) : downP a b = a / b := by
  have e1 := Int.mul_ediv_add_emod a b
  have e2 := Int.emod_nonneg a (show b ≠ 0 by omega)
  have e3 := Int.emod_lt_of_pos a (show 0 < b by omega)
  have bd : -4611686018427387905 ≤ a / b ∧ a / b ≤ 4611686018427387904 := by
    constructor
    · rcases Int.lt_or_le (a / b) (-4611686018427387905) with h | h
      · have := Int.mul_le_mul_of_nonneg_right hb (show 0 ≤ -(a / b + 1) by omega)
        rw [Int.mul_neg b, Int.mul_add b] at this; omega
      · exact h
    · rcases Int.lt_or_le 4611686018427387904 (a / b) with h | h
      · have := Int.mul_le_mul_of_nonneg_right hb (show 0 ≤ a / b by omega)
        omega
      · exact h
  have hq : a.tdiv b = if 0 ≤ a ∨ a % b = 0 then a / b else a / b + 1 := by
    rw [Int.tdiv_eq_ediv]
    simp only [Int.dvd_iff_emod_eq_zero]
    split
    · simp
    · rw [Int.sign_eq_one_of_pos (by omega)]
  have hr : a.tmod b = if 0 ≤ a ∨ a % b = 0 then a % b else a % b - b := by
    have := Int.mul_tdiv_add_tmod a b
    rw [hq] at this
    split
    · rename_i h; rw [if_pos h] at this; omega
    · rename_i h; rw [if_neg h, Int.mul_add] at this; omega
  unfold downP
  rw [if_neg (by simp; omega), hq, hr]
  split
  · rw [if_neg (by simp; omega), w64_id (by omega) (by omega)]
  · rw [if_pos (by simp; omega), w64_id (x := a / b + 1) (by omega) (by omega), w64_id (by omega) (by omega)]; omega
theorem up_eq {a b : Int} (hb : 1 ≤ b) (h1 : -4611686018427387903 ≤ a) (h2 : a ≤ 4611686018427387903) : upP a b = Tk b a := by
  have e1 := Int.mul_ediv_add_emod (-a) b
  have bd : -4611686018427387905 ≤ (-a) / b ∧ (-a) / b ≤ 4611686018427387904 := by
    have e2 := Int.emod_nonneg (-a) (show b ≠ 0 by omega)
    have e3 := Int.emod_lt_of_pos (-a) (show 0 < b by omega)
    constructor
    · rcases Int.lt_or_le ((-a) / b) (-4611686018427387905) with h | h
      · have := Int.mul_le_mul_of_nonneg_right hb (show 0 ≤ -((-a) / b + 1) by omega)
        rw [Int.mul_neg b, Int.mul_add b] at this; omega
      · exact h
    · rcases Int.lt_or_le 4611686018427387904 ((-a) / b) with h | h
      · have := Int.mul_le_mul_of_nonneg_right hb (show 0 ≤ (-a) / b by omega)
        omega
      · exact h
  unfold upP Tk
  rw [w64_id (x := -a) (by omega) (by omega), down_eq hb (by omega) (by omega), w64_id (by omega) (by omega)]
theorem ticks_eq {s b : Int} (hb : 1 ≤ b) (h0 : 0 ≤ s) (h1 : s ≤ 1000000000000) : ticksP s b = Tk b s := by
  unfold ticksP
  split
  · rename_i h
    rw [show s = 0 by simpa using h, tk_zero hb]
  · rw [if_neg (by simp; omega), w64_id (x := -s) (by omega) (by omega), show max s (-s) = s by omega, up_eq hb (by omega) (by omega)]
theorem coast_eq {s b : Int} (hb : 1 ≤ b) (hb2 : b ≤ 1000) (h0 : 0 ≤ s) (h1 : s ≤ 1000) : coastP s b = coastR b 2000 s 0 := by
  have r := coastR_eq hb hb2 2000 s 0 h0 h1 (by omega) (by omega) (by omega)
  unfold coastP
  rw [if_neg (by simp; omega), ticks_eq hb h0 (by omega)]
  rcases Int.lt_or_le 0 s with h | h
  · have p := tk_pos hb h
    have q := tk_le hb h0
    rw [if_neg (by simp; omega), if_neg (by simp; omega)]
    obtain ⟨k1, k2⟩ := tk_spec hb s
    unfold wayP
    have m1 : 0 ≤ (Tk b s - 1) * s := Int.mul_nonneg (by omega) (by omega)
    have m2 : (Tk b s - 1) * s ≤ 1000 * 1000 := Int.mul_le_mul (by omega) (by omega) (by omega) (by omega)
    have m3 : 0 ≤ b * (Tk b s - 1) := Int.mul_nonneg (by omega) (by omega)
    have m4 : b * (Tk b s - 1) ≤ 1000 := by rw [Int.mul_sub b]; omega
    have m5 : 0 ≤ b * (Tk b s - 1) * Tk b s := Int.mul_nonneg m3 (by omega)
    have m6 : b * (Tk b s - 1) * Tk b s ≤ 1000 * 1000 := Int.mul_le_mul m4 (by omega) (by omega) (by omega)
    rw [w64_id (x := Tk b s - 1) (by omega) (by omega), w64_id (x := -s) (by omega) (by omega), show max s (-s) = s by omega, w64_id (x := (Tk b s - 1) * s) (by omega) (by omega), w64_id (x := b * (Tk b s - 1)) (by omega) (by omega), w64_id (x := b * (Tk b s - 1) * Tk b s) (by omega) (by omega)]
    obtain ⟨m, hm'⟩ : ∃ m, (Tk b s - 1) * Tk b s = 2 * m := by
      generalize Tk b s = n
      rcases Int.emod_two_eq n with h | h
      · exact ⟨(n - 1) * (n / 2), by rw [show n = 2 * (n / 2) by omega]; simp; grind⟩
      · exact ⟨((n - 1) / 2) * n, by rw [show n - 1 = 2 * ((n - 1) / 2) by omega]; simp; grind⟩
    have e : b * (Tk b s - 1) * Tk b s = 2 * (b * m) := by rw [Int.mul_assoc, hm']; grind
    have e2 : (b * (Tk b s - 1) * Tk b s).tdiv 2 = b * m := by rw [e]; exact Int.mul_tdiv_cancel_left _ (by omega)
    rw [e2, w64_id (x := b * m) (by omega) (by omega), w64_id (by omega) (by omega)]
    unfold Dk at r
    omega
  · have hs : s = 0 := by omega
    subst hs
    simp [Dk, tk_zero hb] at r ⊢
    omega
end Go.Proofs.YtdnigflmcmammaaDoor
