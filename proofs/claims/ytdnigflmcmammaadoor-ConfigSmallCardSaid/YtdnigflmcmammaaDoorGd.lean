/- Contracts of functions of the seat's program, and what follows of them: Gd. Conditions are in each statement. -/
import Derived.Test.YtdnigflmcmammaaDoorKl
set_option linter.unusedSimpArgs false
set_option linter.unusedVariables false
namespace Go.Proofs.YtdnigflmcmammaaDoor
open Go Go.Proofs Go.Vm

theorem w64_id {x : Int} (h1 : -9223372036854775808 ≤ x) (h2 : x ≤ 9223372036854775807) : w64 x = x := w64_of h1 h2
theorem ite_nil {p : Prop} [Decidable p] {a b : List UInt8} (ha : a ≠ []) (h : (if p then a else b) = []) : ¬p ∧ b = [] := by
  by_cases hp : p
  · rw [if_pos hp] at h; exact absurd h ha
  · rw [if_neg hp] at h; exact ⟨hp, h⟩
theorem towR_down {s b : Int} (h0 : 0 < s) (h1 : s ≤ 1000) (hb : 1 ≤ b) (hb2 : b ≤ 1000) : towR s 0 b = max (s - b) 0 := by
  unfold towR
  rw [if_neg (by omega), show max b 0 = b by omega]
  show max (w64 (s - b)) 0 = _
  rw [w64_id (by omega) (by omega)]

theorem coastR_bd {b : Int} (hb : 1 ≤ b) (hb2 : b ≤ 1000) : ∀ (k : Nat) (s sum : Int), s ≤ 1000 → 0 ≤ sum → sum + k * 1000 ≤ 1000000000 → sum ≤ coastR b k s sum ∧ coastR b k s sum ≤ sum + k * 1000
  | 0, s, sum, _, _, _ => by simp [coastR]
  | k + 1, s, sum, h1, h2, h3 => by
    unfold coastR
    split
    · rename_i h
      rw [towR_down h h1 hb hb2]
      have e : w64 (sum + max (s - b) 0) = sum + max (s - b) 0 := w64_of (by omega) (by omega)
      rw [e]
      have := coastR_bd hb hb2 k (max (s - b) 0) (sum + max (s - b) 0) (by omega) (by omega) (by omega)
      omega
    · omega
theorem tickR_bd {b : Int} : ∀ (k : Nat) (s n : Int), n ≤ tickR b k s n ∧ tickR b k s n ≤ n + k
  | 0, s, n => by simp [tickR]
  | k + 1, s, n => by
    unfold tickR
    split
    · have := tickR_bd (b := b) k (towR s 0 b) (n + 1); omega
    · omega

/-- A lift that can be. -/
structure Good (c : Cfg) : Prop where
  h2 : 2 ≤ c.lv.length
  h16 : c.lv.length ≤ 16
  zero : at0 c.lv 0 = 0
  inc : ∀ k, 0 < k → k < c.lv.length → at0 c.lv (k - 1) < at0 c.lv k
  height : ∀ k, 0 < k → k < c.lv.length → at0 c.lv k ≤ 1000000
  hop : c.op.length = c.lv.length
  op1 : ∀ k, k < c.op.length → 1 ≤ at0 c.op k ∧ at0 c.op k ≤ 3
  sl : 1 ≤ c.sl
  sh : c.sl ≤ c.sh
  fl : c.sh ≤ c.fl
  fh : c.fl ≤ c.fh
  fh2 : c.fh ≤ 1000
  ramp1 : 1 ≤ c.ramp
  ramp2 : c.ramp ≤ 1000
  leak1 : 0 ≤ c.leak
  leak2 : c.leak < c.sl
  star1 : 0 ≤ c.star
  star2 : c.star ≤ 500
  level1 : c.sh + coastR c.ramp 2000 c.sh 0 ≤ c.level
  level2 : c.level ≤ 1000000
  creep1 : c.level ≤ c.creep
  creep2 : c.creep ≤ 1000000
  vane1 : c.creep + c.leak * (c.star + 4 + tickR c.ramp 2000 c.sh 0) ≤ c.vane
  vane2 : c.vane ≤ 1000000
  vane3 : c.fh ≤ 2 * c.vane
  half1 : c.vane + (c.sh + coastR c.ramp 2000 c.sh 0) ≤ c.half
  half2 : c.half ≤ 1000000
  near1 : c.half + c.fh + coastR c.ramp 2000 c.fh 0 ≤ c.near
  near2 : c.near ≤ 1000000
  apart : ∀ k, 0 < k → k < c.lv.length → 2 * c.near + c.fh < at0 c.lv k - at0 c.lv (k - 1)
  coast1 : 0 ≤ coastR c.ramp 2000 c.sh 0
  coast2 : 0 ≤ coastR c.ramp 2000 c.fh 0

theorem good_of {c : Cfg} (h : wrongR c = []) : Good c := by
  unfold wrongR at h
  obtain ⟨a1, h⟩ := ite_nil (by simp) h
  obtain ⟨a2, h⟩ := ite_nil (by simp) h
  obtain ⟨a3, h⟩ := ite_nil (by simp) h
  obtain ⟨a4, h⟩ := ite_nil (by simp) h
  obtain ⟨a5, h⟩ := ite_nil (by simp) h
  obtain ⟨a6, h⟩ := ite_nil (by simp) h
  obtain ⟨a7, h⟩ := ite_nil (by simp) h
  obtain ⟨a8, h⟩ := ite_nil (by simp) h
  obtain ⟨a9, h⟩ := ite_nil (by simp) h
  obtain ⟨a10, h⟩ := ite_nil (by simp) h
  obtain ⟨a11, h⟩ := ite_nil (by simp) h
  obtain ⟨a12, h⟩ := ite_nil (by simp) h
  obtain ⟨a13, h⟩ := ite_nil (by simp) h
  obtain ⟨a14, h⟩ := ite_nil (by simp) h
  obtain ⟨a15, h⟩ := ite_nil (by simp) h
  simp only [Bool.not_eq_false, Bool.or_eq_true, decide_eq_true_eq, Bool.not_eq_true', not_or, Int.not_lt] at a1 a2 a3 a4 a5 a6 a7 a8 a9 a10 a11
  simp only [levelsB, openB, withinB, Bool.and_eq_true, decide_eq_true_eq, allB_iff, apartB] at a1 a2 a4 a5 a6 a7 a8 a9 a10 a11
  obtain ⟨⟨⟨l1, l2⟩, l3⟩, l4⟩ := a1
  obtain ⟨o1, o2⟩ := a2
  obtain ⟨⟨⟨⟨s1, s2⟩, s3⟩, s4⟩, s5⟩ := a3
  have inc : ∀ k, 0 < k → k < c.lv.length → at0 c.lv (k - 1) < at0 c.lv k ∧ at0 c.lv k ≤ 1000000 := by
    intro k h0 hk
    have := l4 k hk
    simp [goodLv] at this
    rcases this with rfl | h
    · omega
    · exact h
  have pos : ∀ k, k < c.lv.length → 0 ≤ at0 c.lv k := by
    intro k
    induction k with
    | zero => intro _; rw [l3]; omega
    | succ k ih => intro hk; have := ih (by omega); have := (inc (k + 1) (by omega) hk).1; simp at this; omega
  obtain ⟨c1, c2⟩ := coastR_bd a4.1 a4.2 2000 c.sh 0 (by omega) (by omega) (by omega)
  obtain ⟨d1, d2⟩ := coastR_bd a4.1 a4.2 2000 c.fh 0 (by omega) (by omega) (by omega)
  obtain ⟨t1, t2⟩ := tickR_bd (b := c.ramp) 2000 c.sh 0
  have er : riseR c = c.sh + coastR c.ramp 2000 c.sh 0 := w64_of (by omega) (by omega)
  have e5 : w64 (c.sl - 1) = c.sl - 1 := w64_id (by omega) (by omega)
  simp only [er, e5] at a5 a7 a10
  have lk : 0 ≤ c.leak * (c.star + 4 + tickR c.ramp 2000 c.sh 0) := Int.mul_nonneg a5.1 (by omega)
  have lk2 : c.leak * (c.star + 4 + tickR c.ramp 2000 c.sh 0) ≤ 1000 * 2504 := Int.mul_le_mul (by omega) (by omega) (by omega) (by omega)
  have ev : vaneR c = c.creep + c.leak * (c.star + 4 + tickR c.ramp 2000 c.sh 0) := by
    unfold vaneR
    rw [w64_id (x := c.star + 4) (by omega) (by omega), w64_id (x := c.star + 4 + _) (by omega) (by omega), w64_id (x := c.leak * _) (by omega) (by omega), w64_id (by omega) (by omega)]
  simp only [ev] at a9
  have e2 : w64 (2 * c.vane) = 2 * c.vane := w64_id (by omega) (by omega)
  simp only [e2] at a9
  have eh : w64 (c.vane + (c.sh + coastR c.ramp 2000 c.sh 0)) = c.vane + (c.sh + coastR c.ramp 2000 c.sh 0) := w64_id (by omega) (by omega)
  simp only [eh] at a10
  have en : nearNeed c = c.half + c.fh + coastR c.ramp 2000 c.fh 0 := by
    unfold nearNeed
    rw [w64_id (x := c.half + c.fh) (by omega) (by omega), w64_id (by omega) (by omega)]
  simp only [en] at a11
  refine ⟨l1, l2, l3, fun k h0 hk => (inc k h0 hk).1, fun k h0 hk => (inc k h0 hk).2, o2, fun k hk => ?_, s1, s2, s3, s4, s5, a4.1, a4.2, a5.1, by omega, a6.1, a6.2, a7.1, a7.2, a8.1, a8.2, a9.1.1, a9.1.2, a9.2, a10.1, a10.2, a11.1.1, a11.1.2, fun k h0 hk => ?_, c1, d1⟩
  · have := o1 k hk
    simpa [goodOp, withinB] using this
  · have := a11.2 k hk
    have p1 := pos k hk
    have p2 := pos (k - 1) (by omega)
    have i1 := inc k h0 hk
    have i2 : at0 c.lv (k - 1) ≤ 1000000 := by omega
    simp only [goodAp, Bool.or_eq_true, decide_eq_true_eq, Bool.not_eq_true', decide_eq_false_iff_not] at this
    rcases this with h | h
    · omega
    · rw [w64_id (x := at0 c.lv k - _) (by omega) (by omega), w64_id (x := 2 * c.near) (by omega) (by omega), w64_id (by omega) (by omega)] at h
      omega

theorem mono_lv {c : Cfg} (g : Good c) {j : Nat} : ∀ {k : Nat}, j ≤ k → k < c.lv.length → at0 c.lv j ≤ at0 c.lv k
  | 0, h, _ => by rw [show j = 0 by omega]; omega
  | k + 1, h, hk => by
    rcases Nat.lt_or_ge j (k + 1) with h' | h'
    · have := mono_lv g (j := j) (k := k) (by omega) (by omega)
      have := g.inc (k + 1) (by omega) hk
      simp at this; omega
    · rw [show j = k + 1 by omega]; omega
theorem apart_lv {c : Cfg} (g : Good c) {j k : Nat} (h : j < k) (hk : k < c.lv.length) : 2 * c.near + c.fh < at0 c.lv k - at0 c.lv j := by
  have h1 := mono_lv g (j := j) (k := k - 1) (by omega) (by omega)
  have h2 := g.apart k (by omega) hk
  omega
theorem lv_bd {c : Cfg} (g : Good c) {k : Nat} (hk : k < c.lv.length) : 0 ≤ at0 c.lv k ∧ at0 c.lv k ≤ 1000000 := by
  have h1 := mono_lv g (j := 0) (k := k) (by omega) hk
  rw [g.zero] at h1
  rcases Nat.eq_zero_or_pos k with rfl | h
  · rw [g.zero]; omega
  · exact ⟨h1, g.height k h hk⟩
/-- What the plain laws need of numbers. -/
structure Nums (c : Cfg) : Prop where
  lev : 1 ≤ c.level
  cr : c.level ≤ c.creep
  va : c.creep ≤ c.vane
  ha : c.vane + 1 ≤ c.half
  ne : c.half + 1 ≤ c.near
  ne2 : c.near ≤ 1000000
  fh : 1 ≤ c.fh
theorem nums_of {c : Cfg} (g : Good c) : Nums c := by
  have c1 := g.creep2; have c2 := g.creep1; have c3 := g.level1; have c4 := g.coast1; have c5 := g.sh; have c6 := g.sl; have c7 := g.near2; have c8 := g.near1; have c9 := g.half1; have c10 := g.vane1; have c11 := g.coast2; have c12 := g.vane3; have c13 := g.fh; have c14 := g.fl
  have l1 := g.leak1; have s1 := g.star1
  have t1 := (tickR_bd (b := c.ramp) 2000 c.sh 0).1
  have lk : 0 ≤ c.leak * (c.star + 4 + tickR c.ramp 2000 c.sh 0) := Int.mul_nonneg l1 (by omega)
  constructor <;> omega
end Go.Proofs.YtdnigflmcmammaaDoor
