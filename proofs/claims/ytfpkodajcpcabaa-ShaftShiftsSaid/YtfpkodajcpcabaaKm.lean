/- Contracts of functions of the seat's program, and what follows of them: Km. Conditions are in each statement. -/
import Derived.Test.YtfpkodajcpcabaaKg
set_option linter.unusedSimpArgs false
set_option linter.unusedVariables false
namespace Go.Proofs.Ytfpkodajcpcabaa
open Go Go.Proofs Go.Vm

theorem mono_lv {c : Cfg} (g : Good c) {j : Nat} : ∀ {k : Nat}, j ≤ k → k < c.lv.length → at0 c.lv j ≤ at0 c.lv k
  | 0, h, _ => by rw [show j = 0 by omega]; omega
  | k + 1, h, hk => by
    rcases Nat.lt_or_ge j (k + 1) with h' | h'
    · have := mono_lv g (j := j) (k := k) (by omega) (by omega)
      have := g.inc (k + 1) (by omega) hk
      simp at this; omega
    · rw [show j = k + 1 by omega]; omega
theorem apart_lv {c : Cfg} (g : Good c) {j k : Nat} (h : j < k) (hk : k < c.lv.length) : 2 * c.near + c.fh < at0 c.lv k - at0 c.lv j := by
  have h1 := mono_lv g (j := j) (k := k - 1) (by omega) (by omega)
  have h2 := g.apart k (by omega) hk
  omega
theorem lv_bd {c : Cfg} (g : Good c) {k : Nat} (hk : k < c.lv.length) : 0 ≤ at0 c.lv k ∧ at0 c.lv k ≤ 1000000 := by
  have h1 := mono_lv g (j := 0) (k := k) (by omega) hk
  rw [g.zero] at h1
  rcases Nat.eq_zero_or_pos k with rfl | h
  · rw [g.zero]; omega
  · exact ⟨h1, g.height k h hk⟩
/-- How far two numbers are apart. -/
def ab (a b : Int) : Int := max (a - b) (b - a)
theorem farR_ab {c : Cfg} (g : Good c) {x : Int} (h1 : -4294967296 ≤ x) (h2 : x ≤ 4294967296) {k : Nat} (hk : k < c.lv.length) : farR x (at0 c.lv k) = ab x (at0 c.lv k) := by
  have := lv_bd g hk
  unfold farR ab
  rw [w64_id (by omega) (by omega), w64_id (by omega) (by omega)]

theorem nearR_min {c : Cfg} (g : Good c) {x : Int} (h1 : -4294967296 ≤ x) (h2 : x ≤ 4294967296) : ∀ q, 0 < q → q ≤ c.lv.length → nearR c.lv x q < q ∧ (∀ k, k < q → ab x (at0 c.lv (nearR c.lv x q)) ≤ ab x (at0 c.lv k)) ∧ ∀ k, k < nearR c.lv x q → ab x (at0 c.lv (nearR c.lv x q)) < ab x (at0 c.lv k)
  | 0, h, _ => by omega
  | 1, _, hl => by
    have e : nearR c.lv x 1 = 0 := by have := nearR_succ c.lv x 0; simp [nearR] at this ⊢
    rw [e]
    exact ⟨by omega, fun k hk => by rw [show k = 0 by omega]; omega, fun k hk => by omega⟩
  | q + 2, _, hl => by
    obtain ⟨i1, i2, i3⟩ := nearR_min g h1 h2 (q + 1) (by omega) (by omega)
    have hs := nearR_succ c.lv x (q + 1)
    rw [farR_ab g h1 h2 (by omega), farR_ab g h1 h2 (by omega)] at hs
    by_cases h : ab x (at0 c.lv (q + 1)) < ab x (at0 c.lv (nearR c.lv x (q + 1)))
    · rw [if_pos h] at hs
      rw [hs]
      refine ⟨by omega, fun k hk => ?_, fun k hk => ?_⟩
      · rcases Nat.lt_or_ge k (q + 1) with hk' | hk'
        · have := i2 k hk'; omega
        · rw [show k = q + 1 by omega]; omega
      · have := i2 k hk; omega
    · rw [if_neg h] at hs
      rw [hs]
      refine ⟨by omega, fun k hk => ?_, i3⟩
      rcases Nat.lt_or_ge k (q + 1) with hk' | hk'
      · exact i2 k hk'
      · rw [show k = q + 1 by omega]; omega

theorem nearR_is {c : Cfg} (g : Good c) {x : Int} (h1 : -4294967296 ≤ x) (h2 : x ≤ 4294967296) {i : Nat} (hi : i < c.lv.length) (h : ab x (at0 c.lv i) ≤ c.near) : nearR c.lv x c.lv.length = i := by
  obtain ⟨k1, k2, _⟩ := nearR_min g h1 h2 c.lv.length (by omega) (Nat.le_refl _)
  have := k2 i hi
  have hf := g.fh; have hf2 := g.fl; have hf3 := g.sh; have hf4 := g.sl
  unfold ab at *
  rcases Nat.lt_trichotomy (nearR c.lv x c.lv.length) i with hlt | he | hgt
  · have := apart_lv g hlt hi; omega
  · exact he
  · have := apart_lv g hgt k1; omega

/-- What the plain laws need of numbers. -/
structure Nums (c : Cfg) : Prop where
  lev : 1 ≤ c.level
  cr : c.level ≤ c.creep
  va : c.creep ≤ c.vane
  ha : c.vane + 1 ≤ c.half
  ne : c.half + 1 ≤ c.near
  ne2 : c.near ≤ 1000000
  fh : 1 ≤ c.fh
theorem nums_of {c : Cfg} (g : Good c) : Nums c := by
  have c1 := g.creep2; have c2 := g.creep1; have c3 := g.level1; have c4 := g.coast1; have c5 := g.sh; have c6 := g.sl; have c7 := g.near2; have c8 := g.near1; have c9 := g.half1; have c10 := g.vane1; have c11 := g.coast2; have c12 := g.vane3; have c13 := g.fh; have c14 := g.fl
  have l1 := g.leak1; have s1 := g.star1
  have t1 := (tickR_bd (b := c.ramp) 2000 c.sh 0).1
  have lk : 0 ≤ c.leak * (c.star + 4 + tickR c.ramp 2000 c.sh 0) := Int.mul_nonneg l1 (by omega)
  constructor <;> omega
theorem nearR_mono {c : Cfg} (g : Good c) {x y : Int} (h1 : -4294967296 ≤ x) (h2 : y ≤ 4294967296) (hxy : x ≤ y) : nearR c.lv x c.lv.length ≤ nearR c.lv y c.lv.length := by
  have hp := g.h2
  obtain ⟨a1, a2, a3⟩ := nearR_min g (x := x) h1 (by omega) c.lv.length (by omega) (Nat.le_refl _)
  obtain ⟨b1, b2, b3⟩ := nearR_min g (x := y) (by omega) h2 c.lv.length (by omega) (Nat.le_refl _)
  rcases Nat.lt_or_ge (nearR c.lv y c.lv.length) (nearR c.lv x c.lv.length) with h | h
  · exfalso
    have e1 := a3 _ h
    have e2 := b2 _ a1
    have e3 := apart_lv g h a1
    have n := nums_of g
    have n1 := n.lev; have n2 := n.cr; have n3 := n.va; have n4 := n.ha; have n5 := n.ne; have n6 := n.fh
    unfold ab at *
    omega
  · exact h

/-- What vanes tell, without wraps. -/
structure Tl (c : Cfg) (x : Int) (n : Nat) (d : Int) (f : Fr) (z : Int × Bool) : Prop where
  hn : n = nearR c.lv x c.lv.length
  lt : n < c.lv.length
  hd : d = x - at0 c.lv n
  hz : f.z = decide (max d (-d) ≤ c.vane)
  fn : f.n = if max d (-d) ≤ c.vane then (n : Int) else 0
  deep : f.deep = (decide (max d (-d) ≤ c.vane) && decide (d < -c.creep))
  low : f.low = (decide (max d (-d) ≤ c.vane) && decide (d < 0))
  high : f.high = (decide (max d (-d) ≤ c.vane) && decide (c.level < d))
  near : f.near = decide (max d (-d) ≤ c.near)
  top : f.top = decide (at0 c.lv (c.lv.length - 1) - c.near ≤ x)
  bot : f.bot = decide (x ≤ c.near)
  zone : z = if c.half < max d (-d) then (0, false) else ((n : Int), true)
theorem at_of {c : Cfg} (g : Good c) {x : Int} (h1 : -4294967296 ≤ x) (h2 : x ≤ 4294967296) : ∃ n d, Tl c x n d (senseR c x) (zoneR c x) := by
  have hp := g.h2
  obtain ⟨a1, _, _⟩ := nearR_min g h1 h2 c.lv.length (by omega) (Nat.le_refl _)
  have hb := lv_bd g a1
  have hbl := lv_bd g (k := c.lv.length - 1) (by omega)
  have e1 : farR x (at0 c.lv (nearR c.lv x c.lv.length)) = max (x - at0 c.lv (nearR c.lv x c.lv.length)) (-(x - at0 c.lv (nearR c.lv x c.lv.length))) := by
    rw [farR_ab g h1 h2 a1]; unfold ab; congr 1; omega
  have e2 : w64 (x - at0 c.lv (nearR c.lv x c.lv.length)) = x - at0 c.lv (nearR c.lv x c.lv.length) := w64_id (by omega) (by omega)
  have c1 := g.creep2; have c2 := g.creep1; have c3 := g.level1; have c4 := g.coast1; have c5 := g.sh; have c6 := g.sl; have c7 := g.near2; have c8 := g.near1; have c9 := g.half1; have c10 := g.vane1; have c11 := g.coast2; have c12 := g.vane3; have c13 := g.fh; have c14 := g.fl
  have e3 : w64 (-c.creep) = -c.creep := w64_id (by omega) (by omega)
  have e4 : w64 (at0 c.lv (c.lv.length - 1) - c.near) = at0 c.lv (c.lv.length - 1) - c.near := w64_id (by omega) (by omega)
  have e5 : w64 (at0 c.lv 0 + c.near) = c.near := by rw [g.zero]; rw [w64_id (by omega) (by omega)]; omega
  refine ⟨nearR c.lv x c.lv.length, x - at0 c.lv (nearR c.lv x c.lv.length), rfl, a1, rfl, ?_, ?_, ?_, ?_, ?_, ?_, ?_, ?_, ?_⟩
  all_goals simp only [senseR, zoneR, e1, e2, e3, e4, e5, decide_eq_true_eq]

end Go.Proofs.Ytfpkodajcpcabaa
