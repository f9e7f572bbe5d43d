/- Contracts of functions of the seat's program, and what follows of them: Cb. Conditions are in each statement. -/
import Derived.Test.YtofdhldillmbdaaCa
set_option linter.unusedSimpArgs false
set_option linter.unusedVariables false
namespace Go.Proofs.Ytofdhldillmbdaa
open Go Go.Proofs Go.Vm

theorem ofNat_bits (c : BitVec 64) : BitVec.ofInt 64 (IntKind.wrap .i64 (c.toNat : Int)) = c := by
  apply BitVec.eq_of_toNat_eq
  have := c.isLt
  simp only [IntKind.wrap, IntKind.signed, IntKind.bits, BitVec.toNat_ofInt]
  simp
  omega
theorem bv_and (x y : Int) : BitVec.ofInt 64 (bits .and .i64 x y) = BitVec.ofInt 64 x &&& BitVec.ofInt 64 y := ofNat_bits _
theorem bv_andNot (x y : Int) : BitVec.ofInt 64 (bits .andNot .i64 x y) = BitVec.ofInt 64 x &&& ~~~ BitVec.ofInt 64 y := ofNat_bits _
theorem bv_or (x y : Int) : BitVec.ofInt 64 (bits .or .i64 x y) = BitVec.ofInt 64 x ||| BitVec.ofInt 64 y := ofNat_bits _
theorem bits_toInt (op : BinOp) (x y : Int) : bits op .i64 x y = (BitVec.ofInt 64 (bits op .i64 x y)).toInt := by
  have : ∀ z : Int, IntKind.wrap .i64 z = (BitVec.ofInt 64 (IntKind.wrap .i64 z)).toInt := by
    intro z
    rw [BitVec.toInt_ofInt]
    simp only [IntKind.wrap, IntKind.signed, IntKind.bits, Int.bmod]
    simp
    omega
  exact this _
theorem bv_shr {x : Int} (h1 : -9223372036854775808 ≤ x) (h2 : x ≤ 9223372036854775807) (n : Nat) : BitVec.ofInt 64 (x / 2 ^ n) = (BitVec.ofInt 64 x).sshiftRight n := by
  rw [BitVec.sshiftRight_eq, BitVec.toInt_ofInt, Int.shiftRight_eq_div_pow]
  have : x.bmod (2 ^ 64) = x := by simp only [Int.bmod]; omega
  rw [this]; simp
/-- A bit. -/
def bt (x : Int) (k : Nat) : Bool := (BitVec.ofInt 64 x).getLsbD k
theorem has_bit {x : Int} (h1 : -9223372036854775808 ≤ x) (h2 : x ≤ 9223372036854775807) {n : Nat} (hn : n < 16) : (bits .and .i64 (x / 2 ^ n) 1 == 1) = bt x n := by
  rw [bits_toInt, bv_and, bv_shr h1 h2]
  unfold bt
  have e : (BitVec.ofInt 64 x).getLsbD n = ((BitVec.ofInt 64 x).sshiftRight n).getLsbD 0 := by
    rw [BitVec.getLsbD_sshiftRight]; simp; intro h; omega
  rw [e]
  generalize (BitVec.ofInt 64 x).sshiftRight n = c
  have h1' : (BitVec.ofInt 64 1 : BitVec 64) = 1#64 := by decide
  rw [h1']
  cases hb : c.getLsbD 0
  · have : c &&& 1#64 = 0#64 := by
      apply BitVec.eq_of_getLsbD_eq; intro i hi
      rcases Nat.eq_zero_or_pos i with rfl | h
      · simp at hb ⊢; simp [hb]
      · simp [BitVec.getLsbD_one]; omega
    rw [this]; decide
  · have : c &&& 1#64 = 1#64 := by
      apply BitVec.eq_of_getLsbD_eq; intro i hi
      rcases Nat.eq_zero_or_pos i with rfl | h
      · simp at hb ⊢; simp [hb]
      · simp [BitVec.getLsbD_one]; omega
    rw [this]; decide
theorem bt_and (x y : Int) (k : Nat) : bt (bits .and .i64 x y) k = (bt x k && bt y k) := by unfold bt; rw [bv_and]; simp
theorem bt_or (x y : Int) (k : Nat) : bt (bits .or .i64 x y) k = (bt x k || bt y k) := by unfold bt; rw [bv_or]; simp
theorem bt_andNot (x y : Int) {k : Nat} (hk : k < 64) : bt (bits .andNot .i64 x y) k = (bt x k && !bt y k) := by unfold bt; rw [bv_andNot]; simp [hk]
theorem bt_pow : ∀ n : Fin 16, ∀ k : Fin 64, bt (2 ^ n.val) k.val = decide (n.val = k.val) := by decide +kernel
theorem bt_whole : ∀ k : Fin 64, bt 65535 k.val = decide (k.val < 16) := by decide +kernel
theorem bt_high (x : Int) {k : Nat} (hk : 64 ≤ k) : bt x k = false := by unfold bt; exact BitVec.getLsbD_of_ge _ _ hk
/-- Whole numbers of 64 bits are their bits. -/
theorem bt_ext {x y : Int} (h1 : -9223372036854775808 ≤ x) (h2 : x ≤ 9223372036854775807) (k1 : -9223372036854775808 ≤ y) (k2 : y ≤ 9223372036854775807) (h : ∀ k, k < 64 → bt x k = bt y k) : x = y := by
  have e : BitVec.ofInt 64 x = BitVec.ofInt 64 y := BitVec.eq_of_getLsbD_eq fun i hi => h i hi
  have e2 := congrArg BitVec.toInt e
  rw [BitVec.toInt_ofInt, BitVec.toInt_ofInt] at e2
  simp only [Int.bmod] at e2
  omega
theorem bits_bd (op : BinOp) (x y : Int) : -9223372036854775808 ≤ bits op .i64 x y ∧ bits op .i64 x y ≤ 9223372036854775807 := by
  have : ∀ z : Int, -9223372036854775808 ≤ IntKind.wrap .i64 z ∧ IntKind.wrap .i64 z ≤ 9223372036854775807 := by
    intro z
    simp only [IntKind.wrap, IntKind.signed, IntKind.bits]
    simp
    omega
  exact this _
theorem bt_zero (k : Nat) : bt 0 k = false := by unfold bt; simp

/-- Calls without a landing. -/
def without (x n : Int) : Int := bits .and .i64 (if isB n = true then bits .andNot .i64 x (2 ^ n.toNat) else x) 65535
theorem without_bt (x n : Int) {k : Nat} (hk : k < 64) : bt (without x n) k = (bt x k && decide ((k : Int) ≠ n) && decide (k < 16)) := by
  have w := bt_whole ⟨k, hk⟩
  simp only at w
  unfold without
  rw [bt_and, w]
  by_cases hb : isB n = true
  · have hn : 0 ≤ n ∧ n < 16 := by simpa [isB] using hb
    have p := bt_pow ⟨n.toNat, by omega⟩ ⟨k, hk⟩
    simp only at p
    rw [if_pos hb, bt_andNot _ _ hk, p]
    have e : (n.toNat = k) ↔ ¬ ((k : Int) ≠ n) := by omega
    simp [e]
  · have hn : ¬ (0 ≤ n ∧ n < 16) := by simpa [isB] using hb
    rw [if_neg hb]
    by_cases h16 : k < 16
    · have e : (k : Int) ≠ n := by omega
      simp [e]
    · simp [h16]

end Go.Proofs.Ytofdhldillmbdaa
