/- Contracts of functions of the seat's program, and what follows of them: Ra. Conditions are in each statement. -/
import Derived.Test.YtfhpojedoijghaaDoorKa
set_option linter.unusedSimpArgs false
set_option linter.unusedVariables false
namespace Go.Proofs.YtfhpojedoijghaaDoor
open Go Go.Proofs Go.Vm

/-- One bit's step of the check. -/
def tS (r : BitVec 16) : BitVec 16 := if r.msb = true then (r <<< 1) ^^^ 0x1021#16 else r <<< 1
theorem x3 (a b c : BitVec 16) : a ^^^ b ^^^ (a ^^^ c) = b ^^^ c := by
  rw [BitVec.xor_comm a b, BitVec.xor_assoc, ← BitVec.xor_assoc a a c, BitVec.xor_self, BitVec.zero_xor]
theorem x4 (a b c d : BitVec 16) : a ^^^ b ^^^ (c ^^^ d) = a ^^^ c ^^^ (b ^^^ d) := by
  rw [BitVec.xor_assoc, BitVec.xor_assoc, ← BitVec.xor_assoc b c d, BitVec.xor_comm b c, BitVec.xor_assoc c b d]
theorem tS_xor (a b : BitVec 16) : tS (a ^^^ b) = tS a ^^^ tS b := by
  unfold tS
  rw [BitVec.msb_xor, BitVec.shiftLeft_xor_distrib]
  cases a.msb <;> cases b.msb <;> simp [x4] <;> first | (simp [BitVec.xor_assoc, BitVec.xor_comm]; done) | (rw [BitVec.xor_assoc, BitVec.xor_assoc, BitVec.xor_comm (b <<< 1)]) | (rw [BitVec.xor_assoc, BitVec.xor_comm (b <<< 1)])
theorem tS_zero {r : BitVec 16} (h : tS r = 0#16) : r = 0#16 := by
  have h0 : (tS r).getLsbD 0 = false := by rw [h]; simp
  unfold tS at h h0
  split at h
  · rename_i hm
    rw [if_pos hm] at h0
    simp at h0
  · rename_i hm
    have hm : r.msb = false := by simpa using hm
    apply BitVec.eq_of_getLsbD_eq
    intro i hi
    rcases Nat.lt_or_ge i 15 with h' | h'
    · have := congrArg (fun v : BitVec 16 => v.getLsbD (i + 1)) h
      simp at this
      simpa using this (by omega)
    · have : i = 15 := by omega
      subst this
      simpa [BitVec.msb_eq_getLsbD_last] using hm
def tN : Nat → BitVec 16 → BitVec 16
  | 0, r => r
  | n + 1, r => tN n (tS r)
theorem tN_xor : ∀ (n : Nat) (a b : BitVec 16), tN n (a ^^^ b) = tN n a ^^^ tN n b
  | 0, _, _ => rfl
  | n + 1, a, b => by simp only [tN]; rw [tS_xor, tN_xor n]
theorem tN_zero : ∀ {n : Nat} {r : BitVec 16}, tN n r = 0#16 → r = 0#16
  | 0, _, h => h
  | n + 1, _, h => tS_zero (tN_zero (n := n) h)
theorem tN_0 : ∀ n : Nat, tN n 0#16 = 0#16
  | 0 => rfl
  | n + 1 => by simp only [tN]; rw [show tS 0#16 = 0#16 by decide, tN_0 n]
theorem tN_add : ∀ (a b : Nat) (r : BitVec 16), tN (a + b) r = tN b (tN a r)
  | 0, b, r => by rw [Nat.zero_add]; rfl
  | a + 1, b, r => by rw [show a + 1 + b = (a + b) + 1 by omega]; simp only [tN]; exact tN_add a b (tS r)
theorem tN_succ (n : Nat) (r : BitVec 16) : tN (n + 1) r = tS (tN n r) := by rw [tN_add]; rfl
/-- A byte's step. -/
def stB (r : BitVec 16) (x : BitVec 8) : BitVec 16 := tN 8 (r ^^^ (x.setWidth 16 <<< 8))
def crcF (r : BitVec 16) (b : List (BitVec 8)) : BitVec 16 := b.foldl stB r
/-- The check of bytes. -/
def crc (b : List (BitVec 8)) : BitVec 16 := crcF 0xffff#16 b
theorem stB_xor (r s : BitVec 16) (x y : BitVec 8) : stB (r ^^^ s) (x ^^^ y) = stB r x ^^^ stB s y := by
  unfold stB
  rw [← tN_xor, BitVec.setWidth_xor, BitVec.shiftLeft_xor_distrib, x4]
theorem stB_left (r s : BitVec 16) (x : BitVec 8) : stB (r ^^^ s) x = stB r x ^^^ tN 8 s := by
  have := stB_xor r s x 0#8
  rw [BitVec.xor_zero] at this
  rw [this]; simp [stB]
theorem stB_right (r : BitVec 16) (x y : BitVec 8) : stB r (x ^^^ y) = stB r x ^^^ stB 0#16 y := by
  have := stB_xor r 0#16 x y
  rwa [BitVec.xor_zero] at this
theorem crcF_app (r : BitVec 16) (a b : List (BitVec 8)) : crcF r (a ++ b) = crcF (crcF r a) b := by simp [crcF]
theorem crcF_left : ∀ (b : List (BitVec 8)) (r s : BitVec 16), crcF (r ^^^ s) b = crcF r b ^^^ tN (8 * b.length) s
  | [], _, _ => rfl
  | x :: b, r, s => by
    simp only [crcF, List.foldl_cons, List.length_cons]
    rw [stB_left]
    have := crcF_left b (stB r x) (tN 8 s)
    simp only [crcF] at this
    rw [this, ← tN_add, show 8 + 8 * b.length = 8 * (b.length + 1) by omega]
theorem crcF_xor3 : ∀ (a b c : List (BitVec 8)) (r s t : BitVec 16), a.length ≤ b.length → a.length ≤ c.length →
    crcF (r ^^^ s ^^^ t) (List.zipWith (fun x y => x ^^^ y) (List.zipWith (fun x y => x ^^^ y) a b) c) = crcF r a ^^^ crcF s (b.take a.length) ^^^ crcF t (c.take a.length)
  | [], _, _, _, _, _, _, _ => rfl
  | x :: a, [], _, _, _, _, h, _ => by simp at h
  | x :: a, y :: b, [], _, _, _, _, h => by simp at h
  | x :: a, y :: b, z :: c, r, s, t, h1, h2 => by
    simp only [List.zipWith_cons_cons, crcF, List.foldl_cons, List.length_cons, List.take_succ_cons]
    rw [stB_xor, stB_xor]
    exact crcF_xor3 a b c _ _ _ (by simpa using h1) (by simpa using h2)
theorem low_shift : ∀ x : BitVec 8, tN 8 (x.setWidth 16) = x.setWidth 16 <<< 8 := by decide +kernel
def hi8 (c : BitVec 16) : BitVec 8 := (c >>> 8).setWidth 8
def lo8 (c : BitVec 16) : BitVec 8 := c.setWidth 8
theorem hi_lo (c : BitVec 16) : (hi8 c).setWidth 16 <<< 8 ^^^ (lo8 c).setWidth 16 = c := by
  apply BitVec.eq_of_getLsbD_eq
  intro i hi
  simp only [hi8, lo8, BitVec.getLsbD_xor, BitVec.getLsbD_shiftLeft, BitVec.getLsbD_setWidth, BitVec.getLsbD_ushiftRight]
  rcases Nat.lt_or_ge i 8 with h | h
  · simp [h, hi]
  · have e : 8 + (i - 8) = i := by omega
    have e2 : i - 8 < 8 := by omega
    have e3 : i - 8 < 16 := by omega
    have e4 : ¬ i < 8 := by omega
    simp [h, hi, e, e2, e3, e4]
theorem crcF_two (r c : BitVec 16) : crcF r [hi8 c, lo8 c] = tN 16 (r ^^^ c) := by
  simp only [crcF, List.foldl_cons, List.foldl_nil]
  rw [show tN 16 (r ^^^ c) = tN 8 (tN 8 (r ^^^ c)) from tN_add 8 8 _]
  unfold stB
  rw [← low_shift (lo8 c), ← tN_xor, BitVec.xor_assoc, hi_lo]
/-- Bytes with their check behind them leave nothing; with another one they leave something. -/
theorem crc_side (b : List (BitVec 8)) (c : BitVec 16) : crc (b ++ [hi8 c, lo8 c]) = 0#16 ↔ crc b = c := by
  unfold crc
  rw [crcF_app, crcF_two]
  constructor
  · intro h
    have h := tN_zero h
    have e : crcF 0xffff#16 b = (crcF 0xffff#16 b ^^^ c) ^^^ c := by rw [BitVec.xor_assoc, BitVec.xor_self, BitVec.xor_zero]
    rw [e, h, BitVec.zero_xor]
  · intro h
    rw [h, BitVec.xor_self, tN_0]

/-! ### What differs within 16 bits in a row -/
def bitAt (q : Nat) : BitVec 8 := 128#8 >>> q
def flip (c : List (BitVec 8)) (p : Nat) : List (BitVec 8) := c.set (p / 8) (c.getD (p / 8) 0#8 ^^^ bitAt (p % 8))
theorem flip_length (c : List (BitVec 8)) (p : Nat) : (flip c p).length = c.length := by simp [flip]
theorem bit_step : ∀ q : Fin 8, stB 0#16 (bitAt q.1) = tN (8 - q.1) 0x8000#16 := by decide +kernel
theorem crcF_set : ∀ (c : List (BitVec 8)) (r : BitVec 16) (j : Nat) (d : BitVec 8), j < c.length →
    crcF r (c.set j (c.getD j 0#8 ^^^ d)) = crcF r c ^^^ tN (8 * (c.length - j - 1)) (stB 0#16 d)
  | [], _, _, _, h => by simp at h
  | x :: c, r, 0, d, _ => by
    simp only [List.set_cons_zero, List.getD_cons_zero, crcF, List.foldl_cons, List.length_cons]
    rw [stB_right]
    have := crcF_left c (stB r x) (stB 0#16 d)
    simp only [crcF] at this
    rw [this]; congr 2
  | x :: c, r, j + 1, d, h => by
    simp only [List.set_cons_succ, List.getD_cons_succ, crcF, List.foldl_cons, List.length_cons]
    have := crcF_set c (stB r x) j d (by simpa using h)
    simp only [crcF] at this
    rw [this]; congr 2; omega
theorem crc_flip (c : List (BitVec 8)) (p : Nat) (h : p < 8 * c.length) : crc (flip c p) = crc c ^^^ tN (8 * c.length - p) 0x8000#16 := by
  unfold crc flip
  rw [crcF_set _ _ _ _ (by omega)]
  have := bit_step ⟨p % 8, by omega⟩
  simp only at this
  rw [this, ← tN_add]; congr 2; omega
/-- The bits that are others, as the check sees them. -/
def accB (by' : Nat → Bool) : Nat → BitVec 16
  | 0 => 0#16
  | i + 1 => if by' i = true then accB by' i ^^^ (0x8000#16 >>> i) else accB by' i
theorem top_shift : ∀ i : Fin 16, tN i.1 (0x8000#16 >>> i.1) = 0x8000#16 := by decide +kernel
theorem tN_top {M i : Nat} (h : i < 16) (hi : i ≤ M) : tN (M - i) 0x8000#16 = tN M (0x8000#16 >>> i) := by
  have := top_shift ⟨i, h⟩
  simp only at this
  rw [← this, ← tN_add, show i + (M - i) = M by omega, this]
theorem top_bit : ∀ i : Fin 16, ∀ j : Fin 16, (0x8000#16 >>> i.1).getLsbD j.1 = decide (j.1 = 15 - i.1) := by decide +kernel
theorem acc_bit (by' : Nat → Bool) : ∀ (n : Nat), n ≤ 16 → ∀ j, j < 16 → (accB by' n).getLsbD j = (decide (15 - j < n) && by' (15 - j))
  | 0, _, j, _ => by simp [accB]
  | n + 1, hn, j, hj => by
    have ih := acc_bit by' n (by omega) j hj
    have tb := top_bit ⟨n, by omega⟩ ⟨j, hj⟩
    simp only at tb
    unfold accB
    split
    · rename_i hb
      rw [BitVec.getLsbD_xor, ih, tb]
      by_cases e : 15 - j = n
      · have e2 : j = 15 - n := by omega
        subst e2
        have : 15 - (15 - n) = n := by omega
        simp [this, hb]
      · have e2 : ¬ j = 15 - n := by omega
        have e3 : (15 - j < n + 1) = (15 - j < n) := propext ⟨fun h => by omega, fun h => by omega⟩
        simp [e2, e3]
    · rename_i hb
      rw [ih]
      by_cases e : 15 - j = n
      · simp [e, hb]
      · have e3 : (15 - j < n + 1) = (15 - j < n) := propext ⟨fun h => by omega, fun h => by omega⟩
        simp [e3]
def anyB (by' : Nat → Bool) : Nat → Bool
  | 0 => false
  | i + 1 => anyB by' i || by' i
theorem any_at {by' : Nat → Bool} : ∀ {n : Nat}, anyB by' n = true → ∃ i, i < n ∧ by' i = true
  | 0, h => by simp [anyB] at h
  | n + 1, h => by
    simp only [anyB, Bool.or_eq_true] at h
    rcases h with h | h
    · obtain ⟨i, h1, h2⟩ := any_at h; exact ⟨i, by omega, h2⟩
    · exact ⟨n, by omega, h⟩
theorem acc_ne {by' : Nat → Bool} {n : Nat} (hn : n ≤ 16) (h : anyB by' n = true) : accB by' n ≠ 0#16 := by
  obtain ⟨i, h1, h2⟩ := any_at h
  intro e
  have := acc_bit by' n hn (15 - i) (by omega)
  rw [e, show 15 - (15 - i) = i by omega] at this
  simp [h1, h2] at this
def flips (by' : Nat → Bool) (k : Nat) (b : List (BitVec 8)) : Nat → List (BitVec 8)
  | 0 => b
  | i + 1 => if by' i = true then flip (flips by' k b i) (k + i) else flips by' k b i
theorem flips_length (by' : Nat → Bool) (k : Nat) (b : List (BitVec 8)) : ∀ n, (flips by' k b n).length = b.length
  | 0 => rfl
  | n + 1 => by
    unfold flips
    split
    · rw [flip_length, flips_length by' k b n]
    · exact flips_length by' k b n
theorem flips_crc {by' : Nat → Bool} {k : Nat} {b : List (BitVec 8)} : ∀ {n : Nat}, n ≤ 16 → k + n ≤ 8 * b.length → crc (flips by' k b n) = crc b ^^^ tN (8 * b.length - k) (accB by' n)
  | 0, _, _ => by simp [flips, accB, tN_0]
  | n + 1, hn, hk => by
    have ih := flips_crc (by' := by') (k := k) (b := b) (n := n) (by omega) (by omega)
    unfold flips accB
    split
    · rw [crc_flip _ _ (by rw [flips_length]; omega), ih, flips_length, tN_xor, ← BitVec.xor_assoc, show 8 * b.length - (k + n) = (8 * b.length - k) - n by omega, tN_top (by omega) (by omega)]
    · exact ih
theorem flips_same {by' : Nat → Bool} {k : Nat} {b : List (BitVec 8)} : ∀ {n : Nat}, anyB by' n = false → flips by' k b n = b
  | 0, _ => rfl
  | n + 1, h => by
    simp only [anyB, Bool.or_eq_false_iff] at h
    unfold flips
    rw [if_neg (by simp [h.2])]
    exact flips_same h.1
/-- What differs within 16 bits in a row is told. -/
theorem flips_told {by' : Nat → Bool} {k n : Nat} {b : List (BitVec 8)} (hn : n ≤ 16) (hk : k + n ≤ 8 * b.length) (h0 : crc b = 0#16) (h : anyB by' n = true) : crc (flips by' k b n) ≠ 0#16 := by
  rw [flips_crc hn hk, h0, BitVec.zero_xor]
  exact fun e => acc_ne hn h (tN_zero e)
end Go.Proofs.YtfhpojedoijghaaDoor
