/- Contracts of functions of the seat's program, and what follows of them: Df. Conditions are in each statement. -/
import Derived.Test.YtofdhldillmbdaaDe
set_option linter.unusedSimpArgs false
set_option linter.unusedVariables false
namespace Go.Proofs.Ytofdhldillmbdaa
open Go Go.Proofs Go.Vm

instance (n : Int) : Decidable (nearI n) := by unfold nearI; infer_instance
theorem ct_Near01 (n : Int) : Ct Try.prog G0 31 [vi n] [] (vb (decide (nearI n))) [] := by
  refine callV_ic hm (fn := Try.f31) rfl ic31_eq ic31_nm ic31_ok (by simp) ?_
  simp -dsimp [ic31]
  by_cases h1 : -2147483648 ≤ n
  · by_cases h2 : n ≤ 2147483648
    · simp -dsimp [h1, h2]
      exact exitV.cut (by simp) (by simp) (by simp) (by simp) ⟨by simp [nearI, h1, h2], by simp⟩
    · simp -dsimp [h1, h2]
      exact exitV.cut (by simp) (by simp) (by simp) (by simp) ⟨by simp [nearI, h2], by simp⟩
  · simp -dsimp [h1]
    exact exitV.cut (by simp) (by simp) (by simp) (by simp) ⟨by simp [nearI, h1], by simp⟩
theorem ct_Near18 (n : Int) : Ct Try.prog G0 18 [vi n] [] (vb (decide (nearI n))) [] := by
  refine callV_ic hm (fn := Try.f18) rfl ic18_eq ic18_nm ic18_ok (by simp) ?_
  simp -dsimp [ic18]
  (with_reducible refine (CallD.pure (ct_Near01 n) (by simp) ?_).callV)
  simp -dsimp
  exact exitV.cut (by simp) (by simp) (by simp) (by simp) ⟨rfl, by simp⟩

/-- Alike up to there. -/
def eqTo (a b : List Int) (q : Nat) : Prop := ∀ j, j < q → at0 a j = at0 b j
theorem eq_of_to {a b : List Int} (hl : a.length = b.length) (h : eqTo a b a.length) : a = b := by
  refine List.ext_getElem hl fun j h1 h2 => ?_
  have := h j h1
  simpa [at0, List.getD, h1, h2] using this
theorem ct_Ints (a b : List Int) (ha : a.length < top) : Ct Try.prog G0 21 [.ro 1 (ints a), .ro 1 (ints b)] [] (vb (decide (a = b))) [] := by
  refine callV_ic hm (fn := Try.f21) rfl ic21_eq ic21_nm ic21_ok (by simp) ?_
  simp -dsimp [ic21]
  by_cases hl : a.length = b.length
  · have hl' : ((a.length : Int)) = (b.length : Int) := by omega
    simp -dsimp [bne_f hl']
    refine Ti.loopW hm (fun k s => ∃ q : Nat, q + k = a.length ∧ eqTo a b q ∧ s = { t := [(13, vi q), (12, vi a.length), (0, .ro 1 (ints a)), (1, .ro 1 (ints b))], d := [], h := [] }) (k := a.length) ?_ ?_
    · exact Wk.sub [(13, vi (0 : Nat)), (12, vi a.length), (0, .ro 1 (ints a)), (1, .ro 1 (ints b))] (by simp) (Wk.now ⟨0, by omega, fun j h => by omega, rfl⟩)
    rintro k s ⟨q, hq, he, rfl⟩
    simp -dsimp
    (with_reducible refine brV.intro (fun h => ?_) (fun h => ?_))
    · have hlt : q < a.length := by simp at h; omega
      have hlt2 : q < b.length := by omega
      have w1 := wq hlt ha
      have e1 := ints_at hlt
      have e2 := ints_at hlt2
      simp -dsimp [h, hlt, hlt2, e1, e2]
      (with_reducible refine ordI (by kernel_rfl) ?_)
      by_cases hc : at0 a q = at0 b q
      · simp -dsimp [bne_f hc, w1]
        refine ⟨k - 1, by omega, Wk.sub [(13, vi (q + 1 : Nat)), (12, vi a.length), (0, .ro 1 (ints a)), (1, .ro 1 (ints b))] (by simp) (Wk.now ⟨q + 1, by omega, fun j hj => ?_, rfl⟩)⟩
        rcases Nat.lt_or_ge j q with h4 | h4
        · exact he j h4
        · rw [show j = q by omega]; exact hc
      · simp -dsimp [bne_t hc]
        exact exitV.cut (by simp) (by simp) (by simp) (by simp) ⟨by
          have : a ≠ b := by rintro rfl; exact hc rfl
          simp [this], by simp⟩
    · have hge : q = a.length := by simp at h; omega
      subst hge
      simp -dsimp
      exact exitV.cut (by simp) (by simp) (by simp) (by simp) ⟨by simp [eq_of_to hl he], by simp⟩
  · have hl' : ¬ ((a.length : Int)) = (b.length : Int) := by omega
    simp -dsimp [bne_t hl']
    exact exitV.cut (by simp) (by simp) (by simp) (by simp) ⟨by
      have : a ≠ b := by rintro rfl; exact hl rfl
      simp [this], by simp⟩

theorem ct_rHas (l : List Int) (n : Int) (hll : l.length < top) : Ct Try.prog G0 35 [.ro 1 (ints l), vi n] [] (vb (decide (n ∈ l))) [] := by
  refine callV_ic hm (fn := Try.f35) rfl ic35_eq ic35_nm ic35_ok (by simp) ?_
  simp -dsimp [ic35]
  refine Ti.loopW hm (fun k s => ∃ q : Nat, q + k = l.length ∧ n ∉ l.take q ∧ s = { t := [(8, vi q), (7, vi l.length), (0, .ro 1 (ints l)), (1, vi n)], d := [], h := [] }) (k := l.length) ?_ ?_
  · exact Wk.sub [(8, vi (0 : Nat)), (7, vi l.length), (0, .ro 1 (ints l)), (1, vi n)] (by simp) (Wk.now ⟨0, by omega, by simp, rfl⟩)
  rintro k s ⟨q, hq, hn, rfl⟩
  simp -dsimp
  (with_reducible refine brV.intro (fun h => ?_) (fun h => ?_))
  · have hlt : q < l.length := by simp at h; omega
    have w1 := wq hlt hll
    have e1 := ints_at hlt
    simp -dsimp [h, hlt, e1]
    by_cases hc : at0 l q = n
    · simp -dsimp [beq_t hc]
      exact exitV.cut (by simp) (by simp) (by simp) (by simp) ⟨by
        have : n ∈ l := by rw [← hc]; exact at0_mem hlt
        simp [this], by simp⟩
    · simp -dsimp [beq_f hc, w1]
      refine ⟨k - 1, by omega, Wk.sub [(8, vi (q + 1 : Nat)), (7, vi l.length), (0, .ro 1 (ints l)), (1, vi n)] (by simp) (Wk.now ⟨q + 1, by omega, ?_, rfl⟩)⟩
      rw [take_succ_at hlt]
      simp [hn]; exact fun e => hc e.symm
  · have hge : q = l.length := by simp at h; omega
    subst hge
    simp -dsimp
    exact exitV.cut (by simp) (by simp) (by simp) (by simp) ⟨by simp at hn; simp [hn], by simp⟩

/-- Landings as bits. -/
def bitsR (l : List Int) : Int := (l.map fun n => (2 : Int) ^ n.toNat).sum
theorem bitsR_snoc (l : List Int) (n : Int) : bitsR (l ++ [n]) = bitsR l + 2 ^ n.toNat := by simp [bitsR]
theorem pow_le16 : ∀ n : Fin 16, (2 : Int) ^ n.val ≤ 32768 := by decide +kernel
theorem pow_pos' (n : Nat) : (0 : Int) < 2 ^ n := by apply Int.pow_pos; omega
theorem bitsR_bd : ∀ {l : List Int}, (∀ n ∈ l, 0 ≤ n ∧ n < 16) → 0 ≤ bitsR l ∧ bitsR l ≤ 32768 * (l.length : Int)
  | [], _ => by simp [bitsR]
  | n :: l, h => by
    have ih := bitsR_bd (l := l) fun n hn => h n (by simp [hn])
    have hn := h n (by simp)
    have p := pow_le16 ⟨n.toNat, by omega⟩
    have p2 := pow_pos' n.toNat
    simp only at p
    have e : bitsR (n :: l) = 2 ^ n.toNat + bitsR l := by simp [bitsR]
    rw [e]
    simp only [List.length_cons]
    omega
theorem ct_rBits (l : List Int) (hl : ∀ n ∈ l, 0 ≤ n ∧ n < 16) (hll : l.length ≤ 16) : Ct Try.prog G0 24 [.ro 1 (ints l)] [] (vi (bitsR l)) [] := by
  refine callV_ic hm (fn := Try.f24) rfl ic24_eq ic24_nm ic24_ok (by simp) ?_
  simp -dsimp [ic24]
  refine Ti.loopW hm (fun k s => ∃ q : Nat, q + k = l.length ∧ s = { t := [(7, vi q), (6, vi l.length), (3, vi (bitsR (l.take q))), (0, .ro 1 (ints l))], d := [], h := [] }) (k := l.length) ?_ ?_
  · exact Wk.sub [(7, vi (0 : Nat)), (6, vi l.length), (3, vi 0), (0, .ro 1 (ints l))] (by simp) (Wk.now ⟨0, by omega, rfl⟩)
  rintro k s ⟨q, hq, rfl⟩
  simp -dsimp
  (with_reducible refine brV.intro (fun h => ?_) (fun h => ?_))
  · have hlt : q < l.length := by simp at h; omega
    have w1 := wq hlt (by unfold top; omega)
    have e1 := ints_at hlt
    have hn := hl _ (at0_mem hlt)
    have hmin : min (at0 l q).toNat (IntKind.bits .i64) = (at0 l q).toNat := by simp only [IntKind.bits]; omega
    have p1 := pow16 ⟨(at0 l q).toNat, by omega⟩
    have p2 := pow_le16 ⟨(at0 l q).toNat, by omega⟩
    simp only at p1 p2
    have bd := bitsR_bd (l := l.take q) fun n hn => hl n (List.mem_of_mem_take hn)
    have bl : (l.take q).length ≤ 16 := by simp; omega
    have pp := pow_pos' (at0 l q).toNat
    have w2 : IntKind.wrap .i64 (bitsR (l.take q) + 2 ^ (at0 l q).toNat) = bitsR (l.take q) + 2 ^ (at0 l q).toNat := w64_of (by omega) (by omega)
    simp -dsimp [h, hlt, e1, hmin, p1, w2, w1]
    refine ⟨hn.1, k - 1, by omega, Wk.sub [(7, vi (q + 1 : Nat)), (6, vi l.length), (3, vi (bitsR (l.take q) + 2 ^ (at0 l q).toNat)), (0, .ro 1 (ints l))] (by simp) (Wk.now ⟨q + 1, by omega, ?_⟩)⟩
    rw [take_succ_at hlt, bitsR_snoc]
  · have hge : q = l.length := by simp at h; omega
    subst hge
    simp -dsimp
    exact exitV.cut (by simp) (by simp) (by simp) (by simp) ⟨by simp, by simp⟩
/-- The bits of the list of a number are its lower ones. -/
theorem bitsR_listR (x : Int) : ∀ q, q ≤ 16 → bitsR (listR x q) = x % 2 ^ q
  | 0, _ => by simp [listR, bitsR]
  | q + 1, h => by
    have ih := bitsR_listR x q (by omega)
    have ho := hasB_odd (x := x) (k := q) (by omega)
    have e : x % 2 ^ (q + 1) = x % 2 ^ q + 2 ^ q * ((x / 2 ^ q) % 2) := by
      rw [Int.pow_succ]
      have p := pow_pos' q
      have h1 := Int.emod_add_mul_ediv x (2 ^ q * 2)
      have h2 := Int.emod_add_mul_ediv x (2 ^ q)
      have h3 := Int.emod_add_mul_ediv (x / 2 ^ q) 2
      have h4 : x / (2 ^ q * 2) = x / 2 ^ q / 2 := by rw [Int.ediv_ediv_of_nonneg (by omega)]
      rw [h4] at h1
      have h5 : 2 ^ q * (x / 2 ^ q) = 2 ^ q * ((x / 2 ^ q) % 2) + 2 ^ q * 2 * (x / 2 ^ q / 2) := by
        conv => lhs; rw [← h3]
        rw [Int.mul_add, Int.mul_assoc]
      omega
    have h2 : (x / 2 ^ q).tmod 2 = 0 ↔ (x / 2 ^ q) % 2 = 0 := by rw [← Int.dvd_iff_tmod_eq_zero, Int.dvd_iff_emod_eq_zero]
    rw [listR_succ, e]
    cases hb : hasB x q
    · rw [hb] at ho
      have h3 : (x / 2 ^ q).tmod 2 = 0 := by simpa using ho.symm
      rw [h2.1 h3]; simp [ih]
    · rw [hb] at ho
      have h3 : (x / 2 ^ q).tmod 2 ≠ 0 := by simpa using ho.symm
      have h4 : (x / 2 ^ q) % 2 = 1 := by
        rcases Int.emod_two_eq (x / 2 ^ q) with h | h
        · exact absurd (h2.2 h) h3
        · exact h
      rw [h4]; simp [bitsR_snoc, ih]
theorem filter_listR {x : Int} (hx : i64 x) {n : Int} (hn : 0 ≤ n ∧ n < 16) : ∀ q, q ≤ 16 → (listR x q).filter (fun a => decide (a ≠ n)) = listR (without x n) q
  | 0, _ => rfl
  | q + 1, h => by
    obtain ⟨m, rfl⟩ : ∃ m : Nat, n = m := ⟨n.toNat, by omega⟩
    have ih := filter_listR hx hn q (by omega)
    have hw := without_has hx (a := m) (k := q) (by omega)
    rw [listR_succ, listR_succ, hw]
    cases hb : hasB x q
    · simpa using ih
    · by_cases e : q = m
      · subst e; simp [List.filter_append]; simpa using ih
      · have e2 : ((q : Int) ≠ (m : Int)) := by omega
        simp [List.filter_append, e, e2]; simpa using ih
theorem without_small (x n : Int) : 0 ≤ without x n ∧ without x n < 65536 := by
  have : ∀ c : BitVec 64, 0 ≤ ((c &&& 65535#64).toNat : Int) ∧ ((c &&& 65535#64).toNat : Int) < 65536 := by
    intro c
    rw [BitVec.toNat_and]
    have : c.toNat &&& (65535#64).toNat ≤ 65535 := Nat.and_le_right
    omega
  unfold without
  have h := this (BitVec.ofInt 64 (if isB n = true then bits .andNot .i64 x (2 ^ n.toNat) else x))
  rw [bits_toInt, bv_and]
  have h2 : (BitVec.ofInt 64 65535 : BitVec 64) = 65535#64 := by decide
  rw [h2, BitVec.toInt_eq_toNat_of_lt (by omega)]
  exact h
theorem rWithout_eq {x : Int} (hx : i64 x) {n : Int} (hn : 0 ≤ n ∧ n < 16) : bitsR ((listR x 16).filter (fun a => decide (a ≠ n))) = without x n := by
  rw [filter_listR hx hn 16 (by omega), bitsR_listR _ 16 (by omega)]
  have := without_small x n
  omega
end Go.Proofs.Ytofdhldillmbdaa
