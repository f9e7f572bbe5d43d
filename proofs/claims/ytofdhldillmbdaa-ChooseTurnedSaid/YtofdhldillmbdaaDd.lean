/- Contracts of functions of the seat's program, and what follows of them: Dd. Conditions are in each statement. -/
import Derived.Test.YtofdhldillmbdaaDc
set_option linter.unusedSimpArgs false
set_option linter.unusedVariables false
namespace Go.Proofs.Ytofdhldillmbdaa
open Go Go.Proofs Go.Vm

theorem hasB_range {x n : Int} (h : hasB x n = true) : 0 ≤ n ∧ n < 16 := by
  unfold hasB isB at h; simp at h; exact h.1
theorem mem_listR16 {x n : Int} : n ∈ listR x 16 ↔ hasB x n = true := by
  rw [mem_listR]
  constructor
  · rintro ⟨k, _, h, rfl⟩; exact h
  · intro h; have := hasB_range h
    exact ⟨n.toNat, by omega, by rw [Int.toNat_of_nonneg this.1]; exact h, by omega⟩
theorem onR_mem {x a way n : Int} (h : n ∈ onR x a way) : hasB x n = true ∧ onP a way n = true := by
  by_cases h0 : onL x a way = []
  · unfold onR at h; rw [h0] at h; simp at h
  · rw [onR_ne h0] at h
    simp at h
    have := List.mem_filter.1 (nearR_mem a h0)
    have e : n = nearR a (List.filter (onP a way) (listR x 16)) := h
    rw [← e] at this
    exact ⟨mem_listR16.1 this.1, this.2⟩
theorem pickR_ok {a : Int} {l : List Int} {to th : Int} (h : pickR a l = (to, th, true)) : to ∈ l ∧ to = nearR a l ∧ ((a < to ∧ th = 1) ∨ (¬ a < to ∧ th = -1)) := by
  unfold pickR at h
  by_cases hl : l = []
  · simp [hl] at h
  · rw [if_neg hl] at h
    have hin := nearR_mem a hl
    by_cases hc : a < nearR a l
    · rw [if_pos hc] at h; cases h; exact ⟨hin, rfl, .inl ⟨hc, rfl⟩⟩
    · rw [if_neg hc] at h; cases h; exact ⟨hin, rfl, .inr ⟨hc, rfl⟩⟩
theorem pickR_no {a : Int} {l : List Int} {to th : Int} (h : pickR a l = (to, th, false)) : l = [] ∧ to = 0 ∧ th = 0 := by
  unfold pickR at h
  by_cases hl : l = []
  · rw [if_pos hl] at h; cases h; exact ⟨hl, rfl, rfl⟩
  · rw [if_neg hl] at h
    by_cases hc : a < nearR a l
    · rw [if_pos hc] at h; cases h
    · rw [if_neg hc] at h; cases h
theorem nextR_ok {x a way to th : Int} (h : nextR x a way = (to, th, true)) : hasB x to = true := by
  unfold nextR at h
  by_cases hh : hasB x a = true
  · rw [if_pos hh] at h; cases h; exact hh
  · rw [if_neg hh] at h
    have hin := (pickR_ok h).1
    split at hin
    · rcases List.mem_append.1 hin with hin | hin
      · exact (onR_mem hin).1
      · exact (onR_mem hin).1
    · exact (onR_mem hin).1
theorem nextR_no {x a way to th : Int} (h : nextR x a way = (to, th, false)) : to = 0 ∧ th = 0 := by
  unfold nextR at h
  by_cases hh : hasB x a = true
  · rw [if_pos hh] at h; cases h
  · rw [if_neg hh] at h; exact (pickR_no h).2

/-- The landings that are served, one behind the other. -/
def tourR : Nat → Int → Int → Int → List Int
  | 0, _, _, _ => []
  | n + 1, x, a, way => if (nextR x a way).2.2 = true then (nextR x a way).1 :: tourR n (without x (nextR x a way).1) (nextR x a way).1 (nextR x a way).2.1 else []
abbrev cnt (x : Int) : Nat := (listR x 16).length
theorem cnt_without {x : Int} (h : i64 x) {n : Int} (hb : hasB x n = true) : cnt (without x n) + 1 = cnt x := by
  have r := hasB_range hb
  obtain ⟨a, rfl⟩ : ∃ a : Nat, n = a := ⟨n.toNat, by omega⟩
  have := listR_less h (a := a) 16 (by omega)
  rw [if_pos ⟨by omega, hb⟩] at this
  exact this
set_option maxHeartbeats 2000000 in
theorem ct_Tour (x a way : Int) (hx : i64 x) (ha : nearI a) : Ct Try.prog G0 22 [vi x, vi a, vi way] [] (.ro 1 (ints (tourR 17 x a way))) [] := by
  obtain ⟨W, hW⟩ : ∃ W, tourR 17 x a way = W := ⟨_, rfl⟩
  rw [hW]
  refine callV_ic hm (fn := Try.f22) rfl ic22_eq ic22_nm ic22_ok (by simp) ?_
  simp -dsimp [ic22]
  refine Ti.loopW hm (fun k s => ∃ (x' a' way' : Int) (out : List Int), i64 x' ∧ nearI a' ∧ cnt x' < k ∧ out.length + k = 17 ∧ out ++ tourR k x' a' way' = W ∧
    s = { t := [(7, .sl 1 0 0 out.length), (0, vi x'), (1, vi a'), (2, vi way')], d := [], h := [.cells 3 (ints out)] }) (k := 17) ?_ ?_
  · refine Wk.sub [(7, .c (.slice none 0 0)), (0, vi x), (1, vi a), (2, vi way)] (by simp) (Wk.nil 7 1 3 (by simp) (Wk.sub [(7, .sl 1 0 0 0), (0, vi x), (1, vi a), (2, vi way)] (by simp) (Wk.now ⟨x, a, way, [], hx, ha, ?_, rfl, hW, rfl⟩)))
    have := listR_le x 16; unfold cnt; omega
  clear hW
  rintro k s ⟨x', a', way', out, hx', ha', hc, hk, ht, rfl⟩
  obtain ⟨k, rfl⟩ : ∃ q, k = q + 1 := ⟨k - 1, by omega⟩
  have sN := ct_Next x' a' way' ha'
  obtain ⟨⟨to, th, ok⟩, hn⟩ : ∃ p, nextR x' a' way' = p := ⟨_, rfl⟩
  simp only [tourR] at ht
  rw [hn] at sN ht
  simp -dsimp
  refine (CallD.pure sN (by simp) ?_).callV
  cases ok
  · simp -dsimp
    refine exitV.freeze 0 3 (ints out) false (by simp) (fun _ => ⟨fun _ => rfl, by simp⟩) ?_
    have hz : rows false 1 out.length (ints out) = ints out := rows_ints' _
    simp only [V.frz, if_true, List.drop_zero, hz]
    exact exitV.cut (by simp) (by simp) (by simp) (by simp) ⟨by simp at ht; rw [ht], by simp⟩
  · have hb := nextR_ok hn
    have hr := hasB_range hb
    have sW := ct_Without x' to
    have y1 : (out.length + 1) * 8 ≤ 140737488355328 := by omega
    have y2 : out.length + 1 ≤ 9223372036854775807 := by omega
    have hby : Try.prog.bytesOf 3 = 8 := by kernel_rfl
    simp -dsimp [y1, y2, hby]
    refine ⟨by decide, ?_⟩
    (with_reducible refine (CallD.pure (sW) (by simp) ?_).callV)
    simp -dsimp
    refine ⟨k, by omega, Wk.one (.cells 3 (ints (out ++ [to]))) 2 [(7, .sl 1 0 0 (out.length + 1)), (0, vi (without x' to)), (1, vi to), (2, vi th)] rfl ?_ rfl (by simp) ?_ (by simp)
      (Wk.now ⟨without x' to, to, th, out ++ [to], without_i64 _ _, ?_, ?_, ?_, ?_, ?_⟩)⟩
    · simp [ints_snoc]
    · simp
    · unfold nearI; omega
    · have := cnt_without hx' hb; omega
    · simp; omega
    · simpa using ht
    · simp

/-! ### The document's answer -/
theorem bt_zero' (y : Int) : bt y 0 = decide (y % 2 = 1) := by
  unfold bt
  rw [BitVec.getLsbD, BitVec.toNat_ofInt, Nat.testBit_zero]
  congr 1
  apply propext
  omega
theorem hasB_odd {x : Int} {k : Nat} (hk : k < 16) : hasB x k = ((x / 2 ^ k).tmod 2 != 0) := by
  have e : isB k = true := by simp only [isB, Bool.and_eq_true, decide_eq_true_eq]; omega
  simp only [hasB, e, Bool.true_and, Int.toNat_natCast]
  generalize x / 2 ^ k = y
  have : (bits .and .i64 y 1 == 1) = bt y 0 := by
    rw [bits_toInt, bv_and]
    unfold bt
    have h1' : (BitVec.ofInt 64 1 : BitVec 64) = 1#64 := by decide
    rw [h1']
    generalize BitVec.ofInt 64 y = c
    cases hb : c.getLsbD 0
    · have : c &&& 1#64 = 0#64 := by
        apply BitVec.eq_of_getLsbD_eq; intro i hi
        rcases Nat.eq_zero_or_pos i with rfl | h
        · simp at hb ⊢; simp [hb]
        · simp [BitVec.getLsbD_one]; omega
      rw [this]; decide
    · have : c &&& 1#64 = 1#64 := by
        apply BitVec.eq_of_getLsbD_eq; intro i hi
        rcases Nat.eq_zero_or_pos i with rfl | h
        · simp at hb ⊢; simp [hb]
        · simp [BitVec.getLsbD_one]; omega
      rw [this]; decide
  rw [this, bt_zero']
  have h2 : y.tmod 2 = 0 ↔ y % 2 = 0 := by
    rw [← Int.dvd_iff_tmod_eq_zero, Int.dvd_iff_emod_eq_zero]
  rcases Int.emod_two_eq y with h | h
  · have := h2.2 h; simp [h, this]
  · have : y.tmod 2 ≠ 0 := fun e => by have := h2.1 e; omega
    simp [h, this]
set_option maxHeartbeats 2000000 in
theorem ct_rList (x : Int) : Ct Try.prog G0 25 [vi x] [] (.ro 1 (ints (listR x 16))) [] := by
  refine callV_ic hm (fn := Try.f25) rfl ic25_eq ic25_nm ic25_ok (by simp) ?_
  simp -dsimp [ic25]
  refine Ti.loopW hm (fun k s => ∃ q : Nat, q + k = 16 ∧ s = { t := [(4, vi q), (3, .sl 1 0 0 (listR x q).length), (0, vi x)], d := [], h := [.cells 3 (ints (listR x q))] }) (k := 16) ?_ ?_
  · exact Wk.sub [(4, vi (0 : Nat)), (3, .c (.slice none 0 0)), (0, vi x)] (by simp) (Wk.nil 3 1 3 (by simp) (Wk.sub [(4, vi (0 : Nat)), (3, .sl 1 0 0 0), (0, vi x)] (by simp) (Wk.now ⟨0, by omega, rfl⟩)))
  rintro k s ⟨q, hq, rfl⟩
  simp -dsimp
  (with_reducible refine brV.intro (fun h => ?_) (fun h => ?_))
  · have hlt : q < 16 := by simp at h; omega
    have w1 := wq hlt (by unfold top; omega)
    have hmin : min q (IntKind.bits .i64) = q := by simp only [IntKind.bits]; omega
    have hle := listR_le x q
    have y1 : ((listR x q).length + 1) * 8 ≤ 140737488355328 := by omega
    have y2 : (listR x q).length + 1 ≤ 9223372036854775807 := by omega
    have hby : Try.prog.bytesOf 3 = 8 := by kernel_rfl
    have ho := hasB_odd (x := x) hlt
    have hs := listR_succ x q
    have w2 : IntKind.wrap .i64 ((x / 2 ^ q).tmod 2) = (x / 2 ^ q).tmod 2 := by
      have h1 := Int.tmod_lt_of_pos (x / 2 ^ q) (b := 2) (by omega)
      have h2 := Int.lt_tmod_of_pos (x / 2 ^ q) (b := 2) (by omega)
      exact w64_of (by omega) (by omega)
    simp -dsimp [h, hmin, w2]
    rw [← ho]
    cases hh : hasB x q
    · rw [hh] at hs
      simp -dsimp [w1]
      refine ⟨k - 1, by omega, Wk.sub [(4, vi (q + 1 : Nat)), (3, .sl 1 0 0 (listR x q).length), (0, vi x)] (by simp) (Wk.now ⟨q + 1, by omega, by rw [hs]; simp⟩)⟩
    · rw [hh] at hs
      simp -dsimp [w1, y1, y2, hby]
      refine ⟨by decide, k - 1, by omega, Wk.one (.cells 3 (ints (listR x q ++ [(q : Int)]))) 2 [(4, vi (q + 1 : Nat)), (3, .sl 1 0 0 ((listR x q).length + 1)), (0, vi x)] rfl ?_ rfl (by simp) ?_ (by simp)
        (Wk.now ⟨q + 1, by omega, by rw [hs]; simp⟩)⟩
      · simp [ints_snoc]
      · simp
  · have hge : q = 16 := by simp at h; omega
    subst hge
    simp -dsimp
    refine exitV.freeze 0 3 (ints (listR x 16)) false (by simp) (fun _ => ⟨fun _ => rfl, by simp⟩) ?_
    have hz : rows false 1 (listR x 16).length (ints (listR x 16)) = ints (listR x 16) := rows_ints' _
    simp only [V.frz, if_true, List.drop_zero, hz]
    exact exitV.cut (by simp) (by simp) (by simp) (by simp) ⟨rfl, by simp⟩
end Go.Proofs.Ytofdhldillmbdaa
