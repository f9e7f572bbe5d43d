/- Contracts of functions of the seat's program, and what follows of them: Cm. Conditions are in each statement. -/
import Derived.Test.YtofdhldillmbdaaCi
set_option linter.unusedSimpArgs false
set_option linter.unusedVariables false
namespace Go.Proofs.Ytofdhldillmbdaa
open Go Go.Proofs Go.Vm

def anyP (p : Int → Bool) (l : List Int) (q : Nat) : Bool := (l.take q).any p
theorem anyP_zero (p : Int → Bool) (l : List Int) : anyP p l 0 = false := rfl
theorem anyP_succ (p : Int → Bool) {l : List Int} {q : Nat} (h : q < l.length) : anyP p l (q + 1) = (anyP p l q || p (at0 l q)) := by
  simp only [anyP, List.take_add_one, List.any_append]
  simp [at0, List.getD, h]
theorem anyP_all (p : Int → Bool) (l : List Int) : anyP p l l.length = l.any p := by simp [anyP]

theorem mem_listR {x : Int} {m : Nat} {a : Int} : a ∈ listR x m ↔ ∃ k : Nat, k < m ∧ hasB x k = true ∧ a = k := by
  simp only [listR, List.mem_map, List.mem_filter, List.mem_range]
  constructor
  · rintro ⟨k, ⟨h1, h2⟩, rfl⟩; exact ⟨k, h1, h2, rfl⟩
  · rintro ⟨k, h1, h2, rfl⟩; exact ⟨k, ⟨h1, h2⟩, rfl⟩
theorem sorted_listR (x : Int) (m : Nat) : (listR x m).Pairwise (· < ·) := by
  simp only [listR]
  rw [List.pairwise_map]
  refine List.Pairwise.imp ?_ (List.Pairwise.filter _ (List.pairwise_lt_range))
  intro a b h; exact_mod_cast h
theorem listR_at {x : Int} {m q : Nat} (h : q < (listR x m).length) : ∃ k : Nat, k < m ∧ hasB x k = true ∧ at0 (listR x m) q = k := by
  have : at0 (listR x m) q ∈ listR x m := by
    simp only [at0, List.getD, List.getElem?_eq_getElem h, Option.getD_some]
    exact List.getElem_mem h
  exact mem_listR.1 this
theorem listR_lt {x : Int} {m p q : Nat} (h : q < (listR x m).length) (hp : p < q) : at0 (listR x m) p < at0 (listR x m) q := by
  have := (List.pairwise_iff_getElem.1 (sorted_listR x m)) p q (by omega) h hp
  simpa [at0, List.getD, h, Nat.lt_trans hp h] using this
theorem any_above (x n : Int) (m : Nat) : (listR x m).any (fun a => decide (n < a)) = aboveR x n m := by
  rw [Bool.eq_iff_iff]
  simp only [List.any_eq_true, aboveR, List.mem_range, decide_eq_true_eq, Bool.and_eq_true]
  constructor
  · rintro ⟨a, ha, h⟩; obtain ⟨k, h1, h2, rfl⟩ := mem_listR.1 ha; exact ⟨k, h1, h2, h⟩
  · rintro ⟨k, h1, h2, h3⟩; exact ⟨k, mem_listR.2 ⟨k, h1, h2, rfl⟩, h3⟩
theorem any_below (x n : Int) : (listR x 16).any (fun a => decide (a < n)) = belowR x n := by
  rw [Bool.eq_iff_iff]
  simp only [List.any_eq_true, belowR, List.mem_range, decide_eq_true_eq, Bool.and_eq_true]
  constructor
  · rintro ⟨a, ha, h⟩; obtain ⟨k, h1, h2, rfl⟩ := mem_listR.1 ha; exact ⟨k, h1, h2, h⟩
  · rintro ⟨k, h1, h2, h3⟩; exact ⟨k, mem_listR.2 ⟨k, h1, h2, rfl⟩, h3⟩
theorem any_at (x : Int) (n : Int) (h : 0 ≤ n ∧ n < 16) : (listR x 16).any (fun a => a == n) = hasB x n := by
  rw [Bool.eq_iff_iff]
  simp only [List.any_eq_true, beq_iff_eq]
  constructor
  · rintro ⟨a, ha, rfl⟩; obtain ⟨k, h1, h2, rfl⟩ := mem_listR.1 ha; exact h2
  · intro hh; exact ⟨n, mem_listR.2 ⟨n.toNat, by omega, by rw [Int.toNat_of_nonneg h.1]; exact hh, by omega⟩, rfl⟩
theorem above15 (x : Int) : aboveR x 15 16 = false := by
  rw [← any_above, Bool.eq_false_iff]
  intro h
  obtain ⟨a, ha, h⟩ := List.any_eq_true.1 h
  obtain ⟨k, h1, h2, rfl⟩ := mem_listR.1 ha
  simp at h; omega
theorem below0 (x : Int) : belowR x 0 = false := by
  rw [← any_below, Bool.eq_false_iff]
  intro h
  obtain ⟨a, ha, h⟩ := List.any_eq_true.1 h
  obtain ⟨k, h1, h2, rfl⟩ := mem_listR.1 ha
  simp at h; omega
theorem above_1 (x : Int) : aboveR x (-1) 16 = decide (0 < ((listR x 16).length : Int)) := by
  rw [← any_above]
  cases hl : listR x 16 with
  | nil => rfl
  | cons a l =>
    obtain ⟨k, h1, h2, rfl⟩ := mem_listR.1 (show a ∈ listR x 16 by rw [hl]; simp)
    have h3 : (-1 : Int) < k := by omega
    simp [h3]
theorem below16 (x : Int) : belowR x 16 = decide (0 < ((listR x 16).length : Int)) := by
  rw [← any_below]
  cases hl : listR x 16 with
  | nil => rfl
  | cons a l =>
    obtain ⟨k, h1, h2, rfl⟩ := mem_listR.1 (show a ∈ listR x 16 by rw [hl]; simp)
    have h3 : (k : Int) < 16 := by omega
    simp [h3]

set_option maxHeartbeats 4000000 in
set_option maxRecDepth 100000 in
theorem law_CallsBeyond (x b : Int) (b1 : 0 ≤ b) (b2 : b ≤ 255) : CallV Try.prog G0 3 [vi x, .c (.int .u8 b)] [] fun v _ => v = .c (.bool true) := by
  refine callV_ic hm (fn := Try.f3) rfl ic3_eq ic3_nm ic3_ok (by simp) ?_
  have hle := listR_le x 16
  obtain ⟨n, hn⟩ : ∃ n : Int, n = b % 16 := ⟨_, rfl⟩
  have n1 : 0 ≤ n ∧ n < 16 := by omega
  have w2 : IntKind.wrap .i64 b = b := w64_of (by omega) (by omega)
  have w4 : b.tmod 16 = n := by rw [Int.tmod_eq_emod_of_nonneg (by omega)]; exact hn.symm
  have w5 : IntKind.wrap .i64 n = n := w64_of (by omega) (by omega)
  clear hn
  obtain ⟨v, hv, hc⟩ := listV_len x
  have sL := ct_List x
  rw [hv] at sL
  have lenv : lenV v = some (listR x 16).length := by
    rcases hc with ⟨h0, rfl⟩ | rfl
    · rw [h0]; rfl
    · simp [lenV]
  have sA := ct_Above x n
  have sB := ct_Below x n
  have sH := ct_Has x n
  have sA1 := ct_Above x 15
  have sB1 := ct_Below x 0
  have sA2 := ct_Above x (-1)
  have sB2 := ct_Below x 16
  rw [above15] at sA1
  rw [below0] at sB1
  rw [above_1] at sA2
  rw [below16] at sB2
  rcases hc with ⟨h0, rfl⟩ | rfl
  · have a1 : aboveR x n 16 = false := by rw [← any_above, h0]; rfl
    have a2 : belowR x n = false := by rw [← any_below, h0]; rfl
    have a3 : hasB x n = false := by rw [← any_at x n n1, h0]; rfl
    rw [a1] at sA
    rw [a2] at sB
    rw [a3] at sH
    rw [h0] at sA2 sB2
    simp only [List.length_nil] at sA2 sB2
    simp -dsimp [ic3]
    refine (CallD.pure ct_law17_awake (by simp) ?_).callV
    simp -dsimp [w2, w4, w5]
    refine (CallD.pure sL (by simp) ?_).callV
    simp -dsimp
    refine Ti.unroll hm 1 ?_
    repeat' first
      | simp -dsimp [w2, w4, w5]
      | (with_reducible refine (CallD.pure sA (by simp) ?_).callV)
      | (with_reducible refine (CallD.pure sB (by simp) ?_).callV)
      | (with_reducible refine (CallD.pure sH (by simp) ?_).callV)
      | (with_reducible refine (CallD.pure sA1 (by simp) ?_).callV)
      | (with_reducible refine (CallD.pure sB1 (by simp) ?_).callV)
      | (with_reducible refine (CallD.pure sA2 (by simp) ?_).callV)
      | (with_reducible refine (CallD.pure sB2 (by simp) ?_).callV)
      | exact exitV.now rfl
  · simp -dsimp [ic3]
    refine (CallD.pure ct_law17_awake (by simp) ?_).callV
    simp -dsimp [w2, w4, w5]
    refine (CallD.pure sL (by simp) ?_).callV
    simp -dsimp
    refine Ti.loopW hm (fun kk s => ∃ (q : Nat), q + kk = (listR x 16).length ∧ q ≤ (listR x 16).length ∧
      s = { t := [(22, vi q), (8, vb (anyP (fun a => decide (n < a)) (listR x 16) q)), (9, vb (anyP (fun a => decide (a < n)) (listR x 16) q)), (10, vb (anyP (fun a => a == n) (listR x 16) q)), (5, vi x), (6, vi n), (7, .ro 1 (ints (listR x 16))), (21, vi (listR x 16).length)], d := [], h := [] }) (k := (listR x 16).length) ?_ ?_
    · exact Wk.sub [(22, vi (0 : Nat)), (8, vb false), (9, vb false), (10, vb false), (5, vi x), (6, vi n), (7, .ro 1 (ints (listR x 16))), (21, vi (listR x 16).length)] (by simp) (Wk.now ⟨0, by omega, by omega, rfl⟩)
    rintro kk s ⟨q, hq, hql, rfl⟩
    simp -dsimp
    refine brV.intro (fun hlt => ?_) (fun hlt => ?_)
    · have hl : q < (listR x 16).length := by simp at hlt; omega
      have hw := wq hl (by unfold top; omega)
      have hb := ints_at hl
      obtain ⟨k, k1, k2, k3⟩ := listR_at hl
      have sH2 := ct_Has x (at0 (listR x 16) q)
      rw [k3, k2, ← k3] at sH2
      have wq1 : 0 < q → IntKind.wrap .i64 ((q : Int) - 1) = ((q - 1 : Nat) : Int) := fun h => by rw [w64_of (by omega) (by omega)]; omega
      have hb1 : 0 < q → (ints (listR x 16))[q - 1]? = some (vi (at0 (listR x 16) (q - 1))) := fun h => ints_at (by omega)
      have mono : 0 < q → ¬ at0 (listR x 16) q ≤ at0 (listR x 16) (q - 1) := fun h => by have := listR_lt hl (p := q - 1) (by omega); omega
      have s1 := anyP_succ (fun a => decide (n < a)) hl
      have s2 := anyP_succ (fun a => decide (a < n)) hl
      have s3 := anyP_succ (fun a => a == n) hl
      have hlt2 : ((q : Nat) : Int) < ((listR x 16).length : Nat) := by omega
      obtain ⟨A, hA⟩ : ∃ A, A = anyP (fun a => decide (n < a)) (listR x 16) q := ⟨_, rfl⟩
      obtain ⟨B, hB⟩ : ∃ A, A = anyP (fun a => decide (a < n)) (listR x 16) q := ⟨_, rfl⟩
      obtain ⟨C, hC⟩ : ∃ A, A = anyP (fun a => a == n) (listR x 16) q := ⟨_, rfl⟩
      rw [← hA] at s1 ⊢
      rw [← hB] at s2 ⊢
      rw [← hC] at s3 ⊢
      have fin : ∀ A' B' C', A' = anyP (fun a => decide (n < a)) (listR x 16) (q + 1) → B' = anyP (fun a => decide (a < n)) (listR x 16) (q + 1) → C' = anyP (fun a => a == n) (listR x 16) (q + 1) →
          ∃ k', k' < kk ∧ Wk G0 121 0 { t := [(22, vi (q + 1 : Nat)), (8, vb A'), (9, vb B'), (10, vb C'), (5, vi x), (6, vi n), (7, .ro 1 (ints (listR x 16))), (21, vi (listR x 16).length)], d := [], h := [] } (fun s => ∃ (q : Nat), q + k' = (listR x 16).length ∧ q ≤ (listR x 16).length ∧
      s = { t := [(22, vi q), (8, vb (anyP (fun a => decide (n < a)) (listR x 16) q)), (9, vb (anyP (fun a => decide (a < n)) (listR x 16) q)), (10, vb (anyP (fun a => a == n) (listR x 16) q)), (5, vi x), (6, vi n), (7, .ro 1 (ints (listR x 16))), (21, vi (listR x 16).length)], d := [], h := [] }) := by
        rintro _ _ _ rfl rfl rfl
        exact ⟨kk - 1, by omega, Wk.now ⟨q + 1, by omega, by omega, rfl⟩⟩
      rw [s1, s2, s3] at fin
      by_cases h0 : 0 < q
      · have h0' : (0 : Int) < q := by omega
        have w1 := wq1 h0
        have h1 := hb1 h0
        have m1 := mono h0
        have hq1 : q - 1 < (listR x 16).length := by omega
        clear wq1 hb1 mono hA hB hC s1 s2 s3
        cases A <;> cases B <;> cases C
        all_goals
          repeat' first
            | simp -dsimp [hw, hb, h1, w1, m1, h0', h0, hlt2, hl, hq1]
            | (with_reducible refine (CallD.pure sH2 (by simp) ?_))
            | (with_reducible refine ordI (by kernel_rfl) ?_)
            | (obtain ⟨k', hk', hwk⟩ := fin _ _ _ rfl rfl rfl
               exact ⟨k', hk', Wk.sub _ (by simp) hwk⟩)
      · have h0' : q = 0 := by omega
        subst h0'
        have w1 : IntKind.wrap .i64 1 = 1 := w64_of (by omega) (by omega)
        clear wq1 hb1 mono hA hB hC s1 s2 s3
        cases A <;> cases B <;> cases C
        all_goals
          repeat' first
            | simp -dsimp [hw, hb, hlt2, hl, w1]
            | (with_reducible refine (CallD.pure sH2 (by simp) ?_))
            | (with_reducible refine ordI (by kernel_rfl) ?_)
            | (obtain ⟨k', hk', hwk⟩ := fin _ _ _ rfl rfl rfl
               exact ⟨k', hk', Wk.sub _ (by simp [w1]) hwk⟩)
    · have hge : q = (listR x 16).length := by simp at hlt; omega
      subst hge
      rw [anyP_all, anyP_all, anyP_all, any_above, any_below, any_at x n n1]
      repeat' first
        | simp -dsimp
        | (with_reducible refine (CallD.pure sA (by simp) ?_).callV)
        | (with_reducible refine (CallD.pure sB (by simp) ?_).callV)
        | (with_reducible refine (CallD.pure sH (by simp) ?_).callV)
        | (with_reducible refine (CallD.pure sA1 (by simp) ?_).callV)
        | (with_reducible refine (CallD.pure sB1 (by simp) ?_).callV)
        | (with_reducible refine (CallD.pure sA2 (by simp) ?_).callV)
        | (with_reducible refine (CallD.pure sB2 (by simp) ?_).callV)
        | exact exitV.now rfl
end Go.Proofs.Ytofdhldillmbdaa
