/- Contracts of functions of the seat's program, and what follows of them: Dn. Conditions are in each statement. -/
import Derived.Test.YtofdhldillmbdaaDm
set_option linter.unusedSimpArgs false
set_option linter.unusedVariables false
namespace Go.Proofs.Ytofdhldillmbdaa
open Go Go.Proofs Go.Vm

/-- Upside down, as far as it was turned. -/
structure MirB (y x : Int) (q : Nat) : Prop where
  small : 0 ≤ y ∧ y < 65536
  bts : ∀ k : Nat, k < 64 → bt y k = (decide (k < 16 ∧ 15 - k < q) && bt x (15 - k))
theorem and_one {x : Int} (hx : i64 x) {i : Nat} (hi : i < 16) : bits .and .i64 (x / 2 ^ i) 1 = if bt x i = true then 1 else 0 := by
  have h := has_bit hx.1 hx.2 hi
  have hs : ∀ c : BitVec 64, ((c &&& 1#64).toNat : Int) = 0 ∨ ((c &&& 1#64).toNat : Int) = 1 := by
    intro c
    have : c.toNat &&& (1#64).toNat ≤ 1 := Nat.and_le_right
    rw [BitVec.toNat_and]; omega
  have e : bits .and .i64 (x / 2 ^ i) 1 = 0 ∨ bits .and .i64 (x / 2 ^ i) 1 = 1 := by
    rw [bits_toInt, bv_and]
    have h1' : (BitVec.ofInt 64 1 : BitVec 64) = 1#64 := by decide
    rw [h1']
    have := hs (BitVec.ofInt 64 (x / 2 ^ i))
    rw [BitVec.toInt_eq_toNat_of_lt (by omega)]
    exact this
  rw [← h]
  rcases e with e | e <;> rw [e] <;> decide
theorem MirB.more {y x : Int} {q : Nat} (h : MirB y x q) (hq : q < 16) : MirB (bits .or .i64 y ((if bt x q = true then 1 else 0) * 2 ^ (15 - q))) x (q + 1) := by
  have p2 := pow_le16 ⟨15 - q, by omega⟩
  have pp := pow_pos' (15 - q)
  simp only at p2
  cases hb : bt x q
  · simp only [Bool.false_eq_true, if_false, Int.zero_mul]
    refine ⟨bits_small_or h.small (by omega), fun k hk => ?_⟩
    rw [bt_or, bt_zero, Bool.or_false, h.bts k hk]
    by_cases e : 15 - k = q
    · rw [e, hb]; simp
    · have e1 : (k < 16 ∧ 15 - k < q + 1) ↔ (k < 16 ∧ 15 - k < q) := by omega
      simp only [e1]
  · simp only [if_true, Int.one_mul]
    refine ⟨bits_small_or h.small (by omega), fun k hk => ?_⟩
    have hp := bt_pow ⟨15 - q, by omega⟩ ⟨k, hk⟩
    simp only at hp
    rw [bt_or, h.bts k hk, hp]
    by_cases e : 15 - q = k
    · subst e
      have e2 : 15 - (15 - q) = q := by omega
      rw [e2, hb]; simp; omega
    · have e1 : (k < 16 ∧ 15 - k < q + 1) ↔ (k < 16 ∧ 15 - k < q) := by omega
      simp only [e1, e]; simp
theorem MirB.has {y x : Int} (h : MirB y x 16) (hx : i64 x) {c : Int} : hasB y c = hasB x (15 - c) := by
  by_cases hc : 0 ≤ c ∧ c < 16
  · obtain ⟨k, rfl⟩ : ∃ k : Nat, c = k := ⟨c.toNat, by omega⟩
    have hy : i64 y := by have := h.small; unfold i64; omega
    rw [hasB_bt hy (by omega), h.bts k (by omega)]
    have e : (15 : Int) - k = ((15 - k : Nat) : Int) := by omega
    rw [e, hasB_bt hx (by omega)]
    have e1 : (k < 16 ∧ 15 - k < 16) := by omega
    simp [e1]
  · have h1 : hasB y c = false := by rw [Bool.eq_false_iff]; intro h; exact hc (hasB_range h)
    have h2 : hasB x (15 - c) = false := by rw [Bool.eq_false_iff]; intro h; have := hasB_range h; omega
    rw [h1, h2]
theorem turned {x y n w a b c d : Int} (hm : ∀ c, hasB y c = hasB x (15 - c)) (hw : w = 1 ∨ w = -1) (h1 : nextR x n w = (a, b, true)) (h2 : nextR y (15 - n) (-w) = (c, d, true)) : a = 15 - c ∧ b = -d := by
  have e1 : heldR w = w := held_held (by omega)
  have e2 : heldR (-w) = -w := held_held (by omega)
  have hn : hasB y (15 - n) = hasB x n := by rw [hm]; congr 1; omega
  have hx := next_cases h1
  have hy := next_cases h2
  rw [e1] at hx
  rw [e2, hn] at hy
  rcases hx with ⟨p1, p2, p3⟩ | ⟨p1, p2, p3, p4, p5⟩ | ⟨p1, p2, p3, p4, p5⟩
  · rcases hy with ⟨q1, q2, q3⟩ | ⟨q1, _⟩ | ⟨q1, _⟩
    · omega
    · rw [p1] at q1; cases q1
    · rw [p1] at q1; cases q1
  · obtain ⟨u1, u2, u3⟩ := up_near p2
    have hu : hasB y (15 - upO x n) = true := by rw [hm, show 15 - (15 - upO x n) = upO x n by omega]; exact u1
    rcases hy with ⟨q1, _⟩ | ⟨q1, q2, q3, q4, q5⟩ | ⟨q1, q2, q3, q4, q5⟩
    · rw [p1] at q1; cases q1
    · obtain ⟨v1, v2, v3⟩ := up_near q2
      have hv : hasB x (15 - upO y (15 - n)) = true := by rw [← hm]; exact v1
      have c1 : ¬ dnO x n < 0 := fun h => dn_none h _ hv (by omega)
      have c2 : ¬ dnO y (15 - n) < 0 := fun h => dn_none h _ hu (by omega)
      omega
    · obtain ⟨v1, v2, v3⟩ := dn_near q2
      have hv : hasB x (15 - dnO y (15 - n)) = true := by rw [← hm]; exact v1
      have := u3 _ hv (by omega)
      have := v3 _ hu (by omega)
      omega
  · obtain ⟨u1, u2, u3⟩ := dn_near p2
    have hu : hasB y (15 - dnO x n) = true := by rw [hm, show 15 - (15 - dnO x n) = dnO x n by omega]; exact u1
    rcases hy with ⟨q1, _⟩ | ⟨q1, q2, q3, q4, q5⟩ | ⟨q1, q2, q3, q4, q5⟩
    · rw [p1] at q1; cases q1
    · obtain ⟨v1, v2, v3⟩ := up_near q2
      have hv : hasB x (15 - upO y (15 - n)) = true := by rw [← hm]; exact v1
      have := u3 _ hv (by omega)
      have := v3 _ hu (by omega)
      omega
    · obtain ⟨v1, v2, v3⟩ := dn_near q2
      have hv : hasB x (15 - dnO y (15 - n)) = true := by rw [← hm]; exact v1
      have c1 : ¬ upO x n < 0 := fun h => up_none h _ hv (by omega)
      have c2 : ¬ upO y (15 - n) < 0 := fun h => up_none h _ hu (by omega)
      omega
theorem ok_same {x y n w v a b c d : Int} {ok is : Bool} (hm : ∀ c, hasB y c = hasB x (15 - c)) (h1 : nextR x n w = (a, b, ok)) (h2 : nextR y (15 - n) v = (c, d, is)) : ok = is := by
  have mx : ∀ k, hasB x k = hasB y (15 - k) := fun k => by rw [hm]; congr 1; omega
  cases ok <;> cases is <;> try rfl
  · have h3 := nextR_false h1
    have h4 := nextR_ok h2
    rw [hm] at h4
    have := mem_listR16.2 h4
    rw [h3] at this; simp at this
  · have h3 := nextR_false h2
    have h4 := nextR_ok h1
    rw [mx] at h4
    have := mem_listR16.2 h4
    rw [h3] at this; simp at this
set_option maxHeartbeats 8000000 in
set_option maxRecDepth 100000 in
theorem law_ChooseTurned (x b way : Int) (hx : i64 x) (b1 : 0 ≤ b) (b2 : b ≤ 255) : CallV Try.prog G0 10 [vi x, .c (.int .u8 b), vi way] [] fun v _ => v = .c (.bool true) := by
  obtain ⟨n, hn⟩ : ∃ n : Int, n = b % 16 := ⟨_, rfl⟩
  have n1 : 0 ≤ n ∧ n < 16 := by omega
  have w2 : IntKind.wrap .i64 b = b := w64_of (by omega) (by omega)
  have w4 : b.tmod 16 = n := by rw [Int.tmod_eq_emod_of_nonneg (by omega)]; exact hn.symm
  have w5 : IntKind.wrap .i64 n = n := w64_of (by omega) (by omega)
  clear hn
  have ha : nearI n := by unfold nearI; omega
  have ha2 : nearI (15 - n) := by unfold nearI; omega
  refine callV_ic hm (fn := Try.f10) rfl ic10_eq ic10_nm ic10_ok (by simp) ?_
  simp -dsimp [ic10]
  (with_reducible refine (CallD.pure (ct_law18_awake) (by simp) ?_).callV)
  simp -dsimp [w2, w4, w5]
  refine Ti.loopW hm (fun k s => ∃ (q : Nat) (y : Int), q + k = 16 ∧ MirB y x q ∧ s = { t := [(24, vi q), (8, vi y), (0, vi x), (2, vi way), (7, vi n)], d := [], h := [] }) (k := 16) ?_ ?_
  · exact Wk.sub [(24, vi (0 : Nat)), (8, vi 0), (0, vi x), (2, vi way), (7, vi n)] (by simp) (Wk.now ⟨0, 0, by omega, ⟨by omega, fun k hk => by simp [bt_zero]⟩, rfl⟩)
  rintro k s ⟨q, y, hq, hM, rfl⟩
  simp -dsimp
  (with_reducible refine brV.intro (fun h => ?_) (fun h => ?_))
  · have hlt : q < 16 := by simp at h; omega
    have w1 := wq hlt (by unfold top; omega)
    have hmin : min q (IntKind.bits .i64) = q := by simp only [IntKind.bits]; omega
    have e15 : IntKind.wrap .i64 (15 - (q : Int)) = ((15 - q : Nat) : Int) := by rw [w64_of (by omega) (by omega)]; omega
    have hmin2 : min (15 - q) (IntKind.bits .i64) = 15 - q := by simp only [IntKind.bits]; omega
    have ao := and_one hx hlt
    have hM2 := hM.more hlt
    have p1 := pow16 ⟨15 - q, by omega⟩
    simp only at p1
    have wm : IntKind.wrap .i64 ((if bt x q = true then 1 else 0) * 2 ^ (15 - q)) = (if bt x q = true then 1 else 0) * 2 ^ (15 - q) := by
      cases bt x q
      · simp; exact w64_of (by omega) (by omega)
      · simpa using p1
    simp -dsimp [h, hmin, e15, hmin2, ao, wm, w1]
    exact ⟨k - 1, by omega, Wk.sub [(24, vi (q + 1 : Nat)), (8, vi (bits .or .i64 y ((if bt x q = true then 1 else 0) * 2 ^ (15 - q)))), (0, vi x), (2, vi way), (7, vi n)] (by simp) (Wk.now ⟨q + 1, _, by omega, hM2, rfl⟩)⟩
  · have hge : q = 16 := by simp at h; omega
    subst hge
    have hhas : ∀ c, hasB y c = hasB x (15 - c) := fun c => hM.has hx
    have v1 : IntKind.wrap .i64 (15 - n) = 15 - n := w64_of (by omega) (by omega)
    have main : ∀ w : Int, (w = 1 ∨ w = -1 ∨ w = 0) → ∃ a b c d ok, nextR x n w = (a, b, ok) ∧ nextR y (15 - n) (-w) = (c, d, ok) ∧ (ok = true → w ≠ 0 → a = 15 - c ∧ b = -d) ∧ (0 ≤ c ∧ c < 16) ∧ (d = 1 ∨ d = -1 ∨ d = 0) ∧ IntKind.wrap .i64 (-w) = -w := by
      intro w hw
      obtain ⟨⟨a, b, ok⟩, h1⟩ : ∃ p, nextR x n w = p := ⟨_, rfl⟩
      obtain ⟨⟨c, d, is⟩, h2⟩ : ∃ p, nextR y (15 - n) (-w) = p := ⟨_, rfl⟩
      have e := ok_same hhas h1 h2
      subst e
      refine ⟨a, b, c, d, ok, h1, h2, fun h0 hw0 => ?_, ?_, ?_, w64_of (by omega) (by omega)⟩
      · subst h0
        exact turned hhas (by omega) h1 h2
      · cases ok
        · have := nextR_no h2; omega
        · exact hasB_range (nextR_ok h2)
      · cases ok
        · have := nextR_no h2; omega
        · have hh := heldR_way (-w)
          rcases next_cases h2 with ⟨_, _, h⟩ | ⟨_, _, _, h, _⟩ | ⟨_, _, _, h, _⟩ <;> omega
    have sA := ct_Above x n
    have sB := ct_Below x n
    obtain ⟨A, hA⟩ : ∃ A, aboveR x n 16 = A := ⟨_, rfl⟩
    obtain ⟨B, hB⟩ : ∃ A, belowR x n = A := ⟨_, rfl⟩
    rw [hA] at sA
    rw [hB] at sB
    have hways : way = 1 ∨ way = -1 ∨ (¬ way = 1 ∧ ¬ way = -1) := by omega
    clear hM hhas
    rcases hways with rfl | rfl | ⟨c1, c2⟩
    · obtain ⟨a, b', c, d, ok, h1, h2, h3, h4, h5, h6⟩ := main 1 (by simp)
      have sN := ct_Next x n 1 ha
      have sM := ct_Next y (15 - n) (-1) ha2
      rw [h1] at sN
      have h2' : nextR y (15 - n) (-1) = (c, d, ok) := h2
      rw [h2'] at sM
      have v2 : IntKind.wrap .i64 (15 - c) = 15 - c := w64_of (by omega) (by omega)
      have v3 : IntKind.wrap .i64 (-d) = -d := w64_of (by omega) (by omega)
      have v4 : IntKind.wrap .i64 (-1) = -1 := w64_of (by omega) (by omega)
      cases ok
      · repeat' first
          | simp -dsimp [v1, v2, v3, v4]
          | (with_reducible refine (CallD.pure (sN) (by simp) ?_).callV)
          | (with_reducible refine (CallD.pure (sM) (by simp) ?_).callV)
          | exact exitV.now rfl
      · obtain ⟨t1, t2⟩ := h3 rfl (by omega)
        cases A <;> cases B <;> by_cases hne : a = n
        all_goals
          repeat' first
            | simp -dsimp [v1, v2, v3, v4, beq_t t1, beq_t t2]
            | (with_reducible refine (CallD.pure (sN) (by simp) ?_).callV)
            | (with_reducible refine (CallD.pure (sM) (by simp) ?_).callV)
            | (with_reducible refine (CallD.pure (sA) (by simp) ?_).callV)
            | (with_reducible refine (CallD.pure (sB) (by simp) ?_).callV)
            | simp -dsimp [bne_f hne, beq_t t1, beq_t t2]
            | simp -dsimp [bne_t hne, beq_t t1, beq_t t2]
            | exact exitV.now rfl
    · obtain ⟨a, b', c, d, ok, h1, h2, h3, h4, h5, h6⟩ := main (-1) (by simp)
      have sN := ct_Next x n (-1) ha
      have sM := ct_Next y (15 - n) 1 ha2
      rw [h1] at sN
      have h2' : nextR y (15 - n) 1 = (c, d, ok) := h2
      rw [h2'] at sM
      have v2 : IntKind.wrap .i64 (15 - c) = 15 - c := w64_of (by omega) (by omega)
      have v3 : IntKind.wrap .i64 (-d) = -d := w64_of (by omega) (by omega)
      have v4 : IntKind.wrap .i64 1 = 1 := w64_of (by omega) (by omega)
      cases ok
      · repeat' first
          | simp -dsimp [v1, v2, v3, v4]
          | (with_reducible refine (CallD.pure (sN) (by simp) ?_).callV)
          | (with_reducible refine (CallD.pure (sM) (by simp) ?_).callV)
          | exact exitV.now rfl
      · obtain ⟨t1, t2⟩ := h3 rfl (by omega)
        cases A <;> cases B <;> by_cases hne : a = n
        all_goals
          repeat' first
            | simp -dsimp [v1, v2, v3, v4, beq_t t1, beq_t t2]
            | (with_reducible refine (CallD.pure (sN) (by simp) ?_).callV)
            | (with_reducible refine (CallD.pure (sM) (by simp) ?_).callV)
            | (with_reducible refine (CallD.pure (sA) (by simp) ?_).callV)
            | (with_reducible refine (CallD.pure (sB) (by simp) ?_).callV)
            | simp -dsimp [bne_f hne, beq_t t1, beq_t t2]
            | simp -dsimp [bne_t hne, beq_t t1, beq_t t2]
            | exact exitV.now rfl
    · obtain ⟨a, b', c, d, ok, h1, h2, h3, h4, h5, h6⟩ := main 0 (by simp)
      have sN := ct_Next x n 0 ha
      have sM := ct_Next y (15 - n) 0 ha2
      rw [h1] at sN
      have h2' : nextR y (15 - n) 0 = (c, d, ok) := h2
      rw [h2'] at sM
      have v4 : IntKind.wrap .i64 0 = 0 := w64_of (by omega) (by omega)
      cases ok
      all_goals
        repeat' first
          | simp -dsimp [v1, v4, beq_f c1, beq_f c2]
          | (with_reducible refine (CallD.pure (sN) (by simp) ?_).callV)
          | (with_reducible refine (CallD.pure (sM) (by simp) ?_).callV)
          | exact exitV.now rfl
end Go.Proofs.Ytofdhldillmbdaa
