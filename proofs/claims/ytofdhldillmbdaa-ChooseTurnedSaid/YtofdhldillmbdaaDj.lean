/- Contracts of functions of the seat's program, and what follows of them: Dj. Conditions are in each statement. -/
import Derived.Test.YtofdhldillmbdaaDi
set_option linter.unusedSimpArgs false
set_option linter.unusedVariables false
namespace Go.Proofs.Ytofdhldillmbdaa
open Go Go.Proofs Go.Vm

/-! ### Plain: tours -/
theorem nextR_false {x a way : Int} {to th : Int} (h : nextR x a way = (to, th, false)) : listR x 16 = [] := by
  rw [← rNext_eq] at h
  unfold rNextR at h
  by_cases h0 : listR x 16 = []
  · exact h0
  · rw [if_neg h0] at h
    repeat' split at h
    all_goals cases h
theorem nextR_empty {x : Int} (a way : Int) (h : listR x 16 = []) : nextR x a way = (0, 0, false) := by
  rw [← rNext_eq]; unfold rNextR; rw [if_pos h]
theorem cnt_zero {x : Int} (h : cnt x = 0) : listR x 16 = [] := List.length_eq_zero_iff.1 h
theorem tour_stable {x a way : Int} : ∀ {n m : Nat}, i64 x → cnt x < n → cnt x < m → tourR n x a way = tourR m x a way := by
  intro n
  induction n generalizing x a way with
  | zero => intro m _ h; omega
  | succ n ih =>
    intro m hx h1 h2
    cases m with
    | zero => omega
    | succ m =>
      obtain ⟨⟨to, th, ok⟩, hn⟩ : ∃ p, nextR x a way = p := ⟨_, rfl⟩
      simp only [tourR, hn]
      cases ok
      · simp
      · have := cnt_without hx (nextR_ok hn)
        simp only [if_true]
        rw [ih (m := m) (without_i64 _ _) (by omega) (by omega)]
theorem without_hasB {x : Int} (hx : i64 x) {a n : Int} (ha : hasB x a = true) : hasB (without x a) n = (hasB x n && decide (n ≠ a)) := by
  have r := hasB_range ha
  by_cases hn : 0 ≤ n ∧ n < 16
  · obtain ⟨k, rfl⟩ : ∃ k : Nat, n = k := ⟨n.toNat, by omega⟩
    obtain ⟨b, rfl⟩ : ∃ b : Nat, a = b := ⟨a.toNat, by omega⟩
    rw [without_has hx (by omega)]
    have e : ((k : Int) ≠ b) ↔ k ≠ b := by omega
    simp [e]
  · have h1 : ∀ y, hasB y n = false := fun y => by
      rw [Bool.eq_false_iff]; intro h; exact hn (hasB_range h)
    simp [h1]
theorem tour_mem {x a way : Int} {n : Nat} : i64 x → cnt x < n → ∀ k, k ∈ tourR n x a way ↔ hasB x k = true := by
  induction n generalizing x a way with
  | zero => intro _ h; omega
  | succ n ih =>
    intro hx h k
    obtain ⟨⟨to, th, ok⟩, hn⟩ : ∃ p, nextR x a way = p := ⟨_, rfl⟩
    simp only [tourR, hn]
    cases ok
    · have h0 := nextR_false hn
      simp only [Bool.false_eq_true, if_false, List.not_mem_nil, false_iff]
      intro hk
      have := mem_listR16.2 hk
      rw [h0] at this; simp at this
    · have hb := nextR_ok hn
      have := cnt_without hx hb
      simp only [if_true, List.mem_cons]
      rw [ih (without_i64 _ _) (by omega) k, without_hasB hx hb]
      by_cases e : k = to
      · subst e; simp [hb]
      · simp [e]
theorem tour_nodup {x a way : Int} {n : Nat} : i64 x → cnt x < n → (tourR n x a way).Nodup := by
  induction n generalizing x a way with
  | zero => intro _ h; omega
  | succ n ih =>
    intro hx h
    obtain ⟨⟨to, th, ok⟩, hn⟩ : ∃ p, nextR x a way = p := ⟨_, rfl⟩
    simp only [tourR, hn]
    cases ok
    · simp
    · have hb := nextR_ok hn
      have := cnt_without hx hb
      simp only [if_true, List.nodup_cons]
      refine ⟨?_, ih (without_i64 _ _) (by omega)⟩
      rw [tour_mem (without_i64 _ _) (by omega), without_hasB hx hb]
      simp
theorem cnt_le (x : Int) : cnt x < 17 := by have := listR_le x 16; unfold cnt; omega
theorem tour_unroll {x a way to th : Int} (hx : i64 x) (hn : nextR x a way = (to, th, true)) : tourR 17 x a way = to :: tourR 17 (without x to) to th := by
  have := cnt_without hx (nextR_ok hn)
  have h1 := cnt_le x
  have h2 := cnt_le (without x to)
  have e : tourR 17 x a way = to :: tourR 16 (without x to) to th := by
    show tourR (16 + 1) x a way = _
    simp only [tourR, hn, if_true]
  rw [e, tour_stable (n := 16) (m := 17) (without_i64 _ _) (by omega) h2]

/-! ### Bits that were seen -/
theorem bt_low (x : Int) {k : Nat} (hk : k < 64) : bt (x % 65536) k = (bt x k && decide (k < 16)) := by
  have e : (BitVec.ofInt 64 (x % 65536)).toNat = (BitVec.ofInt 64 x).toNat % 2 ^ 16 := by
    rw [BitVec.toNat_ofInt, BitVec.toNat_ofInt]; omega
  unfold bt
  rw [BitVec.getLsbD, e, Nat.testBit_mod_two_pow]
  rw [Bool.and_comm]; rfl
/-- Those among the first ones of a list, by bits. -/
structure SeenB (seen : Int) (l : List Int) : Prop where
  small : 0 ≤ seen ∧ seen < 65536
  bts : ∀ k : Nat, k < 64 → bt seen k = decide ((k : Int) ∈ l)
theorem bits_small_or {x y : Int} (hx : 0 ≤ x ∧ x < 65536) (hy : 0 ≤ y ∧ y < 65536) : 0 ≤ bits .or .i64 x y ∧ bits .or .i64 x y < 65536 := by
  rw [bits_toInt, bv_or]
  have e : (BitVec.ofInt 64 x ||| BitVec.ofInt 64 y).toNat < 2 ^ 16 := by
    rw [BitVec.toNat_or]
    refine Nat.or_lt_two_pow ?_ ?_ <;> (rw [BitVec.toNat_ofInt]; omega)
  rw [BitVec.toInt_eq_toNat_of_lt (by omega)]
  omega
theorem SeenB.more {seen : Int} {l : List Int} (h : SeenB seen l) {n : Int} (hn : 0 ≤ n ∧ n < 16) : SeenB (bits .or .i64 seen (2 ^ n.toNat)) (l ++ [n]) := by
  have p2 := pow_le16 ⟨n.toNat, by omega⟩
  have pp := pow_pos' n.toNat
  simp only at p2
  refine ⟨bits_small_or h.small ⟨by omega, by omega⟩, fun k hk => ?_⟩
  have hb := bt_pow ⟨n.toNat, by omega⟩ ⟨k, hk⟩
  simp only at hb
  rw [bt_or, h.bts k hk, hb]
  have e : n.toNat = k ↔ (k : Int) = n := by omega
  rw [Bool.eq_iff_iff]
  simp [e]
theorem shr_seen {seen n : Int} (h1 : 0 ≤ seen ∧ seen < 65536) (hn : 0 ≤ n ∧ n < 16) : (bits .and .i64 (seen / 2 ^ n.toNat) 1 == 1) = bt seen n.toNat := has_bit (by omega) (by omega) (by omega)

set_option maxHeartbeats 4000000 in
set_option maxRecDepth 100000 in
theorem law_ChooseOnce (x a way : Int) (hx : i64 x) : CallV Try.prog G0 6 [vi x, vi a, vi way] [] fun v _ => v = .c (.bool true) := by
  have sK := ct_Near18 a
  refine callV_ic hm (fn := Try.f6) rfl ic6_eq ic6_nm ic6_ok (by simp) ?_
  simp -dsimp [ic6]
  (with_reducible refine (CallD.pure (ct_law18_awake) (by simp) ?_).callV)
  simp -dsimp
  (with_reducible refine (CallD.pure (sK) (by simp) ?_).callV)
  by_cases ha : nearI a
  · simp -dsimp [ha]
    have sT := ct_Tour x a way hx ha
    have hle := tour_len x a way 17
    have hmem := tour_mem (a := a) (way := way) (n := 17) hx (cnt_le x)
    have hnd := tour_nodup (a := a) (way := way) (n := 17) hx (cnt_le x)
    obtain ⟨W, hW⟩ : ∃ W, tourR 17 x a way = W := ⟨_, rfl⟩
    rw [hW] at sT hle hmem hnd
    (with_reducible refine (CallD.pure (sT) (by simp) ?_).callV)
    simp -dsimp
    refine Ti.loopW hm (fun k s => ∃ (q : Nat) (seen : Int), q + k = W.length ∧ SeenB seen (W.take q) ∧ s = { t := [(24, vi q), (23, vi W.length), (8, vi seen), (7, .ro 1 (ints W)), (0, vi x)], d := [], h := [] }) (k := W.length) ?_ ?_
    · exact Wk.sub [(24, vi (0 : Nat)), (23, vi W.length), (8, vi 0), (7, .ro 1 (ints W)), (0, vi x)] (by simp) (Wk.now ⟨0, 0, by omega, ⟨by omega, fun k hk => by simp [bt_zero]⟩, rfl⟩)
    rintro k s ⟨q, seen, hq, hs, rfl⟩
    simp -dsimp
    (with_reducible refine brV.intro (fun h => ?_) (fun h => ?_))
    · have hlt : q < W.length := by simp at h; omega
      have w1 := wq hlt (by unfold top; omega)
      have e1 := ints_at hlt
      have hb := (hmem _).1 (at0_mem hlt)
      have hn := hasB_range hb
      have c1 : ¬ at0 W q < 0 := by omega
      have c2 : ¬ 15 < at0 W q := by omega
      have hmin : min (at0 W q).toNat (IntKind.bits .i64) = (at0 W q).toNat := by simp only [IntKind.bits]; omega
      have p1 := pow16 ⟨(at0 W q).toNat, by omega⟩
      simp only at p1
      have hsn := shr_seen hs.small hn
      have hnot : at0 W q ∉ W.take q := by
        intro hin
        have h2 : W = W.take q ++ W.drop q := (List.take_append_drop q W).symm
        rw [h2] at hnd
        have h3 := (List.nodup_append.1 hnd).2.2 _ hin (at0 W q) (by
          have : W.drop q = at0 W q :: W.drop (q + 1) := by rw [List.drop_eq_getElem_cons hlt]; simp [at0, List.getD, hlt]
          rw [this]; simp)
        exact h3 rfl
      have hbf : bt seen (at0 W q).toNat = false := by
        rw [hs.bts _ (by omega), Int.toNat_of_nonneg hn.1]; simp [hnot]
      rw [hbf] at hsn
      have hs2 := hs.more hn
      rw [← take_succ_at hlt] at hs2
      simp -dsimp [h, e1, hlt, c1, c2, hmin, hn.1, hsn, p1, w1]
      exact ⟨k - 1, by omega, Wk.sub [(24, vi (q + 1 : Nat)), (23, vi W.length), (8, vi (bits .or .i64 seen (2 ^ (at0 W q).toNat))), (7, .ro 1 (ints W)), (0, vi x)] (by simp) (Wk.now ⟨q + 1, _, by omega, hs2, rfl⟩)⟩
    · have hge : q = W.length := by simp at h; omega
      subst hge
      rw [List.take_length] at hs
      have sL := ct_rList x
      have hle2 := listR_le x 16
      have sB := ct_rBits (listR x 16) (fun n hn => listR_near (by omega) hn) (by omega)
      have hbits : seen = bitsR (listR x 16) := by
        rw [bitsR_listR x 16 (by omega)]
        have hb2 := hs.small
        refine bt_ext (by omega) (by omega) (by omega) (by omega) fun k hk => ?_
        rw [hs.bts k hk, show (2 : Int) ^ 16 = 65536 from rfl, bt_low x hk]
        by_cases h16 : k < 16
        · rw [← hasB_bt hx h16, Bool.eq_iff_iff]
          simp [hmem, h16]
        · have : ((k : Int)) ∉ W := fun h => by have := hasB_range ((hmem _).1 h); omega
          simp [this, h16]
      rw [← hbits] at sB
      simp -dsimp
      (with_reducible refine (CallD.pure (sL) (by simp) ?_).callV)
      simp -dsimp
      (with_reducible refine (CallD.pure (sB) (by simp) ?_).callV)
      simp -dsimp
      exact exitV.now rfl
  · simp -dsimp [ha]
    (with_reducible refine (CallD.pure (ct_law18_awake) (by simp) ?_).callV)
    simp -dsimp
    exact exitV.now rfl

set_option maxHeartbeats 4000000 in
set_option maxRecDepth 100000 in
theorem law_ChooseOn (x a way : Int) (hx : i64 x) : CallV Try.prog G0 8 [vi x, vi a, vi way] [] fun v _ => v = .c (.bool true) := by
  have sK := ct_Near18 a
  refine callV_ic hm (fn := Try.f8) rfl ic8_eq ic8_nm ic8_ok (by simp) ?_
  simp -dsimp [ic8]
  (with_reducible refine (CallD.pure (ct_law18_awake) (by simp) ?_).callV)
  simp -dsimp
  (with_reducible refine (CallD.pure (sK) (by simp) ?_).callV)
  by_cases ha : nearI a
  · simp -dsimp [ha]
    have sN := ct_Next x a way ha
    have sT := ct_Tour x a way hx ha
    obtain ⟨⟨to, th, ok⟩, hn⟩ : ∃ p, nextR x a way = p := ⟨_, rfl⟩
    rw [hn] at sN
    (with_reducible refine (CallD.pure (sN) (by simp) ?_).callV)
    simp -dsimp
    cases ok
    · have h0 := nextR_false hn
      have sL := ct_List2 x
      have e : tourR 17 x a way = [] := by
        show tourR (16 + 1) x a way = []
        simp only [tourR, hn]; simp
      rw [e] at sT
      rw [h0] at sL
      (with_reducible refine (CallD.pure (sT) (by simp) ?_).callV)
      simp -dsimp
      (with_reducible refine (CallD.pure (sL) (by simp) ?_).callV)
      simp -dsimp
      exact exitV.now rfl
    · have e := tour_unroll hx hn
      have hb := nextR_ok hn
      have hr := hasB_range hb
      have sW := ct_Without x to
      have sT2 := ct_Tour (without x to) to th (without_i64 _ _) (by unfold nearI; omega)
      have hle := tour_len (without x to) to th 17
      obtain ⟨W, hW⟩ : ∃ W, tourR 17 (without x to) to th = W := ⟨_, rfl⟩
      rw [hW] at e sT2 hle
      rw [e] at sT
      have sI := ct_Ints W W (by unfold top; omega)
      have e0 : ints (to :: W) = vi to :: ints W := rfl
      have hp : (0 : Int) < ((W.length + 1 : Nat) : Int) := by omega
      have hp1 : (1 : Int) ≤ (W.length : Int) + 1 := by omega
      (with_reducible refine (CallD.pure (sT) (by simp) ?_).callV)
      simp -dsimp [e0, hp]
      repeat' first
        | simp -dsimp [e0, hp, hp1]
        | (with_reducible refine (CallD.pure (sW) (by simp) ?_))
        | (with_reducible refine (CallD.pure (sT2) (by simp) ?_))
        | (with_reducible refine (CallD.pure (sI) (by simp) ?_))
        | (with_reducible refine ordI (by kernel_rfl) ?_)
        | exact exitV.now rfl
  · simp -dsimp [ha]
    (with_reducible refine (CallD.pure (ct_law18_awake) (by simp) ?_).callV)
    simp -dsimp
    exact exitV.now rfl
end Go.Proofs.Ytofdhldillmbdaa
