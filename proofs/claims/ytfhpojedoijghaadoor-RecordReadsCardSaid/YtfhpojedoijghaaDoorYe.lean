/- Contracts of functions of the seat's program, and what follows of them: Ye. Conditions are in each statement. -/
import Derived.Test.YtfhpojedoijghaaDoorYc
set_option linter.unusedSimpArgs false
set_option linter.unusedVariables false
namespace Go.Proofs.YtfhpojedoijghaaDoor
open Go Go.Proofs Go.Vm

def readRV : Except (List UInt8) (List Flt) → V
  | .ok l => .tup [.ro 2 (flts l), vs []]
  | .error p => .tup [.c (.slice none 0 0), vs p]
theorem n16_told (x y : BitVec 8) : n16 (told x y) = 256 * n8 x + n8 y := by
  have hx := x.isLt; have hy := y.isLt
  have e : (x.toNat <<< 8 ||| y.toNat) = 256 * x.toNat + y.toNat := by
    have := Nat.two_pow_add_eq_or_of_lt (i := 8) hy x.toNat
    rw [Nat.shiftLeft_eq, Nat.mul_comm]; exact this.symm
  unfold n16 n8
  simp only [told, BitVec.toNat_setWidth, BitVec.toNat_or, BitVec.toNat_shiftLeft]
  rw [Nat.mod_eq_of_lt (show x.toNat < 2 ^ 16 by omega), Nat.mod_eq_of_lt (show y.toNat < 2 ^ 16 by omega), Nat.mod_eq_of_lt (show x.toNat <<< 8 < 2 ^ 16 by rw [Nat.shiftLeft_eq]; omega), e]
  omega
theorem split_end {b : List (BitVec 8)} {n : Nat} (h : n + 2 = b.length) : b = b.take n ++ [byAt b n, byAt b (n + 1)] := by
  have h0 : n < b.length := by omega
  have h1 : n + 1 < b.length := by omega
  have e : b.drop n = [byAt b n, byAt b (n + 1)] := by
    rw [List.drop_eq_getElem_cons h0, List.drop_eq_getElem_cons h1, List.drop_of_length_le (by omega), byAt_get h0, byAt_get h1]
  rw [← e, List.take_append_drop]
theorem sum_side {b : List (BitVec 8)} {n : Nat} (h : n + 2 = b.length) : (n16 (crc (b.take n)) != 256 * n8 (byAt b n) + n8 (byAt b (n + 1))) = !decide (crc b = 0#16) := by
  rw [← n16_told]
  have e : crc b = 0#16 ↔ crc (b.take n) = told (byAt b n) (byAt b (n + 1)) := by
    have := crc_side (b.take n) (told (byAt b n) (byAt b (n + 1)))
    rw [hi_told, lo_told, ← split_end h] at this
    exact this
  by_cases hc : crc (b.take n) = told (byAt b n) (byAt b (n + 1))
  · rw [hc]; simp [e.2 hc]
  · have h1 : ¬ crc b = 0#16 := fun h => hc (e.1 h)
    have h2 : n16 (crc (b.take n)) ≠ n16 (told (byAt b n) (byAt b (n + 1))) := fun h => hc (BitVec.eq_of_toNat_eq (by unfold n16 at h; omega))
    simp [h1, h2]
theorem six {b : List (BitVec 8)} {i : Nat} (h : i + 6 ≤ b.length) : (b.drop i).take 6 = [byAt b i, byAt b (i + 1), byAt b (i + 2), byAt b (i + 3), byAt b (i + 4), byAt b (i + 5)] := by
  rw [List.drop_eq_getElem_cons (show i < b.length by omega), List.drop_eq_getElem_cons (show i + 1 < b.length by omega), List.drop_eq_getElem_cons (show i + 1 + 1 < b.length by omega), List.drop_eq_getElem_cons (show i + 1 + 1 + 1 < b.length by omega), List.drop_eq_getElem_cons (show i + 1 + 1 + 1 + 1 < b.length by omega), List.drop_eq_getElem_cons (show i + 1 + 1 + 1 + 1 + 1 < b.length by omega)]
  simp only [List.take_succ_cons, List.take_zero, byAt_get]
theorem part_at {b : List (BitVec 8)} {q N : Nat} (hl : b.length = 4 + 6 * N) (hq : q < N) : partL (payload b) q = ⟨n8 (byAt b (2 + 6 * q)), 256 * (256 * (256 * (256 * n8 (byAt b (2 + 6 * q + 1)) + n8 (byAt b (2 + 6 * q + 2))) + n8 (byAt b (2 + 6 * q + 3))) + n8 (byAt b (2 + 6 * q + 4))) + n8 (byAt b (2 + 6 * q + 5))⟩ := by
  have e : ((payload b).drop (6 * q)).take 6 = (b.drop (2 + 6 * q)).take 6 := by
    unfold payload
    rw [List.drop_take, List.drop_drop, List.take_take, Nat.min_eq_left (by omega)]
  unfold partL
  rw [e, six (by omega)]
  have e2 : ∀ x0 x1 x2 x3 x4 x5 : BitVec 8, oneF [x0, x1, x2, x3, x4, x5] = ⟨n8 x0, ((((0 * 256 + n8 x1) * 256 + n8 x2) * 256 + n8 x3) * 256 + n8 x4) * 256 + n8 x5⟩ := fun _ _ _ _ _ _ => rfl
  rw [e2]
  congr 1
  omega
theorem ct_ref_RightB (l : List Flt) (hb : l.length < top) : Ct Tryd.prog G0 19 [.sl 2 0 0 l.length] [.cells 45 (fltC l)] (vb (rightB l)) [.cells 45 (fltC l)] := by
  have e : frzL 0 (fltC l) true [.sl 2 0 0 l.length] = [.ro 2 (flts l)] := by simp [rows_flts]
  refine Ct.lend (g := true) (by simp; omega) (by rw [e]; simp) ?_
  rw [e]
  exact ct_ref_Right l hb
theorem ct_ref_Right0 : Ct Tryd.prog G0 19 [.c (.slice none 0 0)] [] (vb true) [] :=
  CallV.args (fun _ _ h => cnL_nil [] h) (ct_ref_Right [] (by decide))
theorem wk4 : IntKind.wrap .i64 4 = 4 := by decide
theorem wk5 : IntKind.wrap .i64 5 = 5 := by decide
theorem wk6 : IntKind.wrap .i64 6 = 6 := by decide
def rdS (b : List (BitVec 8)) (n i : Nat) : Nat → St
  | 0 => { t := [(6, vi i), (4, vi n), (0, .ro 1 (bys b)), (5, .c (.slice none 0 0))], d := [], h := [] }
  | q + 1 => { t := [(6, vi i), (4, vi n), (0, .ro 1 (bys b)), (5, .sl 2 0 0 (q + 1))], d := [], h := [.cells 45 (fltC ((readL b).take (q + 1)))] }
set_option maxRecDepth 100000 in
set_option maxHeartbeats 8000000 in
theorem ct_ref_Read (b : List (BitVec 8)) (hb : b.length < top) : Ct Tryd.prog G0 9 [.ro 1 (bys b)] [] (readRV (readR b)) [] := by
  refine callV_ic hm (fn := Tryd.f9) rfl ic9_eq ic9_nm ic9_ok (by simp) ?_
  simp -dsimp [ic9]
  by_cases c1 : b.length < 4
  · have c1' : (b.length : Int) < 4 := by omega
    repeat' first
      | simp -dsimp [c1']
      | exact exitV.cut (by simp) (by simp) (by simp) (by simp) ⟨by simp [readR, c1, readRV], by simp⟩
  have c1' : ¬ (b.length : Int) < 4 := by omega
  have hbb := hb
  unfold top at hbb
  have d1 : 1 < b.length := by omega
  have d0 : 0 < b.length := by omega
  have d1' : (1 : Int) < b.length := by omega
  have d0' : (0 : Int) < b.length := by omega
  have bnn : b ≠ [] := fun e => by rw [e] at d0; simp at d0
  have nb := n8_bd (byAt b 1)
  have e1 : IntKind.wrap .i64 (n8 (byAt b 1)) = n8 (byAt b 1) := wrap_n8 _
  have e2 : IntKind.wrap .i64 (6 * n8 (byAt b 1)) = 6 * n8 (byAt b 1) := w64_of (by omega) (by omega)
  have e3 : IntKind.wrap .i64 (4 + 6 * n8 (byAt b 1)) = 4 + 6 * n8 (byAt b 1) := w64_of (by omega) (by omega)
  have nn : n8 (byAt b 1) = (nParts b : Int) := rfl
  by_cases c2 : b.length = 4 + 6 * nParts b
  rotate_left
  · have c2' : ((b.length : Int) != 4 + 6 * n8 (byAt b 1)) = true := by rw [nn]; simp; omega
    repeat' first
      | simp -dsimp [c1', d1, d1', d0', d0, bnn, e1, e2, e3, c2']
      | exact exitV.cut (by simp) (by simp) (by simp) (by simp) ⟨by simp [readR, c2, readRV], by simp⟩
  have c2' : ((b.length : Int) != 4 + 6 * n8 (byAt b 1)) = false := by rw [nn]; simp; omega
  have r1 : ¬ (b.length < 4 ∨ b.length ≠ 4 + 6 * nParts b) := by omega
  obtain ⟨n, hn⟩ : ∃ n, n + 2 = b.length := ⟨b.length - 2, by omega⟩
  have f1 : IntKind.wrap .i64 ((b.length : Int) - 2) = (n : Int) := by rw [w64_of (by omega) (by omega)]; omega
  have f2 : (n : Int) ≤ b.length := by omega
  have f2' : n ≤ b.length := by omega
  have f3 : n < b.length := by omega
  have f4 : n + 1 < b.length := by omega
  have f5 : IntKind.wrap .i64 ((n : Int) + 1) = ((n + 1 : Nat) : Int) := by rw [w64_of (by omega) (by omega)]; omega
  have f8 : (0 : Int) ≤ (n : Int) + 1 := by omega
  have f9 : (n : Int) + 1 < b.length := by omega
  have ft := bys_take b n
  have b1 := n8_bd (byAt b n)
  have b2 := n8_bd (byAt b (n + 1))
  have f6 : IntKind.wrap .i64 (256 * n8 (byAt b n)) = 256 * n8 (byAt b n) := w64_of (by omega) (by omega)
  have f7 : IntKind.wrap .i64 (256 * n8 (byAt b n) + n8 (byAt b (n + 1))) = 256 * n8 (byAt b n) + n8 (byAt b (n + 1)) := w64_of (by omega) (by omega)
  have w1 := wrap_n8 (byAt b n)
  have w2 := wrap_n8 (byAt b (n + 1))
  have sum := ct_ref_Sum (b.take n) (by simp; omega)
  have c3' := sum_side hn
  by_cases c3 : crc b = 0#16
  rotate_left
  · simp only [c3, decide_false, Bool.not_false] at c3'
    repeat' first
      | simp -dsimp [c1', d1, d1', d0', d0, bnn, e1, e2, e3, c2', f1, f2, f2', f3, f4, f5, f6, f7, f8, f9, ft, w1, w2, c3']
      | (with_reducible refine (CallD.pure (sum) (by simp) ?_))
      | (with_reducible refine ordI (by kernel_rfl) ?_)
      | exact exitV.cut (by simp) (by simp) (by simp) (by simp) ⟨by simp [readR, r1, c3, readRV], by simp⟩
  simp only [c3, decide_true, Bool.not_true] at c3'
  have c4' := n8_76 (byAt b 0)
  by_cases c4 : byAt b 0 = 76#8
  rotate_left
  · simp only [c4, decide_false, Bool.not_false] at c4'
    repeat' first
      | simp -dsimp [c1', d1, d1', d0', d0, bnn, e1, e2, e3, c2', f1, f2, f2', f3, f4, f5, f6, f7, f8, f9, ft, w1, w2, c3', c4']
      | (with_reducible refine (CallD.pure (sum) (by simp) ?_))
      | (with_reducible refine ordI (by kernel_rfl) ?_)
      | exact exitV.cut (by simp) (by simp) (by simp) (by simp) ⟨by simp [readR, r1, c3, c4, readRV], by simp⟩
  simp only [c4, decide_true, Bool.not_true] at c4'
  have c4'' : (n8 (76#8) != 76) = false := by rw [← c4]; rw [c4]; exact c4'
  repeat' first
    | simp -dsimp [c1', d1, d1', d0', d0, bnn, e1, e2, e3, c2', f1, f2, f2', f3, f4, f5, f6, f7, f8, f9, ft, w1, w2, c3', c4', c4, c4'']
    | (with_reducible refine (CallD.pure (sum) (by simp) ?_))
    | (with_reducible refine ordI (by kernel_rfl) ?_)
  have hN : nParts b ≤ 255 := by unfold nParts; have := (byAt b 1).isLt; omega
  have hby : Tryd.prog.bytesOf 45 = 16 := by kernel_rfl
  obtain ⟨N, hNN⟩ : ∃ N, N = nParts b := ⟨_, rfl⟩
  have hn6 : n = 2 + 6 * N := by omega
  refine Ti.loopW hm (fun k s => ∃ q i : Nat, q + k = N ∧ i = 2 + 6 * q ∧ s = rdS b n i q) (k := N) ?_ ?_
  · exact Wk.sub [(6, vi (2 : Nat)), (4, vi n), (0, .ro 1 (bys b)), (5, .c (.slice none 0 0))] (by simp) (Wk.now ⟨0, 2, by omega, by omega, rfl⟩)
  rintro k s ⟨q, i, hq, hi, rfl⟩
  by_cases hlt : q < N
  rotate_left
  · have hqN : q = N := by omega
    have hin : ¬ (i : Int) < n := by omega
    have hin' : ¬ i < n := by omega
    subst hqN
    rcases q with _ | M
    · have hnil : readL b = [] := List.eq_nil_of_length_eq_zero (by simp [← hNN])
      have hrr : readR b = .ok [] := by simp [readR, r1, c3, c4, hnil, rightB, allB]
      simp -dsimp [rdS]
      repeat' first
        | simp -dsimp [hin, hin']
        | (with_reducible refine (CallD.pure (ct_ref_Right0) (by simp) ?_).callV)
      refine exitV.see (.tup [.ro 2 [], vs []]) (fun e y => cn_tup_nil) ?_
      exact exitV.cut (by simp) (by simp) (by simp) (by simp) ⟨by rw [hrr]; rfl, by simp⟩
    · have htk : (readL b).take (M + 1) = readL b := List.take_of_length_le (by simp [← hNN])
      have hB := ct_ref_RightB (readL b) (by simp; unfold top; omega)
      rw [readL_length, ← hNN] at hB
      have hrw : rows true 2 (M + 1) (fltC (readL b)) = flts (readL b) := by have := rows_flts (readL b); rwa [readL_length, ← hNN] at this
      simp -dsimp [rdS, htk]
      repeat' first
        | simp -dsimp [hin, hin']
        | (with_reducible refine (CallD.pure (ct_ref_Right0) (by simp) ?_).callV)
      have hrw2 : V.agg ((fltC (readL b)).take 2) :: rows true 2 M ((fltC (readL b)).drop 2) = flts (readL b) := by rw [← hrw]; rfl
      refine (CallD.look (i := 0) hB (by simp) rfl (by simp) (by simp) (by simp) ?_).callV
      cases hR : rightB (readL b)
      · have hrr : readR b = .error [102, 97, 117, 108, 116] := by simp [readR, r1, c3, c4, hR]
        repeat' first
          | simp -dsimp
          | (with_reducible refine ordI (by kernel_rfl) ?_)
        exact exitV.cut (by simp) (by simp) (by simp) (by simp) ⟨by rw [hrr]; rfl, by simp⟩
      · have hrr : readR b = .ok (readL b) := by simp [readR, r1, c3, c4, hR]
        repeat' first
          | simp -dsimp
          | (with_reducible refine ordI (by kernel_rfl) ?_)
        refine exitV.freeze 0 45 (fltC (readL b)) true rfl (by simp [← hNN]; omega) ?_
        simp -dsimp [hrw2]
        exact exitV.cut (by simp) (by simp) (by simp) (by simp) ⟨by rw [hrr]; rfl, by simp⟩
  · have hp := part_at c2 (q := q) (by omega)
    rw [← hi] at hp
    have htk := readL_take b q (by omega)
    have i0 : i < b.length := by omega
    have i1 : i + 1 < b.length := by omega
    have i2 : i + 2 < b.length := by omega
    have i3 : i + 3 < b.length := by omega
    have i4 : i + 4 < b.length := by omega
    have i5 : i + 5 < b.length := by omega
    have j1 : IntKind.wrap .i64 ((i : Int) + 1) = ((i + 1 : Nat) : Int) := by rw [w64_of (by omega) (by omega)]; omega
    have j2 : IntKind.wrap .i64 ((i : Int) + 2) = ((i + 2 : Nat) : Int) := by rw [w64_of (by omega) (by omega)]; omega
    have j3 : IntKind.wrap .i64 ((i : Int) + 3) = ((i + 3 : Nat) : Int) := by rw [w64_of (by omega) (by omega)]; omega
    have j4 : IntKind.wrap .i64 ((i : Int) + 4) = ((i + 4 : Nat) : Int) := by rw [w64_of (by omega) (by omega)]; omega
    have j5 : IntKind.wrap .i64 ((i : Int) + 5) = ((i + 5 : Nat) : Int) := by rw [w64_of (by omega) (by omega)]; omega
    have j6 : IntKind.wrap .i64 ((i : Int) + 6) = ((i + 6 : Nat) : Int) := by rw [w64_of (by omega) (by omega)]; omega
    have l1 : (i : Int) + 1 < b.length := by omega
    have l2 : (i : Int) + 2 < b.length := by omega
    have l3 : (i : Int) + 3 < b.length := by omega
    have l4 : (i : Int) + 4 < b.length := by omega
    have l5 : (i : Int) + 5 < b.length := by omega
    have m1 : (0 : Int) ≤ (i : Int) + 1 := by omega
    have m2 : (0 : Int) ≤ (i : Int) + 2 := by omega
    have m3 : (0 : Int) ≤ (i : Int) + 3 := by omega
    have m4 : (0 : Int) ≤ (i : Int) + 4 := by omega
    have m5 : (0 : Int) ≤ (i : Int) + 5 := by omega
    have n1 : ((i : Int) + 1).toNat = i + 1 := by omega
    have n2 : ((i : Int) + 2).toNat = i + 2 := by omega
    have n3 : ((i : Int) + 3).toNat = i + 3 := by omega
    have n4 : ((i : Int) + 4).toNat = i + 4 := by omega
    have n5 : ((i : Int) + 5).toNat = i + 5 := by omega
    have x0 := n8_bd (byAt b i)
    have x1 := n8_bd (byAt b (i + 1))
    have x2 := n8_bd (byAt b (i + 2))
    have x3 := n8_bd (byAt b (i + 3))
    have x4 := n8_bd (byAt b (i + 4))
    have x5 := n8_bd (byAt b (i + 5))
    have hin : (i : Int) < n := by omega
    have hin' : i < n := by omega
    have y2 : IntKind.wrap .i64 (256 * n8 (byAt b (i + 1))) = 256 * n8 (byAt b (i + 1)) := w64_of (by omega) (by omega)
    have z2 : IntKind.wrap .i64 (256 * n8 (byAt b (i + 1)) + n8 (byAt b (i + 2))) = 256 * n8 (byAt b (i + 1)) + n8 (byAt b (i + 2)) := w64_of (by omega) (by omega)
    obtain ⟨T2, h2⟩ : ∃ T2, T2 = 256 * n8 (byAt b (i + 1)) + n8 (byAt b (i + 2)) := ⟨_, rfl⟩
    rw [← h2] at z2
    have y3 : IntKind.wrap .i64 (256 * T2) = 256 * T2 := w64_of (by omega) (by omega)
    have z3 : IntKind.wrap .i64 (256 * T2 + n8 (byAt b (i + 3))) = 256 * T2 + n8 (byAt b (i + 3)) := w64_of (by omega) (by omega)
    obtain ⟨T3, h3⟩ : ∃ T3, T3 = 256 * T2 + n8 (byAt b (i + 3)) := ⟨_, rfl⟩
    rw [← h3] at z3
    have y4 : IntKind.wrap .i64 (256 * T3) = 256 * T3 := w64_of (by omega) (by omega)
    have z4 : IntKind.wrap .i64 (256 * T3 + n8 (byAt b (i + 4))) = 256 * T3 + n8 (byAt b (i + 4)) := w64_of (by omega) (by omega)
    obtain ⟨T4, h4⟩ : ∃ T4, T4 = 256 * T3 + n8 (byAt b (i + 4)) := ⟨_, rfl⟩
    rw [← h4] at z4
    have y5 : IntKind.wrap .i64 (256 * T4) = 256 * T4 := w64_of (by omega) (by omega)
    have z5 : IntKind.wrap .i64 (256 * T4 + n8 (byAt b (i + 5))) = 256 * T4 + n8 (byAt b (i + 5)) := w64_of (by omega) (by omega)
    obtain ⟨T5, h5⟩ : ∃ T5, T5 = 256 * T4 + n8 (byAt b (i + 5)) := ⟨_, rfl⟩
    rw [← h5] at z5
    rw [← h2, ← h3, ← h4, ← h5] at hp
    rw [hp] at htk
    have g1 : (q + 1 + 1) * 16 ≤ 140737488355328 := by omega
    have g2 : q + 1 + 1 ≤ 9223372036854775807 := by omega
    rcases q with _ | q
    · simp -dsimp [rdS]
      repeat' first
        | simp -dsimp [hin, hin']
        | (with_reducible refine ordI (by kernel_rfl) ?_)
      refine Ti.unroll hm 6 ?_
      repeat' first
        | simp -dsimp [wk0, wk1, wk2, wk3, wk4, wk5, wk6, ← h2, ← h3, ← h4, ← h5, wrap_n8, i0, i1, i2, i3, i4, i5, j1, j2, j3, j4, j5, j6, l1, l2, l3, l4, l5, m1, m2, m3, m4, m5, n1, n2, n3, n4, n5, y2, z2, y3, z3, y4, z4, y5, z5, hby, g1, g2]
        | (with_reducible refine ordI (by kernel_rfl) ?_)
      have hc : fltC ((readL b).take 1) = [vi (n8 (byAt b i)), vi T5] := by
        have := htk
        rw [Nat.zero_add] at this
        rw [this]; simp [fltC]
      refine ⟨by kernel_rfl, k - 1, by omega, Wk.some [1] [.cells 45 (fltC ((readL b).take 1))] [(6, vi (i + 6 : Nat)), (4, vi n), (0, .ro 1 (bys b)), (5, .sl 2 0 0 1)] rfl (by simp [hc]) (by simp) (by simp) (by simp) (by simp [rho]) (by simp)
        (Wk.now ⟨1, i + 6, by omega, by omega, rfl⟩)⟩
    · simp -dsimp [rdS]
      repeat' first
        | simp -dsimp [hin, hin']
        | (with_reducible refine ordI (by kernel_rfl) ?_)
      refine Ti.unroll hm 6 ?_
      repeat' first
        | simp -dsimp [wk0, wk1, wk2, wk3, wk4, wk5, wk6, ← h2, ← h3, ← h4, ← h5, wrap_n8, i0, i1, i2, i3, i4, i5, j1, j2, j3, j4, j5, j6, l1, l2, l3, l4, l5, m1, m2, m3, m4, m5, n1, n2, n3, n4, n5, y2, z2, y3, z3, y4, z4, y5, z5, hby, g1, g2]
        | (with_reducible refine ordI (by kernel_rfl) ?_)
      have hc : fltC ((readL b).take (q + 1)) ++ [vi (n8 (byAt b i)), vi T5] = fltC ((readL b).take (q + 2)) := by
        rw [htk, fltC_app]; rfl
      refine ⟨by kernel_rfl, ⟨by omega, by omega, by omega⟩, k - 1, by omega, Wk.some [2] [.cells 45 (fltC ((readL b).take (q + 2)))] [(6, vi (i + 6 : Nat)), (4, vi n), (0, .ro 1 (bys b)), (5, .sl 2 0 0 (q + 2))] rfl (by simp [hc]) (by simp) (by simp) (by simp) (by simp [rho]) (by simp)
        (Wk.now ⟨q + 2, i + 6, by omega, by omega, rfl⟩)⟩
end Go.Proofs.YtfhpojedoijghaaDoor
