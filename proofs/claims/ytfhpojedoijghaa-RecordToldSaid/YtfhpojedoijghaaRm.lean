/- Contracts of functions of the seat's program, and what follows of them: Rm. Conditions are in each statement. -/
import Derived.Test.YtfhpojedoijghaaRk
set_option linter.unusedSimpArgs false
set_option linter.unusedVariables false
namespace Go.Proofs.Ytfhpojedoijghaa
open Go Go.Proofs Go.Vm

theorem and_one (w : BitVec 16) (i : Nat) : (bits .and .u16 (n16 (w >>> i)) 1 == 1) = w.getLsbD i := by
  show (IntKind.wrap .u16 (((BitVec.ofInt 16 (n16 (w >>> i))) &&& 1#16).toNat : Int) == 1) = _
  rw [ofInt_n16, wrap16_nat]
  have h : BitVec.ofNat 16 ((w >>> i &&& 1#16).toNat) = w >>> i &&& 1#16 := (BitVec.ofNat_toNat ..).trans (BitVec.setWidth_eq _)
  rw [h, show (1 : Int) = n16 1#16 from rfl, n16_eq, Bool.eq_iff_iff]
  simp only [decide_eq_true_eq]
  constructor
  · intro h
    have := congrArg (fun v : BitVec 16 => v.getLsbD 0) h
    simpa using this
  · intro h
    apply BitVec.eq_of_getLsbD_eq
    intro j hj
    simp only [BitVec.getLsbD_and, BitVec.getLsbD_ushiftRight, BitVec.getLsbD_one]
    by_cases h0 : j = 0
    · subst h0; simp [h]
    · have : decide (j = 0) = false := by simpa using h0
      simp [h0]
theorem shr_bit {r : Nat} (h : r < 8) : (128 : Int) / 2 ^ min r IntKind.u8.bits = n8 (bitAt r) := by
  have : r = 0 ∨ r = 1 ∨ r = 2 ∨ r = 3 ∨ r = 4 ∨ r = 5 ∨ r = 6 ∨ r = 7 := by omega
  rcases this with rfl | rfl | rfl | rfl | rfl | rfl | rfl | rfl <;> decide
theorem told_len {b : List (BitVec 8)} {l : List Flt} (hr : rightB l = true) (hb : b = recR l) : 4 ≤ b.length ∧ b.length = 4 + 6 * nParts b ∧ crc b = 0#16 := by
  have h11 := right_len hr
  subst hb
  rw [nParts_rec (by omega), recR_length]
  exact ⟨by omega, rfl, (crc_side (bodyR l) (crc (bodyR l))).2 rfl⟩
theorem cut_err {b : List (BitVec 8)} {m : Nat} (h4 : 4 ≤ b.length) (hl : b.length = 4 + 6 * nParts b) (hm : m < b.length) : ∃ p, readR (b.take m) = .error p := by
  unfold readR
  by_cases h : m < 4
  · exact ⟨_, if_pos (.inl (by simp; omega))⟩
  · refine ⟨_, if_pos (.inr ?_)⟩
    have : nParts (b.take m) = nParts b := by
      unfold nParts byAt
      rw [List.getD_eq_getElem?_getD, List.getD_eq_getElem?_getD, List.getElem?_take_of_lt (by omega)]
    rw [this]; simp; omega
theorem more_err {b : List (BitVec 8)} {x : BitVec 8} (h4 : 4 ≤ b.length) (hl : b.length = 4 + 6 * nParts b) : ∃ p, readR (b ++ [x]) = .error p := by
  unfold readR
  refine ⟨_, if_pos (.inr ?_)⟩
  have : nParts (b ++ [x]) = nParts b := by
    unfold nParts byAt
    rw [List.getD_eq_getElem?_getD, List.getD_eq_getElem?_getD, List.getElem?_append_left (by omega)]
  rw [this]; simp; omega
theorem crc_err {c : List (BitVec 8)} (h : crc c ≠ 0#16) : ∃ p, readR c = .error p := by
  unfold readR
  by_cases h1 : c.length < 4 ∨ c.length ≠ 4 + 6 * nParts c
  · exact ⟨_, if_pos h1⟩
  · rw [if_neg h1]; exact ⟨_, if_pos h⟩
set_option maxRecDepth 100000 in
set_option maxHeartbeats 16000000 in
theorem law_RecordTold (l : List Flt) (at' by' cut : BitVec 16) (more : BitVec 8) (hz : l.length < top) :
    CallV Try.prog G0 4 [.ro 2 (flts l), b16 at', b16 by', b16 cut, b8 more] [] fun v _ => v = .c (.bool true) := by
  refine callV_ic hm (fn := Try.f4) rfl ic4_eq ic4_nm ic4_ok (by simp) ?_
  by_cases z1 : 30 < (l.length : Int)
  · repeat' first
      | simp -dsimp [ic4, z1]
      | (with_reducible refine (CallD.pure (ct_law03_awake) (by simp) ?_).callV)
      | exact exitV.now rfl
  have z1' : ¬ 30 < l.length := by omega
  cases rl : rightB l
  · have wa := ct_WriteBad l hz rl
    repeat' first
      | simp -dsimp [ic4, z1, z1']
      | (with_reducible refine (CallD.pure (ct_law03_awake) (by simp) ?_).callV)
      | (with_reducible refine (CallD.pure (wa) (by simp) ?_).callV)
      | exact exitV.now rfl
  have wa := ct_Write l hz rl
  have h11 := right_len rl
  obtain ⟨b, hb⟩ : ∃ b, b = recR l := ⟨_, rfl⟩
  obtain ⟨h4, hl, h0⟩ := told_len rl hb
  have blen : b.length ≤ 70 := by rw [hb, recR_length]; omega
  have rok : readR b = .ok l := by rw [hb]; exact read_rec rl
  rw [← hb] at wa
  clear hb
  have g1 : ¬ (b.length : Int) < 4 := by omega
  have g1' : ¬ b.length < 4 := by omega
  have hby : Try.prog.bytesOf 5 = 1 := by kernel_rfl
  have y1 : b.length ≤ 140737488355328 := by omega
  have y2 : b.length ≤ 9223372036854775807 := by omega
  have y3 : b.length + 1 ≤ 140737488355328 := by omega
  have y4 : b.length + 1 ≤ 9223372036854775807 := by omega
  have k1 : IntKind.wrap .i64 (8 * (b.length : Int)) = 8 * b.length := w64_of (by omega) (by omega)
  have k2 : (8 * (b.length : Int)) ≠ 0 := by omega
  have k2' : b.length ≠ 0 := by omega
  have bnil : b ≠ [] := fun e => by rw [e] at h4; simp at h4
  have ab := n16_bd at'
  obtain ⟨K, hK, hK2⟩ : ∃ K : Nat, (n16 at').tmod (8 * (b.length : Int)) = (K : Int) ∧ K < 8 * b.length := by
    have h1 := Int.tmod_nonneg (a := n16 at') (8 * (b.length : Int)) ab.1
    have h2 := Int.tmod_lt_of_pos (n16 at') (show (0 : Int) < 8 * b.length by omega)
    exact ⟨((n16 at').tmod (8 * (b.length : Int))).toNat, by omega, by omega⟩
  have cb := n16_bd cut
  obtain ⟨m, hmm, hm2⟩ : ∃ m : Nat, (n16 cut).tmod (b.length : Int) = (m : Int) ∧ m < b.length := by
    have h1 := Int.tmod_nonneg (a := n16 cut) (b.length : Int) cb.1
    have h2 := Int.tmod_lt_of_pos (n16 cut) (show (0 : Int) < b.length by omega)
    exact ⟨((n16 cut).tmod (b.length : Int)).toNat, by omega, by omega⟩
  repeat' first
    | simp -dsimp [ic4, z1, z1', g1, g1', hby, y1, y2, y3, y4, wrap_n16, k1, k2, k2', bnil, hK, bys_fills]
    | (with_reducible refine (CallD.pure (ct_law03_awake) (by simp) ?_).callV)
    | (with_reducible refine (CallD.pure (wa) (by simp) ?_).callV)
  obtain ⟨bw, hbw⟩ : ∃ f : Nat → Bool, f = fun i => by'.getLsbD i := ⟨_, rfl⟩
  refine Ti.loopW hm (fun k s => ∃ (i : Nat) (c : List (BitVec 8)), i + k = 16 ∧ K + i ≤ 8 * b.length ∧ c = flips bw K b i ∧ s = { t := [(16, vi i), (15, vb (anyB bw i)), (14, vi K), (13, .sl 1 0 0 b.length), (11, .ro 1 (bys b)), (2, b16 by'), (3, b16 cut), (4, b8 more)], d := [], h := [.cells 5 (bys c)] }) (k := 16) ?_ ?_
  · refine Wk.some [1] [.cells 5 (bys b)] [(16, vi (0 : Nat)), (15, vb false), (14, vi K), (13, .sl 1 0 0 b.length), (11, .ro 1 (bys b)), (2, b16 by'), (3, b16 cut), (4, b8 more)] rfl (by simp) (by simp) (by simp) (by simp) (by simp [rho]) (by simp) (Wk.now ⟨0, b, by omega, by omega, rfl, rfl⟩)
  rintro k s ⟨i, c, hi, hKi, hc, rfl⟩
  have clen : c.length = b.length := by rw [hc]; exact flips_length ..
  have w1 : IntKind.wrap .i64 ((K : Int) + i) = ((K + i : Nat) : Int) := by rw [w64_of (by omega) (by omega)]; omega
  simp -dsimp
  by_cases h16 : i < 16
  · have h16' : (i : Int) < 16 := by omega
    by_cases hKl : K + i < 8 * b.length
    · obtain ⟨p, hp⟩ : ∃ p, p = K + i := ⟨_, rfl⟩
      rw [← hp] at w1
      have pK : (p : Int) < 8 * (b.length : Int) := by omega
      obtain ⟨j, hj⟩ : ∃ j, j = p / 8 := ⟨_, rfl⟩
      obtain ⟨r, hr⟩ : ∃ r, r = p % 8 := ⟨_, rfl⟩
      have d1 : (p : Int).tdiv 8 = (j : Int) := by rw [Int.tdiv_eq_ediv_of_nonneg (by omega)]; omega
      have d2 : (p : Int).tmod 8 = (r : Int) := by rw [Int.tmod_eq_emod_of_nonneg (by omega)]; omega
      have d3 : IntKind.wrap .i64 (j : Int) = j := w64_of (by omega) (by omega)
      have jl : j < b.length := by omega
      have jl1 : j + 1 ≤ b.length := by omega
      have sb := shr_bit (r := r) (by omega)
      have sh := shr16 by' i (by omega)
      have ao := and_one by' i
      have wi := wq (q := i) (n := 16) h16 (by unfold top; omega)
      have hbi : bw i = by'.getLsbD i := by rw [hbw]
      cases hbit : by'.getLsbD i
      · rw [hbit] at ao hbi
        have e1 : flips bw K b (i + 1) = c := by rw [hc]; simp [flips, hbi]
        have e2 : anyB bw (i + 1) = anyB bw i := by simp [anyB, hbi]
        repeat' first
          | simp -dsimp [h16', k1, w1, pK, sh, ao, wi]
          | (with_reducible refine ordI (by kernel_rfl) ?_)
        exact ⟨k - 1, by omega, Wk.sub [(16, vi (i + 1 : Nat)), (15, vb (anyB bw i)), (14, vi K), (13, .sl 1 0 0 b.length), (11, .ro 1 (bys b)), (2, b16 by'), (3, b16 cut), (4, b8 more)] (by simp) (Wk.now ⟨i + 1, c, by omega, by omega, e1.symm, by rw [e2]⟩)⟩
      · rw [hbit] at ao hbi
        have e1 : flips bw K b (i + 1) = c.set j (byAt c j ^^^ bitAt r) := by
          rw [hj, hr, hp]; simp only [flips, hbi, if_true]; rw [← hc]; rfl
        have e2 : anyB bw (i + 1) = true := by simp [anyB, hbi]
        have e3 := bys_set c j (byAt c j ^^^ bitAt r)
        repeat' first
          | simp -dsimp [h16', k1, w1, pK, sh, ao, wi, d1, d2, d3, jl, jl1, clen, sb, xor8, e3]
          | (with_reducible refine ordI (by kernel_rfl) ?_)
        exact ⟨k - 1, by omega, Wk.sub [(16, vi (i + 1 : Nat)), (15, vb true), (14, vi K), (13, .sl 1 0 0 b.length), (11, .ro 1 (bys b)), (2, b16 by'), (3, b16 cut), (4, b8 more)] (by simp) (Wk.now ⟨i + 1, _, by omega, by omega, e1.symm, by rw [e2]⟩)⟩
    · have pK : ¬ (K : Int) + (i : Int) < 8 * (b.length : Int) := by omega
      have w2 : IntKind.wrap .i64 ((K : Int) + i) = (K : Int) + i := w64_of (by omega) (by omega)
      have rc : rows false 1 b.length (bys c) = bys c := by have := rows_bys c; rwa [clen] at this
      have rdc := ct_Read c (by unfold top; omega)
      have rdm := ct_Read (b.take m) (by simp; unfold top; omega)
      obtain ⟨pm, hpm⟩ := cut_err h4 hl hm2
      rw [hpm] at rdm
      have rdx := ct_Read (b ++ [more]) (by simp; unfold top; omega)
      obtain ⟨px, hpx⟩ := more_err (x := more) h4 hl
      rw [hpx] at rdx
      simp only [readV] at rdm rdx
      have bt : (bys b).take m = bys (b.take m) := bys_take b m
      have m1 : (m : Int) ≤ b.length := by omega
      have m2 : m ≤ b.length := by omega
      have f3 : bys b ++ [b8 more] = bys (b ++ [more]) := by rw [bys_app]; rfl
      have rx : rows false 1 (b.length + 1) (bys (b ++ [more])) = bys (b ++ [more]) := by have := rows_bys (b ++ [more]); simpa using this
      have lx : (b ++ [more]).length = b.length + 1 := by simp
      obtain ⟨M, hM⟩ : ∃ M, M = b.length + 1 := ⟨_, rfl⟩
      rw [← hM] at rx lx
      cases hany : anyB bw i
      · have hcb : c = b := by rw [hc]; exact flips_same hany
        rw [show readR c = .ok l by rw [hcb]; exact rok] at rdc
        simp only [readV] at rdc
        repeat' first
          | simp -dsimp [h16', k1, w2, pK, hany]
          | (with_reducible refine ordI (by kernel_rfl) ?_)
        refine CallV.freeze 0 5 (bys c) false (by simp) (by simp [clen]) ?_
        simp -dsimp [rc]
        refine (CallD.pure rdc (by simp) ?_).callV
        repeat' first
          | simp -dsimp [wrap_n16, hmm, k2', bnil, m1, m2, bt, hby, y1, y2, y3, y4, bys_fills, f3, ← hM]
          | (with_reducible refine (CallD.pure (rdm) (by simp) ?_).callV)
          | (with_reducible refine ordI (by kernel_rfl) ?_)
        refine ⟨⟨by omega, by omega⟩, ?_⟩
        refine CallV.freeze 4 5 (bys (b ++ [more])) false (by simp) (by simp [lx]) ?_
        simp -dsimp [rx]
        refine (CallD.pure rdx (by simp) ?_).callV
        repeat' first
          | simp -dsimp [hany]
          | (with_reducible refine ordI (by kernel_rfl) ?_)
          | exact exitV.now rfl
      · obtain ⟨pc, hpc⟩ := crc_err (c := c) (by rw [hc]; exact flips_told (by omega) hKi h0 hany)
        rw [hpc] at rdc
        simp only [readV] at rdc
        repeat' first
          | simp -dsimp [h16', k1, w2, pK, hany]
          | (with_reducible refine ordI (by kernel_rfl) ?_)
        refine CallV.freeze 0 5 (bys c) false (by simp) (by simp [clen]) ?_
        simp -dsimp [rc]
        refine (CallD.pure rdc (by simp) ?_).callV
        repeat' first
          | simp -dsimp [wrap_n16, hmm, k2', bnil, m1, m2, bt, hby, y1, y2, y3, y4, bys_fills, f3, ← hM]
          | (with_reducible refine (CallD.pure (rdm) (by simp) ?_).callV)
          | (with_reducible refine ordI (by kernel_rfl) ?_)
        refine ⟨⟨by omega, by omega⟩, ?_⟩
        refine CallV.freeze 4 5 (bys (b ++ [more])) false (by simp) (by simp [lx]) ?_
        simp -dsimp [rx]
        refine (CallD.pure rdx (by simp) ?_).callV
        repeat' first
          | simp -dsimp [hany]
          | (with_reducible refine ordI (by kernel_rfl) ?_)
          | exact exitV.now rfl
  · have h16' : ¬ (i : Int) < 16 := by omega
    have rc : rows false 1 b.length (bys c) = bys c := by have := rows_bys c; rwa [clen] at this
    have rdc := ct_Read c (by unfold top; omega)
    have rdm := ct_Read (b.take m) (by simp; unfold top; omega)
    obtain ⟨pm, hpm⟩ := cut_err h4 hl hm2
    rw [hpm] at rdm
    have rdx := ct_Read (b ++ [more]) (by simp; unfold top; omega)
    obtain ⟨px, hpx⟩ := more_err (x := more) h4 hl
    rw [hpx] at rdx
    simp only [readV] at rdm rdx
    have bt : (bys b).take m = bys (b.take m) := bys_take b m
    have m1 : (m : Int) ≤ b.length := by omega
    have m2 : m ≤ b.length := by omega
    have f3 : bys b ++ [b8 more] = bys (b ++ [more]) := by rw [bys_app]; rfl
    have rx : rows false 1 (b.length + 1) (bys (b ++ [more])) = bys (b ++ [more]) := by have := rows_bys (b ++ [more]); simpa using this
    have lx : (b ++ [more]).length = b.length + 1 := by simp
    obtain ⟨M, hM⟩ : ∃ M, M = b.length + 1 := ⟨_, rfl⟩
    rw [← hM] at rx lx
    cases hany : anyB bw i
    · have hcb : c = b := by rw [hc]; exact flips_same hany
      rw [show readR c = .ok l by rw [hcb]; exact rok] at rdc
      simp only [readV] at rdc
      repeat' first
        | simp -dsimp [h16', hany]
        | (with_reducible refine ordI (by kernel_rfl) ?_)
      refine CallV.freeze 0 5 (bys c) false (by simp) (by simp [clen]) ?_
      simp -dsimp [rc]
      refine (CallD.pure rdc (by simp) ?_).callV
      repeat' first
        | simp -dsimp [wrap_n16, hmm, k2', bnil, m1, m2, bt, hby, y1, y2, y3, y4, bys_fills, f3, ← hM]
        | (with_reducible refine (CallD.pure (rdm) (by simp) ?_).callV)
        | (with_reducible refine ordI (by kernel_rfl) ?_)
      refine ⟨⟨by omega, by omega⟩, ?_⟩
      refine CallV.freeze 4 5 (bys (b ++ [more])) false (by simp) (by simp [lx]) ?_
      simp -dsimp [rx]
      refine (CallD.pure rdx (by simp) ?_).callV
      repeat' first
        | simp -dsimp [hany]
        | (with_reducible refine ordI (by kernel_rfl) ?_)
        | exact exitV.now rfl
    · obtain ⟨pc, hpc⟩ := crc_err (c := c) (by rw [hc]; exact flips_told (by omega) hKi h0 hany)
      rw [hpc] at rdc
      simp only [readV] at rdc
      repeat' first
        | simp -dsimp [h16', hany]
        | (with_reducible refine ordI (by kernel_rfl) ?_)
      refine CallV.freeze 0 5 (bys c) false (by simp) (by simp [clen]) ?_
      simp -dsimp [rc]
      refine (CallD.pure rdc (by simp) ?_).callV
      repeat' first
        | simp -dsimp [wrap_n16, hmm, k2', bnil, m1, m2, bt, hby, y1, y2, y3, y4, bys_fills, f3, ← hM]
        | (with_reducible refine (CallD.pure (rdm) (by simp) ?_).callV)
        | (with_reducible refine ordI (by kernel_rfl) ?_)
      refine ⟨⟨by omega, by omega⟩, ?_⟩
      refine CallV.freeze 4 5 (bys (b ++ [more])) false (by simp) (by simp [lx]) ?_
      simp -dsimp [rx]
      refine (CallD.pure rdx (by simp) ?_).callV
      repeat' first
        | simp -dsimp [hany]
        | (with_reducible refine ordI (by kernel_rfl) ?_)
        | exact exitV.now rfl
end Go.Proofs.Ytfhpojedoijghaa
