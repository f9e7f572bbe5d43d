/- Contracts of functions of the seat's program, and what follows of them: Rk. Conditions are in each statement. -/
import Derived.Test.YtfhpojedoijghaaRi
set_option linter.unusedSimpArgs false
set_option linter.unusedVariables false
namespace Go.Proofs.Ytfhpojedoijghaa
open Go Go.Proofs Go.Vm

theorem wrap_hi16 (c : BitVec 16) : IntKind.wrap .u8 (n16 (c >>> 8)) = n8 (hi8 c) := by
  rw [n8_byI]; congr 1
theorem n16_eq (a b : BitVec 16) : (n16 a == n16 b) = decide (a = b) := by
  by_cases h : a = b
  · subst h; simp
  · have : n16 a ≠ n16 b := fun e => h (BitVec.eq_of_toNat_eq (by unfold n16 at e; omega))
    simp [h, this]
theorem n16_eq0 (a : BitVec 16) : (n16 a == 0) = decide (a = 0#16) := n16_eq a 0#16
theorem bys_fills (b : List (BitVec 8)) : (∀ x : V, x ∈ bys b → x.fills = true) ↔ True := by
  refine iff_true_intro fun x hx => ?_
  simp only [bys, List.mem_map] at hx
  obtain ⟨y, _, rfl⟩ := hx
  rfl
set_option maxRecDepth 100000 in
set_option maxHeartbeats 8000000 in
theorem law_RecordSides (b : List (BitVec 8)) (w : BitVec 16) (hb : b.length < top) :
    CallV Try.prog G0 6 [.ro 1 (bys b), b16 w] [] fun v _ => v = .c (.bool true) := by
  refine callV_ic hm (fn := Try.f6) rfl ic6_eq ic6_nm ic6_ok (by simp) ?_
  by_cases z1 : 300 < (b.length : Int)
  · repeat' first
      | simp -dsimp [ic6, z1]
      | (with_reducible refine (CallD.pure (ct_law03_awake) (by simp) ?_).callV)
      | exact exitV.now rfl
  have z1' : ¬ 300 < b.length := by omega
  have s1 := ct_Sum b hb
  obtain ⟨c, hc⟩ : ∃ c, c = crc b := ⟨_, rfl⟩
  rw [← hc] at s1
  have hby : Try.prog.bytesOf 5 = 1 := by kernel_rfl
  have y1 : b.length ≤ 140737488355328 := by omega
  have y2 : b.length ≤ 9223372036854775807 := by omega
  have y3 : b.length + 2 ≤ 140737488355328 := by omega
  have y4 : b.length + 2 ≤ 9223372036854775807 := by omega
  have sh := shr16 w 8 (by omega)
  have f1 : bys b ++ [b8 (hi8 c), b8 (lo8 c)] = bys (b ++ [hi8 c, lo8 c]) := by rw [bys_app]; rfl
  have f2 : bys b ++ [b8 (lo8 (w >>> 8)), b8 (lo8 w)] = bys (b ++ [hi8 w, lo8 w]) := by rw [bys_app]; rfl
  repeat' first
    | simp -dsimp [ic6, z1, z1', hby, y1, y2, y3, y4, sh, wrap_hi, wrap_lo, wk8, mb8, f1, f2, bys_fills]
    | (with_reducible refine (CallD.pure (ct_law03_awake) (by simp) ?_).callV)
    | (with_reducible refine (CallD.pure (s1) (by simp) ?_).callV)
    | (with_reducible refine ordI (by kernel_rfl) ?_)
  have hs := crc_side b c
  have hw := crc_side b w
  rw [← hc] at hs hw
  have q1 := ct_Sum (b ++ [hi8 c, lo8 c]) (by simp; unfold top; omega)
  have q2 := ct_Sum (b ++ [hi8 w, lo8 w]) (by simp; unfold top; omega)
  have r1 := rows_bys (b ++ [hi8 c, lo8 c])
  have r2 := rows_bys (b ++ [hi8 w, lo8 w])
  have l1 : (b ++ [hi8 c, lo8 c]).length = b.length + 2 := by simp
  have l2 : (b ++ [hi8 w, lo8 w]).length = b.length + 2 := by simp
  have e0 : (n16 (crc (b ++ [hi8 c, lo8 c])) == 0) = true := by rw [n16_eq0, decide_eq_true (hs.2 rfl)]
  have e1 : (n16 (crc (b ++ [hi8 w, lo8 w])) == 0) = (n16 w == n16 c) := by
    rw [n16_eq0, n16_eq, Bool.eq_iff_iff]
    simp only [decide_eq_true_eq]
    rw [hw]; exact eq_comm
  rw [l1] at r1
  rw [l2] at r2
  generalize b ++ [hi8 c, lo8 c] = x at *
  generalize b ++ [hi8 w, lo8 w] = y at *
  obtain ⟨M, hM⟩ : ∃ M, M = b.length + 2 := ⟨_, rfl⟩
  rw [← hM] at r1 r2 l1 l2 ⊢
  refine CallV.freeze 3 5 (bys x) false (by simp) (by simp [l1]) ?_
  simp -dsimp [r1]
  refine (CallD.pure q1 (by simp) ?_).callV
  simp -dsimp [e0]
  refine CallV.freeze 7 5 (bys y) false (by simp) (by simp [l2]) ?_
  simp -dsimp [r2]
  refine (CallD.pure q2 (by simp) ?_).callV
  repeat' first
    | simp -dsimp [e0, e1, wrap_n16]
    | (with_reducible refine ordI (by kernel_rfl) ?_)
    | exact exitV.now rfl
end Go.Proofs.Ytfhpojedoijghaa
