/- Contracts of functions of the seat's program, and what follows of them: Yf. Conditions are in each statement. -/
import Derived.Test.YtfhpojedoijghaaDoorYe
set_option linter.unusedSimpArgs false
set_option linter.unusedVariables false
namespace Go.Proofs.YtfhpojedoijghaaDoor
open Go Go.Proofs Go.Vm

theorem readR_place {b : List (BitVec 8)} {p : List UInt8} (h : readR b = .error p) : p.isEmpty = false := by
  unfold readR at h
  repeat' split at h
  all_goals cases h
  all_goals rfl
theorem readR_short {b : List (BitVec 8)} {l : List Flt} (h : readR b = .ok l) : l.length ≤ 255 := by
  unfold readR at h
  repeat' split at h
  all_goals cases h
  rw [readL_length]; unfold nParts; have := (byAt b 1).isLt; omega
theorem ct_Same2n : Ct Tryd.prog G0 10 [.c (.slice none 0 0), .c (.slice none 0 0)] [] (vb true) [] := by
  refine callV_ic hm (fn := Tryd.f10) rfl ic10_eq ic10_nm ic10_ok (by simp) ?_
  simp -dsimp [ic10]
  refine Ti.unroll hm 1 ?_
  repeat' first
    | simp -dsimp
    | (with_reducible refine ordI (by kernel_rfl) ?_)
  exact exitV.cut (by simp) (by simp) (by simp) (by simp) ⟨rfl, by simp⟩
set_option maxRecDepth 100000 in
set_option maxHeartbeats 8000000 in
theorem law_RecordReads (b : List (BitVec 8)) (hb : b.length < top) :
    CallV Tryd.prog G0 3 [.ro 1 (bys b)] [] fun v _ => v = .c (.bool true) := by
  refine callV_ic hm (fn := Tryd.f3) rfl ic3_eq ic3_nm ic3_ok (by simp) ?_
  by_cases z1 : 300 < (b.length : Int)
  · repeat' first
      | simp -dsimp [ic3, z1]
      | (with_reducible refine (CallD.pure (ct_law03_awake) (by simp) ?_).callV)
      | exact exitV.now rfl
  have z1' : ¬ 300 < b.length := by omega
  have s1 := ct_Sum b hb
  have s2 := ct_ref_Sum b hb
  obtain ⟨c, hc⟩ : ∃ c, c = crc b := ⟨_, rfl⟩
  rw [← hc] at s1 s2
  have hby : Tryd.prog.bytesOf 5 = 1 := by kernel_rfl
  have y1 : b.length ≤ 140737488355328 := by omega
  have y2 : b.length ≤ 9223372036854775807 := by omega
  have y3 : b.length + 2 ≤ 140737488355328 := by omega
  have y4 : b.length + 2 ≤ 9223372036854775807 := by omega
  have f1 : bys b ++ [b8 (hi8 c), b8 (lo8 c)] = bys (b ++ [hi8 c, lo8 c]) := by rw [bys_app]; rfl
  have r1 := ct_Read b hb
  have r2 := ct_ref_Read b hb
  have r3 := ct_Read (b ++ [hi8 c, lo8 c]) (by simp; unfold top; omega)
  have r4 := ct_ref_Read (b ++ [hi8 c, lo8 c]) (by simp; unfold top; omega)
  have l1 : (b ++ [hi8 c, lo8 c]).length = b.length + 2 := by simp
  have rr := rows_bys (b ++ [hi8 c, lo8 c])
  rw [l1] at rr
  repeat' first
    | simp -dsimp [ic3, z1, z1', hby, y1, y2, y3, y4, wrap_hi, wrap_lo, wk8, mb8, f1, bys_fills]
    | (with_reducible refine (CallD.pure (ct_law03_awake) (by simp) ?_).callV)
    | (with_reducible refine (CallD.pure (s1) (by simp) ?_).callV)
    | (with_reducible refine (CallD.pure (s2) (by simp) ?_).callV)
    | (with_reducible refine ordI (by kernel_rfl) ?_)
  have p1 := @readR_place b
  have p2 := @readR_place (b ++ [hi8 c, lo8 c])
  have q1 := @readR_short b
  have q2 := @readR_short (b ++ [hi8 c, lo8 c])
  generalize b ++ [hi8 c, lo8 c] = x at *
  obtain ⟨M, hM⟩ : ∃ M, M = b.length + 2 := ⟨_, rfl⟩
  rw [← hM] at rr l1 ⊢
  refine Ti.wk (X := fun s2 => s2 = { t := [(37, .sl 1 0 0 2), (38, vi 2), (39, vi 0)], d := [], h := [.cells 22 [.ro 1 (bys b), .ro 1 (bys x)]] }) (Wk.freezeAt 3 4 5 22 (bys x) [.ro 1 (bys b), .sl 1 3 0 M] false (by decide) rfl rfl (by simp [l1])
    (Wk.some [4] [.cells 22 [.ro 1 (bys b), .ro 1 (bys x)]] [(37, .sl 1 0 0 2), (38, vi 2), (39, vi 0)] rfl (by simp [rr]) (by simp) (by simp) (by simp) (by simp [rho]) (by simp) (Wk.now rfl))) ?_
  rintro s2 rfl
  have same : ∀ l : List Flt, l.length ≤ 255 → Ct Tryd.prog G0 10 [.ro 2 (flts l), .ro 2 (flts l)] [] (vb true) [] := fun l h => by
    have := ct_Same2 l l (by unfold top; omega)
    simpa using this
  have bok : ∀ (p : List UInt8) (q : Nat → Prop), (badV p).ok q := fun p q => by simp
  refine Ti.unroll hm 3 ?_
  rcases h1 : readR b with p | l <;> rcases h2 : readR x with p' | l'
  · rw [h1] at r1 r2
    rw [h2] at r3 r4
    simp only [readV, readRV] at r1 r2 r3 r4
    have e1 := ct_from p (p1 h1)
    have k1 := bok p
    generalize badV p = v at *
    have e2 := ct_from p' (p2 h2)
    have k2 := bok p'
    generalize badV p' = v' at *
    repeat' first
      | simp -dsimp [wk1, wk2, k1, k2]
      | (with_reducible refine (CallD.pure r1 (by simp [k1, k2]) ?_).callV)
      | (with_reducible refine (CallD.pure r2 (by simp [k1, k2]) ?_).callV)
      | (with_reducible refine (CallD.pure r3 (by simp [k1, k2]) ?_).callV)
      | (with_reducible refine (CallD.pure r4 (by simp [k1, k2]) ?_).callV)
      | (with_reducible refine (CallD.pure ct_Same2n (by simp [k1, k2]) ?_).callV)
      | (with_reducible refine (CallD.pure e1 (by simp [k1, k2]) ?_).callV)
      | (with_reducible refine (CallD.pure ct_Same2n (by simp [k1, k2]) ?_).callV)
      | (with_reducible refine (CallD.pure e2 (by simp [k1, k2]) ?_).callV)
      | (with_reducible refine ordI (by kernel_rfl) ?_)
      | exact exitV.now rfl
  · rw [h1] at r1 r2
    rw [h2] at r3 r4
    simp only [readV, readRV] at r1 r2 r3 r4
    have e1 := ct_from p (p1 h1)
    have k1 := bok p
    generalize badV p = v at *
    have e2 := same l' (q2 h2)
    repeat' first
      | simp -dsimp [wk1, wk2, k1]
      | (with_reducible refine (CallD.pure r1 (by simp [k1]) ?_).callV)
      | (with_reducible refine (CallD.pure r2 (by simp [k1]) ?_).callV)
      | (with_reducible refine (CallD.pure r3 (by simp [k1]) ?_).callV)
      | (with_reducible refine (CallD.pure r4 (by simp [k1]) ?_).callV)
      | (with_reducible refine (CallD.pure ct_Same2n (by simp [k1]) ?_).callV)
      | (with_reducible refine (CallD.pure e1 (by simp [k1]) ?_).callV)
      | (with_reducible refine (CallD.pure e2 (by simp [k1]) ?_).callV)
      | (with_reducible refine (CallD.pure ct_from0 (by simp [k1]) ?_).callV)
      | (with_reducible refine ordI (by kernel_rfl) ?_)
      | exact exitV.now rfl
  · rw [h1] at r1 r2
    rw [h2] at r3 r4
    simp only [readV, readRV] at r1 r2 r3 r4
    have e1 := same l (q1 h1)
    have e2 := ct_from p' (p2 h2)
    have k2 := bok p'
    generalize badV p' = v' at *
    repeat' first
      | simp -dsimp [wk1, wk2, k2]
      | (with_reducible refine (CallD.pure r1 (by simp [k2]) ?_).callV)
      | (with_reducible refine (CallD.pure r2 (by simp [k2]) ?_).callV)
      | (with_reducible refine (CallD.pure r3 (by simp [k2]) ?_).callV)
      | (with_reducible refine (CallD.pure r4 (by simp [k2]) ?_).callV)
      | (with_reducible refine (CallD.pure e1 (by simp [k2]) ?_).callV)
      | (with_reducible refine (CallD.pure ct_from0 (by simp [k2]) ?_).callV)
      | (with_reducible refine (CallD.pure ct_Same2n (by simp [k2]) ?_).callV)
      | (with_reducible refine (CallD.pure e2 (by simp [k2]) ?_).callV)
      | (with_reducible refine ordI (by kernel_rfl) ?_)
      | exact exitV.now rfl
  · rw [h1] at r1 r2
    rw [h2] at r3 r4
    simp only [readV, readRV] at r1 r2 r3 r4
    have e1 := same l (q1 h1)
    have e2 := same l' (q2 h2)
    repeat' first
      | simp -dsimp [wk1, wk2]
      | (with_reducible refine (CallD.pure r1 (by simp) ?_).callV)
      | (with_reducible refine (CallD.pure r2 (by simp) ?_).callV)
      | (with_reducible refine (CallD.pure r3 (by simp) ?_).callV)
      | (with_reducible refine (CallD.pure r4 (by simp) ?_).callV)
      | (with_reducible refine (CallD.pure e1 (by simp) ?_).callV)
      | (with_reducible refine (CallD.pure ct_from0 (by simp) ?_).callV)
      | (with_reducible refine (CallD.pure e2 (by simp) ?_).callV)
      | (with_reducible refine (CallD.pure ct_from0 (by simp) ?_).callV)
      | (with_reducible refine ordI (by kernel_rfl) ?_)
      | exact exitV.now rfl
end Go.Proofs.YtfhpojedoijghaaDoor
