/- Contracts of functions of the seat's program, and what follows of them: Rl. Conditions are in each statement. -/
import Derived.Test.YtfhpojedoijghaaRi
set_option linter.unusedSimpArgs false
set_option linter.unusedVariables false
namespace Go.Proofs.Ytfhpojedoijghaa
open Go Go.Proofs Go.Vm

set_option maxRecDepth 100000 in
theorem law_RecordUnlike (a b : List Flt) (ha : a.length < top) (hb : b.length < top) :
    CallV Try.prog G0 7 [.ro 2 (flts a), .ro 2 (flts b)] [] fun v _ => v = .c (.bool true) := by
  refine callV_ic hm (fn := Try.f7) rfl ic7_eq ic7_nm ic7_ok (by simp) ?_
  by_cases z1 : 30 < (a.length : Int)
  · repeat' first
      | simp -dsimp [ic7, z1]
      | (with_reducible refine (CallD.pure (ct_law03_awake) (by simp) ?_).callV)
      | exact exitV.now rfl
  by_cases z2 : 30 < (b.length : Int)
  · repeat' first
      | simp -dsimp [ic7, z1, z2]
      | (with_reducible refine (CallD.pure (ct_law03_awake) (by simp) ?_).callV)
      | exact exitV.now rfl
  have z1' : ¬ 30 < a.length := by omega
  have z2' : ¬ 30 < b.length := by omega
  cases ra : rightB a
  · have wa := ct_WriteBad a ha ra
    cases rb : rightB b
    · have wb := ct_WriteBad b hb rb
      repeat' first
        | simp -dsimp [ic7, z1, z2, z1', z2']
        | (with_reducible refine (CallD.pure (ct_law03_awake) (by simp) ?_).callV)
        | (with_reducible refine (CallD.pure (wa) (by simp) ?_).callV)
        | (with_reducible refine (CallD.pure (wb) (by simp) ?_).callV)
        | exact exitV.now rfl
    · have wb := ct_Write b hb rb
      repeat' first
        | simp -dsimp [ic7, z1, z2, z1', z2']
        | (with_reducible refine (CallD.pure (ct_law03_awake) (by simp) ?_).callV)
        | (with_reducible refine (CallD.pure (wa) (by simp) ?_).callV)
        | (with_reducible refine (CallD.pure (wb) (by simp) ?_).callV)
        | exact exitV.now rfl
  · have wa := ct_Write a ha ra
    cases rb : rightB b
    · have wb := ct_WriteBad b hb rb
      repeat' first
        | simp -dsimp [ic7, z1, z2, z1', z2']
        | (with_reducible refine (CallD.pure (ct_law03_awake) (by simp) ?_).callV)
        | (with_reducible refine (CallD.pure (wa) (by simp) ?_).callV)
        | (with_reducible refine (CallD.pure (wb) (by simp) ?_).callV)
        | exact exitV.now rfl
    · have wb := ct_Write b hb rb
      have s1 := ct_Same3 (recR a) (recR b) (by rw [recR_length]; unfold top; omega)
      have s2 := ct_Same2 a b ha
      have e : decide (recR a = recR b) = decide (a = b) := by
        rw [Bool.eq_iff_iff]; simp only [decide_eq_true_eq]
        exact ⟨rec_inj ra rb, fun h => by rw [h]⟩
      rw [e] at s1
      generalize decide (a = b) = t at *
      repeat' first
        | simp -dsimp [ic7, z1, z2, z1', z2']
        | (with_reducible refine (CallD.pure (ct_law03_awake) (by simp) ?_).callV)
        | (with_reducible refine (CallD.pure (wa) (by simp) ?_).callV)
        | (with_reducible refine (CallD.pure (wb) (by simp) ?_).callV)
        | (with_reducible refine (CallD.pure (s1) (by simp) ?_).callV)
        | (with_reducible refine (CallD.pure (s2) (by simp) ?_).callV)
        | exact exitV.now rfl
set_option maxRecDepth 100000 in
theorem law_RecordBack (l : List Flt) (b : List (BitVec 8)) (hl : l.length < top) (hb : b.length < top) :
    CallV Try.prog G0 3 [.ro 2 (flts l), .ro 1 (bys b)] [] fun v _ => v = .c (.bool true) := by
  refine callV_ic hm (fn := Try.f3) rfl ic3_eq ic3_nm ic3_ok (by simp) ?_
  by_cases z1 : 30 < (l.length : Int)
  · repeat' first
      | simp -dsimp [ic3, z1]
      | (with_reducible refine (CallD.pure (ct_law03_awake) (by simp) ?_).callV)
      | exact exitV.now rfl
  by_cases z2 : 300 < (b.length : Int)
  · repeat' first
      | simp -dsimp [ic3, z1, z2]
      | (with_reducible refine (CallD.pure (ct_law03_awake) (by simp) ?_).callV)
      | exact exitV.now rfl
  have z1' : ¬ 30 < l.length := by omega
  have z2' : ¬ 300 < b.length := by omega
  have rd := ct_Read b hb
  cases rl : rightB l
  · have wa := ct_WriteBad l hl rl
    cases hr : readR b with
    | error p =>
      rw [hr] at rd
      simp only [readV] at rd
      repeat' first
        | simp -dsimp [ic3, z1, z2, z1', z2']
        | (with_reducible refine (CallD.pure (ct_law03_awake) (by simp) ?_).callV)
        | (with_reducible refine (CallD.pure (wa) (by simp) ?_).callV)
        | (with_reducible refine (CallD.pure (rd) (by simp) ?_).callV)
        | exact exitV.now rfl
    | ok m =>
      obtain ⟨e1, e2⟩ := rec_read hr
      have hm : m.length < top := by have := right_len e2; unfold top; omega
      have w2 := ct_Write m hm e2
      rw [e1] at w2
      have s1 := ct_Same3 b b hb
      rw [decide_eq_true rfl] at s1
      rw [hr] at rd
      simp only [readV] at rd
      repeat' first
        | simp -dsimp [ic3, z1, z2, z1', z2']
        | (with_reducible refine (CallD.pure (ct_law03_awake) (by simp) ?_).callV)
        | (with_reducible refine (CallD.pure (wa) (by simp) ?_).callV)
        | (with_reducible refine (CallD.pure (rd) (by simp) ?_).callV)
        | (with_reducible refine (CallD.pure (w2) (by simp) ?_).callV)
        | (with_reducible refine (CallD.pure (s1) (by simp) ?_).callV)
        | exact exitV.now rfl
  · have wa := ct_Write l hl rl
    have h11 := right_len rl
    have r1 := ct_Read (recR l) (by rw [recR_length]; unfold top; omega)
    rw [read_rec rl] at r1
    simp only [readV] at r1
    have s2 := ct_Same2 l l hl
    rw [decide_eq_true rfl] at s2
    have len : (recR l).length = 4 + 6 * l.length := recR_length l
    have k1 : IntKind.wrap .i64 (6 * (l.length : Int)) = 6 * l.length := w64_of (by omega) (by omega)
    have k2 : IntKind.wrap .i64 (4 + 6 * (l.length : Int)) = 4 + 6 * l.length := w64_of (by omega) (by omega)
    generalize recR l = x at *
    have k3 : ((x.length : Int) != 4 + 6 * (l.length : Int)) = false := by simp; omega
    cases hr : readR b with
    | error p =>
      rw [hr] at rd
      simp only [readV] at rd
      repeat' first
        | simp -dsimp [ic3, z1, z2, z1', z2', k1, k2, k3]
        | (with_reducible refine (CallD.pure (ct_law03_awake) (by simp) ?_).callV)
        | (with_reducible refine (CallD.pure (wa) (by simp) ?_).callV)
        | (with_reducible refine (CallD.pure (r1) (by simp) ?_).callV)
        | (with_reducible refine (CallD.pure (s2) (by simp) ?_).callV)
        | (with_reducible refine (CallD.pure (rd) (by simp) ?_).callV)
        | exact exitV.now rfl
    | ok m =>
      obtain ⟨e1, e2⟩ := rec_read hr
      have hm : m.length < top := by have := right_len e2; unfold top; omega
      have w2 := ct_Write m hm e2
      rw [e1] at w2
      have s1 := ct_Same3 b b hb
      rw [decide_eq_true rfl] at s1
      rw [hr] at rd
      simp only [readV] at rd
      repeat' first
        | simp -dsimp [ic3, z1, z2, z1', z2', k1, k2, k3]
        | (with_reducible refine (CallD.pure (ct_law03_awake) (by simp) ?_).callV)
        | (with_reducible refine (CallD.pure (wa) (by simp) ?_).callV)
        | (with_reducible refine (CallD.pure (r1) (by simp) ?_).callV)
        | (with_reducible refine (CallD.pure (s2) (by simp) ?_).callV)
        | (with_reducible refine (CallD.pure (rd) (by simp) ?_).callV)
        | (with_reducible refine (CallD.pure (w2) (by simp) ?_).callV)
        | (with_reducible refine (CallD.pure (s1) (by simp) ?_).callV)
        | exact exitV.now rfl
end Go.Proofs.Ytfhpojedoijghaa
