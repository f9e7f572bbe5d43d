/- Contracts of functions of the seat's program, and what follows of them: Kp. Conditions are in each statement. -/
import Derived.Test.YtfpkodajcpcabaaKo
set_option linter.unusedSimpArgs false
set_option linter.unusedVariables false
namespace Go.Proofs.Ytfpkodajcpcabaa
open Go Go.Proofs Go.Vm

theorem mid_bd {a b p : Int} (h0 : 0 ≤ p) (h1 : p ≤ 100) : min a b ≤ a + ((b - a) * p).tdiv 100 ∧ a + ((b - a) * p).tdiv 100 ≤ max a b := by
  rcases Int.le_total a b with h | h
  · have p1 : 0 ≤ (b - a) * p := Int.mul_nonneg (by omega) h0
    have p2 : (b - a) * p ≤ (b - a) * 100 := Int.mul_le_mul_of_nonneg_left h1 (by omega)
    rw [Int.tdiv_eq_ediv_of_nonneg p1]
    omega
  · have p1 : 0 ≤ (a - b) * p := Int.mul_nonneg (by omega) h0
    have p2 : (a - b) * p ≤ (a - b) * 100 := Int.mul_le_mul_of_nonneg_left h1 (by omega)
    have e : (b - a) * p = -((a - b) * p) := by rw [← Int.neg_mul]; congr 1; omega
    rw [e, Int.neg_tdiv, Int.tdiv_eq_ediv_of_nonneg p1]
    omega
theorem whole {c : Cfg} (g : Good c) {a b m : Int} (a1 : -2147483648 ≤ a) (a2 : a ≤ 2147483648) (b1 : -2147483648 ≤ b) (b2 : b ≤ 2147483648) (m1 : min a b ≤ m) (m2 : m ≤ max a b) :
    ((senseR c a).z = true → (senseR c b).z = true → (senseR c a).n = (senseR c b).n → (senseR c m).z = true ∧ (senseR c m).n = (senseR c a).n) ∧
    ((senseR c a).near = true → (senseR c b).near = true → nearR c.lv a c.lv.length = nearR c.lv b c.lv.length → (senseR c m).near = true ∧ nearR c.lv m c.lv.length = nearR c.lv a c.lv.length) := by
  obtain ⟨n, d, A⟩ := at_of g (x := a) (by omega) (by omega)
  obtain ⟨n', d', B⟩ := at_of g (x := b) (by omega) (by omega)
  obtain ⟨n2, d2, M⟩ := at_of g (x := m) (by omega) (by omega)
  have q := nums_of g
  have q1 := q.lev; have q2 := q.cr; have q3 := q.va; have q4 := q.ha; have q5 := q.ne; have q6 := q.fh
  have da := A.hd; have db := B.hd; have dm := M.hd
  have key : n = n' → max d (-d) ≤ c.near → max d' (-d') ≤ c.near → n2 = n := fun e h k => by
    subst e
    rw [M.hn]
    refine nearR_is g (by omega) (by omega) A.lt ?_
    unfold ab; omega
  rw [A.hz, B.hz, M.hz, A.fn, B.fn, M.fn, A.near, B.near, M.near, ← A.hn, ← B.hn, ← M.hn]
  refine ⟨fun h k e => ?_, fun h k e => ?_⟩
  · simp only [decide_eq_true_eq] at h k
    rw [if_pos h, if_pos k] at e
    have e' : n = n' := by omega
    have := key e' (by omega) (by omega)
    subst e'; subst this
    rw [if_pos (by omega), if_pos h]
    simp; omega
  · simp only [decide_eq_true_eq] at h k
    have := key e h k
    subst e; subst this
    simp; omega

set_option maxHeartbeats 4000000 in
set_option maxRecDepth 100000 in
theorem law_ShaftWhole (c : Cfg) (a b p : Int) (hb : c.lv.length < top) (ho : c.op.length < top) : CallV Try.prog G0 8 [c.enc, vi a, vi b, vi p] [] fun v _ => v = .c (.bool true) := by
  refine callV_ic hm (fn := Try.f8) rfl ic8_eq ic8_nm ic8_ok (by simp) ?_
  cases hfa : fineB c a
  · repeat' first
      | simp -dsimp [ic8, hfa]
      | (with_reducible refine (CallD.pure ct_law06_awake (by simp) ?_).callV)
      | (with_reducible refine (CallD.pure (ct_law06_fine _ _ ho) (by simp) ?_).callV)
      | exact exitV.now rfl
  cases hfb : fineB c b
  · repeat' first
      | simp -dsimp [ic8, hfa, hfb]
      | (with_reducible refine (CallD.pure ct_law06_awake (by simp) ?_).callV)
      | (with_reducible refine (CallD.pure (ct_law06_fine _ _ ho) (by simp) ?_).callV)
      | exact exitV.now rfl
  by_cases hp0 : p < 0
  · repeat' first
      | simp -dsimp [ic8, hfa, hfb, hp0]
      | (with_reducible refine (CallD.pure ct_law06_awake (by simp) ?_).callV)
      | (with_reducible refine (CallD.pure (ct_law06_fine _ _ ho) (by simp) ?_).callV)
      | exact exitV.now rfl
  by_cases hp1 : 100 < p
  · repeat' first
      | simp -dsimp [ic8, hfa, hfb, hp0, hp1]
      | (with_reducible refine (CallD.pure ct_law06_awake (by simp) ?_).callV)
      | (with_reducible refine (CallD.pure (ct_law06_fine _ _ ho) (by simp) ?_).callV)
      | exact exitV.now rfl
  obtain ⟨g, ha1, ha2⟩ := fineB_good hfa
  obtain ⟨_, hb1, hb2⟩ := fineB_good hfb
  have hp : 0 < c.lv.length := by have := g.h2; omega
  obtain ⟨m1, m2⟩ := mid_bd (a := a) (b := b) (p := p) (by omega) (by omega)
  have q1 : -429496729600 ≤ (b - a) * p ∧ (b - a) * p ≤ 429496729600 := by
    have u1 : (b - a) * p ≤ 4294967296 * 100 := by
      have := Int.mul_le_mul_of_nonneg_right (a := b - a) (b := 4294967296) (c := p) (by omega) (by omega)
      omega
    have u2 : -4294967296 * 100 ≤ (b - a) * p := by
      have := Int.mul_le_mul_of_nonneg_right (a := -4294967296) (b := b - a) (c := p) (by omega) (by omega)
      omega
    omega
  have hw1 : IntKind.wrap .i64 (b - a) = b - a := w64_of (by omega) (by omega)
  have hw2 : IntKind.wrap .i64 ((b - a) * p) = (b - a) * p := w64_of (by omega) (by omega)
  have hw3 : IntKind.wrap .i64 (a + ((b - a) * p).tdiv 100) = a + ((b - a) * p).tdiv 100 := w64_of (by omega) (by omega)
  have hw4 : IntKind.wrap .i64 (((b - a) * p).tdiv 100) = ((b - a) * p).tdiv 100 := w64_of (by omega) (by omega)
  obtain ⟨w1, w2⟩ := whole g ha1 ha2 hb1 hb2 m1 m2
  have w2' : (senseR c a).near = true → (senseR c b).near = true → ((nearR c.lv a c.lv.length : Int) == (nearR c.lv b c.lv.length : Int)) = true → (senseR c (a + ((b - a) * p).tdiv 100)).near = true ∧ ((nearR c.lv (a + ((b - a) * p).tdiv 100) c.lv.length : Int) == (nearR c.lv a c.lv.length : Int)) = true := fun h k e => by
    simp only [beq_iff_eq] at e ⊢
    obtain ⟨q1, q2⟩ := w2 h k (by omega)
    exact ⟨q1, by omega⟩
  clear w2
  generalize hmid : a + ((b - a) * p).tdiv 100 = mid at *
  have ea := (near_eq c.lv a c.lv.length hp).1
  have eb := (near_eq c.lv b c.lv.length hp).1
  have em := (near_eq c.lv mid c.lv.length hp).1
  have ea2 := sense_eq (c := c) a hp
  have eb2 := sense_eq (c := c) b hp
  have em2 := sense_eq (c := c) mid hp
  simp -dsimp [ic8]
  repeat' first
    | simp -dsimp [hfa, hfb, hp0, hp1, hw1, hw2, hw4, hmid, hw3, ea, eb, em, ea2, eb2, em2, Fr.cells, *]
    | with_reducible refine brV.intro (fun h => ?_) (fun h => ?_)
    | (with_reducible refine (CallD.pure ct_law06_awake (by simp) ?_).callV)
    | (with_reducible refine (CallD.pure (ct_law06_fine _ _ ho) (by simp) ?_).callV)
    | (with_reducible refine (CallD.pure (ct_shaft_Zone _ _ hb) (by simp) ?_).callV)
    | (with_reducible refine (CallD.pure (ct_shaft_Nearest _ _ hb) (by simp) ?_).callV)
    | (with_reducible refine (CallD.pure (ct_shaft_Sense _ _ hb hp) (by simp) ?_).callV)
    | (with_reducible refine CallD.pure (ct_shaft_Zone _ _ hb) (by simp) ?_)
    | (with_reducible refine CallD.pure (ct_shaft_Nearest _ _ hb) (by simp) ?_)
    | (with_reducible refine CallD.pure (ct_shaft_Sense _ _ hb hp) (by simp) ?_)
    | (with_reducible refine ordI (by kernel_rfl) ?_)
    | (refine exitV.now ?_; clear q1 m1 m2 hw1 hw2 hw3 hw4 hfa hfb; simp_all; done)

end Go.Proofs.Ytfpkodajcpcabaa
