/- Contracts of functions of the seat's program, and what follows of them: Kq. Conditions are in each statement. -/
import Derived.Test.YtfpkodajcpcabaaKp
set_option linter.unusedSimpArgs false
set_option linter.unusedVariables false
namespace Go.Proofs.Ytfpkodajcpcabaa
open Go Go.Proofs Go.Vm

theorem at_level {c : Cfg} (g : Good c) {i : Nat} (hi : i < c.lv.length) {x e : Int} (hx : x = at0 c.lv i + e) (he : max e (-e) ≤ c.near) :
    (senseR c x).z = decide (max e (-e) ≤ c.vane) ∧ (max e (-e) ≤ c.vane → (senseR c x).n = i ∧ (senseR c x).low = decide (e < 0) ∧ (senseR c x).deep = decide (e < -c.creep) ∧ (senseR c x).high = decide (c.level < e)) ∧
    (zoneR c x).2 = decide (max e (-e) ≤ c.half) ∧ (max e (-e) ≤ c.half → (zoneR c x).1 = i) := by
  have hb := lv_bd g hi
  have q := nums_of g
  have q1 := q.lev; have q2 := q.cr; have q3 := q.va; have q4 := q.ha; have q5 := q.ne; have q6 := q.fh; have q7 := q.ne2
  obtain ⟨n, d, A⟩ := at_of g (x := x) (by omega) (by omega)
  have hn : n = i := by
    rw [A.hn]
    refine nearR_is g (by omega) (by omega) hi ?_
    unfold ab; omega
  subst hn
  have hd : d = e := by rw [A.hd]; omega
  subst hd
  rw [A.hz, A.fn, A.low, A.deep, A.high, A.zone]
  refine ⟨rfl, fun h => ?_, ?_, fun h => ?_⟩
  · simp [h]
  · by_cases h : c.half < max d (-d)
    · rw [if_pos h]; simp; omega
    · rw [if_neg h]; simp; omega
  · rw [if_neg (by omega)]

set_option maxHeartbeats 4000000 in
set_option maxRecDepth 100000 in
theorem law_ShaftLevels (c : Cfg) (w off : Int) (hb : c.lv.length < top) (ho : c.op.length < top) (hw1 : 0 ≤ w) (hw2 : w ≤ 255) (ho1 : -9223372036854775808 ≤ off) (ho2 : off ≤ 9223372036854775807) : CallV Try.prog G0 6 [c.enc, .c (.int .u8 w), vi off] [] fun v _ => v = .c (.bool true) := by
  refine callV_ic hm (fn := Try.f6) rfl ic6_eq ic6_nm ic6_ok (by simp) ?_
  cases hf : fineB c 0
  · repeat' first
      | simp -dsimp [ic6, hf]
      | (with_reducible refine (CallD.pure ct_law06_awake (by simp) ?_).callV)
      | (with_reducible refine (CallD.pure (ct_law06_fine _ _ ho) (by simp) ?_).callV)
      | exact exitV.now rfl
  obtain ⟨g, _, _⟩ := fineB_good hf
  have hp : 0 < c.lv.length := by have := g.h2; omega
  have hl0 : (c.lv.length : Int) ≠ 0 := by omega
  obtain ⟨i, hi⟩ : ∃ i : Nat, i = w.toNat % c.lv.length := ⟨_, rfl⟩
  have hil : i < c.lv.length := by rw [hi]; exact Nat.mod_lt _ hp
  have hmod : w.tmod (c.lv.length : Int) = (i : Int) := by
    rw [Int.tmod_eq_emod_of_nonneg hw1, hi, Int.natCast_emod, Int.toNat_of_nonneg hw1]
  have hnil : c.lv ≠ [] := fun h => by rw [h] at hp; simp at hp
  have c1 : IntKind.wrap .i64 w = w := w64_of (by omega) (by omega)
  have c2 : IntKind.wrap .i64 (i : Int) = (i : Int) := w64_of (by omega) (by have := g.h16; omega)
  have q := nums_of g
  have q1 := q.lev; have q2 := q.cr; have q3 := q.va; have q4 := q.ha; have q5 := q.ne; have q6 := q.fh; have q7 := q.ne2
  have hlb := lv_bd g hil
  have v1 : IntKind.wrap .i64 (c.vane + 1) = c.vane + 1 := w64_of (by omega) (by omega)
  have v0 : c.vane + 1 ≠ 0 := by omega
  obtain ⟨d, hd⟩ : ∃ d, d = off.tmod (c.vane + 1) := ⟨_, rfl⟩
  have d1 : d < c.vane + 1 := by rw [hd]; exact Int.tmod_lt_of_pos _ (by omega)
  have d2 : -(c.vane + 1) < d := by rw [hd]; exact Int.lt_tmod_of_pos _ (by omega)
  have c3 : IntKind.wrap .i64 d = d := w64_of (by omega) (by omega)
  obtain ⟨l, hl⟩ : ∃ l, l = at0 c.lv i := ⟨_, rfl⟩
  have w1 : IntKind.wrap .i64 (l + d) = l + d := w64_of (by omega) (by omega)
  have w2 : IntKind.wrap .i64 (l + c.half) = l + c.half := w64_of (by omega) (by omega)
  have w3 : IntKind.wrap .i64 (l + c.half + 1) = l + c.half + 1 := w64_of (by omega) (by omega)
  have w4 : IntKind.wrap .i64 (l - c.half) = l - c.half := w64_of (by omega) (by omega)
  have w5 : IntKind.wrap .i64 (l - c.half - 1) = l - c.half - 1 := w64_of (by omega) (by omega)
  have w6 : IntKind.wrap .i64 (l + c.vane) = l + c.vane := w64_of (by omega) (by omega)
  have w7 : IntKind.wrap .i64 (l + c.vane + 1) = l + c.vane + 1 := w64_of (by omega) (by omega)
  have w8 : IntKind.wrap .i64 (l - c.vane) = l - c.vane := w64_of (by omega) (by omega)
  have w9 : IntKind.wrap .i64 (l - c.vane - 1) = l - c.vane - 1 := w64_of (by omega) (by omega)
  have w10 : IntKind.wrap .i64 (-c.creep) = -c.creep := w64_of (by omega) (by omega)
  obtain ⟨a1, a2, _, _⟩ := at_level g hil (x := l + d) (e := d) (by omega) (by omega)
  obtain ⟨a3, a4, a5, a6⟩ := a2 (by omega)
  obtain ⟨_, _, b1, b2⟩ := at_level g hil (x := l + c.half) (e := c.half) (by omega) (by omega)
  have b2 := b2 (by omega)
  obtain ⟨_, _, b3, _⟩ := at_level g hil (x := l + c.half + 1) (e := c.half + 1) (by omega) (by omega)
  obtain ⟨_, _, b4, _⟩ := at_level g hil (x := l - c.half - 1) (e := -c.half - 1) (by omega) (by omega)
  obtain ⟨b5, _, _, _⟩ := at_level g hil (x := l + c.vane + 1) (e := c.vane + 1) (by omega) (by omega)
  obtain ⟨b6, _, _, _⟩ := at_level g hil (x := l - c.vane - 1) (e := -c.vane - 1) (by omega) (by omega)
  have a1 : (senseR c (l + d)).z = true := by rw [a1]; simp; omega
  have b1 : (zoneR c (l + c.half)).2 = true := by rw [b1]; simp; omega
  have b3 : (zoneR c (l + c.half + 1)).2 = false := by rw [b3]; simp; omega
  have b4 : (zoneR c (l - c.half - 1)).2 = false := by rw [b4]; simp; omega
  have b5 : (senseR c (l + c.vane + 1)).z = false := by rw [b5]; simp; omega
  have b6 : (senseR c (l - c.vane - 1)).z = false := by rw [b6]; simp; omega
  have e1 := sense_eq (c := c) (l + d) hp
  have e2 := zone_eq (c := c) (l + c.half) hp
  have e3 := zone_eq (c := c) (l + c.half + 1) hp
  have e4 := zone_eq (c := c) (l - c.half - 1) hp
  have e5 := sense_eq (c := c) (l + c.vane + 1) hp
  have e6 := sense_eq (c := c) (l - c.vane - 1) hp
  simp -dsimp [ic6]
  repeat' first
    | simp -dsimp [hf, hnil, c1, c2, c3, hmod, hl0, hil, ← hd, v0, v1, ← hl, w1, w2, w3, w4, w5, w6, w7, w8, w9, w10, e1, e2, e3, e4, e5, e6, a1, a3, a4, a5, a6, b1, b2, b3, b4, b5, b6, Fr.cells]
    | with_reducible refine brV.intro (fun h => ?_) (fun h => ?_)
    | (with_reducible refine (CallD.pure ct_law06_awake (by simp) ?_).callV)
    | (with_reducible refine (CallD.pure (ct_law06_fine _ _ ho) (by simp) ?_).callV)
    | (with_reducible refine (CallD.pure (ct_shaft_Zone _ _ hb) (by simp) ?_).callV)
    | (with_reducible refine (CallD.pure (ct_shaft_Nearest _ _ hb) (by simp) ?_).callV)
    | (with_reducible refine (CallD.pure (ct_shaft_Sense _ _ hb hp) (by simp) ?_).callV)
    | (with_reducible refine CallD.pure (ct_shaft_Zone _ _ hb) (by simp) ?_)
    | (with_reducible refine CallD.pure (ct_shaft_Nearest _ _ hb) (by simp) ?_)
    | (with_reducible refine CallD.pure (ct_shaft_Sense _ _ hb hp) (by simp) ?_)
    | (with_reducible refine ordI (by kernel_rfl) ?_)
    | (refine exitV.now ?_; simp; done)

end Go.Proofs.Ytfpkodajcpcabaa
