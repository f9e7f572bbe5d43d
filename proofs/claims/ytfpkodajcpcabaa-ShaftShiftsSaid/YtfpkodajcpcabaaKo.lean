/- Contracts of functions of the seat's program, and what follows of them: Ko. Conditions are in each statement. -/
import Derived.Test.YtfpkodajcpcabaaKn
set_option linter.unusedSimpArgs false
set_option linter.unusedVariables false
namespace Go.Proofs.Ytfpkodajcpcabaa
open Go Go.Proofs Go.Vm

theorem steps {c : Cfg} (g : Good c) {x : Int} (h1 : -2147483648 ≤ x) (h2 : x ≤ 2147483648) :
    ((senseR c x).z = true → (senseR c (x + 1)).z = true → (senseR c x).n = (senseR c (x + 1)).n) ∧ ((zoneR c x).2 = true → (zoneR c (x + 1)).2 = true → (zoneR c x).1 = (zoneR c (x + 1)).1) ∧
    ((senseR c (x + 1)).bot = true → (senseR c x).bot = true) ∧ ((senseR c x).top = true → (senseR c (x + 1)).top = true) ∧ nearR c.lv x c.lv.length ≤ nearR c.lv (x + 1) c.lv.length := by
  have hm := nearR_mono g (x := x) (y := x + 1) (by omega) (by omega) (by omega)
  obtain ⟨n, d, a⟩ := at_of g (x := x) (by omega) (by omega)
  obtain ⟨n', d', b⟩ := at_of g (x := x + 1) (by omega) (by omega)
  have m := nums_of g
  have m1 := m.lev; have m2 := m.cr; have m3 := m.va; have m4 := m.ha; have m5 := m.ne; have m6 := m.fh
  have same : max d (-d) ≤ c.half → n' = n := fun h => by
    rw [b.hn]
    refine nearR_is g (by omega) (by omega) a.lt ?_
    have := a.hd
    unfold ab; omega
  rw [a.hz, b.hz, a.fn, b.fn, a.bot, b.bot, a.top, b.top, a.zone, b.zone]
  refine ⟨fun h k => ?_, fun h k => ?_, fun h => ?_, fun h => ?_, hm⟩
  · simp only [decide_eq_true_eq] at h k
    rw [if_pos h, if_pos k, same (by omega)]
  · split at h
    · simp at h
    · rename_i h'
      split at k
      · simp at k
      · rename_i k'
        rw [if_neg h', if_neg k', same (by omega)]
  · simp only [decide_eq_true_eq] at h ⊢; omega
  · simp only [decide_eq_true_eq] at h ⊢; omega

set_option maxHeartbeats 4000000 in
set_option maxRecDepth 100000 in
theorem law_ShaftSteps (c : Cfg) (x : Int) (hb : c.lv.length < top) (ho : c.op.length < top) : CallV Try.prog G0 5 [c.enc, vi x] [] fun v _ => v = .c (.bool true) := by
  refine callV_ic hm (fn := Try.f5) rfl ic5_eq ic5_nm ic5_ok (by simp) ?_
  cases hf : fineB c x
  · repeat' first
      | simp -dsimp [ic5, hf]
      | (with_reducible refine (CallD.pure ct_law06_awake (by simp) ?_).callV)
      | (with_reducible refine (CallD.pure (ct_law06_fine _ _ ho) (by simp) ?_).callV)
      | exact exitV.now rfl
  by_cases hx : x = 2147483648
  · subst hx
    repeat' first
      | simp -dsimp [ic5, hf]
      | (with_reducible refine (CallD.pure ct_law06_awake (by simp) ?_).callV)
      | (with_reducible refine (CallD.pure (ct_law06_fine _ _ ho) (by simp) ?_).callV)
      | exact exitV.now rfl
  obtain ⟨g, hx1, hx2⟩ := fineB_good hf
  have hp : 0 < c.lv.length := by have := g.h2; omega
  have e1 := (near_eq c.lv x c.lv.length hp).1
  have e2 := zone_eq (c := c) x hp
  have e3 := sense_eq (c := c) x hp
  have e4 := (near_eq c.lv (x + 1) c.lv.length hp).1
  have e5 := zone_eq (c := c) (x + 1) hp
  have e6 := sense_eq (c := c) (x + 1) hp
  have hw : IntKind.wrap .i64 (x + 1) = x + 1 := w64_of (by omega) (by omega)
  obtain ⟨k1, k2, k3, k4, k5⟩ := steps g hx1 hx2
  have k5' : (nearR c.lv x c.lv.length : Int) ≤ (nearR c.lv (x + 1) c.lv.length : Int) := by omega
  simp -dsimp [ic5]
  repeat' first
    | simp -dsimp [hf, hx, e1, e2, e3, e4, e5, e6, hw, Fr.cells, *]
    | with_reducible refine brV.intro (fun h => ?_) (fun h => ?_)
    | (with_reducible refine (CallD.pure ct_law06_awake (by simp) ?_).callV)
    | (with_reducible refine (CallD.pure (ct_law06_fine _ _ ho) (by simp) ?_).callV)
    | (with_reducible refine (CallD.pure (ct_shaft_Zone _ _ hb) (by simp) ?_).callV)
    | (with_reducible refine (CallD.pure (ct_shaft_Nearest _ _ hb) (by simp) ?_).callV)
    | (with_reducible refine (CallD.pure (ct_shaft_Sense _ _ hb hp) (by simp) ?_).callV)
    | (with_reducible refine CallD.pure (ct_shaft_Zone _ _ hb) (by simp) ?_)
    | (with_reducible refine CallD.pure (ct_shaft_Nearest _ _ hb) (by simp) ?_)
    | (with_reducible refine CallD.pure (ct_shaft_Sense _ _ hb hp) (by simp) ?_)
    | (with_reducible refine ordI (by kernel_rfl) ?_)
    | (refine exitV.now ?_; simp_all; done)


end Go.Proofs.Ytfpkodajcpcabaa
