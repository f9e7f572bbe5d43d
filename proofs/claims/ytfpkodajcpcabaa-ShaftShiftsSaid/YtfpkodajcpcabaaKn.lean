/- Contracts of functions of the seat's program, and what follows of them: Kn. Conditions are in each statement. -/
import Derived.Test.YtfpkodajcpcabaaKm
import Derived.Test.YtfpkodajcpcabaaKi
set_option linter.unusedSimpArgs false
set_option linter.unusedVariables false
namespace Go.Proofs.Ytfpkodajcpcabaa
open Go Go.Proofs Go.Vm

theorem nested {c : Cfg} (g : Good c) {x : Int} (h1 : -2147483648 ≤ x) (h2 : x ≤ 2147483648) :
    ((senseR c x).z = true → (zoneR c x).2 = true ∧ (zoneR c x).1 = (senseR c x).n ∧ (senseR c x).near = true) ∧ ((zoneR c x).2 = true → (senseR c x).near = true) ∧ ((senseR c x).deep = true → (senseR c x).low = true) ∧
    ((senseR c x).low = true → (senseR c x).high = false) ∧ ((senseR c x).z = false → (senseR c x).low = false ∧ (senseR c x).high = false ∧ (senseR c x).n = 0) ∧ ((senseR c x).top = true → (senseR c x).bot = false) := by
  obtain ⟨n, d, a⟩ := at_of g (x := x) (by omega) (by omega)
  have m := nums_of g
  have m1 := m.lev; have m2 := m.cr; have m3 := m.va; have m4 := m.ha; have m5 := m.ne; have m6 := m.fh
  have l2 := g.h2
  have e1 := mono_lv g (j := 1) (k := c.lv.length - 1) (by omega) (by omega)
  have e2 := apart_lv g (j := 0) (k := 1) (by omega) (by omega)
  rw [g.zero] at e2
  rw [a.hz, a.fn, a.deep, a.low, a.high, a.near, a.top, a.bot, a.zone]
  refine ⟨fun h => ?_, fun h => ?_, fun h => ?_, fun h => ?_, fun h => ?_, fun h => ?_⟩
  · simp only [decide_eq_true_eq] at h
    rw [if_neg (by omega), if_pos h]
    simp; omega
  · split at h
    · simp at h
    · simp; omega
  · simp only [Bool.and_eq_true, decide_eq_true_eq] at h ⊢
    exact ⟨h.1, by omega⟩
  · simp only [Bool.and_eq_true, decide_eq_true_eq] at h
    simp; omega
  · simp only [decide_eq_false_iff_not] at h
    rw [if_neg h]
    simp [h]
  · simp only [decide_eq_true_eq] at h
    simp; omega

set_option maxRecDepth 100000 in
theorem law_ShaftNested (c : Cfg) (x : Int) (hb : c.lv.length < top) (ho : c.op.length < top) : CallV Try.prog G0 4 [c.enc, vi x] [] fun v _ => v = .c (.bool true) := by
  refine callV_ic hm (fn := Try.f4) rfl ic4_eq ic4_nm ic4_ok (by simp) ?_
  simp -dsimp [ic4]
  refine (CallD.pure ct_law06_awake (by simp) ?_).callV
  simp -dsimp
  refine (CallD.pure (ct_law06_fine _ _ ho) (by simp) ?_).callV
  simp -dsimp
  refine brV.intro (fun hf => ?_) (fun hf => ?_)
  rotate_left
  · simp -dsimp
    refine (CallD.pure ct_law06_awake (by simp) ?_).callV
    simp -dsimp
    exact exitV.now rfl
  obtain ⟨g, hx1, hx2⟩ := fineB_good hf
  have hp : 0 < c.lv.length := by have := g.h2; omega
  have e2 := zone_eq (c := c) x hp
  have e3 := sense_eq (c := c) x hp
  obtain ⟨k1, k2, k3, k4, k5, k6⟩ := nested g hx1 hx2
  clear hf
  repeat' first
    | simp -dsimp [e2, e3, Fr.cells, *]
    | with_reducible refine brV.intro (fun h => ?_) (fun h => ?_)
    | (with_reducible refine (CallD.pure (ct_shaft_Zone _ _ hb) (by simp) ?_).callV)
    | (with_reducible refine (CallD.pure (ct_shaft_Nearest _ _ hb) (by simp) ?_).callV)
    | (with_reducible refine (CallD.pure (ct_shaft_Sense _ _ hb hp) (by simp) ?_).callV)
    | (with_reducible refine CallD.pure (ct_shaft_Zone _ _ hb) (by simp) ?_)
    | (with_reducible refine CallD.pure (ct_shaft_Nearest _ _ hb) (by simp) ?_)
    | (with_reducible refine CallD.pure (ct_shaft_Sense _ _ hb hp) (by simp) ?_)
    | (with_reducible refine ordI (by kernel_rfl) ?_)
    | (refine exitV.now ?_; simp_all; done)

end Go.Proofs.Ytfpkodajcpcabaa
