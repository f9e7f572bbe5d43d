/- Contracts of functions of the seat's program, and what follows of them: Mo. Conditions are in each statement. -/
import Derived.Test.YtmjhpniegjiocaaMh
set_option linter.unusedSimpArgs false
set_option linter.unusedVariables false
namespace Go.Proofs.Ytmjhpniegjiocaa
open Go Go.Proofs Go.Vm

theorem order {c : Cfg} (g : Good c) {x y : Car} {d : Drv} (hd : d.held = false) (h1 : x.pos ≤ y.pos) (h2 : x.speed ≤ y.speed) :
    (tick c x d).pos ≤ (tick c y d).pos ∧ ((tick c y d).speed < (tick c x d).speed → (tick c x d).pos = (tick c y d).pos → (tick c x d).pos = -c.half ∨ (tick c x d).pos = at0 c.lv (c.lv.length - 1) + c.half) ∧
    -c.half ≤ (tick c x d).pos ∧ (tick c x d).pos ≤ at0 c.lv (c.lv.length - 1) + c.half ∧ -c.half ≤ (tick c y d).pos ∧ (tick c y d).pos ≤ at0 c.lv (c.lv.length - 1) + c.half := by
  have lb := lv_bd g (k := c.lv.length - 1) (by have := g.h2; omega)
  have n := nums_of g
  have n1 := n.lev; have n2 := n.cr; have n3 := n.va; have n4 := n.ha
  have r1 := g.ramp1
  unfold tick
  rw [hd]
  dsimp only
  have vb : ∃ v w, v = (if x.speed < targetR c d then min (x.speed + c.ramp) (targetR c d) else max (x.speed - c.ramp) (targetR c d)) ∧ w = (if y.speed < targetR c d then min (y.speed + c.ramp) (targetR c d) else max (y.speed - c.ramp) (targetR c d)) ∧ v ≤ w := by
    refine ⟨_, _, rfl, rfl, ?_⟩; split <;> split <;> omega
  obtain ⟨v, w, hv, hw, hvw⟩ := vb
  rw [← hv, ← hw]
  clear hv hw
  generalize clampR d.leak 0 c.leak = L at *
  generalize at0 c.lv (c.lv.length - 1) = T at *
  simp only [Bool.false_eq_true, false_and, if_false]
  by_cases a1 : x.pos + v - L < -c.half <;> by_cases a2 : T + c.half < x.pos + v - L <;> by_cases b1 : y.pos + w - L < -c.half <;> by_cases b2 : T + c.half < y.pos + w - L <;> simp only [a1, a2, b1, b2, if_true, if_false] <;> (refine ⟨?_, fun _ _ => ?_, ?_, ?_, ?_, ?_⟩ <;> first | omega | simp)

set_option maxHeartbeats 4000000 in
set_option maxRecDepth 100000 in
theorem law_RamOrder (c : Cfg) (a b : Car) (l : List Drv) (hb : c.lv.length < top) (ho : c.op.length < top) (hz : l.length < top) :
    CallV Try.prog G0 6 [c.enc, a.enc, b.enc, .ro 6 (drvs l)] [] fun v _ => v = .c (.bool true) := by
  refine callV_ic hm (fn := Try.f6) rfl ic6_eq ic6_nm ic6_ok (by simp) ?_
  cases hf : fineB c
  · repeat' first
      | simp -dsimp [ic6, hf]
      | (with_reducible refine (CallD.pure ct_law12_awake (by simp) ?_).callV)
      | (with_reducible refine (CallD.pure (ct_law12_fine _ ho) (by simp) ?_).callV)
      | exact exitV.now rfl
  by_cases h300 : 300 < (l.length : Int)
  · repeat' first
      | simp -dsimp [ic6, hf, h300]
      | (with_reducible refine (CallD.pure ct_law12_awake (by simp) ?_).callV)
      | (with_reducible refine (CallD.pure (ct_law12_fine _ ho) (by simp) ?_).callV)
      | exact exitV.now rfl
  have g := fineB_good hf
  have hp : 0 < c.lv.length := by have := g.h2; omega
  simp -dsimp [ic6]
  repeat' first
    | simp -dsimp [hf, h300]
    | (with_reducible refine (CallD.pure ct_law12_awake (by simp) ?_).callV)
    | (with_reducible refine (CallD.pure (ct_law12_fine _ ho) (by simp) ?_).callV)
    | (with_reducible refine ordI (by kernel_rfl) ?_)
  have hlast := lv_bd g (k := c.lv.length - 1) (by omega)
  have hw0 : IntKind.wrap .i64 ((c.lv.length : Int) - 1) = ((c.lv.length - 1 : Nat) : Int) := by
    rw [w64_of (by have := g.h16; omega) (by have := g.h16; omega)]; omega
  have hl2 : c.lv.length - 1 < c.lv.length := by omega
  have hnil : c.lv ≠ [] := fun h => by rw [h] at hp; simp at hp
  have n := nums_of g
  have n1 := n.lev; have n2 := n.cr; have n3 := n.va; have n4 := n.ha; have n5 := n.ne; have n6 := n.ne2
  have w1 : IntKind.wrap .i64 (-c.half) = -c.half := w64_of (by omega) (by omega)
  have w2 : IntKind.wrap .i64 (at0 c.lv (c.lv.length - 1) + c.half) = at0 c.lv (c.lv.length - 1) + c.half := w64_of (by omega) (by omega)
  refine Ti.loopW hm (fun k s => ∃ (q : Nat) (x y : Car), q + k = l.length ∧ x.pos ≤ y.pos ∧ x.speed ≤ y.speed ∧ s = { t := [(50, vi q), (49, vi l.length), (48, .ro 6 (drvs l)), (10, .p 4 0), (9, .p 3 0), (4, .p 0 0), (3, .ro 6 (drvs l))], d := [], h := [.cells 26 c.cells, .cells 28 [vi a.pos, vi a.speed], .cells 28 [vi b.pos, vi b.speed], .cells 28 [vi x.pos, vi x.speed], .cells 28 [vi y.pos, vi y.speed]] }) (k := l.length) ?_ ?_
  · exact Wk.sub [(50, vi (0 : Nat)), (49, vi l.length), (48, .ro 6 (drvs l)), (10, .p 4 0), (9, .p 3 0), (4, .p 0 0), (3, .ro 6 (drvs l))] (by simp) (Wk.now ⟨0, ⟨min a.pos b.pos, min a.speed b.speed⟩, ⟨max a.pos b.pos, max a.speed b.speed⟩, by omega, by dsimp only; omega, by dsimp only; omega, rfl⟩)
  rintro k s ⟨q, x, y, hq, hxy, hxy2, rfl⟩
  simp -dsimp
  refine brV.intro (fun hlt => ?_) (fun hlt => ?_)
  · have hlt : q < l.length := by simpa using hlt
    have hw := wq hlt hz
    obtain ⟨D, hD⟩ : ∃ D : Drv, D = ⟨(atD l q).motion, (atD l q).power, (atD l q).flow, (atD l q).leak, false, (atD l q).level⟩ := ⟨_, rfl⟩
    have sN := ct_ref12_Near x (atD l q)
    have sM := ct_ref12_Near y (atD l q)
    have sS := ct_ram_Step c x D hb hp
    have sT := ct_ram_Step c y D hb hp
    cases hn : near12 x (atD l q)
    · simp only [Drv.enc, Drv.cells, Car.enc] at sN
      repeat' first
        | simp -dsimp [hlt, hn, Drv.enc, Drv.cells]
        | (with_reducible refine (CallD.pure sN (by simp) ?_).callV)
        | (with_reducible refine CallD.pure sN (by simp) ?_)
        | (with_reducible refine ordI (by kernel_rfl) ?_)
        | exact exitV.now rfl
    cases hn2 : near12 y (atD l q)
    · simp only [Drv.enc, Drv.cells, Car.enc] at sN sM
      repeat' first
        | simp -dsimp [hlt, hn, hn2, Drv.enc, Drv.cells]
        | (with_reducible refine (CallD.pure sN (by simp) ?_).callV)
        | (with_reducible refine CallD.pure sN (by simp) ?_)
        | (with_reducible refine CallD.pure sM (by simp) ?_)
        | (with_reducible refine ordI (by kernel_rfl) ?_)
        | exact exitV.now rfl
    have hk := near12_bd hn
    have hk2 := near12_bd hn2
    have hDl : D.level = (atD l q).level := by rw [hD]
    obtain ⟨e1, _⟩ := step_eq g (k := x) (d := D) (by omega) (by omega) (by omega) (by omega) (by omega) (by omega)
    obtain ⟨e2, _⟩ := step_eq g (k := y) (d := D) (by omega) (by omega) (by omega) (by omega) (by omega) (by omega)
    obtain ⟨f1, f2, f3, f4, f5, f6⟩ := order g (d := D) (by rw [hD]) hxy hxy2
    rw [e1] at sS
    rw [e2] at sT
    generalize tick c x D = nx at *
    generalize tick c y D = ny at *
    rw [hD] at sS sT
    simp only [Drv.enc, Drv.cells, Car.enc] at sN sM sS sT
    clear hk hk2 e1 e2 hD hDl
    have f7 : ¬ ny.pos < nx.pos := by omega
    by_cases z1 : ny.speed < nx.speed
    · by_cases z2 : nx.pos = ny.pos
      · rcases f2 z1 z2 with z3 | z3
        · have z4 : ny.pos = -c.half := by omega
          repeat' first
            | simp -dsimp [hlt, hn, hn2, hw, hw0, hl2, hnil, w1, w2, f7, z1, z3, z4, Drv.enc, Drv.cells]
            | (with_reducible refine (CallD.pure sN (by simp) ?_).callV)
            | (with_reducible refine CallD.pure sN (by simp) ?_)
            | (with_reducible refine CallD.pure sM (by simp) ?_)
            | (with_reducible refine CallD.pure sS (by simp) ?_)
            | (with_reducible refine CallD.pure sT (by simp) ?_)
            | (with_reducible refine ordI (by kernel_rfl) ?_)
            | exact exitV.now rfl
        · have z4 : ny.pos = at0 c.lv (c.lv.length - 1) + c.half := by omega
          have z5 : (at0 c.lv (c.lv.length - 1) + c.half != -c.half) = true := by rw [bne_iff_ne]; omega
          repeat' first
            | simp -dsimp [hlt, hn, hn2, hw, hw0, hl2, hnil, w1, w2, f7, z1, z3, z4, z5, Drv.enc, Drv.cells]
            | (with_reducible refine (CallD.pure sN (by simp) ?_).callV)
            | (with_reducible refine CallD.pure sN (by simp) ?_)
            | (with_reducible refine CallD.pure sM (by simp) ?_)
            | (with_reducible refine CallD.pure sS (by simp) ?_)
            | (with_reducible refine CallD.pure sT (by simp) ?_)
            | (with_reducible refine ordI (by kernel_rfl) ?_)
            | exact exitV.now rfl
      · have z2b : (nx.pos == ny.pos) = false := by rw [beq_eq_false_iff_ne]; exact z2
        repeat' first
            | simp -dsimp [hlt, hn, hn2, hw, hw0, hl2, hnil, w1, w2, f7, z1, z2b, Drv.enc, Drv.cells]
            | (with_reducible refine (CallD.pure sN (by simp) ?_).callV)
            | (with_reducible refine CallD.pure sN (by simp) ?_)
            | (with_reducible refine CallD.pure sM (by simp) ?_)
            | (with_reducible refine CallD.pure sS (by simp) ?_)
            | (with_reducible refine CallD.pure sT (by simp) ?_)
            | (with_reducible refine ordI (by kernel_rfl) ?_)
            | exact exitV.now rfl
    · repeat' first
        | simp -dsimp [hlt, hn, hn2, hw, hw0, hl2, hnil, w1, w2, f7, z1, Drv.enc, Drv.cells]
        | (with_reducible refine (CallD.pure sN (by simp) ?_).callV)
        | (with_reducible refine CallD.pure sN (by simp) ?_)
        | (with_reducible refine CallD.pure sM (by simp) ?_)
        | (with_reducible refine CallD.pure sS (by simp) ?_)
        | (with_reducible refine CallD.pure sT (by simp) ?_)
        | (with_reducible refine ordI (by kernel_rfl) ?_)
      all_goals exact ⟨k - 1, by omega, Wk.sub [(50, vi (q + 1 : Nat)), (49, vi l.length), (48, .ro 6 (drvs l)), (10, .p 4 0), (9, .p 3 0), (4, .p 0 0), (3, .ro 6 (drvs l))] (by simp) (Wk.cut 5 (by simp) (by simp) (by simp) (by simp) (by simp) (by simp) (Wk.now ⟨q + 1, nx, ny, by omega, f1, by omega, rfl⟩))⟩
  · have : q = l.length := by simp at hlt; omega
    subst this
    simp -dsimp
    exact exitV.now rfl

end Go.Proofs.Ytmjhpniegjiocaa
