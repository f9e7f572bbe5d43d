/- Contracts of functions of the seat's program, and what follows of them: Qf. Conditions are in each statement. -/
import Derived.Test.YtndcggncfecfiaaRQe
set_option linter.unusedSimpArgs false
set_option linter.unusedVariables false
namespace Go.Proofs.YtndcggncfecfiaaR
open Go Go.Proofs Go.Vm

@[simp] theorem sm_length (s : Sm) : s.cells.length = 20 := rfl
@[simp] theorem sm_take (s : Sm) : s.cells.take 20 = s.cells := rfl
@[simp] theorem okL_sm (p : Nat → Prop) (s : Sm) : okL p s.cells := by simp [Sm.cells]
@[simp] theorem renL_sm (ρ : Nat → Nat) (s : Sm) : renL ρ s.cells = s.cells := by simp [Sm.cells]
abbrev dB2 : Blk := .cells 52 [.p 3 0, .p 4 0]
abbrev sl5 : V := .sl 1 5 0 1
theorem not_b {b : Bool} (h : b = false) : (!b) = true := by simp [h]
theorem out_ready {T q : Int} (h3 : 0 ≤ q) (h : T < q) : (stS T (q + 1) == 3) = true := by
  have a : q + 1 ≠ 0 := by omega
  have b : ¬ q + 1 ≤ T := by omega
  have c : ¬ q + 1 = T + 1 := by omega
  simp [stS, a, b, c]
theorem out_notyet {T q : Int} (h3 : 0 ≤ q) (h : ¬ T < q) : (stS T (q + 1) == 3) = false := by
  have a : q + 1 ≠ 0 := by omega
  by_cases b : q + 1 ≤ T
  · simp [stS, a, b]
  · have c : q + 1 = T + 1 := by omega
    have d : ¬ T + 1 ≤ T := by omega
    simp [stS, c, d]; omega
set_option maxRecDepth 100000 in
set_option maxHeartbeats 8000000 in
theorem law_DriveReady0 (s : Sm) (hs : s.ok) : CallV Try.prog G0 3 [s.enc, vb false] [] fun v _ => v = .c (.bool true) := by
  obtain ⟨l, lok, hL⟩ := ct_Lift s hs
  have a1 := lok.star; have a2 := lok.run; have a3 := lok.starts
  obtain ⟨c, hc⟩ : ∃ c, c = l.cfg := ⟨_, rfl⟩
  have e1 : c.star = l.star := by rw [hc]; rfl
  have e2 : c.run = l.run := by rw [hc]; rfl
  have e3 : c.starts = l.starts := by rw [hc]; rfl
  have Nw := ct_drive_New c
  obtain ⟨st, hst, hs1⟩ : ∃ st, st = heldP c.starts 100 ∧ 1 ≤ st := ⟨_, rfl, by show 1 ≤ max 1 _; omega⟩
  obtain ⟨run, hrun⟩ : ∃ run, run = c.run := ⟨_, rfl⟩
  obtain ⟨T, hT⟩ : ∃ T, T = c.star := ⟨_, rfl⟩
  rw [← hst, show heldP c.run 1000000 = run by show max 1 (min c.run _) = run; omega, show max (0 : Int) (min c.star 500) = T by omega] at Nw
  rw [← hc] at hL
  generalize heldP c.within 1000000 = wi at *
  obtain ⟨N, hN⟩ : ∃ N : Nat, min 400 c.run = N := ⟨(min 400 c.run).toNat, by omega⟩
  have r1 : 1 ≤ run ∧ run ≤ 65536 := by omega
  have t1 : 0 ≤ T ∧ T ≤ 11 := by omega
  clear hst a1 a2 a3 e1 e2 e3
  refine callV_ic hm (fn := Try.f3) rfl ic3_eq ic3_nm ic3_ok (by simp) ?_
  simp -dsimp [ic3]
  repeat' first
    | simp -dsimp [hN]
    | (with_reducible refine (CallD.pure (ct_law22_awake) (by simp) ?_).callV)
    | (with_reducible refine (CallD.pure (hL) (by simp) ?_).callV)
    | (with_reducible refine (CallD.fresh Nw (by simp) ?_).callV)
    | (with_reducible refine ordI (by kernel_rfl) ?_)
  refine Ti.loopW hm (fun k s' => ∃ q : Nat, q + k = N ∧ ((q = 0 ∧ s' = { t := [(20, vi q), (19, vi N), (5, .p 1 0), (6, .p 2 0), (7, vi 1)], d := [], h := [.cells 25 s.cells, .cells 31 c.cells, dB2, gB run st wi 0 0 nilS false false, sB T 0 0] }) ∨ (0 < q ∧ s' = { t := [(20, vi q), (19, vi N), (5, .p 1 0), (6, .p 2 0), (7, vi 1)], d := [], h := [.cells 25 s.cells, .cells 31 c.cells, dB2, gB run st wi q q sl5 false false, sB T (stS T q) (stL T q), oneB 0] }))) (k := N) ?_ ?_
  · exact Wk.sub [(20, vi (0 : Nat)), (19, vi N), (5, .p 1 0), (6, .p 2 0), (7, vi 1)] (by simp) (Wk.now ⟨0, by omega, .inl ⟨rfl, rfl⟩⟩)
  rintro k s' ⟨q, hq, ⟨hz, rfl⟩ | ⟨hz, rfl⟩⟩
  · subst hz
    have hlt : 0 < N := by omega
    have f := ct_driveA 1 run st wi 0 T 0 0 false r1.1 hs1 (by decide)
    have nx0 : nx T 0 0 = (stS T 1, stL T 1) := by have := nx_st (T := T) (q := 0) (by omega) (by omega) (by omega); simpa [stS, stL] using this
    have ny : (stS T 1 == 3) = false := by have := out_notyet (T := T) (q := 0) (by omega) (by omega); simpa using this
    have w1 : w64 (0 + 1) = 1 := by decide
    have g1 : ¬ c.star < 0 := by omega
    have w2 : IntKind.wrap .i64 1 = 1 := by decide
    rw [nx0, w1] at f
    simp only [outU, ny] at f
    simp at f
    simp -dsimp [hlt]
    refine (CallD.many (bs' := [dB, gB run st wi 1 1 sl3 false false, sB T (stS T 1) (stL T 1)]) (nw := [oneB 0]) [2, 3, 4] [3, 4] f (by simp [rho]) (by simp) (by simp) (by simp) (by simp) (by simp) (by simp) (by simp [rho]) ?_).callV
    have fl := ct_drive_Long run st wi 1 1 T (stS T 1) (stL T 1) false false
    have fo := ct_drive_Often run st wi 1 1 T (stS T 1) (stL T 1) false false
    repeat' first
      | simp -dsimp [rho, g1, w2]
      | (with_reducible refine (CallD.many (bs' := [dB, gB run st wi 1 1 sl3 false false, sB T (stS T 1) (stL T 1), oneB 0]) (nw := []) [2, 3, 4, 5] [] fl (by simp [rho]) (by simp) (by simp) (by simp) (by simp) (by simp) (by simp) (by simp [rho]) ?_).callV)
      | (with_reducible refine (CallD.many (bs' := [dB, gB run st wi 1 1 sl3 false false, sB T (stS T 1) (stL T 1), oneB 0]) (nw := []) [2, 3, 4, 5] [] fo (by simp [rho]) (by simp) (by simp) (by simp) (by simp) (by simp) (by simp) (by simp [rho]) ?_).callV)
      | (with_reducible refine ordI (by kernel_rfl) ?_)
    exact ⟨k - 1, by omega, Wk.sub [(20, vi (1 : Nat)), (19, vi N), (5, .p 1 0), (6, .p 2 0), (7, vi 1)] (by simp) (Wk.cut 6 (by simp) (by simp) (by simp) (by simp) (by simp) (by simp) (Wk.now ⟨1, by omega, .inr ⟨by omega, rfl⟩⟩))⟩
  simp -dsimp
  refine brV.intro (fun hlt => ?_) (fun hlt => ?_)
  · have hlt : q < N := by simpa using hlt
    have hw := wq hlt (by unfold top; omega)
    have f := ct_driveB 1 run st wi q q T (stS T q) (stL T q) false (by decide) (by omega) (by omega)
    have nq := nx_st (T := T) (q := q) (by omega) (by omega) (by omega)
    have w1 : w64 ((q : Int) + 1) = (q : Int) + 1 := w64_of (by omega) (by omega)
    rw [nq, w1] at f
    have fl := ct_drive_Long run st wi ((q : Int) + 1) ((q : Int) + 1) T (stS T ((q : Int) + 1)) (stL T ((q : Int) + 1)) false false
    have fo := ct_drive_Often run st wi ((q : Int) + 1) ((q : Int) + 1) T (stS T ((q : Int) + 1)) (stL T ((q : Int) + 1)) false false
    by_cases hr : T < q
    · have ny := out_ready (T := T) (q := q) (by omega) hr
      have g1 : c.star < q := by omega
      simp only [outU, ny] at f
      simp at f
      simp -dsimp [hlt]
      refine (CallD.many (bs' := [dB, gB run st wi ((q : Int) + 1) ((q : Int) + 1) sl3 false false, sB T (stS T ((q : Int) + 1)) (stL T ((q : Int) + 1)), oneB 0]) (nw := []) [2, 3, 4, 5] [3, 4] f (by simp [rho]) (by simp) (by simp) (by simp) (by simp) (by simp) (by simp) (by simp [rho]) ?_).callV
      repeat' first
        | simp -dsimp [rho, g1, hw]
        | (with_reducible refine (CallD.many (bs' := [dB, gB run st wi ((q : Int) + 1) ((q : Int) + 1) sl3 false false, sB T (stS T ((q : Int) + 1)) (stL T ((q : Int) + 1)), oneB 0]) (nw := []) [2, 3, 4, 5] [] fl (by simp [rho]) (by simp) (by simp) (by simp) (by simp) (by simp) (by simp) (by simp [rho]) ?_).callV)
        | (with_reducible refine (CallD.many (bs' := [dB, gB run st wi ((q : Int) + 1) ((q : Int) + 1) sl3 false false, sB T (stS T ((q : Int) + 1)) (stL T ((q : Int) + 1)), oneB 0]) (nw := []) [2, 3, 4, 5] [] fo (by simp [rho]) (by simp) (by simp) (by simp) (by simp) (by simp) (by simp) (by simp [rho]) ?_).callV)
        | (with_reducible refine ordI (by kernel_rfl) ?_)
      exact ⟨k - 1, by omega, Wk.sub [(20, vi (q + 1 : Nat)), (19, vi N), (5, .p 1 0), (6, .p 2 0), (7, vi 1)] (by simp) (Wk.cut 6 (by simp) (by simp) (by simp) (by simp) (by simp) (by simp) (Wk.now ⟨q + 1, by omega, .inr ⟨by omega, by simp⟩⟩))⟩
    · have ny := out_notyet (T := T) (q := q) (by omega) hr
      have g1 : ¬ c.star < q := by omega
      simp only [outU, ny] at f
      simp at f
      simp -dsimp [hlt]
      refine (CallD.many (bs' := [dB, gB run st wi ((q : Int) + 1) ((q : Int) + 1) sl3 false false, sB T (stS T ((q : Int) + 1)) (stL T ((q : Int) + 1)), oneB 0]) (nw := []) [2, 3, 4, 5] [3, 4] f (by simp [rho]) (by simp) (by simp) (by simp) (by simp) (by simp) (by simp) (by simp [rho]) ?_).callV
      repeat' first
        | simp -dsimp [rho, g1, hw]
        | (with_reducible refine (CallD.many (bs' := [dB, gB run st wi ((q : Int) + 1) ((q : Int) + 1) sl3 false false, sB T (stS T ((q : Int) + 1)) (stL T ((q : Int) + 1)), oneB 0]) (nw := []) [2, 3, 4, 5] [] fl (by simp [rho]) (by simp) (by simp) (by simp) (by simp) (by simp) (by simp) (by simp [rho]) ?_).callV)
        | (with_reducible refine (CallD.many (bs' := [dB, gB run st wi ((q : Int) + 1) ((q : Int) + 1) sl3 false false, sB T (stS T ((q : Int) + 1)) (stL T ((q : Int) + 1)), oneB 0]) (nw := []) [2, 3, 4, 5] [] fo (by simp [rho]) (by simp) (by simp) (by simp) (by simp) (by simp) (by simp) (by simp [rho]) ?_).callV)
        | (with_reducible refine ordI (by kernel_rfl) ?_)
      exact ⟨k - 1, by omega, Wk.sub [(20, vi (q + 1 : Nat)), (19, vi N), (5, .p 1 0), (6, .p 2 0), (7, vi 1)] (by simp) (Wk.cut 6 (by simp) (by simp) (by simp) (by simp) (by simp) (by simp) (Wk.now ⟨q + 1, by omega, .inr ⟨by omega, by simp⟩⟩))⟩
  · have hqN : q = N := by simp at hlt; omega
    by_cases h4 : 400 < c.run
    · repeat' first
        | simp -dsimp [h4]
        | (with_reducible refine ordI (by kernel_rfl) ?_)
        | exact exitV.now rfl
    · have f := ct_driveC 1 run st wi q q T (stS T q) (stL T q) false (by decide) (by omega) (by omega)
      have w1 : w64 ((q : Int) + 1) = (q : Int) + 1 := w64_of (by omega) (by omega)
      rw [w1] at f
      simp only [outD] at f
      have fl := ct_drive_Long run st wi ((q : Int) + 1) 0 T 0 (stL T q) true false
      repeat' first
        | simp -dsimp [h4]
        | (with_reducible refine ordI (by kernel_rfl) ?_)
      refine (CallD.many (bs' := [dB, gB run st wi ((q : Int) + 1) 0 sl3 true false, sB T 0 (stL T q), oneB 0]) (nw := []) [2, 3, 4, 5] [3, 4] f (by simp [rho]) (by simp) (by simp) (by simp) (by simp) (by simp) (by simp) (by simp [rho]) ?_).callV
      repeat' first
        | simp -dsimp [rho]
        | (with_reducible refine ordI (by kernel_rfl) ?_)
      refine (CallD.many (bs' := [dB, gB run st wi ((q : Int) + 1) 0 sl3 true false, sB T 0 (stL T q), oneB 0]) (nw := []) [2, 3, 4, 5] [] fl (by simp [rho]) (by simp) (by simp) (by simp) (by simp) (by simp) (by simp) (by simp [rho]) ?_).callV
      repeat' first
        | simp -dsimp [rho]
        | (with_reducible refine ordI (by kernel_rfl) ?_)
        | exact exitV.now rfl
set_option maxRecDepth 100000 in
set_option maxHeartbeats 8000000 in
theorem law_DriveReady1 (s : Sm) (hs : s.ok) : CallV Try.prog G0 3 [s.enc, vb true] [] fun v _ => v = .c (.bool true) := by
  obtain ⟨l, lok, hL⟩ := ct_Lift s hs
  have a1 := lok.star; have a2 := lok.run; have a3 := lok.starts
  obtain ⟨c, hc⟩ : ∃ c, c = l.cfg := ⟨_, rfl⟩
  have e1 : c.star = l.star := by rw [hc]; rfl
  have e2 : c.run = l.run := by rw [hc]; rfl
  have e3 : c.starts = l.starts := by rw [hc]; rfl
  have Nw := ct_drive_New c
  obtain ⟨st, hst, hs1⟩ : ∃ st, st = heldP c.starts 100 ∧ 1 ≤ st := ⟨_, rfl, by show 1 ≤ max 1 _; omega⟩
  obtain ⟨run, hrun⟩ : ∃ run, run = c.run := ⟨_, rfl⟩
  obtain ⟨T, hT⟩ : ∃ T, T = c.star := ⟨_, rfl⟩
  rw [← hst, show heldP c.run 1000000 = run by show max 1 (min c.run _) = run; omega, show max (0 : Int) (min c.star 500) = T by omega] at Nw
  rw [← hc] at hL
  generalize heldP c.within 1000000 = wi at *
  obtain ⟨N, hN⟩ : ∃ N : Nat, min 400 c.run = N := ⟨(min 400 c.run).toNat, by omega⟩
  have r1 : 1 ≤ run ∧ run ≤ 65536 := by omega
  have t1 : 0 ≤ T ∧ T ≤ 11 := by omega
  clear hst a1 a2 a3 e1 e2 e3
  refine callV_ic hm (fn := Try.f3) rfl ic3_eq ic3_nm ic3_ok (by simp) ?_
  simp -dsimp [ic3]
  repeat' first
    | simp -dsimp [hN]
    | (with_reducible refine (CallD.pure (ct_law22_awake) (by simp) ?_).callV)
    | (with_reducible refine (CallD.pure (hL) (by simp) ?_).callV)
    | (with_reducible refine (CallD.fresh Nw (by simp) ?_).callV)
    | (with_reducible refine ordI (by kernel_rfl) ?_)
  refine Ti.loopW hm (fun k s' => ∃ q : Nat, q + k = N ∧ ((q = 0 ∧ s' = { t := [(20, vi q), (19, vi N), (5, .p 1 0), (6, .p 2 0), (7, vi 2)], d := [], h := [.cells 25 s.cells, .cells 31 c.cells, dB2, gB run st wi 0 0 nilS false false, sB T 0 0] }) ∨ (0 < q ∧ s' = { t := [(20, vi q), (19, vi N), (5, .p 1 0), (6, .p 2 0), (7, vi 2)], d := [], h := [.cells 25 s.cells, .cells 31 c.cells, dB2, gB run st wi q q sl5 false false, sB T (stS T q) (stL T q), oneB 0] }))) (k := N) ?_ ?_
  · exact Wk.sub [(20, vi (0 : Nat)), (19, vi N), (5, .p 1 0), (6, .p 2 0), (7, vi 2)] (by simp) (Wk.now ⟨0, by omega, .inl ⟨rfl, rfl⟩⟩)
  rintro k s' ⟨q, hq, ⟨hz, rfl⟩ | ⟨hz, rfl⟩⟩
  · subst hz
    have hlt : 0 < N := by omega
    have f := ct_driveA 2 run st wi 0 T 0 0 false r1.1 hs1 (by decide)
    have nx0 : nx T 0 0 = (stS T 1, stL T 1) := by have := nx_st (T := T) (q := 0) (by omega) (by omega) (by omega); simpa [stS, stL] using this
    have ny : (stS T 1 == 3) = false := by have := out_notyet (T := T) (q := 0) (by omega) (by omega); simpa using this
    have w1 : w64 (0 + 1) = 1 := by decide
    have g1 : ¬ c.star < 0 := by omega
    have w2 : IntKind.wrap .i64 1 = 1 := by decide
    rw [nx0, w1] at f
    simp only [outU, ny] at f
    simp at f
    simp -dsimp [hlt]
    refine (CallD.many (bs' := [dB, gB run st wi 1 1 sl3 false false, sB T (stS T 1) (stL T 1)]) (nw := [oneB 0]) [2, 3, 4] [3, 4] f (by simp [rho]) (by simp) (by simp) (by simp) (by simp) (by simp) (by simp) (by simp [rho]) ?_).callV
    have fl := ct_drive_Long run st wi 1 1 T (stS T 1) (stL T 1) false false
    have fo := ct_drive_Often run st wi 1 1 T (stS T 1) (stL T 1) false false
    repeat' first
      | simp -dsimp [rho, g1, w2]
      | (with_reducible refine (CallD.many (bs' := [dB, gB run st wi 1 1 sl3 false false, sB T (stS T 1) (stL T 1), oneB 0]) (nw := []) [2, 3, 4, 5] [] fl (by simp [rho]) (by simp) (by simp) (by simp) (by simp) (by simp) (by simp) (by simp [rho]) ?_).callV)
      | (with_reducible refine (CallD.many (bs' := [dB, gB run st wi 1 1 sl3 false false, sB T (stS T 1) (stL T 1), oneB 0]) (nw := []) [2, 3, 4, 5] [] fo (by simp [rho]) (by simp) (by simp) (by simp) (by simp) (by simp) (by simp) (by simp [rho]) ?_).callV)
      | (with_reducible refine ordI (by kernel_rfl) ?_)
    exact ⟨k - 1, by omega, Wk.sub [(20, vi (1 : Nat)), (19, vi N), (5, .p 1 0), (6, .p 2 0), (7, vi 2)] (by simp) (Wk.cut 6 (by simp) (by simp) (by simp) (by simp) (by simp) (by simp) (Wk.now ⟨1, by omega, .inr ⟨by omega, rfl⟩⟩))⟩
  simp -dsimp
  refine brV.intro (fun hlt => ?_) (fun hlt => ?_)
  · have hlt : q < N := by simpa using hlt
    have hw := wq hlt (by unfold top; omega)
    have f := ct_driveB 2 run st wi q q T (stS T q) (stL T q) false (by decide) (by omega) (by omega)
    have nq := nx_st (T := T) (q := q) (by omega) (by omega) (by omega)
    have w1 : w64 ((q : Int) + 1) = (q : Int) + 1 := w64_of (by omega) (by omega)
    rw [nq, w1] at f
    have fl := ct_drive_Long run st wi ((q : Int) + 1) ((q : Int) + 1) T (stS T ((q : Int) + 1)) (stL T ((q : Int) + 1)) false false
    have fo := ct_drive_Often run st wi ((q : Int) + 1) ((q : Int) + 1) T (stS T ((q : Int) + 1)) (stL T ((q : Int) + 1)) false false
    by_cases hr : T < q
    · have ny := out_ready (T := T) (q := q) (by omega) hr
      have g1 : c.star < q := by omega
      simp only [outU, ny] at f
      simp at f
      simp -dsimp [hlt]
      refine (CallD.many (bs' := [dB, gB run st wi ((q : Int) + 1) ((q : Int) + 1) sl3 false false, sB T (stS T ((q : Int) + 1)) (stL T ((q : Int) + 1)), oneB 0]) (nw := []) [2, 3, 4, 5] [3, 4] f (by simp [rho]) (by simp) (by simp) (by simp) (by simp) (by simp) (by simp) (by simp [rho]) ?_).callV
      repeat' first
        | simp -dsimp [rho, g1, hw]
        | (with_reducible refine (CallD.many (bs' := [dB, gB run st wi ((q : Int) + 1) ((q : Int) + 1) sl3 false false, sB T (stS T ((q : Int) + 1)) (stL T ((q : Int) + 1)), oneB 0]) (nw := []) [2, 3, 4, 5] [] fl (by simp [rho]) (by simp) (by simp) (by simp) (by simp) (by simp) (by simp) (by simp [rho]) ?_).callV)
        | (with_reducible refine (CallD.many (bs' := [dB, gB run st wi ((q : Int) + 1) ((q : Int) + 1) sl3 false false, sB T (stS T ((q : Int) + 1)) (stL T ((q : Int) + 1)), oneB 0]) (nw := []) [2, 3, 4, 5] [] fo (by simp [rho]) (by simp) (by simp) (by simp) (by simp) (by simp) (by simp) (by simp [rho]) ?_).callV)
        | (with_reducible refine ordI (by kernel_rfl) ?_)
      exact ⟨k - 1, by omega, Wk.sub [(20, vi (q + 1 : Nat)), (19, vi N), (5, .p 1 0), (6, .p 2 0), (7, vi 2)] (by simp) (Wk.cut 6 (by simp) (by simp) (by simp) (by simp) (by simp) (by simp) (Wk.now ⟨q + 1, by omega, .inr ⟨by omega, by simp⟩⟩))⟩
    · have ny := out_notyet (T := T) (q := q) (by omega) hr
      have g1 : ¬ c.star < q := by omega
      simp only [outU, ny] at f
      simp at f
      simp -dsimp [hlt]
      refine (CallD.many (bs' := [dB, gB run st wi ((q : Int) + 1) ((q : Int) + 1) sl3 false false, sB T (stS T ((q : Int) + 1)) (stL T ((q : Int) + 1)), oneB 0]) (nw := []) [2, 3, 4, 5] [3, 4] f (by simp [rho]) (by simp) (by simp) (by simp) (by simp) (by simp) (by simp) (by simp [rho]) ?_).callV
      repeat' first
        | simp -dsimp [rho, g1, hw]
        | (with_reducible refine (CallD.many (bs' := [dB, gB run st wi ((q : Int) + 1) ((q : Int) + 1) sl3 false false, sB T (stS T ((q : Int) + 1)) (stL T ((q : Int) + 1)), oneB 0]) (nw := []) [2, 3, 4, 5] [] fl (by simp [rho]) (by simp) (by simp) (by simp) (by simp) (by simp) (by simp) (by simp [rho]) ?_).callV)
        | (with_reducible refine (CallD.many (bs' := [dB, gB run st wi ((q : Int) + 1) ((q : Int) + 1) sl3 false false, sB T (stS T ((q : Int) + 1)) (stL T ((q : Int) + 1)), oneB 0]) (nw := []) [2, 3, 4, 5] [] fo (by simp [rho]) (by simp) (by simp) (by simp) (by simp) (by simp) (by simp) (by simp [rho]) ?_).callV)
        | (with_reducible refine ordI (by kernel_rfl) ?_)
      exact ⟨k - 1, by omega, Wk.sub [(20, vi (q + 1 : Nat)), (19, vi N), (5, .p 1 0), (6, .p 2 0), (7, vi 2)] (by simp) (Wk.cut 6 (by simp) (by simp) (by simp) (by simp) (by simp) (by simp) (Wk.now ⟨q + 1, by omega, .inr ⟨by omega, by simp⟩⟩))⟩
  · have hqN : q = N := by simp at hlt; omega
    by_cases h4 : 400 < c.run
    · repeat' first
        | simp -dsimp [h4]
        | (with_reducible refine ordI (by kernel_rfl) ?_)
        | exact exitV.now rfl
    · have f := ct_driveC 2 run st wi q q T (stS T q) (stL T q) false (by decide) (by omega) (by omega)
      have w1 : w64 ((q : Int) + 1) = (q : Int) + 1 := w64_of (by omega) (by omega)
      rw [w1] at f
      simp only [outD] at f
      have fl := ct_drive_Long run st wi ((q : Int) + 1) 0 T 0 (stL T q) true false
      repeat' first
        | simp -dsimp [h4]
        | (with_reducible refine ordI (by kernel_rfl) ?_)
      refine (CallD.many (bs' := [dB, gB run st wi ((q : Int) + 1) 0 sl3 true false, sB T 0 (stL T q), oneB 0]) (nw := []) [2, 3, 4, 5] [3, 4] f (by simp [rho]) (by simp) (by simp) (by simp) (by simp) (by simp) (by simp) (by simp [rho]) ?_).callV
      repeat' first
        | simp -dsimp [rho]
        | (with_reducible refine ordI (by kernel_rfl) ?_)
      refine (CallD.many (bs' := [dB, gB run st wi ((q : Int) + 1) 0 sl3 true false, sB T 0 (stL T q), oneB 0]) (nw := []) [2, 3, 4, 5] [] fl (by simp [rho]) (by simp) (by simp) (by simp) (by simp) (by simp) (by simp) (by simp [rho]) ?_).callV
      repeat' first
        | simp -dsimp [rho]
        | (with_reducible refine ordI (by kernel_rfl) ?_)
        | exact exitV.now rfl
theorem law_DriveReady (s : Sm) (hs : s.ok) (fast : Bool) : CallV Try.prog G0 3 [s.enc, vb fast] [] fun v _ => v = .c (.bool true) := by
  cases fast
  · exact law_DriveReady0 s hs
  · exact law_DriveReady1 s hs
end Go.Proofs.YtndcggncfecfiaaR
