/- Contracts of functions of the seat's program, and what follows of them: Px. Conditions are in each statement. -/
import Derived.Test.YtmjhpniegjiocaaPw
set_option linter.unusedSimpArgs false
set_option linter.unusedVariables false
namespace Go.Proofs.Ytmjhpniegjiocaa
open Go Go.Proofs Go.Vm

theorem tk_none' {b s : Int} (hb : 1 ≤ b) (hs : 0 ≤ s) (h : Tk b s ≤ 0) : s = 0 := by
  rcases Int.lt_or_le 0 s with h' | h'
  · have := tk_pos hb h'; omega
  · omega
set_option maxHeartbeats 16000000 in
set_option maxRecDepth 100000 in
theorem law_RamBuffers (c : Cfg) (l : List Drv) (hb : c.lv.length < top) (ho : c.op.length < top) (hz : l.length < top) :
    CallV Try.prog G0 8 [c.enc, .ro 6 (drvs l)] [] fun v _ => v = .c (.bool true) := by
  refine callV_ic hm (fn := Try.f8) rfl ic8_eq ic8_nm ic8_ok (by simp) ?_
  cases hf : fineB c
  · repeat' first
      | simp -dsimp [ic8, hf]
      | (with_reducible refine (CallD.pure (ct_law12_awake) (by simp) ?_).callV)
      | (with_reducible refine (CallD.pure (ct_law12_fine _ ho) (by simp) ?_).callV)
      | exact exitV.now rfl
  by_cases h300 : 300 < (l.length : Int)
  · repeat' first
      | simp -dsimp [ic8, hf, h300]
      | (with_reducible refine (CallD.pure (ct_law12_awake) (by simp) ?_).callV)
      | (with_reducible refine (CallD.pure (ct_law12_fine _ ho) (by simp) ?_).callV)
      | exact exitV.now rfl
  have g := fineB_good hf
  have hwR : wrongR c = [] := by simp only [fineB, Bool.and_eq_true, List.isEmpty_iff] at hf; exact hf.2
  have hw : wrongP c = [] := fine_iff.2 (fine_of_R hwR)
  have sp : Sp c := ⟨g.sl, g.sh, g.fl, g.fh, g.fh2, g.ramp1, g.ramp2⟩
  have r1 := g.ramp1
  have hp : 0 < c.lv.length := by have := g.h2; omega
  have hnil : c.lv ≠ [] := fun h => by rw [h] at hp; simp at hp
  have n := nums_of g
  have n1 := n.lev; have n2 := n.cr; have n3 := n.va; have n4 := n.ha; have n5 := n.ne; have n6 := n.fh; have n7 := n.ne2; have n8 := g.fh2
  have hlast := lv_bd g (k := c.lv.length - 1) (by omega)
  have st := settle_tk sp
  have t1 := tk_le r1 (show 0 ≤ c.fh by omega)
  have t2 := tk_pos r1 (show 0 < c.fh by omega)
  obtain ⟨N, hN⟩ : ∃ N : Nat, settleP c = N := ⟨(settleP c).toNat, by omega⟩
  have w0 : IntKind.wrap .i64 ((c.lv.length : Int) - 1) = ((c.lv.length - 1 : Nat) : Int) := by
    have := g.h16
    rw [w64_of (by omega) (by omega)]; omega
  have hl2 : c.lv.length - 1 < c.lv.length := by omega
  have w1 : IntKind.wrap .i64 (-c.half) = -c.half := w64_of (by omega) (by omega)
  have w2 : IntKind.wrap .i64 (-c.fh) = -c.fh := w64_of (by omega) (by omega)
  have w3 : IntKind.wrap .i64 (at0 c.lv (c.lv.length - 1) + c.half) = at0 c.lv (c.lv.length - 1) + c.half := w64_of (by omega) (by omega)
  have hS := ct_Settle c hb ho
  rw [show ofP c (settleP c) = settleP c by simp [ofP, hw], hN] at hS
  repeat' first
    | simp -dsimp [ic8, hf, h300]
    | (with_reducible refine (CallD.pure (ct_law12_awake) (by simp) ?_).callV)
    | (with_reducible refine (CallD.pure (ct_law12_fine _ ho) (by simp) ?_).callV)
    | (with_reducible refine ordI (by kernel_rfl) ?_)
  refine Ti.loopW hm (fun k s => ∃ (q : Nat) (p v quiet : Int), q + k = l.length ∧ (-c.half ≤ p ∧ p ≤ at0 c.lv (c.lv.length - 1) + c.half ∧ -c.fh ≤ v ∧ v ≤ c.fh ∧ 0 ≤ quiet ∧ quiet ≤ q ∧ Tk c.ramp (max v (-v)) ≤ max ((N : Int) - 1 - quiet) 0) ∧ s = { t := [(24, vi q), (23, vi l.length), (6, vi quiet), (5, .p 1 0), (1, .ro 6 (drvs l)), (2, .p 0 0)], d := [], h := [.cells 26 c.cells, .cells 28 [vi p, vi v]] }) (k := l.length) ?_ ?_
  · refine Wk.sub [(24, vi (0 : Nat)), (23, vi l.length), (6, vi 0), (5, .p 1 0), (1, .ro 6 (drvs l)), (2, .p 0 0)] (by simp) (Wk.now ⟨0, 0, 0, 0, by omega, ⟨by omega, by omega, by omega, by omega, by omega, by omega, ?_⟩, rfl⟩)
    rw [show max (0 : Int) (-0) = 0 by omega, tk_zero r1]; omega
  rintro k s ⟨q, p, v, quiet, hq, ⟨i1, i2, i3, i4, i5, i6, i7⟩, rfl⟩
  simp -dsimp
  refine brV.intro (fun hlt => ?_) (fun hlt => ?_)
  rotate_left
  · simp -dsimp
    exact exitV.now rfl
  have hlt : q < l.length := by simpa using hlt
  have hw4 := wq hlt hz
  obtain ⟨d, hd⟩ : ∃ d, d = atD l q := ⟨_, rfl⟩
  have sN := ct_ref12_Near ⟨p, v⟩ (atD l q)
  have sS := ct_ram_Step c ⟨p, v⟩ ⟨(atD l q).motion, (atD l q).power, (atD l q).flow, (atD l q).leak, false, (atD l q).level⟩ hb hp
  simp only [Drv.enc, Drv.cells, Car.enc] at sN sS
  cases hn : near12 ⟨p, v⟩ (atD l q)
  · repeat' first
      | simp -dsimp [hlt, hn, Drv.enc, Drv.cells]
      | (with_reducible refine (CallD.pure (sN) (by simp) ?_).callV)
      | exact exitV.now rfl
  have hk := near12_bd hn
  obtain ⟨e1, _⟩ := step_eq g (k := ⟨p, v⟩) (d := ⟨(atD l q).motion, (atD l q).power, (atD l q).flow, (atD l q).leak, false, (atD l q).level⟩) (by omega) (by omega) (by omega) (by omega) (by show _ ≤ (atD l q).level; omega) (by show (atD l q).level ≤ _; omega)
  obtain ⟨f1, f2, f3, f4, f5⟩ := buf_step g (k := ⟨p, v⟩) (d := ⟨(atD l q).motion, (atD l q).power, (atD l q).flow, (atD l q).leak, false, (atD l q).level⟩) rfl i3 i4
  have f6 := target_quiet (c := c) (d := ⟨(atD l q).motion, (atD l q).power, (atD l q).flow, (atD l q).leak, false, (atD l q).level⟩)
  rw [e1] at sS
  generalize tick c ⟨p, v⟩ ⟨(atD l q).motion, (atD l q).power, (atD l q).flow, (atD l q).leak, false, (atD l q).level⟩ = nx at *
  dsimp only at f1 f2 f3 f4 f5 f6
  have g1 : ¬ nx.pos < -c.half := by omega
  have g2 : ¬ at0 c.lv (c.lv.length - 1) + c.half < nx.pos := by omega
  have g3 : ¬ c.fh < nx.speed := by omega
  have g4 : ¬ nx.speed < -c.fh := by omega
  have w5 : IntKind.wrap .i64 (quiet + 1) = quiet + 1 := w64_of (by omega) (by unfold top at hz; omega)
  have mono0 : Tk c.ramp (max nx.speed (-nx.speed)) ≤ Tk c.ramp c.fh := tk_mono r1 (by omega)
  have cont : ∀ qt : Int, 0 ≤ qt → qt ≤ quiet + 1 → Tk c.ramp (max nx.speed (-nx.speed)) ≤ max ((N : Int) - 1 - qt) 0 → ∃ (q' : Nat) (p' v' quiet' : Int), q' + (k - 1) = l.length ∧ (-c.half ≤ p' ∧ p' ≤ at0 c.lv (c.lv.length - 1) + c.half ∧ -c.fh ≤ v' ∧ v' ≤ c.fh ∧ 0 ≤ quiet' ∧ quiet' ≤ q' ∧ Tk c.ramp (max v' (-v')) ≤ max ((N : Int) - 1 - quiet') 0) ∧ ({ t := [(24, vi (q + 1 : Nat)), (23, vi l.length), (6, vi qt), (5, .p 1 0), (1, .ro 6 (drvs l)), (2, .p 0 0)], d := [], h := [.cells 26 c.cells, .cells 28 [vi nx.pos, vi nx.speed]] } : St) = { t := [(24, vi q'), (23, vi l.length), (6, vi quiet'), (5, .p 1 0), (1, .ro 6 (drvs l)), (2, .p 0 0)], d := [], h := [.cells 26 c.cells, .cells 28 [vi p', vi v']] } :=
    fun qt a b e => ⟨q + 1, nx.pos, nx.speed, qt, by omega, ⟨by omega, by omega, by omega, by omega, by omega, by omega, e⟩, rfl⟩
  by_cases hmv : (atD l q).power = true ∧ (atD l q).motion ≠ 0
  · obtain ⟨m1, m2⟩ := hmv
    rw [m1] at sN sS
    have m3 : ((atD l q).motion != 0) = true := by simpa using m2
    have m4 : ¬ (N : Int) ≤ 0 := by omega
    have m5 : ¬ N = 0 := by omega
    repeat' first
      | simp -dsimp [hlt, hn, hw4, Drv.enc, Drv.cells, m1, m3, m4, m5, w0, w1, w2, w3, hl2, hnil, g1, g2, g3, g4, w5, h]
      | simp -dsimp [hlt, hn, hw4, Drv.enc, Drv.cells, m1, m3, m4, m5, w0, w1, w2, w3, hl2, hnil, g1, g2, g3, g4, w5]
      | (with_reducible refine (CallD.pure (sN) (by simp) ?_).callV)
      | (with_reducible refine (CallD.pure (sS) (by simp) ?_).callV)
      | (with_reducible refine (CallD.pure (hS) (by simp) ?_).callV)
      | (with_reducible refine (CallD.pure (hS) (by simp) ?_))
      | (with_reducible refine ordI (by kernel_rfl) ?_)
      | (with_reducible refine brV.intro (fun h => ?_) (fun h => ?_))
    all_goals exact ⟨k - 1, by omega, Wk.sub [(24, vi (q + 1 : Nat)), (23, vi l.length), (6, vi 0), (5, .p 1 0), (1, .ro 6 (drvs l)), (2, .p 0 0)] (by simp) (Wk.cut 2 (by simp) (by simp) (by simp) (by simp) (by simp) (by simp) (Wk.now (cont 0 (by omega) (by omega) (by omega))))⟩
  have f7 : targetR c ⟨(atD l q).motion, (atD l q).power, (atD l q).flow, (atD l q).leak, false, (atD l q).level⟩ = 0 := f6 (by
    cases hpp : (atD l q).power
    · exact .inl rfl
    · exact .inr (Decidable.byContradiction fun hm => hmv ⟨hpp, hm⟩))
  have f8 := f5 f7
  have hQ : decide ((N : Int) ≤ quiet + 1) = true → (nx.speed != 0) = false := fun hh => by
    have := tk_none' r1 (show 0 ≤ max nx.speed (-nx.speed) by omega) (by simp at hh; omega)
    simp; omega
  cases hpw : (atD l q).power
  · rw [hpw] at sN sS
    by_cases hr1 : (atD l q).motion < 0
    · have hr2 : ¬ 0 ≤ (atD l q).motion := by omega
      repeat' first
        | simp -dsimp [hlt, hn, hw4, Drv.enc, Drv.cells, hpw, hr1, hr2, w0, w1, w2, w3, hl2, hnil, g1, g2, g3, g4, w5]
        | (with_reducible refine (CallD.pure (sN) (by simp) ?_).callV)
        | (with_reducible refine (CallD.pure (sS) (by simp) ?_).callV)
        | (with_reducible refine (CallD.pure (hS) (by simp) ?_).callV)
        | (with_reducible refine (CallD.pure (hS) (by simp) ?_))
        | (with_reducible refine ordI (by kernel_rfl) ?_)
      exact ⟨k - 1, by omega, Wk.sub [(24, vi (q + 1 : Nat)), (23, vi l.length), (6, vi (0)), (5, .p 1 0), (1, .ro 6 (drvs l)), (2, .p 0 0)] (by simp) (Wk.cut 2 (by simp) (by simp) (by simp) (by simp) (by simp) (by simp) (Wk.now (cont (0) (by omega) (by omega) (by omega))))⟩
    have hr2 : 0 ≤ (atD l q).motion := by omega
    by_cases hr3 : 4 < (atD l q).motion
    · have hr4 : ¬ (atD l q).motion ≤ 4 := by omega
      repeat' first
        | simp -dsimp [hlt, hn, hw4, Drv.enc, Drv.cells, hpw, hr1, hr2, hr3, hr4, w0, w1, w2, w3, hl2, hnil, g1, g2, g3, g4, w5]
        | (with_reducible refine (CallD.pure (sN) (by simp) ?_).callV)
        | (with_reducible refine (CallD.pure (sS) (by simp) ?_).callV)
        | (with_reducible refine (CallD.pure (hS) (by simp) ?_).callV)
        | (with_reducible refine (CallD.pure (hS) (by simp) ?_))
        | (with_reducible refine ordI (by kernel_rfl) ?_)
      exact ⟨k - 1, by omega, Wk.sub [(24, vi (q + 1 : Nat)), (23, vi l.length), (6, vi (0)), (5, .p 1 0), (1, .ro 6 (drvs l)), (2, .p 0 0)] (by simp) (Wk.cut 2 (by simp) (by simp) (by simp) (by simp) (by simp) (by simp) (Wk.now (cont (0) (by omega) (by omega) (by omega))))⟩
    have hr4 : (atD l q).motion ≤ 4 := by omega
    by_cases hNq : (N : Int) ≤ quiet + 1
    · have hs := hQ (by simpa using hNq)
      repeat' first
        | simp -dsimp [hlt, hn, hw4, Drv.enc, Drv.cells, hpw, hr1, hr2, hr3, hr4, hNq, hs, w0, w1, w2, w3, hl2, hnil, g1, g2, g3, g4, w5]
        | (with_reducible refine (CallD.pure (sN) (by simp) ?_).callV)
        | (with_reducible refine (CallD.pure (sS) (by simp) ?_).callV)
        | (with_reducible refine (CallD.pure (hS) (by simp) ?_).callV)
        | (with_reducible refine (CallD.pure (hS) (by simp) ?_))
        | (with_reducible refine ordI (by kernel_rfl) ?_)
      exact ⟨k - 1, by omega, Wk.sub [(24, vi (q + 1 : Nat)), (23, vi l.length), (6, vi (quiet + 1)), (5, .p 1 0), (1, .ro 6 (drvs l)), (2, .p 0 0)] (by simp) (Wk.cut 2 (by simp) (by simp) (by simp) (by simp) (by simp) (by simp) (Wk.now (cont (quiet + 1) (by omega) (by omega) (by omega))))⟩
    · repeat' first
        | simp -dsimp [hlt, hn, hw4, Drv.enc, Drv.cells, hpw, hr1, hr2, hr3, hr4, hNq, w0, w1, w2, w3, hl2, hnil, g1, g2, g3, g4, w5]
        | (with_reducible refine (CallD.pure (sN) (by simp) ?_).callV)
        | (with_reducible refine (CallD.pure (sS) (by simp) ?_).callV)
        | (with_reducible refine (CallD.pure (hS) (by simp) ?_).callV)
        | (with_reducible refine (CallD.pure (hS) (by simp) ?_))
        | (with_reducible refine ordI (by kernel_rfl) ?_)
      exact ⟨k - 1, by omega, Wk.sub [(24, vi (q + 1 : Nat)), (23, vi l.length), (6, vi (quiet + 1)), (5, .p 1 0), (1, .ro 6 (drvs l)), (2, .p 0 0)] (by simp) (Wk.cut 2 (by simp) (by simp) (by simp) (by simp) (by simp) (by simp) (Wk.now (cont (quiet + 1) (by omega) (by omega) (by omega))))⟩
  · have hm0 : (atD l q).motion = 0 := Decidable.byContradiction fun hm => hmv ⟨hpw, hm⟩
    rw [hpw, hm0] at sN sS
    by_cases hNq : (N : Int) ≤ quiet + 1
    · have hs := hQ (by simpa using hNq)
      repeat' first
        | simp -dsimp [hlt, hn, hw4, Drv.enc, Drv.cells, hpw, hm0, hNq, hs, w0, w1, w2, w3, hl2, hnil, g1, g2, g3, g4, w5]
        | (with_reducible refine (CallD.pure (sN) (by simp) ?_).callV)
        | (with_reducible refine (CallD.pure (sS) (by simp) ?_).callV)
        | (with_reducible refine (CallD.pure (hS) (by simp) ?_).callV)
        | (with_reducible refine (CallD.pure (hS) (by simp) ?_))
        | (with_reducible refine ordI (by kernel_rfl) ?_)
      exact ⟨k - 1, by omega, Wk.sub [(24, vi (q + 1 : Nat)), (23, vi l.length), (6, vi (quiet + 1)), (5, .p 1 0), (1, .ro 6 (drvs l)), (2, .p 0 0)] (by simp) (Wk.cut 2 (by simp) (by simp) (by simp) (by simp) (by simp) (by simp) (Wk.now (cont (quiet + 1) (by omega) (by omega) (by omega))))⟩
    · repeat' first
        | simp -dsimp [hlt, hn, hw4, Drv.enc, Drv.cells, hpw, hm0, hNq, w0, w1, w2, w3, hl2, hnil, g1, g2, g3, g4, w5]
        | (with_reducible refine (CallD.pure (sN) (by simp) ?_).callV)
        | (with_reducible refine (CallD.pure (sS) (by simp) ?_).callV)
        | (with_reducible refine (CallD.pure (hS) (by simp) ?_).callV)
        | (with_reducible refine (CallD.pure (hS) (by simp) ?_))
        | (with_reducible refine ordI (by kernel_rfl) ?_)
      exact ⟨k - 1, by omega, Wk.sub [(24, vi (q + 1 : Nat)), (23, vi l.length), (6, vi (quiet + 1)), (5, .p 1 0), (1, .ro 6 (drvs l)), (2, .p 0 0)] (by simp) (Wk.cut 2 (by simp) (by simp) (by simp) (by simp) (by simp) (by simp) (Wk.now (cont (quiet + 1) (by omega) (by omega) (by omega))))⟩
end Go.Proofs.Ytmjhpniegjiocaa
