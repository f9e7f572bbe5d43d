/- Contracts of functions of the seat's program, and what follows of them: Pn. Conditions are in each statement. -/
import Derived.Test.YtdnigflmcmammaaPl
set_option linter.unusedSimpArgs false
set_option linter.unusedVariables false
namespace Go.Proofs.Ytdnigflmcmammaa
open Go Go.Proofs Go.Vm

theorem towP_to {v t b : Int} (h1 : 0 ≤ v) (h2 : v ≤ 1000000) (ht : 0 ≤ t) (ht2 : t ≤ 1000000) (hb : 1 ≤ b) (hb2 : b ≤ 1000000) : towP v t b = if t ≤ v then max (v - b) t else min (v + b) t := by
  unfold towP clampP
  rw [show max b 0 = b by omega, w64_id (x := -b) (by omega) (by omega), w64_id (x := t - v) (by omega) (by omega)]
  split
  · rename_i h; simp at h; rw [w64_id (by omega) (by omega)]; split <;> omega
  · rename_i h; simp at h; rw [w64_id (by omega) (by omega)]; split <;> omega
set_option maxHeartbeats 4000000 in
theorem law_ConfigBrakes (c : Cfg) (speed : Int) (hb : c.lv.length < top) (ho : c.op.length < top) :
    CallV Try.prog G0 6 [c.enc, vi speed] [] fun v _ => v = .c (.bool true) := by
  refine callV_ic hm (fn := Try.f6) rfl ic6_eq ic6_nm ic6_ok (by simp) ?_
  cases hf : nearC c
  · repeat' first
      | simp -dsimp [ic6, hf]
      | (with_reducible refine (CallD.pure (ct_law05_awake) (by simp) ?_).callV)
      | (with_reducible refine (CallD.pure (ct_ref05_Near _) (by simp) ?_).callV)
      | exact exitV.now rfl
  by_cases hw : wrongP c = []
  case neg =>
    repeat' first
      | simp -dsimp [ic6, hf]
      | (with_reducible refine (CallD.pure (ct_law05_awake) (by simp) ?_).callV)
      | (with_reducible refine (CallD.pure (ct_ref05_Near _) (by simp) ?_).callV)
      | (with_reducible refine (CallD.pure (ct_Check_bad _ hb ho hw) (by simp) ?_).callV)
      | exact exitV.now rfl
  have g := fine_good (fine_iff.1 hw) (near_half hf)
  have sp := sp_of (fine_iff.1 hw).a3 (fine_iff.1 hw).a4
  have r1 := g.ramp1; have r2 := g.ramp2
  have u1 := g.half1; have u2 := g.near1; have u3 := g.near2; have u4 := g.sl; have u5 := g.sh; have u6 := g.fl; have u7 := g.fh; have u8 := g.fh2; have u9 := g.vane3; have u10 := g.coast1; have u11 := g.coast2
  have cr := coastR_eq r1 r2 2000 c.fh 0 (by omega) (by omega) (by omega) (by omega) (by omega)
  have st := settle_tk sp
  obtain ⟨v0, hv0⟩ : ∃ v, v = clampP speed 0 c.fh := ⟨_, rfl⟩
  have bv := clamp_bd (n := speed) (low := 0) (high := c.fh) (by omega)
  rw [← hv0] at bv
  have m1 : IntKind.wrap .i64 (c.near - v0) = c.near - v0 := w64_of (by omega) (by omega)
  have t1 := tk_le r1 (show 0 ≤ c.fh by omega)
  have t2 := tk_pos r1 (show 0 < c.fh by omega)
  obtain ⟨N, hN⟩ : ∃ N : Nat, settleP c = N := ⟨(settleP c).toNat, by omega⟩
  have hNt : N < top := by unfold top; omega
  repeat' first
    | simp -dsimp [ic6, hf, of_nil hw, hN, ← hv0, m1]
    | (with_reducible refine (CallD.pure (ct_law05_awake) (by simp) ?_).callV)
    | (with_reducible refine (CallD.pure (ct_ref05_Near _) (by simp) ?_).callV)
    | (with_reducible refine (CallD.pure (ct_Check_ok _ hb ho hw) (by simp) ?_).callV)
    | (with_reducible refine (CallD.pure (ct_Settle _ hb ho) (by simp) ?_).callV)
    | (with_reducible refine (CallD.pure (ct_ramp_Clamp _ _ _) (by simp) ?_).callV)
    | (with_reducible refine (CallD.pure (ct_ramp_Clamp _ _ _) (by simp) ?_))
    | (with_reducible refine ordI (by kernel_rfl) ?_)
    | exact exitV.now rfl
  have d1 := dk_le (b := c.ramp) r1 bv.1 bv.2
  have d2 := dk_pos (b := c.ramp) r1 bv.1
  refine Ti.loopW hm (fun k s => ∃ (q : Nat) (v left : Int), q + k = N ∧ (0 ≤ v ∧ v ≤ 1000 ∧ left ≤ 1000000 ∧ c.half ≤ left ∧ (c.sh < v → Tk c.ramp v ≤ (N : Int) - q - 1 ∧ 2 * c.half + Dk c.ramp v ≤ 2 * left)) ∧ s = { t := [(31, vi q), (30, vi N), (6, vi left), (5, vi v), (2, .p 0 0)], d := [], h := [.cells 26 c.cells] }) (k := N) ?_ ?_
  · refine Wk.sub [(31, vi (0 : Nat)), (30, vi N), (6, vi (c.near - v0)), (5, vi v0), (2, .p 0 0)] (by simp) (Wk.now ⟨0, v0, c.near - v0, by omega, ⟨by omega, by omega, by omega, by omega, fun _ => ⟨?_, by omega⟩⟩, rfl⟩)
    have := tk_mono (b := c.ramp) r1 bv.2
    omega
  rintro k s ⟨q, v, left, hq, ⟨i1, i2, i3, i4, i5⟩, rfl⟩
  simp -dsimp
  refine brV.intro (fun hl => ?_) (fun hl => ?_)
  · have hl : q < N := by simpa using hl
    have hw2 := wq hl hNt
    have e1 := towP_to (v := v) (t := c.sl) (b := c.ramp) (by omega) (by omega) (by omega) (by omega) r1 (by omega)
    obtain ⟨v', hv'⟩ : ∃ x, x = towP v c.sl c.ramp := ⟨_, rfl⟩
    rw [← hv'] at e1
    have b0 : 0 ≤ v' ∧ v' ≤ 1000 := by split at e1 <;> omega
    by_cases hs : c.sh < v'
    · have hv : c.sh < v ∧ v' = v - c.ramp := by split at e1 <;> omega
      obtain ⟨i6, i7⟩ := i5 hv.1
      have e2 := dk_next r1 i1
      have e3 := tk_next r1 i1
      rw [show max (v - c.ramp) 0 = v' by omega] at e2 e3
      have e4 := dk_pos (b := c.ramp) r1 b0.1
      have p1 := tk_pos (b := c.ramp) r1 (show 0 < v by omega)
      have p2 := tk_pos (b := c.ramp) r1 (show 0 < v' by omega)
      have e5 : IntKind.wrap .i64 (left - v') = left - v' := w64_of (by omega) (by omega)
      repeat' first
        | simp -dsimp [hl, hw2, ← hv', hs, e5]
        | (with_reducible refine (CallD.pure (ct_ramp_Toward _ _ _) (by simp) ?_).callV)
      exact ⟨k - 1, by omega, Wk.sub [(31, vi (q + 1 : Nat)), (30, vi N), (6, vi (left - v')), (5, vi v'), (2, .p 0 0)] (by simp) (Wk.now ⟨q + 1, v', left - v', by omega, ⟨by omega, by omega, by omega, by omega, fun _ => ⟨by omega, by omega⟩⟩, rfl⟩)⟩
    · repeat' first
        | simp -dsimp [hl, hw2, ← hv', hs]
        | (with_reducible refine (CallD.pure (ct_ramp_Toward _ _ _) (by simp) ?_).callV)
      exact ⟨k - 1, by omega, Wk.sub [(31, vi (q + 1 : Nat)), (30, vi N), (6, vi left), (5, vi v'), (2, .p 0 0)] (by simp) (Wk.now ⟨q + 1, v', left, by omega, ⟨by omega, by omega, by omega, by omega, fun h => absurd h hs⟩, rfl⟩)⟩
  have hqe : q = N := by simp at hl; omega
  have vz : v ≤ c.sh := by
    rcases Int.lt_or_le c.sh v with h | h
    · have := (i5 h).1
      have := tk_pos (b := c.ramp) r1 (show 0 < v by omega)
      omega
    · exact h
  repeat' first
    | simp -dsimp [vz, i4]
    | (with_reducible refine ordI (by kernel_rfl) ?_)
    | exact exitV.now rfl
end Go.Proofs.Ytdnigflmcmammaa
