/- Contracts of functions of the seat's program, and what follows of them: Pl. Conditions are in each statement. -/
import Derived.Test.YtdnigflmcmammaaPi
set_option linter.unusedSimpArgs false
set_option linter.unusedVariables false
namespace Go.Proofs.Ytdnigflmcmammaa
open Go Go.Proofs Go.Vm

theorem clamp_bd {n low high : Int} (h : low ≤ high) : low ≤ clampP n low high ∧ clampP n low high ≤ high := by
  unfold clampP
  split
  · omega
  · rename_i h'; simp at h'; omega
theorem towP_zero {v b : Int} (h1 : -1000000 ≤ v) (h2 : v ≤ 1000000) (hb : 1 ≤ b) (hb2 : b ≤ 1000000) : towP v 0 b = if 0 ≤ v then max (v - b) 0 else min (v + b) 0 := by
  unfold towP clampP
  rw [show max b 0 = b by omega, w64_id (x := -b) (by omega) (by omega), w64_id (x := 0 - v) (by omega) (by omega)]
  split
  · rename_i h; simp at h; rw [w64_id (by omega) (by omega)]; split <;> omega
  · rename_i h; simp at h; rw [w64_id (by omega) (by omega)]; split <;> omega
theorem dk_next {b s : Int} (hb : 1 ≤ b) (hs : 0 ≤ s) : Dk b s = 2 * max (s - b) 0 + Dk b (max (s - b) 0) := by
  have z : Dk b 0 = 0 := by simp [Dk, tk_zero hb]
  rcases Int.lt_or_le 0 s with h | h
  · have d := dk_step hb h
    split at d
    · rw [show max (s - b) 0 = s - b by omega, d]
    · rw [show max (s - b) 0 = 0 by omega, d, z]; omega
  · rw [show s = 0 by omega, show max (0 - b) 0 = 0 by omega, z]; omega
theorem tk_next {b s : Int} (hb : 1 ≤ b) (hs : 0 ≤ s) : Tk b (max (s - b) 0) = max (Tk b s - 1) 0 := by
  rcases Int.lt_or_le 0 s with h | h
  · have := tk_step hb h
    have := tk_pos hb h
    omega
  · rw [show s = 0 by omega, show max (0 - b) 0 = 0 by omega, tk_zero hb]; omega
theorem tk_none {b s : Int} (hb : 1 ≤ b) (hs : 0 ≤ s) (h : Tk b s ≤ 0) : s = 0 := by
  rcases Int.lt_or_le 0 s with h' | h'
  · have := tk_pos hb h'; omega
  · omega
theorem dk_mono {b : Int} (hb : 1 ≤ b) : ∀ (k : Nat) {s s' : Int}, 0 ≤ s → s ≤ s' → s ≤ k → 0 ≤ Dk b s' - Dk b s ∧ 0 ≤ Dk b s
  | 0, s, s', h0, h1, hk => by
    have hs : s = 0 := by omega
    subst hs
    have z : Dk b 0 = 0 := by simp [Dk, tk_zero hb]
    rw [z]
    refine ⟨?_, by omega⟩
    have p : ∀ (n : Nat) (x : Int), 0 ≤ x → x ≤ n → 0 ≤ Dk b x := by
      intro n
      induction n with
      | zero => intro x hx hn; rw [show x = 0 by omega, z]; omega
      | succ n ih =>
        intro x hx hn
        rcases Int.lt_or_le 0 x with h | h
        · rw [dk_next hb hx]
          have := ih (max (x - b) 0) (by omega) (by omega)
          omega
        · rw [show x = 0 by omega, z]; omega
    have := p s'.toNat s' (by omega) (by omega)
    omega
  | k + 1, s, s', h0, h1, hk => by
    rcases Int.lt_or_le 0 s with h | h
    · have := dk_mono hb k (s := max (s - b) 0) (s' := max (s' - b) 0) (by omega) (by omega) (by omega)
      rw [dk_next hb h0, dk_next hb (s := s') (by omega)]
      omega
    · exact dk_mono hb 0 h0 h1 (by omega)
theorem dk_le {b s s' : Int} (hb : 1 ≤ b) (h0 : 0 ≤ s) (h1 : s ≤ s') : Dk b s ≤ Dk b s' := by
  have := (dk_mono hb s.toNat h0 h1 (by omega)).1; omega
theorem dk_pos {b s : Int} (hb : 1 ≤ b) (h0 : 0 ≤ s) : 0 ≤ Dk b s := (dk_mono hb s.toNat h0 (Int.le_refl s) (by omega)).2

set_option maxHeartbeats 4000000 in
theorem law_ConfigStands (c : Cfg) (above speed other : Int) (hb : c.lv.length < top) (ho : c.op.length < top) :
    CallV Try.prog G0 5 [c.enc, vi above, vi speed, vi other] [] fun v _ => v = .c (.bool true) := by
  refine callV_ic hm (fn := Try.f5) rfl ic5_eq ic5_nm ic5_ok (by simp) ?_
  cases hf : nearC c
  · repeat' first
      | simp -dsimp [ic5, hf]
      | (with_reducible refine (CallD.pure (ct_law05_awake) (by simp) ?_).callV)
      | (with_reducible refine (CallD.pure (ct_ref05_Near _) (by simp) ?_).callV)
      | exact exitV.now rfl
  by_cases hw : wrongP c = []
  case neg =>
    repeat' first
      | simp -dsimp [ic5, hf]
      | (with_reducible refine (CallD.pure (ct_law05_awake) (by simp) ?_).callV)
      | (with_reducible refine (CallD.pure (ct_ref05_Near _) (by simp) ?_).callV)
      | (with_reducible refine (CallD.pure (ct_Check_bad _ hb ho hw) (by simp) ?_).callV)
      | exact exitV.now rfl
  have g := fine_good (fine_iff.1 hw) (near_half hf)
  have sp := sp_of (fine_iff.1 hw).a3 (fine_iff.1 hw).a4
  have r1 := g.ramp1; have r2 := g.ramp2
  have u1 := g.half1; have u2 := g.vane2; have u3 := g.half2; have u4 := g.sl; have u5 := g.sh; have u6 := g.fl; have u7 := g.fh; have u8 := g.fh2; have u9 := g.vane3; have u10 := g.coast1
  have cr := coastR_eq r1 r2 2000 c.sh 0 (by omega) (by omega) (by omega) (by omega) (by omega)
  have st := settle_tk sp
  obtain ⟨v0, hv0⟩ : ∃ v, v = clampP speed 0 c.sh := ⟨_, rfl⟩
  obtain ⟨a0, ha0⟩ : ∃ v, v = clampP above 0 (2 * c.vane) := ⟨_, rfl⟩
  obtain ⟨w0, hw0⟩ : ∃ v, v = clampP other (-c.fh) c.fh := ⟨_, rfl⟩
  have bv := clamp_bd (n := speed) (low := 0) (high := c.sh) (by omega)
  have ba := clamp_bd (n := above) (low := 0) (high := 2 * c.vane) (by omega)
  have bw := clamp_bd (n := other) (low := -c.fh) (high := c.fh) (by omega)
  rw [← hv0] at bv; rw [← ha0] at ba; rw [← hw0] at bw
  have m1 : IntKind.wrap .i64 (2 * c.vane) = 2 * c.vane := w64_of (by omega) (by omega)
  have m2 : IntKind.wrap .i64 (c.vane - a0) = c.vane - a0 := w64_of (by omega) (by omega)
  have m3 : IntKind.wrap .i64 (c.vane - a0 + v0) = c.vane - a0 + v0 := w64_of (by omega) (by omega)
  have m4 : IntKind.wrap .i64 (-c.half) = -c.half := w64_of (by omega) (by omega)
  have m5 : IntKind.wrap .i64 (-c.fh) = -c.fh := w64_of (by omega) (by omega)
  have t1 := tk_le r1 (show 0 ≤ c.fh by omega)
  have t2 := tk_pos r1 (show 0 < c.fh by omega)
  obtain ⟨N, hN⟩ : ∃ N : Nat, settleP c = N := ⟨(settleP c).toNat, by omega⟩
  have hNt : N < top := by unfold top; omega
  repeat' first
    | simp -dsimp [ic5, hf, of_nil hw, hN, m1, ← hv0, ← ha0, m2, m3]
    | (with_reducible refine (CallD.pure (ct_law05_awake) (by simp) ?_).callV)
    | (with_reducible refine (CallD.pure (ct_ref05_Near _) (by simp) ?_).callV)
    | (with_reducible refine (CallD.pure (ct_Check_ok _ hb ho hw) (by simp) ?_).callV)
    | (with_reducible refine (CallD.pure (ct_Settle _ hb ho) (by simp) ?_).callV)
    | (with_reducible refine (CallD.pure (ct_ramp_Clamp _ _ _) (by simp) ?_).callV)
    | (with_reducible refine (CallD.pure (ct_ramp_Clamp _ _ _) (by simp) ?_))
    | (with_reducible refine ordI (by kernel_rfl) ?_)
    | exact exitV.now rfl
  have d1 := dk_le (b := c.ramp) r1 bv.1 bv.2
  refine Ti.loopW hm (fun k s => ∃ (q : Nat) (v pos : Int), q + k = N ∧ (0 ≤ v ∧ v ≤ 1000 ∧ Tk c.ramp v ≤ max ((N : Int) - q - 1) 0 ∧ 2 * pos + Dk c.ramp v ≤ 2 * c.half ∧ -c.half ≤ pos) ∧ s = { t := [(43, vi q), (42, vi N), (9, vi pos), (10, vi v), (3, vi other), (4, .p 0 0)], d := [], h := [.cells 26 c.cells] }) (k := N) ?_ ?_
  · refine Wk.sub [(43, vi (0 : Nat)), (42, vi N), (9, vi (c.vane - a0 + v0)), (10, vi v0), (3, vi other), (4, .p 0 0)] (by simp) (Wk.now ⟨0, v0, c.vane - a0 + v0, by omega, ⟨by omega, by omega, ?_, by omega, by omega⟩, rfl⟩)
    have := tk_mono (b := c.ramp) r1 (show v0 ≤ c.fh by omega)
    omega
  rintro k s ⟨q, v, pos, hq, ⟨i1, i2, i3, i4, i5⟩, rfl⟩
  simp -dsimp
  refine brV.intro (fun hl => ?_) (fun hl => ?_)
  · have hl : q < N := by simpa using hl
    have hw2 := wq hl hNt
    have e1 := towP_zero (v := v) (b := c.ramp) (by omega) (by omega) r1 (by omega)
    rw [if_pos i1] at e1
    have e2 := dk_next r1 i1
    have e3 := tk_next r1 i1
    have e4 := dk_pos (b := c.ramp) r1 (show 0 ≤ max (v - c.ramp) 0 by omega)
    obtain ⟨v', hv'⟩ : ∃ x, x = max (v - c.ramp) 0 := ⟨_, rfl⟩
    rw [← hv'] at e1 e2 e3 e4
    have e5 : IntKind.wrap .i64 (pos + v') = pos + v' := w64_of (by omega) (by omega)
    have b1 : ¬ c.half < pos + v' := by omega
    have b2 : ¬ pos + v' < -c.half := by omega
    repeat' first
      | simp -dsimp [hl, hw2, e1, e5, b1, b2, m4]
      | (with_reducible refine (CallD.pure (ct_ramp_Toward _ _ _) (by simp) ?_).callV)
    exact ⟨k - 1, by omega, Wk.sub [(43, vi (q + 1 : Nat)), (42, vi N), (9, vi (pos + v')), (10, vi v'), (3, vi other), (4, .p 0 0)] (by simp) (Wk.now ⟨q + 1, v', pos + v', by omega, ⟨by omega, by omega, by omega, by omega, by omega⟩, rfl⟩)⟩
  have hqe : q = N := by simp at hl; omega
  have vz : v = 0 := tk_none r1 i1 (by omega)
  subst vz
  repeat' first
    | simp -dsimp [hqe, of_nil hw, hN, m5, ← hw0]
    | (with_reducible refine (CallD.pure (ct_Settle _ hb ho) (by simp) ?_).callV)
    | (with_reducible refine (CallD.pure (ct_ramp_Clamp _ _ _) (by simp) ?_).callV)
  refine Ti.loopW hm (fun k s => ∃ (q : Nat) (w : Int), q + k = N ∧ (-1000 ≤ w ∧ w ≤ 1000 ∧ Tk c.ramp (max w (-w)) ≤ max ((N : Int) - q - 1) 0) ∧ s = { t := [(75, vi q), (74, vi N), (11, vi w), (10, vi 0), (4, .p 0 0)], d := [], h := [.cells 26 c.cells] }) (k := N) ?_ ?_
  · refine Wk.sub [(75, vi (0 : Nat)), (74, vi N), (11, vi w0), (10, vi 0), (4, .p 0 0)] (by simp) (Wk.now ⟨0, w0, by omega, ⟨by omega, by omega, ?_⟩, rfl⟩)
    have := tk_mono (b := c.ramp) r1 (show max w0 (-w0) ≤ c.fh by omega)
    omega
  rintro k2 s ⟨q2, w, hq2, ⟨j1, j2, j3⟩, rfl⟩
  simp -dsimp
  refine brV.intro (fun hl2 => ?_) (fun hl2 => ?_)
  · have hl2 : q2 < N := by simpa using hl2
    have hw2 := wq hl2 hNt
    have e1 := towP_zero (v := w) (b := c.ramp) (by omega) (by omega) r1 (by omega)
    have e3 := tk_next r1 (show 0 ≤ max w (-w) by omega)
    obtain ⟨w', hw'⟩ : ∃ x, x = towP w 0 c.ramp := ⟨_, rfl⟩
    rw [← hw'] at e1
    have e6 : max w' (-w') = max (max w (-w) - c.ramp) 0 := by split at e1 <;> omega
    rw [← e6] at e3
    have e7 : -1000 ≤ w' ∧ w' ≤ 1000 := by split at e1 <;> omega
    repeat' first
      | simp -dsimp [hl2, hw2, ← hw']
      | (with_reducible refine (CallD.pure (ct_ramp_Toward _ _ _) (by simp) ?_).callV)
    exact ⟨k2 - 1, by omega, Wk.sub [(75, vi (q2 + 1 : Nat)), (74, vi N), (11, vi w'), (10, vi 0), (4, .p 0 0)] (by simp) (Wk.now ⟨q2 + 1, w', by omega, ⟨by omega, by omega, by omega⟩, rfl⟩)⟩
  have hqe2 : q2 = N := by simp at hl2; omega
  have wz : w = 0 := by
    have := tk_none r1 (show 0 ≤ max w (-w) by omega) (by omega)
    omega
  subst wz
  repeat' first
    | simp -dsimp
    | (with_reducible refine ordI (by kernel_rfl) ?_)
    | exact exitV.now rfl
end Go.Proofs.Ytdnigflmcmammaa
