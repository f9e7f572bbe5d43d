/- Contracts of functions of the seat's program, and what follows of them: Gc. Conditions are in each statement. -/
import Derived.Test.YtdnigflmcmammaaDoorPr
import Derived.Test.YtdnigflmcmammaaDoorGb
set_option linter.unusedSimpArgs false
set_option linter.unusedVariables false
namespace Go.Proofs.YtdnigflmcmammaaDoor
open Go Go.Proofs Go.Vm
set_option maxRecDepth 100000

theorem bad_of {l : Ln} (ok : l.ok) {d : Cfg} (ld : d.lv.length < top) (od : d.op.length < top) (wd : wrongP d ≠ []) :
    Ct Tryd.prog G0 6 [d.enc] [] (Er.f (wrongP d) (Er.s 1 0)).v [] ∧ Ct Tryd.prog G0 11 [d.enc] [] (vi 0) [] := by
  refine ⟨ct_Check_bad d ld od wd, ?_⟩
  have := ct_Return d ld od
  rwa [show ofP d (backP d) = 0 by simp [ofP, wd]] at this
set_option maxHeartbeats 16000000 in
theorem law_ConfigSmall (s : Sm) (x : Int) (h : s.ok) (hx : by8 x) :
    CallV Tryd.prog G0 3 [s.enc, v8 x] [] fun v _ => v = .c (.bool true) := by
  obtain ⟨l, ok, cL⟩ := ct_Lift s h
  have qc : l.cfg.enc = .agg [.ro 1 (ints (l.lvs l.n)), .ro 1 (ints (l.ops l.n)), vi l.half, vi l.vane, vi l.level, vi l.creep, vi l.near, vi l.fl, vi l.fh, vi l.sl, vi l.sh, vi l.leak, vi l.ramp, vi l.bounce, vi (l.bounce + 1 + l.lk), vi l.star, vi l.run, vi l.starts, vi l.within, vi l.patience, vi l.tries] := rfl
  simp only [Sm.enc, Sm.cells] at cL
  have n := ok.n
  unfold by8 at hx
  have z := Ln.zns ok
  have z1 := z.rise; have z2 := z.level; have z3 := z.creep; have z4 := z.vane; have z5 := z.half; have z6 := z.near; have z7 := z.gp
  have r1 := ok.run; have r2 := ok.within; have r3 := ok.patience; have r4 := ok.sl; have r5 := ok.bounce
  have bds := Ln.bds ok
  have b1 := bds.fh; have b2 := bds.fl; have b3 := bds.c2; have b4 := bds.lk; have b5 := bds.sh
  have wc : wrongP l.cfg = [] := fine_iff.2 (by rw [Ln.cfg_eq]; exact Ln.fine ok (Int.le_refl _) (by omega) (by omega) (by omega) (by omega))
  have lc : l.cfg.lv.length < top := by show (l.lvs l.n).length < top; rw [lvs_length]; unfold top; omega
  have oc : l.cfg.op.length < top := by show (l.ops l.n).length < top; rw [ops_length]; unfold top; omega
  have er : riseP l.cfg = l.rise := Ln.rise_eq ok
  have eb : brakeP l.cfg = l.fh + coastR l.ramp 2000 l.fh 0 := Ln.brake_eq ok
  have q1 := ct_Check_ok l.cfg lc oc wc
  have q2 := ct_Rise l.cfg lc oc
  have q3 := ct_Brake l.cfg lc oc
  rw [of_nil wc, er] at q2
  rw [of_nil wc, eb] at q3
  rw [qc] at cL q1 q2 q3
  have w1 : w64 (l.vane + l.rise) = l.vane + l.rise := w64_of (by omega) (by omega)
  have w2 : w64 (l.bounce + 1) = l.bounce + 1 := w64_of (by omega) (by omega)
  have w3 : w64 (l.sl - 1) = l.sl - 1 := w64_of (by omega) (by omega)
  have w4 : w64 (l.half + (l.fh + coastR l.ramp 2000 l.fh 0)) = l.half + (l.fh + coastR l.ramp 2000 l.fh 0) := w64_of (by omega) (by omega)
  have y0 : IntKind.wrap .i64 (l.rise - 1) = l.rise - 1 := w64_of (by omega) (by omega)
  have y1 : IntKind.wrap .i64 (l.level - 1) = l.level - 1 := w64_of (by omega) (by omega)
  have y2 : IntKind.wrap .i64 (l.vane + l.rise - 1) = l.vane + l.rise - 1 := w64_of (by omega) (by omega)
  have y5 : IntKind.wrap .i64 (l.half + (l.fh + coastR l.ramp 2000 l.fh 0) - 1) = l.half + (l.fh + coastR l.ramp 2000 l.fh 0) - 1 := w64_of (by omega) (by omega)
  have y6 : IntKind.wrap .i64 (l.fl - 1) = l.fl - 1 := w64_of (by omega) (by omega)
  have is : ∀ p : List UInt8, Ct Tryd.prog G0 9 [(Er.f p (Er.s 1 0)).v, vi 1] [] (vb true) [] := fun p => ct_fault_Is (Er.f p (Er.s 1 0)) 1
  have pa : ∀ p : List UInt8, Ct Tryd.prog G0 10 [(Er.f p (Er.s 1 0)).v] [] (.ro 1 [vs p]) [] := fun p => ct_Path (Er.f p (Er.s 1 0)) (by simp [Er.deep])
  have hm7 : x.tmod 7 = x % 7 := Int.tmod_eq_emod_of_nonneg (by omega)
  have hcase : x % 7 = 0 ∨ x % 7 = 1 ∨ x % 7 = 2 ∨ x % 7 = 3 ∨ x % 7 = 4 ∨ x % 7 = 5 ∨ x % 7 = 6 := by omega
  refine callV_ic hm (fn := Tryd.f3) rfl ic3_eq ic3_nm ic3_ok (by simp) ?_
  rcases hcase with e | e | e | e | e | e | e
  · rw [e] at hm7
    obtain ⟨d, hd⟩ : ∃ d : Cfg, d = ⟨l.lvs l.n, l.ops l.n, l.half, l.vane, l.rise - 1, l.creep, l.near, l.fl, l.fh, l.sl, l.sh, l.leak, l.ramp, l.bounce, l.bounce + 1 + l.lk, l.star, l.run, l.starts, l.within, l.patience, l.tries⟩ := ⟨_, rfl⟩
    have rz : riseP d = l.rise := by rw [hd]; exact er
    have bz : brakeP d = l.fh + coastR l.ramp 2000 l.fh 0 := by rw [hd]; exact eb
    have ld : d.lv.length < top := by rw [hd]; exact lc
    have od : d.op.length < top := by rw [hd]; exact oc
    have wd : wrongP d ≠ [] := fun hw => by
      have h := fine_iff.1 hw
      have h := h.a7
      simp only [levelP, withinB, rz, Bool.and_eq_true, decide_eq_true_eq] at h
      simp only [hd] at h
      omega
    have qd : d.enc = .agg [.ro 1 (ints (l.lvs l.n)), .ro 1 (ints (l.ops l.n)), vi l.half, vi l.vane, vi (l.rise - 1), vi l.creep, vi l.near, vi l.fl, vi l.fh, vi l.sl, vi l.sh, vi l.leak, vi l.ramp, vi l.bounce, vi (l.bounce + 1 + l.lk), vi l.star, vi l.run, vi l.starts, vi l.within, vi l.patience, vi l.tries] := by rw [hd]; rfl
    obtain ⟨c1, c2⟩ := bad_of ok ld od wd
    have c3 := is (wrongP d)
    have c4 := pa (wrongP d)
    rw [qd] at c1 c2
    generalize wrongP d = p at *
    have okx : ∀ q : Nat → Prop, (Er.f p (Er.s 1 0)).v.ok q := fun q => by simp
    generalize (Er.f p (Er.s 1 0)).v = err at *
    repeat' first
      | simp -dsimp [ic3, Sm.cells, hm7, y0, y1, y2, y5, y6, w1, w4]
      | (with_reducible refine (CallD.pure (ct_law05_awake) (by simp) ?_).callV)
      | (with_reducible refine (CallD.pure (cL) (by simp) ?_).callV)
      | (with_reducible refine (CallD.pure (q1) (by simp) ?_).callV)
      | (with_reducible refine (CallD.pure (q2) (by simp) ?_).callV)
      | (with_reducible refine (CallD.pure (q3) (by simp) ?_).callV)
      | (with_reducible refine (CallD.pure (q2) (by simp) ?_))
      | (with_reducible refine (CallD.pure (q3) (by simp) ?_))
      | (with_reducible refine (CallD.pure (c1) (by simp) ?_).callV)
      | (with_reducible refine (CallD.pure (c2) (by simp) ?_).callV)
      | (with_reducible refine (CallD.pure c3 (by simp [okx]) ?_).callV)
      | (with_reducible refine (CallD.pure c4 (by simp [okx]) ?_).callV)
      | (with_reducible refine ordI (by kernel_rfl) ?_)
      | exact exitV.now rfl
  · rw [e] at hm7
    obtain ⟨d, hd⟩ : ∃ d : Cfg, d = ⟨l.lvs l.n, l.ops l.n, l.half, l.vane, l.level, l.level - 1, l.near, l.fl, l.fh, l.sl, l.sh, l.leak, l.ramp, l.bounce, l.bounce + 1 + l.lk, l.star, l.run, l.starts, l.within, l.patience, l.tries⟩ := ⟨_, rfl⟩
    have rz : riseP d = l.rise := by rw [hd]; exact er
    have bz : brakeP d = l.fh + coastR l.ramp 2000 l.fh 0 := by rw [hd]; exact eb
    have ld : d.lv.length < top := by rw [hd]; exact lc
    have od : d.op.length < top := by rw [hd]; exact oc
    have wd : wrongP d ≠ [] := fun hw => by
      have h := fine_iff.1 hw
      have h := h.a8
      simp only [creepP, withinB, Bool.and_eq_true, decide_eq_true_eq] at h
      simp only [hd] at h
      omega
    have qd : d.enc = .agg [.ro 1 (ints (l.lvs l.n)), .ro 1 (ints (l.ops l.n)), vi l.half, vi l.vane, vi l.level, vi (l.level - 1), vi l.near, vi l.fl, vi l.fh, vi l.sl, vi l.sh, vi l.leak, vi l.ramp, vi l.bounce, vi (l.bounce + 1 + l.lk), vi l.star, vi l.run, vi l.starts, vi l.within, vi l.patience, vi l.tries] := by rw [hd]; rfl
    obtain ⟨c1, c2⟩ := bad_of ok ld od wd
    have c3 := is (wrongP d)
    have c4 := pa (wrongP d)
    rw [qd] at c1 c2
    generalize wrongP d = p at *
    have okx : ∀ q : Nat → Prop, (Er.f p (Er.s 1 0)).v.ok q := fun q => by simp
    generalize (Er.f p (Er.s 1 0)).v = err at *
    repeat' first
      | simp -dsimp [ic3, Sm.cells, hm7, y0, y1, y2, y5, y6, w1, w4]
      | (with_reducible refine (CallD.pure (ct_law05_awake) (by simp) ?_).callV)
      | (with_reducible refine (CallD.pure (cL) (by simp) ?_).callV)
      | (with_reducible refine (CallD.pure (q1) (by simp) ?_).callV)
      | (with_reducible refine (CallD.pure (q2) (by simp) ?_).callV)
      | (with_reducible refine (CallD.pure (q3) (by simp) ?_).callV)
      | (with_reducible refine (CallD.pure (q2) (by simp) ?_))
      | (with_reducible refine (CallD.pure (q3) (by simp) ?_))
      | (with_reducible refine (CallD.pure (c1) (by simp) ?_).callV)
      | (with_reducible refine (CallD.pure (c2) (by simp) ?_).callV)
      | (with_reducible refine (CallD.pure c3 (by simp [okx]) ?_).callV)
      | (with_reducible refine (CallD.pure c4 (by simp [okx]) ?_).callV)
      | (with_reducible refine ordI (by kernel_rfl) ?_)
      | exact exitV.now rfl
  · rw [e] at hm7
    obtain ⟨d, hd⟩ : ∃ d : Cfg, d = ⟨l.lvs l.n, l.ops l.n, l.vane + l.rise - 1, l.vane, l.level, l.creep, l.near, l.fl, l.fh, l.sl, l.sh, l.leak, l.ramp, l.bounce, l.bounce + 1 + l.lk, l.star, l.run, l.starts, l.within, l.patience, l.tries⟩ := ⟨_, rfl⟩
    have rz : riseP d = l.rise := by rw [hd]; exact er
    have bz : brakeP d = l.fh + coastR l.ramp 2000 l.fh 0 := by rw [hd]; exact eb
    have ld : d.lv.length < top := by rw [hd]; exact lc
    have od : d.op.length < top := by rw [hd]; exact oc
    have wd : wrongP d ≠ [] := fun hw => by
      have h := fine_iff.1 hw
      have h := h.a10
      simp only [halfP, withinB, rz, w1, Bool.and_eq_true, decide_eq_true_eq] at h
      simp only [hd] at h
      omega
    have qd : d.enc = .agg [.ro 1 (ints (l.lvs l.n)), .ro 1 (ints (l.ops l.n)), vi (l.vane + l.rise - 1), vi l.vane, vi l.level, vi l.creep, vi l.near, vi l.fl, vi l.fh, vi l.sl, vi l.sh, vi l.leak, vi l.ramp, vi l.bounce, vi (l.bounce + 1 + l.lk), vi l.star, vi l.run, vi l.starts, vi l.within, vi l.patience, vi l.tries] := by rw [hd]; rfl
    obtain ⟨c1, c2⟩ := bad_of ok ld od wd
    have c3 := is (wrongP d)
    have c4 := pa (wrongP d)
    rw [qd] at c1 c2
    generalize wrongP d = p at *
    have okx : ∀ q : Nat → Prop, (Er.f p (Er.s 1 0)).v.ok q := fun q => by simp
    generalize (Er.f p (Er.s 1 0)).v = err at *
    repeat' first
      | simp -dsimp [ic3, Sm.cells, hm7, y0, y1, y2, y5, y6, w1, w4]
      | (with_reducible refine (CallD.pure (ct_law05_awake) (by simp) ?_).callV)
      | (with_reducible refine (CallD.pure (cL) (by simp) ?_).callV)
      | (with_reducible refine (CallD.pure (q1) (by simp) ?_).callV)
      | (with_reducible refine (CallD.pure (q2) (by simp) ?_).callV)
      | (with_reducible refine (CallD.pure (q3) (by simp) ?_).callV)
      | (with_reducible refine (CallD.pure (q2) (by simp) ?_))
      | (with_reducible refine (CallD.pure (q3) (by simp) ?_))
      | (with_reducible refine (CallD.pure (c1) (by simp) ?_).callV)
      | (with_reducible refine (CallD.pure (c2) (by simp) ?_).callV)
      | (with_reducible refine (CallD.pure c3 (by simp [okx]) ?_).callV)
      | (with_reducible refine (CallD.pure c4 (by simp [okx]) ?_).callV)
      | (with_reducible refine ordI (by kernel_rfl) ?_)
      | exact exitV.now rfl
  · rw [e] at hm7
    obtain ⟨d, hd⟩ : ∃ d : Cfg, d = ⟨l.lvs l.n, l.ops l.n, l.half, l.vane, l.level, l.creep, l.near, l.fl, l.fh, l.sl, l.sh, l.leak, l.ramp, l.bounce, l.bounce, l.star, l.run, l.starts, l.within, l.patience, l.tries⟩ := ⟨_, rfl⟩
    have rz : riseP d = l.rise := by rw [hd]; exact er
    have bz : brakeP d = l.fh + coastR l.ramp 2000 l.fh 0 := by rw [hd]; exact eb
    have ld : d.lv.length < top := by rw [hd]; exact lc
    have od : d.op.length < top := by rw [hd]; exact oc
    have wd : wrongP d ≠ [] := fun hw => by
      have h := fine_iff.1 hw
      have h := h.a12
      simp only [contactsP, withinB, w2, Bool.and_eq_true, decide_eq_true_eq] at h
      simp only [hd] at h
      omega
    have qd : d.enc = .agg [.ro 1 (ints (l.lvs l.n)), .ro 1 (ints (l.ops l.n)), vi l.half, vi l.vane, vi l.level, vi l.creep, vi l.near, vi l.fl, vi l.fh, vi l.sl, vi l.sh, vi l.leak, vi l.ramp, vi l.bounce, vi (l.bounce), vi l.star, vi l.run, vi l.starts, vi l.within, vi l.patience, vi l.tries] := by rw [hd]; rfl
    obtain ⟨c1, c2⟩ := bad_of ok ld od wd
    have c3 := is (wrongP d)
    have c4 := pa (wrongP d)
    rw [qd] at c1 c2
    generalize wrongP d = p at *
    have okx : ∀ q : Nat → Prop, (Er.f p (Er.s 1 0)).v.ok q := fun q => by simp
    generalize (Er.f p (Er.s 1 0)).v = err at *
    repeat' first
      | simp -dsimp [ic3, Sm.cells, hm7, y0, y1, y2, y5, y6, w1, w4]
      | (with_reducible refine (CallD.pure (ct_law05_awake) (by simp) ?_).callV)
      | (with_reducible refine (CallD.pure (cL) (by simp) ?_).callV)
      | (with_reducible refine (CallD.pure (q1) (by simp) ?_).callV)
      | (with_reducible refine (CallD.pure (q2) (by simp) ?_).callV)
      | (with_reducible refine (CallD.pure (q3) (by simp) ?_).callV)
      | (with_reducible refine (CallD.pure (q2) (by simp) ?_))
      | (with_reducible refine (CallD.pure (q3) (by simp) ?_))
      | (with_reducible refine (CallD.pure (c1) (by simp) ?_).callV)
      | (with_reducible refine (CallD.pure (c2) (by simp) ?_).callV)
      | (with_reducible refine (CallD.pure c3 (by simp [okx]) ?_).callV)
      | (with_reducible refine (CallD.pure c4 (by simp [okx]) ?_).callV)
      | (with_reducible refine ordI (by kernel_rfl) ?_)
      | exact exitV.now rfl
  · rw [e] at hm7
    obtain ⟨d, hd⟩ : ∃ d : Cfg, d = ⟨l.lvs l.n, l.ops l.n, l.half, l.vane, l.level, l.creep, l.near, l.fl, l.fh, l.sl, l.sh, l.sl, l.ramp, l.bounce, l.bounce + 1 + l.lk, l.star, l.run, l.starts, l.within, l.patience, l.tries⟩ := ⟨_, rfl⟩
    have rz : riseP d = l.rise := by rw [hd]; exact er
    have bz : brakeP d = l.fh + coastR l.ramp 2000 l.fh 0 := by rw [hd]; exact eb
    have ld : d.lv.length < top := by rw [hd]; exact lc
    have od : d.op.length < top := by rw [hd]; exact oc
    have wd : wrongP d ≠ [] := fun hw => by
      have h := fine_iff.1 hw
      have h := h.a5
      simp only [leakP, withinB, w3, Bool.and_eq_true, decide_eq_true_eq] at h
      simp only [hd] at h
      omega
    have qd : d.enc = .agg [.ro 1 (ints (l.lvs l.n)), .ro 1 (ints (l.ops l.n)), vi l.half, vi l.vane, vi l.level, vi l.creep, vi l.near, vi l.fl, vi l.fh, vi l.sl, vi l.sh, vi (l.sl), vi l.ramp, vi l.bounce, vi (l.bounce + 1 + l.lk), vi l.star, vi l.run, vi l.starts, vi l.within, vi l.patience, vi l.tries] := by rw [hd]; rfl
    obtain ⟨c1, c2⟩ := bad_of ok ld od wd
    have c3 := is (wrongP d)
    have c4 := pa (wrongP d)
    rw [qd] at c1 c2
    generalize wrongP d = p at *
    have okx : ∀ q : Nat → Prop, (Er.f p (Er.s 1 0)).v.ok q := fun q => by simp
    generalize (Er.f p (Er.s 1 0)).v = err at *
    repeat' first
      | simp -dsimp [ic3, Sm.cells, hm7, y0, y1, y2, y5, y6, w1, w4]
      | (with_reducible refine (CallD.pure (ct_law05_awake) (by simp) ?_).callV)
      | (with_reducible refine (CallD.pure (cL) (by simp) ?_).callV)
      | (with_reducible refine (CallD.pure (q1) (by simp) ?_).callV)
      | (with_reducible refine (CallD.pure (q2) (by simp) ?_).callV)
      | (with_reducible refine (CallD.pure (q3) (by simp) ?_).callV)
      | (with_reducible refine (CallD.pure (q2) (by simp) ?_))
      | (with_reducible refine (CallD.pure (q3) (by simp) ?_))
      | (with_reducible refine (CallD.pure (c1) (by simp) ?_).callV)
      | (with_reducible refine (CallD.pure (c2) (by simp) ?_).callV)
      | (with_reducible refine (CallD.pure c3 (by simp [okx]) ?_).callV)
      | (with_reducible refine (CallD.pure c4 (by simp [okx]) ?_).callV)
      | (with_reducible refine ordI (by kernel_rfl) ?_)
      | exact exitV.now rfl
  · rw [e] at hm7
    obtain ⟨d, hd⟩ : ∃ d : Cfg, d = ⟨l.lvs l.n, l.ops l.n, l.half, l.vane, l.level, l.creep, l.half + (l.fh + coastR l.ramp 2000 l.fh 0) - 1, l.fl, l.fh, l.sl, l.sh, l.leak, l.ramp, l.bounce, l.bounce + 1 + l.lk, l.star, l.run, l.starts, l.within, l.patience, l.tries⟩ := ⟨_, rfl⟩
    have rz : riseP d = l.rise := by rw [hd]; exact er
    have bz : brakeP d = l.fh + coastR l.ramp 2000 l.fh 0 := by rw [hd]; exact eb
    have ld : d.lv.length < top := by rw [hd]; exact lc
    have od : d.op.length < top := by rw [hd]; exact oc
    have wd : wrongP d ≠ [] := fun hw => by
      have h := fine_iff.1 hw
      have h := h.a11
      simp only [nearP, withinB, bz, w4, Bool.and_eq_true, decide_eq_true_eq] at h
      simp only [hd] at h
      omega
    have qd : d.enc = .agg [.ro 1 (ints (l.lvs l.n)), .ro 1 (ints (l.ops l.n)), vi l.half, vi l.vane, vi l.level, vi l.creep, vi (l.half + (l.fh + coastR l.ramp 2000 l.fh 0) - 1), vi l.fl, vi l.fh, vi l.sl, vi l.sh, vi l.leak, vi l.ramp, vi l.bounce, vi (l.bounce + 1 + l.lk), vi l.star, vi l.run, vi l.starts, vi l.within, vi l.patience, vi l.tries] := by rw [hd]; rfl
    obtain ⟨c1, c2⟩ := bad_of ok ld od wd
    have c3 := is (wrongP d)
    have c4 := pa (wrongP d)
    rw [qd] at c1 c2
    generalize wrongP d = p at *
    have okx : ∀ q : Nat → Prop, (Er.f p (Er.s 1 0)).v.ok q := fun q => by simp
    generalize (Er.f p (Er.s 1 0)).v = err at *
    repeat' first
      | simp -dsimp [ic3, Sm.cells, hm7, y0, y1, y2, y5, y6, w1, w4]
      | (with_reducible refine (CallD.pure (ct_law05_awake) (by simp) ?_).callV)
      | (with_reducible refine (CallD.pure (cL) (by simp) ?_).callV)
      | (with_reducible refine (CallD.pure (q1) (by simp) ?_).callV)
      | (with_reducible refine (CallD.pure (q2) (by simp) ?_).callV)
      | (with_reducible refine (CallD.pure (q3) (by simp) ?_).callV)
      | (with_reducible refine (CallD.pure (q2) (by simp) ?_))
      | (with_reducible refine (CallD.pure (q3) (by simp) ?_))
      | (with_reducible refine (CallD.pure (c1) (by simp) ?_).callV)
      | (with_reducible refine (CallD.pure (c2) (by simp) ?_).callV)
      | (with_reducible refine (CallD.pure c3 (by simp [okx]) ?_).callV)
      | (with_reducible refine (CallD.pure c4 (by simp [okx]) ?_).callV)
      | (with_reducible refine ordI (by kernel_rfl) ?_)
      | exact exitV.now rfl
  · rw [e] at hm7
    obtain ⟨d, hd⟩ : ∃ d : Cfg, d = ⟨l.lvs l.n, l.ops l.n, l.half, l.vane, l.level, l.creep, l.near, l.fl, l.fl - 1, l.sl, l.sh, l.leak, l.ramp, l.bounce, l.bounce + 1 + l.lk, l.star, l.run, l.starts, l.within, l.patience, l.tries⟩ := ⟨_, rfl⟩
    have rz : riseP d = l.rise := by rw [hd]; exact er
    have bz : brakeP d = brakeP d := rfl
    have ld : d.lv.length < top := by rw [hd]; exact lc
    have od : d.op.length < top := by rw [hd]; exact oc
    have wd : wrongP d ≠ [] := fun hw => by
      have h := fine_iff.1 hw
      have h := h.a3
      simp only [speedsP, Bool.and_eq_true, decide_eq_true_eq] at h
      simp only [hd] at h
      omega
    have qd : d.enc = .agg [.ro 1 (ints (l.lvs l.n)), .ro 1 (ints (l.ops l.n)), vi l.half, vi l.vane, vi l.level, vi l.creep, vi l.near, vi l.fl, vi (l.fl - 1), vi l.sl, vi l.sh, vi l.leak, vi l.ramp, vi l.bounce, vi (l.bounce + 1 + l.lk), vi l.star, vi l.run, vi l.starts, vi l.within, vi l.patience, vi l.tries] := by rw [hd]; rfl
    obtain ⟨c1, c2⟩ := bad_of ok ld od wd
    have c3 := is (wrongP d)
    have c4 := pa (wrongP d)
    rw [qd] at c1 c2
    generalize wrongP d = p at *
    have okx : ∀ q : Nat → Prop, (Er.f p (Er.s 1 0)).v.ok q := fun q => by simp
    generalize (Er.f p (Er.s 1 0)).v = err at *
    repeat' first
      | simp -dsimp [ic3, Sm.cells, hm7, y0, y1, y2, y5, y6, w1, w4]
      | (with_reducible refine (CallD.pure (ct_law05_awake) (by simp) ?_).callV)
      | (with_reducible refine (CallD.pure (cL) (by simp) ?_).callV)
      | (with_reducible refine (CallD.pure (q1) (by simp) ?_).callV)
      | (with_reducible refine (CallD.pure (q2) (by simp) ?_).callV)
      | (with_reducible refine (CallD.pure (q3) (by simp) ?_).callV)
      | (with_reducible refine (CallD.pure (q2) (by simp) ?_))
      | (with_reducible refine (CallD.pure (q3) (by simp) ?_))
      | (with_reducible refine (CallD.pure (c1) (by simp) ?_).callV)
      | (with_reducible refine (CallD.pure (c2) (by simp) ?_).callV)
      | (with_reducible refine (CallD.pure c3 (by simp [okx]) ?_).callV)
      | (with_reducible refine (CallD.pure c4 (by simp [okx]) ?_).callV)
      | (with_reducible refine ordI (by kernel_rfl) ?_)
      | exact exitV.now rfl
end Go.Proofs.YtdnigflmcmammaaDoor
