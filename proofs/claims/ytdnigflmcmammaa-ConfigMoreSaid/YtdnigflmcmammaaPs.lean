/- Contracts of functions of the seat's program, and what follows of them: Ps. Conditions are in each statement. -/
import Derived.Test.YtdnigflmcmammaaPr
import Derived.Test.YtdnigflmcmammaaV4
set_option linter.unusedSimpArgs false
set_option linter.unusedVariables false
namespace Go.Proofs.Ytdnigflmcmammaa
open Go Go.Proofs Go.Vm

def lvM (l : Ln) (m : Int) (k : Nat) : List Int := (List.range k).map fun (i : Nat) => (i : Int) * (l.gp + m)
@[simp] theorem lvM_length (l : Ln) (m : Int) (k : Nat) : (lvM l m k).length = k := by simp [lvM]
theorem lvM_snoc (l : Ln) (m : Int) (k : Nat) : ints (lvM l m k) ++ [vi (k * (l.gp + m))] = ints (lvM l m (k + 1)) := by simp [lvM, List.range_succ, ints]
theorem lvM_one (l : Ln) (m : Int) : ints (lvM l m 1) = [vi 0] := by simp [lvM, ints]
theorem rows_lvM (l : Ln) (m : Int) (k : Nat) : rows false 1 k (ints (lvM l m k)) = ints (lvM l m k) := by have := rows_ints' (lvM l m k); rwa [lvM_length] at this
def cfgD (l : Ln) (a : V) : List V := [a, .ro 1 (ints (l.ops l.n)), vi l.half, vi l.vane, vi l.level, vi l.creep, vi l.near, vi l.fl, vi l.fh, vi l.sl, vi l.sh, vi l.leak, vi l.ramp, vi l.bounce, vi (l.bounce + 1 + l.lk), vi l.star, vi l.run, vi l.starts, vi l.within, vi l.patience, vi l.tries]
set_option maxRecDepth 100000 in
set_option maxHeartbeats 16000000 in
theorem law_ConfigMore (s : Sm) (m a b : Int) (h : s.ok) (hm8 : by8 m) (ha : by16 a) (hb16 : by16 b) :
    CallV Try.prog G0 4 [s.enc, v8 m, v16 a, v16 b] [] fun v _ => v = .c (.bool true) := by
  obtain ⟨l, ok, cL⟩ := ct_Lift s h
  simp only [Sm.enc, Sm.cells] at cL
  have n := ok.n
  unfold by8 at hm8; unfold by16 at ha hb16
  have z := Ln.zns ok
  have z7 := z.gp; have z6 := z.near; have z5 := z.half; have z4 := z.vane; have z1 := z.rise
  have r1 := ok.run; have r2 := ok.within; have r3 := ok.patience
  have bds := Ln.bds ok
  have fh2 := bds.fh
  have lk0 := bds.lk; have d1 := bds.sh; have d2 := bds.fl; have d5 := bds.c2; have z2 := z.level; have z3 := z.creep
  have wc : wrongP l.cfg = [] := fine_iff.2 (by rw [Ln.cfg_eq]; exact Ln.fine ok (Int.le_refl _) (by omega) (by omega) (by omega) (by omega))
  have wd : wrongP (l.cfgX (l.gp + m) (l.run + a) (l.within + b) (l.patience + a)) = [] := fine_iff.2 (Ln.fine ok (by omega) (by omega) (by omega) (by omega) (by omega))
  have lc : l.cfg.lv.length < top := by show (l.lvs l.n).length < top; rw [lvs_length]; unfold top; omega
  have oc : l.cfg.op.length < top := by show (l.ops l.n).length < top; rw [ops_length]; unfold top; omega
  obtain ⟨d, hd⟩ : ∃ d, d = l.cfgX (l.gp + m) (l.run + a) (l.within + b) (l.patience + a) := ⟨_, rfl⟩
  have ld : d.lv.length < top := by rw [hd]; show (List.map _ _).length < top; simp; unfold top; omega
  have od : d.op.length < top := by rw [hd]; show (l.ops l.n).length < top; rw [ops_length]; unfold top; omega
  rw [← hd] at wd
  have er : riseP d = l.rise := by rw [hd]; exact Ln.rise_eq ok
  have er2 : riseP l.cfg = l.rise := Ln.rise_eq ok
  have eb : backP d = backP l.cfg := by rw [hd]; rfl
  have es : decide (l.star < backP l.cfg) = true := decide_eq_true (Ln.back ok)
  have ebr : brakeP l.cfg = l.fh + coastR l.ramp 2000 l.fh 0 := Ln.brake_eq ok
  have ek : decide (l.fh ≤ brakeP l.cfg) = true := by rw [ebr]; simp; omega
  have fm : IntKind.wrap .i64 m = m := w64_of (by omega) (by omega)
  have fa : IntKind.wrap .i64 a = a := w64_of (by omega) (by omega)
  have fb : IntKind.wrap .i64 b = b := w64_of (by omega) (by omega)
  have y1 : IntKind.wrap .i64 (l.run + a) = l.run + a := w64_of (by omega) (by omega)
  have y2 : IntKind.wrap .i64 (l.within + b) = l.within + b := w64_of (by omega) (by omega)
  have y3 : IntKind.wrap .i64 (l.patience + a) = l.patience + a := w64_of (by omega) (by omega)
  have hcell : l.cfg.cells = cfgD l (.ro 1 (ints (l.lvs l.n))) := rfl
  have clen : l.cfg.lv.length = l.n := lvs_length l l.n
  have qd : d.enc = .agg [.ro 1 (ints (lvM l m l.n)), .ro 1 (ints (l.ops l.n)), vi l.half, vi l.vane, vi l.level, vi l.creep, vi l.near, vi l.fl, vi l.fh, vi l.sl, vi l.sh, vi l.leak, vi l.ramp, vi l.bounce, vi (l.bounce + 1 + l.lk), vi l.star, vi (l.run + a), vi l.starts, vi (l.within + b), vi (l.patience + a), vi l.tries] := by rw [hd]; rfl
  have qc : l.cfg.enc = .agg [.ro 1 (ints (l.lvs l.n)), .ro 1 (ints (l.ops l.n)), vi l.half, vi l.vane, vi l.level, vi l.creep, vi l.near, vi l.fl, vi l.fh, vi l.sl, vi l.sh, vi l.leak, vi l.ramp, vi l.bounce, vi (l.bounce + 1 + l.lk), vi l.star, vi (l.run), vi l.starts, vi (l.within), vi (l.patience), vi l.tries] := rfl
  have q1 := ct_Check_ok d ld od wd
  have q2 := ct_Rise d ld od
  have q3 := ct_Rise l.cfg lc oc
  have q4 := ct_Return d ld od
  have q5 := ct_Return l.cfg lc oc
  have q6 := ct_Brake l.cfg lc oc
  rw [qd] at q1
  rw [qd, of_nil wd, er] at q2
  rw [qc, of_nil wc, er2] at q3
  rw [qd, of_nil wd, eb] at q4
  rw [qc, of_nil wc] at q5
  rw [qc, of_nil wc] at q6
  refine callV_ic hm (fn := Try.f4) rfl ic4_eq ic4_nm ic4_ok (by simp) ?_
  repeat' first
    | simp -dsimp [ic4, Sm.cells]
    | (with_reducible refine (CallD.pure (ct_law05_awake) (by simp) ?_).callV)
    | (with_reducible refine (CallD.pure (cL) (by simp) ?_).callV)
    | (with_reducible refine ordI (by kernel_rfl) ?_)
  refine Ti.loopW hm (fun k s' => ∃ (q : Nat) (y : V) (hx : List Blk), q + k = l.n ∧
    ((q = 0 ∧ y = .c (.slice none 0 0) ∧ hx = []) ∨ (0 < q ∧ 0 < k ∧ y = .sl 1 3 0 q ∧ hx = [.cells 3 (ints (lvM l m q))]) ∨ (k = 0 ∧ y = .ro 1 (ints (lvM l m l.n)) ∧ hx = [])) ∧
    s' = { t := [(21, vi q), (20, vi l.n), (9, .p 1 0), (10, .p 2 0), (1, v8 m), (2, v16 a), (3, v16 b)], d := [], h := [.cells 37 s.cells, .cells 26 (cfgD l (.ro 1 (ints (l.lvs l.n)))), .cells 26 (cfgD l y)] ++ hx }) (k := l.n) ?_ ?_
  · exact Wk.sub [(21, vi (0 : Nat)), (20, vi l.n), (9, .p 1 0), (10, .p 2 0), (1, v8 m), (2, v16 a), (3, v16 b)] (by simp [clen]) (Wk.now ⟨0, _, [], by omega, .inl ⟨rfl, rfl, rfl⟩, by simp [hcell, Sm.cells, cfgD]⟩)
  rintro k s' ⟨q, y, hx, hq, hcase, rfl⟩
  simp -dsimp
  refine brV.intro (fun hl => ?_) (fun hl => ?_)
  · have hl : q < l.n := by simpa using hl
    have x1 : (q + 1) * 8 ≤ 140737488355328 := by omega
    have x2 : q + 1 ≤ 9223372036854775807 := by omega
    have x3 : (IntKind.wrap .i64 ((q : Int) + 1)) = ((q + 1 : Nat) : Int) := wq (q := q) (n := 7) (by omega) (by decide)
    have m1 : (q : Int) * l.gp ≤ 6 * 7000 := Int.mul_le_mul (by omega) (by omega) (by omega) (by omega)
    have m2 : 0 ≤ (q : Int) * l.gp := Int.mul_nonneg (by omega) (by omega)
    have m3 : (q : Int) * m ≤ 6 * 255 := Int.mul_le_mul (by omega) (by omega) (by omega) (by omega)
    have m4 : 0 ≤ (q : Int) * m := Int.mul_nonneg (by omega) (by omega)
    have x4 : IntKind.wrap .i64 ((q : Int) * m) = q * m := w64_of (by omega) (by omega)
    have x5 : IntKind.wrap .i64 ((q : Int) * l.gp + q * m) = q * (l.gp + m) := by rw [Int.mul_add]; exact w64_of (by omega) (by omega)
    have x6 : at0 (l.lvs l.n) q = q * l.gp := at0_map hl
    have x7 : q < (l.lvs l.n).length := by simpa using hl
    rcases hcase with ⟨rfl, rfl, rfl⟩ | ⟨hq0, hk0, rfl, rfl⟩ | ⟨hk0, _⟩
    · have x8 : 0 < (l.lvs l.n).length := x7
      have x9 : IntKind.wrap .i64 0 = 0 := by decide
      have x10 : IntKind.wrap .i64 1 = 1 := by decide
      have x6' : at0 (l.lvs l.n) 0 = 0 := by rw [x6]; simp
      repeat' first
        | simp -dsimp [cfgD, hl, x8, x9, x6', fm]
        | (with_reducible refine ordI (by kernel_rfl) ?_)
      exact ⟨k - 1, by omega, Wk.some [0, 1, 2, 4] [.cells 37 s.cells, .cells 26 (cfgD l (.ro 1 (ints (l.lvs l.n)))), .cells 26 (cfgD l (.sl 1 3 0 (0 + 1))), .cells 3 (ints (lvM l m (0 + 1)))] [(21, vi (0 + 1 : Nat)), (20, vi l.n), (9, .p 1 0), (10, .p 2 0), (1, v8 m), (2, v16 a), (3, v16 b)] rfl (by simp [cfgD, rho, Sm.cells, lvM_one]) (by simp) (by simp) (by simp [cfgD, Sm.cells]) (by simp [rho, x10]) (by simp) (Wk.now ⟨0 + 1, _, _, by omega, .inr (.inl ⟨by omega, by omega, rfl, rfl⟩), rfl⟩)⟩
    · repeat' first
        | simp -dsimp [cfgD, hl, x1, x2, x3, x4, x5, x6, x7, fm]
        | (with_reducible refine ordI (by kernel_rfl) ?_)
      refine ⟨k - 1, by omega, Wk.some [0, 1, 2, 5] [.cells 37 s.cells, .cells 26 (cfgD l (.ro 1 (ints (l.lvs l.n)))), .cells 26 (cfgD l (.sl 1 3 0 (q + 1))), .cells 3 (ints (lvM l m (q + 1)))] [(21, vi (q + 1 : Nat)), (20, vi l.n), (9, .p 1 0), (10, .p 2 0), (1, v8 m), (2, v16 a), (3, v16 b)] rfl (by simp [cfgD, rho, Sm.cells, lvM_snoc]) (by simp) (by simp) (by simp [cfgD, Sm.cells]) (by simp [rho]) (by simp) ?_⟩
      by_cases hl4 : q + 1 < l.n
      · exact Wk.now ⟨q + 1, _, _, by omega, .inr (.inl ⟨by omega, by omega, rfl, rfl⟩), rfl⟩
      · have he : q + 1 = l.n := by omega
        refine Wk.freezeAt 3 2 3 26 (ints (lvM l m (q + 1))) (cfgD l (.sl 1 3 0 (q + 1))) false (by omega) rfl rfl (by simp [cfgD]) ?_
        have hr := rows_lvM l m (q + 1)
        have hz : frzL 3 (ints (lvM l m (q + 1))) false (cfgD l (.sl 1 3 0 (q + 1))) = cfgD l (.ro 1 (ints (lvM l m l.n))) := by
          rw [← he]
          simp only [cfgD, frzL, V.frz, frzL_ints, if_true, List.drop_zero, hr]
        rw [hz]
        exact Wk.cut 3 (by simp) (by simp) (by simp) (by simp [cfgD, Sm.cells]) (by simp) (by simp) (Wk.now ⟨q + 1, .ro 1 (ints (lvM l m l.n)), [], by omega, .inr (.inr ⟨by omega, rfl, rfl⟩), by simp⟩)
    · omega
  · have hge : q = l.n := by
      have : ¬ q < l.n := by simpa using hl
      omega
    have hx3 : k = 0 ∧ y = .ro 1 (ints (lvM l m l.n)) ∧ hx = [] := by
      rcases hcase with ⟨h, _⟩ | ⟨_, h, _⟩ | h
      · omega
      · omega
      · exact h
    obtain ⟨rfl, rfl, rfl⟩ := hx3
    repeat' first
      | simp -dsimp [cfgD, fa, fb, y1, y2, y3, es, ek]
      | (with_reducible refine (CallD.pure (q1) (by simp) ?_))
      | (with_reducible refine (CallD.pure (q2) (by simp) ?_))
      | (with_reducible refine (CallD.pure (q3) (by simp) ?_))
      | (with_reducible refine (CallD.pure (q4) (by simp) ?_))
      | (with_reducible refine (CallD.pure (q5) (by simp) ?_))
      | (with_reducible refine (CallD.pure (q6) (by simp) ?_))
      | (with_reducible refine ordI (by kernel_rfl) ?_)
      | exact exitV.now rfl
end Go.Proofs.Ytdnigflmcmammaa
