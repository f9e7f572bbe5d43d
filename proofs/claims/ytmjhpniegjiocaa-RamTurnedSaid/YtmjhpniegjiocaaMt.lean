/- Contracts of functions of the seat's program, and what follows of them: Mt. Conditions are in each statement. -/
import Derived.Test.YtmjhpniegjiocaaMs
import Derived.Test.YtmjhpniegjiocaaV4
set_option linter.unusedSimpArgs false
set_option linter.unusedVariables false
namespace Go.Proofs.Ytmjhpniegjiocaa
open Go Go.Proofs Go.Vm

/-- A lift's cells but for the first one. -/
def cellsL (x : V) (c : Cfg) : List V := x :: c.cells.drop 1
@[simp] theorem set_cells (c : Cfg) (x : V) : c.cells.set 0 x = cellsL x c := rfl
@[simp] theorem set_cellsL (c : Cfg) (x y : V) : (cellsL x c).set 0 y = cellsL y c := rfl
@[simp] theorem cellsL_length (c : Cfg) (x : V) : (cellsL x c).length = 21 := rfl
@[simp] theorem cellsL_take (c : Cfg) (x : V) : (cellsL x c).take 21 = cellsL x c := rfl
@[simp] theorem cellsL_0 (c : Cfg) (x : V) : (cellsL x c)[0]? = some x := rfl
theorem cellsL_ro (c : Cfg) (l : List Int) : cellsL (.ro 1 (ints l)) c = ({ c with lv := l } : Cfg).cells := rfl
@[simp] theorem frzL_ints (i : Nat) (cs : List V) (g : Bool) (l : List Int) : frzL i cs g (ints l) = ints l := by
  induction l with
  | nil => rfl
  | cons x l ih => simp [ints, frzL, V.frz] at ih ⊢; exact ih
@[simp] theorem fitsL_ints (i n : Nat) (g : Bool) (l : List Int) : fitsL i n g (ints l) := by
  induction l with
  | nil => trivial
  | cons x l ih => exact ⟨trivial, ih⟩
theorem frzL_cellsL (i : Nat) (cs : List V) (g : Bool) (x : V) (c : Cfg) : frzL i cs g (cellsL x c) = cellsL (x.frz i cs g) c := by
  simp [cellsL, Cfg.cells, frzL, V.frz]
theorem fitsL_cellsL (i n : Nat) (g : Bool) (x : V) (c : Cfg) (h : x.fits i n g) : fitsL i n g (cellsL x c) := by
  simp [cellsL, Cfg.cells, fitsL, V.fits, h]
@[simp] theorem okL_cellsL (p : Nat → Prop) (x : V) (c : Cfg) (h : x.ok p) : okL p (cellsL x c) := by
  simp [cellsL, Cfg.cells, h]
theorem rows_ints : ∀ (l : List Int), rows false 1 l.length (ints l) = ints l
  | [] => rfl
  | x :: l => by
    have := rows_ints l
    simp [ints, rows] at this ⊢; exact this

/-- Levels upside down, the first ones. -/
def mir (lv : List Int) (q : Nat) : List Int := (List.range q).map fun k => at0 lv (lv.length - 1) - at0 lv (lv.length - 1 - k)
@[simp] theorem mir_length (lv : List Int) (q : Nat) : (mir lv q).length = q := by simp [mir]
theorem mir_succ (lv : List Int) (q : Nat) : mir lv (q + 1) = mir lv q ++ [at0 lv (lv.length - 1) - at0 lv (lv.length - 1 - q)] := by simp [mir, List.range_succ]
theorem mir_at {lv : List Int} {q k : Nat} (h : k < q) : at0 (mir lv q) k = at0 lv (lv.length - 1) - at0 lv (lv.length - 1 - k) := by
  simp [at0, mir, List.getD, h]
def turn (m : Int) : Int := if m = 1 then 3 else if m = 3 then 1 else if m = 2 then 4 else if m = 4 then 2 else m

def mirC (c : Cfg) : Cfg := { c with lv := mir c.lv c.lv.length }
theorem target_turn {c : Cfg} (g : Good c) (d : Drv) (lk lv : Int) : targetR (mirC c) ⟨turn d.motion, d.power, d.flow, lk, false, lv⟩ = -targetR c ⟨d.motion, d.power, d.flow, lk, false, lv⟩ := by
  have s1 := g.sl; have s2 := g.sh; have s3 := g.fl; have s4 := g.fh; have s5 := g.fh2
  have a := clampR_bd (n := d.flow) (lo := c.sl) (hi := c.sh) (by omega)
  have b := clampR_bd (n := d.flow) (lo := c.fl) (hi := c.fh) (by omega)
  have e1 : w64 (-clampR d.flow c.sl c.sh) = -clampR d.flow c.sl c.sh := w64_id (by omega) (by omega)
  have e2 : w64 (-clampR d.flow c.fl c.fh) = -clampR d.flow c.fl c.fh := w64_id (by omega) (by omega)
  unfold targetR mirC turn
  dsimp only
  rw [e1, e2]
  by_cases h0 : d.power = false
  · simp [h0]
  · by_cases h1 : d.motion = 1
    · simp [h0, h1]
    · by_cases h2 : d.motion = 2
      · simp [h0, h2]
      · by_cases h3 : d.motion = 3
        · simp [h0, h3]
        · by_cases h4 : d.motion = 4
          · simp [h0, h4]
          · simp [h0, h1, h2, h3, h4]
theorem turned {c : Cfg} (g : Good c) (k : Car) (d : Drv) (lv : Int) :
    (tick c k ⟨d.motion, d.power, d.flow, 0, false, lv⟩).pos = at0 c.lv (c.lv.length - 1) - (tick (mirC c) ⟨at0 c.lv (c.lv.length - 1) - k.pos, -k.speed⟩ ⟨turn d.motion, d.power, d.flow, 0, false, lv⟩).pos ∧
    (tick c k ⟨d.motion, d.power, d.flow, 0, false, lv⟩).speed = -(tick (mirC c) ⟨at0 c.lv (c.lv.length - 1) - k.pos, -k.speed⟩ ⟨turn d.motion, d.power, d.flow, 0, false, lv⟩).speed := by
  have h2 := g.h2
  have lb := lv_bd g (k := c.lv.length - 1) (by omega)
  have n := nums_of g
  have n1 := n.lev; have n2 := n.cr; have n3 := n.va; have n4 := n.ha
  have r1 := g.ramp1; have k1 := g.leak1
  have el : at0 (mirC c).lv ((mirC c).lv.length - 1) = at0 c.lv (c.lv.length - 1) := by
    show at0 (mir c.lv c.lv.length) ((mir c.lv c.lv.length).length - 1) = _
    rw [mir_length, mir_at (by omega), show c.lv.length - 1 - (c.lv.length - 1) = 0 by omega, g.zero]; omega
  have eh : (mirC c).half = c.half := rfl
  have er : (mirC c).ramp = c.ramp := rfl
  have ek : (mirC c).leak = c.leak := rfl
  have e0 : clampR 0 0 c.leak = 0 := by simp only [clampR, decide_eq_true_eq]; rw [if_neg (by omega), if_neg (by omega)]
  unfold tick
  dsimp only
  rw [target_turn g d 0 lv, el, eh, er, ek, e0]
  generalize targetR c ⟨d.motion, d.power, d.flow, 0, false, lv⟩ = t
  generalize at0 c.lv (c.lv.length - 1) = T at *
  simp only [Bool.false_eq_true, false_and, if_false]
  have vb : ∃ v, v = (if k.speed < t then min (k.speed + c.ramp) t else max (k.speed - c.ramp) t) ∧ (if -k.speed < -t then min (-k.speed + c.ramp) (-t) else max (-k.speed - c.ramp) (-t)) = -v := by
    refine ⟨_, rfl, ?_⟩; split <;> split <;> omega
  obtain ⟨v, hv, hv2⟩ := vb
  rw [← hv, hv2]
  clear hv hv2
  by_cases a1 : k.pos + v - 0 < -c.half
  · have b1 : ¬ T - k.pos + -v - 0 < -c.half := by omega
    have b2 : T + c.half < T - k.pos + -v - 0 := by omega
    simp only [a1, b1, b2, if_true, if_false]
    omega
  · by_cases a2 : T + c.half < k.pos + v - 0
    · have b1 : T - k.pos + -v - 0 < -c.half := by omega
      simp only [a1, a2, b1, if_true, if_false]
      omega
    · have b1 : ¬ T - k.pos + -v - 0 < -c.half := by omega
      have b2 : ¬ T + c.half < T - k.pos + -v - 0 := by omega
      simp only [a1, a2, b1, b2, if_false]
      omega

theorem tick_bd {c : Cfg} (g : Good c) {k : Car} {d : Drv} (h1 : -2147483648 ≤ k.speed) (h2 : k.speed ≤ 2147483648) (hh : d.held = false) :
    -c.half ≤ (tick c k d).pos ∧ (tick c k d).pos ≤ at0 c.lv (c.lv.length - 1) + c.half ∧ -2147485000 ≤ (tick c k d).speed ∧ (tick c k d).speed ≤ 2147485000 := by
  obtain ⟨_, t1, t2⟩ := target_eq g d
  have g2 := g.h2
  have n := nums_of g
  have n1 := n.lev; have n2 := n.cr; have n3 := n.va; have n4 := n.ha
  have r1 := g.ramp1
  have hl := lv_bd g (k := c.lv.length - 1) (by omega)
  unfold tick
  dsimp only
  rw [hh]
  simp only [Bool.false_eq_true, false_and, if_false]
  generalize targetR c d = t at *
  have vb : ∃ v, v = (if k.speed < t then min (k.speed + c.ramp) t else max (k.speed - c.ramp) t) ∧ -2147485000 ≤ v ∧ v ≤ 2147485000 := by
    refine ⟨_, rfl, ?_⟩; split <;> omega
  obtain ⟨v, hv, hv2, hv3⟩ := vb
  rw [← hv]
  clear hv
  split
  · dsimp only; omega
  · split
    · dsimp only; omega
    · dsimp only; omega

set_option maxHeartbeats 4000000 in
set_option maxRecDepth 100000 in
theorem law_RamTurned (c : Cfg) (k : Car) (d : Drv) (hb : c.lv.length < top) (ho : c.op.length < top) : CallV Try.prog G0 7 [c.enc, k.enc, d.enc] [] fun v _ => v = .c (.bool true) := by
  refine callV_ic hm (fn := Try.f7) rfl ic7_eq ic7_nm ic7_ok (by simp) ?_
  cases hf : fineB c
  · repeat' first
      | simp -dsimp [ic7, hf]
      | (with_reducible refine (CallD.pure ct_law12_awake (by simp) ?_).callV)
      | (with_reducible refine (CallD.pure (ct_law12_fine _ ho) (by simp) ?_).callV)
      | exact exitV.now rfl
  cases hn : near12 k d
  · repeat' first
      | simp -dsimp [ic7, hf, hn]
      | (with_reducible refine (CallD.pure ct_law12_awake (by simp) ?_).callV)
      | (with_reducible refine (CallD.pure (ct_law12_fine _ ho) (by simp) ?_).callV)
      | (with_reducible refine (CallD.pure (ct_ref12_Near _ _) (by simp) ?_).callV)
      | exact exitV.now rfl
  have g := fineB_good hf
  have h2 := g.h2
  have h16 := g.h16
  have hp : 0 < c.lv.length := by omega
  have hnil : c.lv ≠ [] := fun h => by rw [h] at hp; simp at hp
  have hk := near12_bd hn
  have hlast := lv_bd g (k := c.lv.length - 1) (by omega)
  have hw0 : IntKind.wrap .i64 ((c.lv.length : Int) - 1) = ((c.lv.length - 1 : Nat) : Int) := by
    rw [w64_of (by omega) (by omega)]; omega
  have hl2 : c.lv.length - 1 < c.lv.length := by omega
  have mt : ∃ (b1 b2 b3 b4 : Bool), (d.motion == 1) = b1 ∧ (d.motion == 3) = b2 ∧ (d.motion == 2) = b3 ∧ (d.motion == 4) = b4 := ⟨_, _, _, _, rfl, rfl, rfl, rfl⟩
  obtain ⟨b1, b2, b3, b4, m1, m2, m3, m4⟩ := mt
  have sN := ct_ref12_Near k d
  rw [hn] at sN
  simp only [Drv.enc, Drv.cells, Car.enc] at sN
  simp -dsimp [ic7]
  repeat' first
    | simp -dsimp [hf, hn, hnil, hw0, hl2, m1, m2, m3, m4, Drv.enc, Drv.cells]
    | with_reducible refine brV.intro (fun h => ?_) (fun h => ?_)
    | (with_reducible refine (CallD.pure ct_law12_awake (by simp) ?_).callV)
    | (with_reducible refine (CallD.pure (ct_law12_fine _ ho) (by simp) ?_).callV)
    | (with_reducible refine (CallD.pure sN (by simp) ?_).callV)
    | (with_reducible refine ordI (by kernel_rfl) ?_)
  all_goals
    obtain ⟨tm, htm⟩ : ∃ tm : Int, tm = turn d.motion := ⟨_, rfl⟩
    refine Ti.loopW hm (fun kk s => ∃ (q : Nat) (hx : List Blk) (x : V), q + kk = c.lv.length ∧
      ((q = 0 ∧ hx = [] ∧ x = .c (.slice none 0 0)) ∨ (0 < q ∧ 0 < kk ∧ ∃ j, x = .sl 1 (j + 5) 0 q ∧ hx[j]? = some (.cells 3 (ints (mir c.lv q)))) ∨ (kk = 0 ∧ x = .ro 1 (ints (mir c.lv c.lv.length)) ∧ hx = [])) ∧
      s = { t := [(58, vi q), (57, vi c.lv.length), (9, .p 4 0), (8, .p 3 0), (7, vi (at0 c.lv (c.lv.length - 1))), (5, .p 2 0), (4, .p 1 0), (3, .p 0 0)], d := [],
            h := [.cells 26 c.cells, .cells 28 [vi k.pos, vi k.speed], .cells 30 [vi d.motion, vb d.power, vi d.flow, vi 0, vb false, vi d.level], .cells 30 [vi tm, vb d.power, vi d.flow, vi 0, vb false, vi d.level], .cells 26 (cellsL x c)] ++ hx }) (k := c.lv.length) ?_ ?_
    · refine Wk.sub [(58, vi (0 : Nat)), (57, vi c.lv.length), (9, .p 4 0), (8, .p 3 0), (7, vi (at0 c.lv (c.lv.length - 1))), (5, .p 2 0), (4, .p 1 0), (3, .p 0 0)] (by simp) (Wk.now ⟨0, [], .c (.slice none 0 0), by omega, .inl ⟨rfl, rfl, rfl⟩, ?_⟩)
      simp_all [turn]
    rintro kk s ⟨q, hx, x, hq, hcase, rfl⟩
    clear h
    simp -dsimp
    refine brV.intro (fun hlt => ?_) (fun hlt => ?_)
    · have hlt : q < c.lv.length := by simpa using hlt
      have hw := wq hlt hb
      have w1 : IntKind.wrap .i64 (((c.lv.length - 1 : Nat) : Int) - (q : Int)) = ((c.lv.length - 1 - q : Nat) : Int) := by
        rw [w64_of (by omega) (by omega)]; omega
      have hl3 : c.lv.length - 1 - q < c.lv.length := by omega
      have hlq := lv_bd g hl3
      have w2 : IntKind.wrap .i64 (at0 c.lv (c.lv.length - 1) - at0 c.lv (c.lv.length - 1 - q)) = at0 c.lv (c.lv.length - 1) - at0 c.lv (c.lv.length - 1 - q) := w64_of (by omega) (by omega)
      have hs := mir_succ c.lv q
      have y1 : (q + 1) * 8 ≤ 140737488355328 := by omega
      have y2 : q + 1 ≤ 9223372036854775807 := by omega
      rcases hcase with ⟨rfl, rfl, rfl⟩ | ⟨hq0, hk0, j, rfl, hj⟩ | ⟨hk0, _⟩
      · have w1' : IntKind.wrap .i64 ((c.lv.length - 1 : Nat) : Int) = ((c.lv.length - 1 : Nat) : Int) := w64_of (by omega) (by omega)
        have w0 : IntKind.wrap .i64 0 = 0 := w64_of (by omega) (by omega)
        have w00 : IntKind.wrap .i64 1 = 1 := w64_of (by omega) (by omega)
        repeat' first
          | simp -dsimp [hlt, hw0, hl2, hnil, w1', w0, w00]
          | (with_reducible refine ordI (by kernel_rfl) ?_)
        refine ⟨kk - 1, by omega, Wk.sub [(58, vi (1 : Nat)), (57, vi c.lv.length), (9, .p 4 0), (8, .p 3 0), (7, vi (at0 c.lv (c.lv.length - 1))), (5, .p 2 0), (4, .p 1 0), (3, .p 0 0)] (by simp [w00]) (Wk.now ⟨1, [_, _], .sl 1 (1 + 5) 0 1, by omega, .inr (.inl ⟨by omega, by omega, 1, rfl, ?_⟩), rfl⟩)⟩
        rw [hs]
        simp [mir, ints]
      · have hjl := (List.getElem?_eq_some_iff.1 hj).1
        have hj2 : (hx ++ [Blk.cells 3 [vi (at0 c.lv (c.lv.length - 1) - at0 c.lv (c.lv.length - 1 - q))]])[j]? = some (.cells 3 (ints (mir c.lv q))) := by rw [List.getElem?_append_left hjl]; exact hj
        repeat' first
          | simp -dsimp [hlt, hw, hw0, hl2, hnil, w1, hl3, w2, hj, hj2, y1, y2]
          | (with_reducible refine ordI (by kernel_rfl) ?_)
        refine ⟨by omega, ordI (by kernel_rfl) ?_⟩
        by_cases hl4 : q + 1 < c.lv.length
        · refine ⟨kk - 1, by omega, Wk.sub [(58, vi ((q + 1 : Nat) : Int)), (57, vi c.lv.length), (9, .p 4 0), (8, .p 3 0), (7, vi (at0 c.lv (c.lv.length - 1))), (5, .p 2 0), (4, .p 1 0), (3, .p 0 0)] (by simp) (Wk.now ⟨q + 1, (hx ++ [Blk.cells 3 [vi (at0 c.lv (c.lv.length - 1) - at0 c.lv (c.lv.length - 1 - q))]]).set j .gone ++ [.cells 3 (ints (mir c.lv q) ++ [vi (at0 c.lv (c.lv.length - 1) - at0 c.lv (c.lv.length - 1 - q))])], .sl 1 ((hx.length + 1) + 5) 0 (q + 1), by omega, .inr (.inl ⟨by omega, by omega, hx.length + 1, rfl, ?_⟩), rfl⟩)⟩
          rw [hs]
          simp [ints]
        · have he : q + 1 = c.lv.length := by omega
          refine ⟨kk - 1, by omega, Wk.sub [(58, vi ((q + 1 : Nat) : Int)), (57, vi c.lv.length), (9, .p 4 0), (8, .p 3 0), (7, vi (at0 c.lv (c.lv.length - 1))), (5, .p 2 0), (4, .p 1 0), (3, .p 0 0)] (by simp) (Wk.freezeAt (hx.length + 6) 4 3 26 (ints (mir c.lv q) ++ [vi (at0 c.lv (c.lv.length - 1) - at0 c.lv (c.lv.length - 1 - q))]) (cellsL (.sl 1 (hx.length + 6) 0 (q + 1)) c) false (by omega) ?_ rfl (fitsL_cellsL _ _ _ _ _ ?_) ?_)⟩
          · simp
          · intro _
            exact ⟨fun _ => rfl, by simp [ints]⟩
          · have hz : rows false 1 (q + 1) (ints (mir c.lv q) ++ [vi (at0 c.lv (c.lv.length - 1) - at0 c.lv (c.lv.length - 1 - q))]) = ints (mir c.lv c.lv.length) := by
              have h5 := rows_ints (mir c.lv (q + 1))
              rw [mir_length] at h5
              have h6 : ints (mir c.lv q) ++ [vi (at0 c.lv (c.lv.length - 1) - at0 c.lv (c.lv.length - 1 - q))] = ints (mir c.lv (q + 1)) := by
                rw [hs]
                simp [ints]
              rw [h6, h5, he]
            rw [frzL_cellsL]
            simp only [V.frz, if_true, List.drop_zero, hz]
            exact Wk.cut 5 (by simp) (by simp) (by simp) (by simp [cellsL_ro]) (by simp) (by simp) (Wk.now ⟨q + 1, [], .ro 1 (ints (mir c.lv c.lv.length)), by omega, .inr (.inr ⟨by omega, rfl, rfl⟩), by simp⟩)
      · omega
    · have hge : q = c.lv.length := by
        have : ¬ q < c.lv.length := by simpa using hlt
        omega
      have hx2 : kk = 0 ∧ x = .ro 1 (ints (mir c.lv c.lv.length)) ∧ hx = [] := by
        rcases hcase with ⟨h, _⟩ | ⟨_, h, _⟩ | h
        · omega
        · omega
        · exact h
      obtain ⟨rfl, rfl, rfl⟩ := hx2
      rw [cellsL_ro]
      clear hlt hcase hq
      obtain ⟨C, hC⟩ : ∃ C : Cfg, C = mirC c := ⟨_, rfl⟩
      rw [show ({ c with lv := mir c.lv c.lv.length } : Cfg) = C from hC.symm]
      have hlC : C.lv.length = c.lv.length := by rw [hC]; simp [mirC]
      have hbC : C.lv.length < top := by rw [hlC]; exact hb
      have hoC : C.op.length < top := by rw [hC]; exact ho
      have hpC : 0 < C.lv.length := by rw [hlC]; exact hp
      have sF := ct_law12_fine C hoC
      obtain ⟨T, hT⟩ : ∃ T : Int, T = at0 c.lv (c.lv.length - 1) := ⟨_, rfl⟩
      have hTu := turned g k d d.level
      have hTt := target_turn g d 0 d.level
      rw [← hT] at hlast hTu ⊢
      rw [← hC, ← htm] at hTu hTt
      have w1 : IntKind.wrap .i64 (T - k.pos) = T - k.pos := w64_of (by omega) (by omega)
      have w2 : IntKind.wrap .i64 (-k.speed) = -k.speed := w64_of (by omega) (by omega)
      have sNt := ct_ref12_Near ⟨T - k.pos, -k.speed⟩ ⟨tm, d.power, d.flow, 0, false, d.level⟩
      cases hfC : fineB C
      · repeat' first
          | simp -dsimp [hfC, w1, w2]
          | (with_reducible refine (CallD.pure sF (by simp) ?_).callV)
          | (with_reducible refine CallD.pure sF (by simp) ?_)
          | (with_reducible refine ordI (by kernel_rfl) ?_)
          | exact exitV.now rfl
      cases hnt : near12 ⟨T - k.pos, -k.speed⟩ ⟨tm, d.power, d.flow, 0, false, d.level⟩
      · rw [hnt] at sNt
        simp only [Drv.enc, Drv.cells, Car.enc] at sNt
        repeat' first
          | simp -dsimp [hfC, w1, w2]
          | (with_reducible refine (CallD.pure sF (by simp) ?_).callV)
          | (with_reducible refine CallD.pure sF (by simp) ?_)
          | (with_reducible refine (CallD.pure sNt (by simp) ?_).callV)
          | (with_reducible refine CallD.pure sNt (by simp) ?_)
          | (with_reducible refine ordI (by kernel_rfl) ?_)
          | exact exitV.now rfl
      rw [hnt] at sNt
      have gC := fineB_good hfC
      have bt := near12_bd hnt
      have sA := ct_ram_Step c k ⟨d.motion, d.power, d.flow, 0, false, d.level⟩ hb hp
      have sB := ct_ram_Step C ⟨T - k.pos, -k.speed⟩ ⟨tm, d.power, d.flow, 0, false, d.level⟩ hbC hpC
      have sC := ct_ram_Target c ⟨d.motion, d.power, d.flow, 0, false, d.level⟩
      have sD := ct_ram_Target C ⟨tm, d.power, d.flow, 0, false, d.level⟩
      obtain ⟨q1, _⟩ := step_eq g (k := k) (d := ⟨d.motion, d.power, d.flow, 0, false, d.level⟩) (by omega) (by omega) (by omega) (by omega) (by dsimp only; omega) (by dsimp only; omega)
      obtain ⟨q2, _⟩ := step_eq gC (k := ⟨T - k.pos, -k.speed⟩) (d := ⟨tm, d.power, d.flow, 0, false, d.level⟩) (by dsimp only; omega) (by dsimp only; omega) (by dsimp only; omega) (by dsimp only; omega) (by dsimp only; omega) (by dsimp only; omega)
      obtain ⟨q3, _, _⟩ := target_eq g ⟨d.motion, d.power, d.flow, 0, false, d.level⟩
      obtain ⟨q4, q5, q6⟩ := target_eq gC ⟨tm, d.power, d.flow, 0, false, d.level⟩
      have bd := tick_bd gC (k := ⟨T - k.pos, -k.speed⟩) (d := ⟨tm, d.power, d.flow, 0, false, d.level⟩) (by dsimp only; omega) (by dsimp only; omega) rfl
      have bd2 := lv_bd gC (k := C.lv.length - 1) (by omega)
      have nC := nums_of gC
      have n1 := nC.lev; have n2 := nC.cr; have n3 := nC.va; have n4 := nC.ha; have n5 := nC.ne; have n6 := nC.ne2
      rw [q1] at sA
      rw [q2] at sB
      rw [q3] at sC
      rw [q4] at sD
      generalize tick c k ⟨d.motion, d.power, d.flow, 0, false, d.level⟩ = nx at *
      generalize tick C ⟨T - k.pos, -k.speed⟩ ⟨tm, d.power, d.flow, 0, false, d.level⟩ = ny at *
      generalize targetR c ⟨d.motion, d.power, d.flow, 0, false, d.level⟩ = tx at *
      generalize targetR C ⟨tm, d.power, d.flow, 0, false, d.level⟩ = ty at *
      obtain ⟨px, sx⟩ := nx
      obtain ⟨py, sy⟩ := ny
      dsimp only at hTu bd
      obtain ⟨rfl, rfl⟩ := hTu
      obtain rfl : tx = -ty := by omega
      simp only [Drv.enc, Drv.cells, Car.enc] at sNt sA sB sC sD
      have w3 : IntKind.wrap .i64 (T - py) = T - py := w64_of (by omega) (by omega)
      have w4 : IntKind.wrap .i64 (-sy) = -sy := w64_of (by omega) (by omega)
      have w5 : IntKind.wrap .i64 (-ty) = -ty := w64_of (by omega) (by omega)
      repeat' first
        | simp -dsimp [hfC, w1, w2, w3, w4, w5]
        | (with_reducible refine (CallD.pure sF (by simp) ?_).callV)
        | (with_reducible refine CallD.pure sF (by simp) ?_)
        | (with_reducible refine (CallD.pure sNt (by simp) ?_).callV)
        | (with_reducible refine CallD.pure sNt (by simp) ?_)
        | (with_reducible refine (CallD.pure sA (by simp) ?_).callV)
        | (with_reducible refine CallD.pure sA (by simp) ?_)
        | (with_reducible refine (CallD.pure sB (by simp) ?_).callV)
        | (with_reducible refine CallD.pure sB (by simp) ?_)
        | (with_reducible refine (CallD.pure sC (by simp) ?_).callV)
        | (with_reducible refine CallD.pure sC (by simp) ?_)
        | (with_reducible refine (CallD.pure sD (by simp) ?_).callV)
        | (with_reducible refine CallD.pure sD (by simp) ?_)
        | (with_reducible refine ordI (by kernel_rfl) ?_)
        | exact exitV.now rfl

end Go.Proofs.Ytmjhpniegjiocaa
