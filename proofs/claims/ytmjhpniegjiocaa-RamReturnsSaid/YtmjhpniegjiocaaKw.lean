/- Contracts of functions of the seat's program, and what follows of them: Kw. Conditions are in each statement. -/
import Derived.Test.YtmjhpniegjiocaaKr
set_option linter.unusedSimpArgs false
set_option linter.unusedVariables false
namespace Go.Proofs.Ytmjhpniegjiocaa
open Go Go.Proofs Go.Vm

def riseR (c : Cfg) : Int := w64 (c.sh + coastR c.ramp 2000 c.sh 0)
def vaneR (c : Cfg) : Int := w64 (c.creep + w64 (c.leak * w64 (w64 (c.star + 4) + tickR c.ramp 2000 c.sh 0)))
def nearNeed (c : Cfg) : Int := w64 (w64 (c.half + c.fh) + coastR c.ramp 2000 c.fh 0)
def wrongR (c : Cfg) : List UInt8 :=
  if levelsB c.lv = false then [108, 101, 118, 101, 108, 115] else
  if openB c = false then [111, 112, 101, 110] else
  if (decide (c.sl < 1) || decide (c.sh < c.sl) || decide (c.fl < c.sh) || decide (c.fh < c.fl) || decide (1000 < c.fh)) = true then [115, 112, 101, 101, 100, 115] else
  if withinB c.ramp 1 1000 = false then [114, 97, 109, 112] else
  if withinB c.leak 0 (w64 (c.sl - 1)) = false then [108, 101, 97, 107] else
  if withinB c.star 0 500 = false then [115, 116, 97, 114] else
  if withinB c.level (riseR c) 1000000 = false then [108, 101, 118, 101, 108] else
  if withinB c.creep c.level 1000000 = false then [99, 114, 101, 101, 112] else
  if (!withinB c.vane (vaneR c) 1000000 || decide (w64 (2 * c.vane) < c.fh)) = true then [118, 97, 110, 101] else
  if withinB c.half (w64 (c.vane + riseR c)) 1000000 = false then [104, 97, 108, 102] else
  if (!withinB c.near (nearNeed c) 1000000 || !apartB c) = true then [110, 101, 97, 114] else
  if (!withinB c.bounce 0 100 || !withinB c.look (w64 (c.bounce + 1)) 200) = true then [99, 111, 110, 116, 97, 99, 116, 115] else
  if withinB c.run 1 1000000 = false then [114, 117, 110] else
  if (!withinB c.starts 1 100 || !withinB c.within 1 1000000) = true then [115, 116, 97, 114, 116, 115] else
  if (!withinB c.patience 1 1000000 || !withinB c.tries 1 20) = true then [103, 97, 116, 101, 115] else
  []
theorem levelsB_len {lv : List Int} (h : levelsB lv = true) : 2 ≤ lv.length ∧ lv.length ≤ 16 := by
  simp [levelsB] at h
  exact ⟨h.1.1.1, h.1.1.2⟩
theorem ct_ref05_Wrong (c : Cfg) (hb : c.op.length < top) : Ct Try.prog G0 22 [c.enc] [] (vs (wrongR c)) [] := by
  refine callV_ic hm (fn := Try.f22) rfl ic22_eq ic22_nm ic22_ok (by simp) ?_
  simp -dsimp [ic22]
  refine (CallD.pure (ct_ref05_levels _) (by simp) ?_).callV
  simp -dsimp
  refine brV.intro (fun hlv => ?_) (fun hlv => ?_)
  rotate_left
  · simp -dsimp
    exact exitV.cut (by simp) (by simp) (by simp) (by simp) (by simp [wrongR, hlv])
  obtain ⟨h2, h16⟩ := levelsB_len hlv
  have ha := ct_ref05_apart c (by unfold top; omega) (by omega)
  simp -dsimp
  refine (CallD.pure (ct_ref05_open _ hb) (by simp) ?_).callV
  repeat' first
    | simp -dsimp [*]
    | with_reducible refine brV.intro (fun h => ?_) (fun h => ?_)
    | (with_reducible refine exitV.cut (by simp) (by simp) (by simp) (by simp) ⟨?_, by simp⟩)
    | (with_reducible refine CallD.pure ha (by simp) ?_)
    | (with_reducible refine (CallD.pure (ct_ref05_within _ _ _) (by simp) ?_).callV)
    | (with_reducible refine (CallD.pure (ct_ref05_coast _ _) (by simp) ?_).callV)
    | (with_reducible refine (CallD.pure (ct_ref05_ticks _ _) (by simp) ?_).callV)
    | (with_reducible refine CallD.pure (ct_ref05_within _ _ _) (by simp) ?_)
    | (with_reducible refine CallD.pure (ct_ref05_coast _ _) (by simp) ?_)
    | (with_reducible refine CallD.pure (ct_ref05_ticks _ _) (by simp) ?_)
    | (with_reducible refine ordI (by kernel_rfl) ?_)
  all_goals simp only [wrongR, riseR, vaneR, nearNeed, *, Bool.or_true, Bool.true_or, Bool.or_false, Bool.false_or, Bool.not_true, Bool.not_false, if_true, if_false, reduceIte, Bool.false_eq_true, Bool.true_eq_false, reduceCtorEq]

@[simp] theorem bytes_int : Try.prog.bytesOf 3 = 8 := by kernel_rfl
@[simp] theorem tslice_ints : tslice Try.prog 22 = true := by kernel_rfl
@[simp] theorem ints_fills (l : List Int) : (ints l).all V.fills = true := by
  rw [List.all_eq_true]
  intro v hv
  obtain ⟨x, _, rfl⟩ := List.mem_map.1 hv
  rfl
@[simp] theorem ints_cells (l : List Int) : ((ints l).map V.cells).flatten = ints l := by
  induction l with
  | nil => rfl
  | cons x l ih => simp [ints] at ih ⊢; exact ih
theorem ints_append (a b : List Int) : ints a ++ ints b = ints (a ++ b) := by simp [ints]
theorem ints_lit (l : List Int) : l.map vi = ints l := rfl
def Cfg.nums (c : Cfg) : List Int := [c.half, c.vane, c.level, c.creep, c.near, c.fl, c.fh, c.sl, c.sh, c.leak, c.ramp, c.bounce, c.look, c.star, c.run, c.starts, c.within, c.patience, c.tries]
def Cfg.all (c : Cfg) : List Int := c.lv ++ c.op ++ c.nums
def nearC (c : Cfg) : Bool := decide (c.lv.length ≤ 20) && decide (c.op.length ≤ 20) && allB (fun k => near31 (at0 c.all k)) c.all.length
set_option maxRecDepth 100000 in
theorem ct_ref05_Near (c : Cfg) : Ct Try.prog G0 21 [c.enc] [] (vb (nearC c)) [] := by
  refine callV_ic hm (fn := Try.f21) rfl ic21_eq ic21_nm ic21_ok (by simp) ?_
  by_cases h1 : c.lv.length ≤ 20
  case neg =>
    have h1' : 20 < (c.lv.length : Int) := by omega
    simp -dsimp [ic21, h1']
    exact exitV.cut (by simp) (by simp) (by simp) (by simp) (by simp [nearC]; omega)
  have h1' : ¬ 20 < (c.lv.length : Int) := by omega
  by_cases h2 : c.op.length ≤ 20
  case neg =>
    have h2' : 20 < (c.op.length : Int) := by omega
    simp -dsimp [ic21, h1', h2']
    exact exitV.cut (by simp) (by simp) (by simp) (by simp) (by simp [nearC]; omega)
  have h2' : ¬ 20 < (c.op.length : Int) := by omega
  have e1 : c.lv.length * 8 ≤ 140737488355328 := by omega
  have e2 : c.lv.length ≤ 9223372036854775807 := by omega
  have e3 : (c.lv.length + c.op.length) * 8 ≤ 140737488355328 := by omega
  have e4 : c.lv.length + c.op.length ≤ 9223372036854775807 := by omega
  have e5 : (c.lv.length + c.op.length + 19) * 8 ≤ 140737488355328 := by omega
  have e6 : c.lv.length + c.op.length + 19 ≤ 9223372036854775807 := by omega
  simp -dsimp [ic21, h1', h2', e1, e2, e3, e4, e5, e6]
  have hal : c.all.length = c.lv.length + c.op.length + 19 := by simp [Cfg.all, Cfg.nums]; omega
  refine ordI (by kernel_rfl) ?_
  refine Ti.loopW hm (fun k s => ∃ q : Nat, q + k = c.all.length ∧ allB (fun k => near31 (at0 c.all k)) q = true ∧ s = { t := [(69, vi q), (68, vi c.all.length), (3, .sl 1 5 0 c.all.length), (1, .p 0 0)], d := [], h := [.cells 26 c.cells, .gone, .gone, .gone, .cells 3 (c.nums.map vi), .cells 3 (ints c.all)] }) (k := c.all.length) ?_ ?_
  · refine Wk.sub [(69, vi (0 : Nat)), (68, vi c.all.length), (3, .sl 1 5 0 c.all.length), (1, .p 0 0)] (by simp [hal]) (Wk.now ⟨0, by omega, by simp [allB], ?_⟩)
    simp [Cfg.all, Cfg.nums, ints]
  rintro k s ⟨q, hq, ha, rfl⟩
  simp -dsimp
  refine brV.intro (fun hl => ?_) (fun hl => ?_)
  · have hl : q < c.all.length := by simpa using hl
    have hw := wq hl (by unfold top; omega)
    simp -dsimp [hl]
    refine brV.intro (fun hg => ?_) (fun hg => ?_)
    · simp -dsimp [hg]
      simp only [decide_eq_true_eq] at hg
      refine exitV.cut (by simp) (by simp) (by simp) (by simp) ⟨?_, by simp⟩
      have := allB_false (p := fun k => near31 (at0 c.all k)) hl (by simp [near31]; omega)
      simp [nearC, this]
    · simp -dsimp [hg, hl]
      refine brV.intro (fun hg2 => ?_) (fun hg2 => ?_)
      · simp -dsimp [hg2]
        simp only [decide_eq_true_eq] at hg2
        refine exitV.cut (by simp) (by simp) (by simp) (by simp) ⟨?_, by simp⟩
        have := allB_false (p := fun k => near31 (at0 c.all k)) hl (by simp [near31]; omega)
        simp [nearC, this]
      · simp only [decide_eq_false_iff_not] at hg hg2
        simp -dsimp [hw]
        exact ⟨k - 1, by omega, Wk.sub [(69, vi (q + 1 : Nat)), (68, vi c.all.length), (3, .sl 1 5 0 c.all.length), (1, .p 0 0)] (by simp) (Wk.now ⟨q + 1, by omega, allB_succ ha (by simp [near31]; omega), rfl⟩)⟩
  · have : q = c.all.length := by simp at hl; omega
    subst this
    simp -dsimp
    refine exitV.cut (by simp) (by simp) (by simp) (by simp) ⟨?_, by simp⟩
    simp [nearC, ha, h1, h2]

end Go.Proofs.Ytmjhpniegjiocaa
