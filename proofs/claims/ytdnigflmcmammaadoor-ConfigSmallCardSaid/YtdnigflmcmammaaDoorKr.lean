/- Contracts of functions of the seat's program, and what follows of them: Kr. Conditions are in each statement. -/
import Derived.Test.YtdnigflmcmammaaDoorKa
import Derived.Test.YtdnigflmcmammaaDoorIc
set_option linter.unusedSimpArgs false
set_option linter.unusedVariables false
namespace Go.Proofs.YtdnigflmcmammaaDoor
open Go Go.Proofs Go.Vm

def near31 (n : Int) : Bool := decide (-2147483648 ≤ n) && decide (n ≤ 2147483648)
def towR (speed target by' : Int) : Int := if speed < target then min (w64 (speed + max by' 0)) target else max (w64 (speed - max by' 0)) target
theorem ct_ref01_Toward (x y z : Int) : Ct Tryd.prog G0 29 [vi x, vi y, vi z] [] (vi (towR x y z)) [] := by
  refine callV_ic hm (fn := Tryd.f29) rfl ic29_eq ic29_nm ic29_ok (by simp) ?_
  simp -dsimp [ic29]
  repeat' first
    | simp -dsimp [*]
    | with_reducible refine brV.intro (fun h => ?_) (fun h => ?_)
    | (with_reducible refine exitV.cut (by simp) (by simp) (by simp) (by simp) ⟨?_, by simp⟩)
  all_goals first | (simp_all [towR]; done) | (simp_all [towR]; intros; omega)

def withinB (n low high : Int) : Bool := decide (low ≤ n) && decide (n ≤ high)
def coastR (by' : Int) : Nat → Int → Int → Int
  | 0, _, sum => sum
  | k + 1, s, sum => if 0 < s then coastR by' k (towR s 0 by') (w64 (sum + towR s 0 by')) else sum
theorem ct_ref05_coast (x y : Int) : Ct Tryd.prog G0 14 [vi x, vi y] [] (vi (coastR y 2000 x 0)) [] := by
  refine callV_ic hm (fn := Tryd.f14) rfl ic14_eq ic14_nm ic14_ok (by simp) ?_
  simp -dsimp [ic14]
  refine Ti.loopW hm (fun k s => ∃ (n : Nat) (sp sum : Int), n + k = 2000 ∧ coastR y k sp sum = coastR y 2000 x 0 ∧ s = { t := [(0, vi sp), (1, vi y), (5, vi sum), (6, vi n)], d := [], h := [] }) (k := 2000) ?_ ?_
  · exact Wk.sub [(0, vi x), (1, vi y), (5, vi 0), (6, vi (0 : Nat))] (by simp) (Wk.now ⟨0, x, 0, rfl, rfl, rfl⟩)
  rintro k s ⟨n, sp, sum, hn, hq, rfl⟩
  simp -dsimp
  refine brV.intro (fun h => ?_) (fun h => ?_)
  · simp -dsimp [h]
    refine brV.intro (fun h2 => ?_) (fun h2 => ?_)
    · simp only [decide_eq_true_eq] at h h2
      have hw := wq (q := n) (n := 2000) (by omega) (by unfold top; omega)
      simp -dsimp
      refine (CallD.pure (ct_ref01_Toward _ _ _) (by simp) ?_).callV
      simp -dsimp [hw]
      refine ⟨k - 1, by omega, Wk.sub [(0, vi (towR sp 0 y)), (1, vi y), (5, vi (w64 (sum + towR sp 0 y))), (6, vi (n + 1 : Nat))] (by simp) (Wk.now ⟨n + 1, _, _, by omega, ?_, rfl⟩)⟩
      rw [← hq]
      obtain ⟨k', rfl⟩ : ∃ k', k = k' + 1 := ⟨k - 1, by omega⟩
      simp [coastR, h]
    · simp only [decide_eq_true_eq, decide_eq_false_iff_not] at h h2
      have : k = 0 := by omega
      subst this
      simp -dsimp
      exact exitV.cut (by simp) (by simp) (by simp) (by simp) (by rw [← hq]; simp [coastR])
  · simp -dsimp [h]
    simp only [decide_eq_false_iff_not] at h
    exact exitV.cut (by simp) (by simp) (by simp) (by simp) (by
      rw [← hq]
      cases k with
      | zero => simp [coastR]
      | succ k => simp [coastR, h])

def tickR (by' : Int) : Nat → Int → Int → Int
  | 0, _, n => n
  | k + 1, s, n => if 0 < s then tickR by' k (towR s 0 by') (n + 1) else n
theorem ct_ref05_ticks (x y : Int) : Ct Tryd.prog G0 15 [vi x, vi y] [] (vi (tickR y 2000 x 0)) [] := by
  refine callV_ic hm (fn := Tryd.f15) rfl ic15_eq ic15_nm ic15_ok (by simp) ?_
  simp -dsimp [ic15]
  refine Ti.loopW hm (fun k s => ∃ (n : Nat) (sp : Int), n + k = 2000 ∧ tickR y k sp n = tickR y 2000 x 0 ∧ s = { t := [(0, vi sp), (1, vi y), (5, vi n)], d := [], h := [] }) (k := 2000) ?_ ?_
  · exact Wk.sub [(0, vi x), (1, vi y), (5, vi (0 : Nat))] (by simp) (Wk.now ⟨0, x, rfl, rfl, rfl⟩)
  rintro k s ⟨n, sp, hn, hq, rfl⟩
  simp -dsimp
  refine brV.intro (fun h => ?_) (fun h => ?_)
  · simp -dsimp [h]
    refine brV.intro (fun h2 => ?_) (fun h2 => ?_)
    · simp only [decide_eq_true_eq] at h h2
      have hw := wq (q := n) (n := 2000) (by omega) (by unfold top; omega)
      simp -dsimp
      refine (CallD.pure (ct_ref01_Toward _ _ _) (by simp) ?_).callV
      simp -dsimp [hw]
      refine ⟨k - 1, by omega, Wk.sub [(0, vi (towR sp 0 y)), (1, vi y), (5, vi (n + 1 : Nat))] (by simp) (Wk.now ⟨n + 1, _, by omega, ?_, rfl⟩)⟩
      rw [← hq]
      obtain ⟨k', rfl⟩ : ∃ k', k = k' + 1 := ⟨k - 1, by omega⟩
      simp [tickR, h]
    · simp only [decide_eq_true_eq, decide_eq_false_iff_not] at h h2
      have : k = 0 := by omega
      subst this
      simp -dsimp
      exact exitV.cut (by simp) (by simp) (by simp) (by simp) (by rw [← hq]; simp [tickR])
  · simp -dsimp [h]
    simp only [decide_eq_false_iff_not] at h
    exact exitV.cut (by simp) (by simp) (by simp) (by simp) (by
      rw [← hq]
      cases k with
      | zero => simp [tickR]
      | succ k => simp [tickR, h])

def goodLv (lv : List Int) (k : Nat) : Bool := decide (k = 0) || (decide (at0 lv (k - 1) < at0 lv k) && decide (at0 lv k ≤ 1000000))
def levelsB (lv : List Int) : Bool := decide (2 ≤ lv.length) && decide (lv.length ≤ 16) && decide (at0 lv 0 = 0) && allB (goodLv lv) lv.length
theorem w64_pred {q n : Nat} (h : 0 < q) (h2 : q < n) (hn : n < top) : IntKind.wrap .i64 ((q : Int) - 1) = ((q - 1 : Nat) : Int) := by
  unfold top at hn
  rw [w64_of (by omega) (by omega)]; omega
def goodOp (op : List Int) (k : Nat) : Bool := withinB (at0 op k) 1 3
def openB (c : Cfg) : Bool := allB (goodOp c.op) c.op.length && decide (c.op.length = c.lv.length)
def goodAp (c : Cfg) (k : Nat) : Bool := decide (k = 0) || !decide (w64 (at0 c.lv k - at0 c.lv (k - 1)) ≤ w64 (w64 (2 * c.near) + c.fh))
def apartB (c : Cfg) : Bool := allB (goodAp c) c.lv.length
end Go.Proofs.YtdnigflmcmammaaDoor
