/- Contracts of functions of the seat's program, and what follows of them: Kr. Conditions are in each statement. -/
import Derived.Test.YtmjhpniegjiocaaKa
import Derived.Test.YtmjhpniegjiocaaIc
set_option linter.unusedSimpArgs false
set_option linter.unusedVariables false
namespace Go.Proofs.Ytmjhpniegjiocaa
open Go Go.Proofs Go.Vm

def near31 (n : Int) : Bool := decide (-2147483648 ≤ n) && decide (n ≤ 2147483648)
theorem ct_ref01_Near (x : Int) : Ct Try.prog G0 23 [vi x] [] (vb (near31 x)) [] := by
  refine callV_ic hm (fn := Try.f23) rfl ic23_eq ic23_nm ic23_ok (by simp) ?_
  simp -dsimp [ic23]
  repeat' first
    | simp -dsimp [*]
    | with_reducible refine brV.intro (fun h => ?_) (fun h => ?_)
    | (with_reducible refine exitV.cut (by simp) (by simp) (by simp) (by simp) ⟨?_, by simp⟩)
  all_goals first | (simp_all [near31]; done) | (simp_all [near31]; intros; omega)

def towR (speed target by' : Int) : Int := if speed < target then min (w64 (speed + max by' 0)) target else max (w64 (speed - max by' 0)) target
theorem ct_ref01_Toward (x y z : Int) : Ct Try.prog G0 26 [vi x, vi y, vi z] [] (vi (towR x y z)) [] := by
  refine callV_ic hm (fn := Try.f26) rfl ic26_eq ic26_nm ic26_ok (by simp) ?_
  simp -dsimp [ic26]
  repeat' first
    | simp -dsimp [*]
    | with_reducible refine brV.intro (fun h => ?_) (fun h => ?_)
    | (with_reducible refine exitV.cut (by simp) (by simp) (by simp) (by simp) ⟨?_, by simp⟩)
  all_goals first | (simp_all [towR]; done) | (simp_all [towR]; intros; omega)

def withinB (n low high : Int) : Bool := decide (low ≤ n) && decide (n ≤ high)
theorem ct_ref05_within (x y z : Int) : Ct Try.prog G0 37 [vi x, vi y, vi z] [] (vb (withinB x y z)) [] := by
  refine callV_ic hm (fn := Try.f37) rfl ic37_eq ic37_nm ic37_ok (by simp) ?_
  simp -dsimp [ic37]
  repeat' first
    | simp -dsimp [*]
    | with_reducible refine brV.intro (fun h => ?_) (fun h => ?_)
    | (with_reducible refine exitV.cut (by simp) (by simp) (by simp) (by simp) ⟨?_, by simp⟩)
  all_goals first | (simp_all [withinB]; done) | (simp_all [withinB]; intros; omega)

def coastR (by' : Int) : Nat → Int → Int → Int
  | 0, _, sum => sum
  | k + 1, s, sum => if 0 < s then coastR by' k (towR s 0 by') (w64 (sum + towR s 0 by')) else sum
theorem ct_ref05_coast (x y : Int) : Ct Try.prog G0 33 [vi x, vi y] [] (vi (coastR y 2000 x 0)) [] := by
  refine callV_ic hm (fn := Try.f33) rfl ic33_eq ic33_nm ic33_ok (by simp) ?_
  simp -dsimp [ic33]
  refine Ti.loopW hm (fun k s => ∃ (n : Nat) (sp sum : Int), n + k = 2000 ∧ coastR y k sp sum = coastR y 2000 x 0 ∧ s = { t := [(0, vi sp), (1, vi y), (5, vi sum), (6, vi n)], d := [], h := [] }) (k := 2000) ?_ ?_
  · exact Wk.sub [(0, vi x), (1, vi y), (5, vi 0), (6, vi (0 : Nat))] (by simp) (Wk.now ⟨0, x, 0, rfl, rfl, rfl⟩)
  rintro k s ⟨n, sp, sum, hn, hq, rfl⟩
  simp -dsimp
  refine brV.intro (fun h => ?_) (fun h => ?_)
  · simp -dsimp [h]
    refine brV.intro (fun h2 => ?_) (fun h2 => ?_)
    · simp only [decide_eq_true_eq] at h h2
      have hw := wq (q := n) (n := 2000) (by omega) (by unfold top; omega)
      simp -dsimp
      refine (CallD.pure (ct_ref01_Toward _ _ _) (by simp) ?_).callV
      simp -dsimp [hw]
      refine ⟨k - 1, by omega, Wk.sub [(0, vi (towR sp 0 y)), (1, vi y), (5, vi (w64 (sum + towR sp 0 y))), (6, vi (n + 1 : Nat))] (by simp) (Wk.now ⟨n + 1, _, _, by omega, ?_, rfl⟩)⟩
      rw [← hq]
      obtain ⟨k', rfl⟩ : ∃ k', k = k' + 1 := ⟨k - 1, by omega⟩
      simp [coastR, h]
    · simp only [decide_eq_true_eq, decide_eq_false_iff_not] at h h2
      have : k = 0 := by omega
      subst this
      simp -dsimp
      exact exitV.cut (by simp) (by simp) (by simp) (by simp) (by rw [← hq]; simp [coastR])
  · simp -dsimp [h]
    simp only [decide_eq_false_iff_not] at h
    exact exitV.cut (by simp) (by simp) (by simp) (by simp) (by
      rw [← hq]
      cases k with
      | zero => simp [coastR]
      | succ k => simp [coastR, h])

def tickR (by' : Int) : Nat → Int → Int → Int
  | 0, _, n => n
  | k + 1, s, n => if 0 < s then tickR by' k (towR s 0 by') (n + 1) else n
theorem ct_ref05_ticks (x y : Int) : Ct Try.prog G0 34 [vi x, vi y] [] (vi (tickR y 2000 x 0)) [] := by
  refine callV_ic hm (fn := Try.f34) rfl ic34_eq ic34_nm ic34_ok (by simp) ?_
  simp -dsimp [ic34]
  refine Ti.loopW hm (fun k s => ∃ (n : Nat) (sp : Int), n + k = 2000 ∧ tickR y k sp n = tickR y 2000 x 0 ∧ s = { t := [(0, vi sp), (1, vi y), (5, vi n)], d := [], h := [] }) (k := 2000) ?_ ?_
  · exact Wk.sub [(0, vi x), (1, vi y), (5, vi (0 : Nat))] (by simp) (Wk.now ⟨0, x, rfl, rfl, rfl⟩)
  rintro k s ⟨n, sp, hn, hq, rfl⟩
  simp -dsimp
  refine brV.intro (fun h => ?_) (fun h => ?_)
  · simp -dsimp [h]
    refine brV.intro (fun h2 => ?_) (fun h2 => ?_)
    · simp only [decide_eq_true_eq] at h h2
      have hw := wq (q := n) (n := 2000) (by omega) (by unfold top; omega)
      simp -dsimp
      refine (CallD.pure (ct_ref01_Toward _ _ _) (by simp) ?_).callV
      simp -dsimp [hw]
      refine ⟨k - 1, by omega, Wk.sub [(0, vi (towR sp 0 y)), (1, vi y), (5, vi (n + 1 : Nat))] (by simp) (Wk.now ⟨n + 1, _, by omega, ?_, rfl⟩)⟩
      rw [← hq]
      obtain ⟨k', rfl⟩ : ∃ k', k = k' + 1 := ⟨k - 1, by omega⟩
      simp [tickR, h]
    · simp only [decide_eq_true_eq, decide_eq_false_iff_not] at h h2
      have : k = 0 := by omega
      subst this
      simp -dsimp
      exact exitV.cut (by simp) (by simp) (by simp) (by simp) (by rw [← hq]; simp [tickR])
  · simp -dsimp [h]
    simp only [decide_eq_false_iff_not] at h
    exact exitV.cut (by simp) (by simp) (by simp) (by simp) (by
      rw [← hq]
      cases k with
      | zero => simp [tickR]
      | succ k => simp [tickR, h])

def goodLv (lv : List Int) (k : Nat) : Bool := decide (k = 0) || (decide (at0 lv (k - 1) < at0 lv k) && decide (at0 lv k ≤ 1000000))
def levelsB (lv : List Int) : Bool := decide (2 ≤ lv.length) && decide (lv.length ≤ 16) && decide (at0 lv 0 = 0) && allB (goodLv lv) lv.length
theorem w64_pred {q n : Nat} (h : 0 < q) (h2 : q < n) (hn : n < top) : IntKind.wrap .i64 ((q : Int) - 1) = ((q - 1 : Nat) : Int) := by
  unfold top at hn
  rw [w64_of (by omega) (by omega)]; omega
theorem ct_ref05_levels (c : Cfg) : Ct Try.prog G0 35 [c.enc] [] (vb (levelsB c.lv)) [] := by
  refine callV_ic hm (fn := Try.f35) rfl ic35_eq ic35_nm ic35_ok (by simp) ?_
  by_cases h2 : 2 ≤ c.lv.length
  case neg =>
    have h2' : (c.lv.length : Int) < 2 := by omega
    simp -dsimp [ic35, h2']
    exact exitV.cut (by simp) (by simp) (by simp) (by simp) (by simp [levelsB]; omega)
  have h2' : ¬ (c.lv.length : Int) < 2 := by omega
  by_cases h16 : c.lv.length ≤ 16
  case neg =>
    have h16' : 16 < (c.lv.length : Int) := by omega
    simp -dsimp [ic35, h2', h16']
    exact exitV.cut (by simp) (by simp) (by simp) (by simp) (by simp [levelsB]; omega)
  have h16' : ¬ 16 < (c.lv.length : Int) := by omega
  have hp : 0 < c.lv.length := by omega
  simp -dsimp [ic35, h2', h16', hp]
  refine brV.intro (fun h => ?_) (fun h => ?_)
  · simp -dsimp
    exact exitV.cut (by simp) (by simp) (by simp) (by simp) (by simp at h; simp [levelsB, h])
  simp -dsimp
  simp at h
  refine Ti.loopW hm (fun k s => ∃ q : Nat, q + k = c.lv.length ∧ 0 < q ∧ allB (goodLv c.lv) q = true ∧ s = { t := [(3, vi q), (1, .p 0 0)], d := [], h := [.cells 26 c.cells] }) (k := c.lv.length - 1) ?_ ?_
  · exact Wk.sub [(3, vi (1 : Nat)), (1, .p 0 0)] (by simp) (Wk.now ⟨1, by omega, by omega, by simp [allB, goodLv], rfl⟩)
  rintro k s ⟨q, hq, hq0, ha, rfl⟩
  simp -dsimp
  refine brV.intro (fun hl => ?_) (fun hl => ?_)
  · have hl : q < c.lv.length := by simpa using hl
    have hw := wq hl (by unfold top; omega)
    have hw2 := w64_pred hq0 hl (by unfold top; omega)
    have hl2 : q - 1 < c.lv.length := by omega
    simp -dsimp [hl, hw2, hl2]
    refine brV.intro (fun hg => ?_) (fun hg => ?_)
    · simp -dsimp [hg]
      simp only [decide_eq_true_eq] at hg
      refine ⟨by kernel_rfl, ?_⟩
      refine exitV.cut (by simp) (by simp) (by simp) (by simp) ⟨?_, by simp⟩
      have := allB_false (p := goodLv c.lv) hl (by simp [goodLv]; omega)
      simp [levelsB, this]
    · simp -dsimp [hg, hl, hw2, hl2]
      simp only [decide_eq_false_iff_not] at hg
      refine ⟨by kernel_rfl, brV.intro (fun hg2 => ?_) (fun hg2 => ?_)⟩
      · simp -dsimp [hg2]
        simp only [decide_eq_true_eq] at hg2
        refine exitV.cut (by simp) (by simp) (by simp) (by simp) ⟨?_, by simp⟩
        have := allB_false (p := goodLv c.lv) hl (by simp [goodLv]; omega)
        simp [levelsB, this]
      · simp only [decide_eq_false_iff_not] at hg2
        simp -dsimp [hw]
        exact ⟨k - 1, by omega, Wk.sub [(3, vi (q + 1 : Nat)), (1, .p 0 0)] (by simp) (Wk.now ⟨q + 1, by omega, by omega, allB_succ ha (by simp [goodLv]; omega), rfl⟩)⟩
  · have : q = c.lv.length := by simp at hl; omega
    subst this
    simp -dsimp
    refine exitV.cut (by simp) (by simp) (by simp) (by simp) ⟨?_, by simp⟩
    simp [levelsB, ha, h, h2, h16]

def goodOp (op : List Int) (k : Nat) : Bool := withinB (at0 op k) 1 3
def openB (c : Cfg) : Bool := allB (goodOp c.op) c.op.length && decide (c.op.length = c.lv.length)
theorem ct_ref05_open (c : Cfg) (hb : c.op.length < top) : Ct Try.prog G0 36 [c.enc] [] (vb (openB c)) [] := by
  refine callV_ic hm (fn := Try.f36) rfl ic36_eq ic36_nm ic36_ok (by simp) ?_
  simp -dsimp [ic36]
  refine Ti.loopW hm (fun k s => ∃ q : Nat, q + k = c.op.length ∧ allB (goodOp c.op) q = true ∧ s = { t := [(7, vi q), (6, vi c.op.length), (1, .p 0 0)], d := [], h := [.cells 26 c.cells] }) (k := c.op.length) ?_ ?_
  · exact Wk.sub [(7, vi (0 : Nat)), (6, vi c.op.length), (1, .p 0 0)] (by simp) (Wk.now ⟨0, by omega, by simp [allB], rfl⟩)
  rintro k s ⟨q, hq, ha, rfl⟩
  simp -dsimp
  refine brV.intro (fun hl => ?_) (fun hl => ?_)
  · have hl : q < c.op.length := by simpa using hl
    have hw := wq hl hb
    simp -dsimp [hl]
    refine (CallD.pure (ct_ref05_within _ _ _) (by simp) ?_).callV
    simp -dsimp
    refine brV.intro (fun hg => ?_) (fun hg => ?_)
    · simp -dsimp [hw]
      exact ⟨k - 1, by omega, Wk.sub [(7, vi (q + 1 : Nat)), (6, vi c.op.length), (1, .p 0 0)] (by simp) (Wk.now ⟨q + 1, by omega, allB_succ ha hg, rfl⟩)⟩
    · simp -dsimp
      refine exitV.cut (by simp) (by simp) (by simp) (by simp) ⟨?_, by simp⟩
      have := allB_false (p := goodOp c.op) hl hg
      simp [openB, this]
  · have : q = c.op.length := by simp at hl; omega
    subst this
    simp -dsimp
    refine exitV.cut (by simp) (by simp) (by simp) (by simp) ⟨?_, by simp⟩
    simp [openB, ha]
    rw [Bool.eq_iff_iff]; simp; omega

def goodAp (c : Cfg) (k : Nat) : Bool := decide (k = 0) || !decide (w64 (at0 c.lv k - at0 c.lv (k - 1)) ≤ w64 (w64 (2 * c.near) + c.fh))
def apartB (c : Cfg) : Bool := allB (goodAp c) c.lv.length
theorem ct_ref05_apart (c : Cfg) (hb : c.lv.length < top) (hp : 0 < c.lv.length) : Ct Try.prog G0 38 [c.enc] [] (vb (apartB c)) [] := by
  refine callV_ic hm (fn := Try.f38) rfl ic38_eq ic38_nm ic38_ok (by simp) ?_
  simp -dsimp [ic38]
  refine Ti.loopW hm (fun k s => ∃ q : Nat, q + k = c.lv.length ∧ 0 < q ∧ allB (goodAp c) q = true ∧ s = { t := [(3, vi q), (1, .p 0 0)], d := [], h := [.cells 26 c.cells] }) (k := c.lv.length - 1) ?_ ?_
  · exact Wk.sub [(3, vi (1 : Nat)), (1, .p 0 0)] (by simp) (Wk.now ⟨1, by omega, by omega, by simp [allB, goodAp], rfl⟩)
  rintro k s ⟨q, hq, hq0, ha, rfl⟩
  simp -dsimp
  refine brV.intro (fun hl => ?_) (fun hl => ?_)
  · have hl : q < c.lv.length := by simpa using hl
    have hw := wq hl hb
    have hw2 := w64_pred hq0 hl hb
    have hl2 : q - 1 < c.lv.length := by omega
    simp -dsimp [hl, hw2, hl2]
    refine ⟨by kernel_rfl, brV.intro (fun hg => ?_) (fun hg => ?_)⟩
    · simp -dsimp
      simp only [decide_eq_true_eq] at hg
      refine exitV.cut (by simp) (by simp) (by simp) (by simp) ⟨?_, by simp⟩
      have := allB_false (p := goodAp c) hl (by simp [goodAp]; exact ⟨by omega, hg⟩)
      simp [apartB, this]
    · simp -dsimp [hw]
      exact ⟨k - 1, by omega, Wk.sub [(3, vi (q + 1 : Nat)), (1, .p 0 0)] (by simp) (Wk.now ⟨q + 1, by omega, by omega, allB_succ ha (by simp [goodAp, hg]), rfl⟩)⟩
  · have : q = c.lv.length := by simp at hl; omega
    subst this
    simp -dsimp
    refine exitV.cut (by simp) (by simp) (by simp) (by simp) ⟨?_, by simp⟩
    simp [apartB, ha]

end Go.Proofs.Ytmjhpniegjiocaa
