/- Contracts of functions of the seat's program, and what follows of them: Pc. Conditions are in each statement. -/
import Derived.Test.YtdnigflmcmammaaDoorPb
set_option linter.unusedSimpArgs false
set_option linter.unusedVariables false
namespace Go.Proofs.YtdnigflmcmammaaDoor
open Go Go.Proofs Go.Vm

def goodL1 (lv : List Int) (k : Nat) : Bool := (if k = 0 then decide (at0 lv 0 = 0) else decide (at0 lv (k - 1) < at0 lv k)) && decide (at0 lv k ≤ 1000000)
def levels1 (lv : List Int) : Bool := allB (goodL1 lv) lv.length && withinB lv.length 2 16
set_option maxRecDepth 100000 in
theorem ct_config_levels (c : Cfg) (hb : c.lv.length < top) : Ct Tryd.prog G0 30 [c.enc] [] (vb (levels1 c.lv)) [] := by
  refine callV_ic hm (fn := Tryd.f30) rfl ic30_eq ic30_nm ic30_ok (by simp) ?_
  simp -dsimp [ic30]
  refine Ti.loopW hm (fun k s => ∃ q : Nat, q + k = c.lv.length ∧ allB (goodL1 c.lv) q = true ∧ s = { t := [(8, vi q), (7, vi c.lv.length), (6, .ro 1 (ints c.lv)), (1, .p 0 0)], d := [], h := [.cells 31 c.cells] }) (k := c.lv.length) ?_ ?_
  · exact Wk.sub [(8, vi (0 : Nat)), (7, vi c.lv.length), (6, .ro 1 (ints c.lv)), (1, .p 0 0)] (by simp) (Wk.now ⟨0, by omega, by simp [allB], rfl⟩)
  rintro k s ⟨q, hq, ha, rfl⟩
  simp -dsimp
  refine brV.intro (fun hl => ?_) (fun hl => ?_)
  · have hl : q < c.lv.length := by simpa using hl
    have hw := wq hl hb
    have bad : goodL1 c.lv q = false → levels1 c.lv = false := fun h => by simp [levels1, allB_false hl h]
    have hzi : q ≠ 0 → ((q : Int) == 0) = false := fun h => by simp; omega
    rcases Nat.eq_zero_or_pos q with hz | hz
    · subst hz
      have hw1 : IntKind.wrap .i64 1 = 1 := by decide
      simp -dsimp [hl]
      repeat' first
        | simp -dsimp [hw1, *]
        | (with_reducible refine brV.intro (fun h => ?_) (fun h => ?_))
        | (with_reducible refine ordI (by kernel_rfl) ?_)
        | (with_reducible refine exitV.cut (by simp) (by simp) (by simp) (by simp) ⟨?_, by simp⟩)
      · exact bad (by simp_all [goodL1])
      · exact bad (by simp_all [goodL1])
      · exact ⟨k - 1, by omega, Wk.sub [(8, vi (0 + 1 : Nat)), (7, vi c.lv.length), (6, .ro 1 (ints c.lv)), (1, .p 0 0)] (by simp) (Wk.now ⟨0 + 1, by omega, allB_succ ha (by simp_all [goodL1]), rfl⟩)⟩
    · have hw2 := w64_pred hz hl hb
      have hl2 : q - 1 < c.lv.length := by omega
      have hz' : ¬ q = 0 := by omega
      have hz'' := hzi hz'
      simp -dsimp [hl, hw2, hl2, hz'']
      repeat' first
        | simp -dsimp [*]
        | (with_reducible refine brV.intro (fun h => ?_) (fun h => ?_))
        | (with_reducible refine ordI (by kernel_rfl) ?_)
        | (with_reducible refine exitV.cut (by simp) (by simp) (by simp) (by simp) ⟨?_, by simp⟩)
      · exact bad (by simp_all [goodL1]; try omega)
      · exact bad (by simp_all [goodL1]; try omega)
      · exact ⟨k - 1, by omega, Wk.sub [(8, vi (q + 1 : Nat)), (7, vi c.lv.length), (6, .ro 1 (ints c.lv)), (1, .p 0 0)] (by simp) (Wk.now ⟨q + 1, by omega, allB_succ ha (by simp_all [goodL1]), rfl⟩)⟩
  · have : q = c.lv.length := by simp at hl; omega
    subst this
    simp -dsimp
    refine (CallD.pure (ct_config_within _ _ _) (by simp) ?_).callV
    simp -dsimp
    refine exitV.cut (by simp) (by simp) (by simp) (by simp) ⟨?_, by simp⟩
    simp [levels1, ha]
theorem levels1_eq (lv : List Int) : levels1 lv = levelsB lv := by
  rw [Bool.eq_iff_iff]
  simp only [levels1, levelsB, withinB, Bool.and_eq_true, allB_iff, decide_eq_true_eq]
  constructor
  · rintro ⟨h, h1, h2⟩
    have h0 := h 0 (by omega)
    simp [goodL1] at h0
    refine ⟨⟨⟨by omega, by omega⟩, h0.1⟩, fun k hk => ?_⟩
    have := h k hk
    by_cases hz : k = 0
    · simp [goodLv, hz]
    · simp [goodL1, hz] at this; simp [goodLv, this]
  · rintro ⟨⟨⟨h1, h2⟩, h0⟩, h⟩
    refine ⟨fun k hk => ?_, by omega, by omega⟩
    have := h k hk
    by_cases hz : k = 0
    · subst hz; simp [goodL1, h0]
    · simp [goodLv, hz] at this; simp [goodL1, hz, this]

theorem ct_config_open (c : Cfg) (hb : c.op.length < top) : Ct Tryd.prog G0 31 [c.enc] [] (vb (openB c)) [] := by
  refine callV_ic hm (fn := Tryd.f31) rfl ic31_eq ic31_nm ic31_ok (by simp) ?_
  simp -dsimp [ic31]
  refine Ti.loopW hm (fun k s => ∃ q : Nat, q + k = c.op.length ∧ allB (goodOp c.op) q = true ∧ s = { t := [(8, vi q), (7, vi c.op.length), (6, .ro 1 (ints c.op)), (1, .p 0 0)], d := [], h := [.cells 31 c.cells] }) (k := c.op.length) ?_ ?_
  · exact Wk.sub [(8, vi (0 : Nat)), (7, vi c.op.length), (6, .ro 1 (ints c.op)), (1, .p 0 0)] (by simp) (Wk.now ⟨0, by omega, by simp [allB], rfl⟩)
  rintro k s ⟨q, hq, ha, rfl⟩
  simp -dsimp
  refine brV.intro (fun hl => ?_) (fun hl => ?_)
  · have hl : q < c.op.length := by simpa using hl
    have hw := wq hl hb
    simp -dsimp [hl]
    refine (CallD.pure (ct_config_within _ _ _) (by simp) ?_).callV
    simp -dsimp
    refine brV.intro (fun hg => ?_) (fun hg => ?_)
    · simp -dsimp [hw]
      exact ⟨k - 1, by omega, Wk.sub [(8, vi (q + 1 : Nat)), (7, vi c.op.length), (6, .ro 1 (ints c.op)), (1, .p 0 0)] (by simp) (Wk.now ⟨q + 1, by omega, allB_succ ha (by simpa [goodOp] using hg), rfl⟩)⟩
    · simp -dsimp
      refine exitV.cut (by simp) (by simp) (by simp) (by simp) ⟨?_, by simp⟩
      have := allB_false (p := goodOp c.op) hl (by simpa [goodOp] using hg)
      simp [openB, this]
  · have : q = c.op.length := by simp at hl; omega
    subst this
    simp -dsimp
    refine exitV.cut (by simp) (by simp) (by simp) (by simp) ⟨?_, by simp⟩
    simp [openB, ha]
    rw [Bool.eq_iff_iff]; simp; omega

def nearP (c : Cfg) : Bool := apartB c && withinB c.near (w64 (c.half + brakeP c)) 1000000
theorem ct_config_near (c : Cfg) (hb : c.lv.length < top) : Ct Tryd.prog G0 41 [c.enc] [] (vb (nearP c)) [] := by
  refine callV_ic hm (fn := Tryd.f41) rfl ic41_eq ic41_nm ic41_ok (by simp) ?_
  simp -dsimp [ic41]
  refine Ti.loopW hm (fun k s => ∃ q : Nat, q + k = c.lv.length + 1 ∧ 0 < q ∧ allB (goodAp c) (min q c.lv.length) = true ∧ s = { t := [(3, vi q), (1, .p 0 0)], d := [], h := [.cells 31 c.cells] }) (k := c.lv.length) ?_ ?_
  · refine Wk.sub [(3, vi (1 : Nat)), (1, .p 0 0)] (by simp) (Wk.now ⟨1, by omega, by omega, ?_, rfl⟩)
    rw [allB_iff]; intro j hj
    simp [goodAp]; omega
  rintro k s ⟨q, hq, hq0, ha, rfl⟩
  simp -dsimp
  refine brV.intro (fun hl => ?_) (fun hl => ?_)
  · have hl : q < c.lv.length := by simpa using hl
    rw [show min q c.lv.length = q by omega] at ha
    have hw := wq hl hb
    have hw2 := w64_pred hq0 hl hb
    have hl2 : q - 1 < c.lv.length := by omega
    simp -dsimp [hl, hw2, hl2]
    refine ⟨by kernel_rfl, brV.intro (fun hg => ?_) (fun hg => ?_)⟩
    · simp -dsimp
      refine exitV.cut (by simp) (by simp) (by simp) (by simp) ⟨?_, by simp⟩
      have := allB_false (p := goodAp c) hl (by simp at hg; simp [goodAp, hg]; omega)
      simp [nearP, apartB, this]
    · simp -dsimp [hw]
      refine ⟨k - 1, by omega, Wk.sub [(3, vi (q + 1 : Nat)), (1, .p 0 0)] (by simp) (Wk.now ⟨q + 1, by omega, by omega, ?_, rfl⟩)⟩
      rw [show min (q + 1) c.lv.length = q + 1 by omega]
      exact allB_succ ha (by simp at hg; simp [goodAp, hg])
  · have : c.lv.length ≤ q := by simpa using hl
    rw [show min q c.lv.length = c.lv.length by omega] at ha
    simp -dsimp
    refine CallD.pure (ct_config_brake _) (by simp) ?_
    simp -dsimp
    refine CallD.pure (ct_config_within _ _ _) (by simp) ?_
    simp -dsimp
    refine ⟨by kernel_rfl, exitV.cut (by simp) (by simp) (by simp) (by simp) ⟨?_, by simp⟩⟩
    simp [nearP, apartB, ha]
end Go.Proofs.YtdnigflmcmammaaDoor
