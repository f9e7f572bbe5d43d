/- Contracts of functions of the seat's program, and what follows of them: Li. Conditions are in each statement. -/
import Derived.Test.YtbimcndnledkdaaLh
set_option linter.unusedSimpArgs false
set_option linter.unusedVariables false
namespace Go.Proofs.Ytbimcndnledkdaa
open Go Go.Proofs Go.Vm

def b64 : List CK := List.replicate 64 .b
@[simp] theorem flat_locks : flat Try.prog 40 35 = some b64 := by kernel_rfl
@[simp] theorem guard_locks : Try.prog.eqGuardType Try.prog.depth 35 = false := by kernel_rfl
theorem rep_map (g : Nat → Bool) : b64 = ((List.range 64).map g).map fun _ => CK.b := by rw [List.map_const']; rfl
theorem eqVs_lk (g : Nat → Bool) : eqVs b64 (lkL g) (lkL g) = some true := by
  have e : lkL g = ((List.range 64).map g).map fun b => vb b := by unfold lkL; rw [List.map_map]; rfl
  rw [e, rep_map g]
  exact eqVs_bools _
set_option maxHeartbeats 8000000 in
set_option maxRecDepth 100000 in
theorem law_LockStill (c : Cfg) (l : List Tk) (pos : Int) (hb : c.lv.length < top) (ho : c.op.length < top) (hl : l.length < top) (hh : ∀ t ∈ l, t.hd.length < top) :
    CallV Try.prog G0 7 [c.enc, .ro 4 (tkL l), vi pos] [] fun v _ => v = .c (.bool true) := by
  obtain ⟨b, hb1, sW⟩ := ct_few l hl hh
  have sF := ct_law14_fine c ho
  have sP := ct_ref01_Near pos
  refine callV_ic hm (fn := Try.f7) rfl ic7_eq ic7_nm ic7_ok (by simp) ?_
  simp -dsimp [ic7]
  (with_reducible refine (CallD.pure (ct_law14_awake) (by simp) ?_).callV)
  simp -dsimp
  (with_reducible refine (CallD.pure (sF) (by simp) ?_).callV)
  cases hf : fineB c
  · simp -dsimp
    (with_reducible refine (CallD.pure (ct_law14_awake) (by simp) ?_).callV)
    simp -dsimp
    exact exitV.now rfl
  simp -dsimp
  (with_reducible refine (CallD.pure (sW) (by simp) ?_).callV)
  cases b
  · simp -dsimp
    (with_reducible refine (CallD.pure (ct_law14_awake) (by simp) ?_).callV)
    simp -dsimp
    exact exitV.now rfl
  simp -dsimp
  (with_reducible refine (CallD.pure (sP) (by simp) ?_).callV)
  cases near31 pos
  · simp -dsimp
    (with_reducible refine (CallD.pure (ct_law14_awake) (by simp) ?_).callV)
    simp -dsimp
    exact exitV.now rfl
  have hfew := fewB_of (hb1 rfl)
  clear sW sF hb1 hf sP
  simp -dsimp [fold64]
  refine Ti.loopW hm (fun k s => ∃ (q : Nat) (g : Nat → Bool), q + k = l.length ∧ LkI c g ∧ s = { t := [(32, vi q), (31, vi l.length), (1, .ro 4 (tkL l)), (2, vi pos), (3, .p 0 0), (7, .p 1 0)], d := [], h := [.cells 26 c.cells, .cells 35 (lkL g)] }) (k := l.length) ?_ ?_
  · exact Wk.sub [(32, vi (0 : Nat)), (31, vi l.length), (1, .ro 4 (tkL l)), (2, vi pos), (3, .p 0 0), (7, .p 1 0)] (by simp) (Wk.now ⟨0, _, by omega, LkI.zero c, rfl⟩)
  rintro k s ⟨q, g, hq, hI, rfl⟩
  simp -dsimp
  (with_reducible refine brV.intro (fun h => ?_) (fun h => ?_))
  · have hlt : q < l.length := by simp at h; omega
    have w1 := wq hlt hl
    obtain ⟨x, hx⟩ : ∃ x, x = l[q] := ⟨_, rfl⟩
    have hxm := hfew.2 l[q] (List.getElem_mem hlt)
    rw [← hx] at hxm
    have sHd := ct_hands x.hd (by omega)
    have sSt := ct_Step c x.pos x.c0 x.c1 x.hd g hb (by unfold top; omega)
    have hI2 := hI.step x.pos x.c0 x.c1 x.hd
    have e : q ≤ l.length := by omega
    simp -dsimp [h, hlt, ← hx]
    (with_reducible refine (CallD.pure (sHd) (by simp) ?_))
    simp -dsimp
    (with_reducible refine (CallD.pure (sSt) (by simp) ?_))
    simp -dsimp
    (with_reducible refine ordI (by kernel_rfl) ?_)
    simp -dsimp [w1]
    exact ⟨k - 1, by omega, Wk.sub [(32, vi (q + 1 : Nat)), (31, vi l.length), (1, .ro 4 (tkL l)), (2, vi pos), (3, .p 0 0), (7, .p 1 0)] (by simp) (Wk.now ⟨q + 1, _, by omega, hI2, rfl⟩)⟩
  · have sN := ct_StepN c pos false false g hb
    have hI2 := hI.step pos false false []
    have hcm := calm_step hI pos
    obtain ⟨g2, hg2⟩ : ∃ g2, g2 = stepL c pos false false [] g := ⟨_, rfl⟩
    rw [← hg2] at sN hI2 hcm
    clear hg2 hI
    simp -dsimp
    refine (CallD.pure sN (by simp) ?_).callV
    simp -dsimp
    have fold3 : ∀ q, (.sl 3 2 0 (allH 1 q).length : V) = .sl 3 2 0 q := fun q => by simp
    refine Ti.loopW hm (fun k s => ∃ (n : Nat), n + k = 16 ∧ s = { t := [(60, vi n), (9, .sl 3 2 0 (2 * n)), (2, vi pos), (3, .p 0 0), (7, .p 1 0)], d := [], h := [.cells 26 c.cells, .cells 35 (lkL g2), .cells 52 (hdC (allH 1 (2 * n)))] }) (k := 16) ?_ ?_
    · refine Wk.sub [(60, vi (0 : Nat)), (9, .c (.slice none 0 0)), (2, vi pos), (3, .p 0 0), (7, .p 1 0)] (by simp) ?_
      exact Wk.nil 9 3 52 (by simp) (Wk.sub [(60, vi (0 : Nat)), (9, .sl 3 2 0 0), (2, vi pos), (3, .p 0 0), (7, .p 1 0)] (by simp) (Wk.now ⟨0, by omega, rfl⟩))
    rintro k2 s ⟨n, hn2, rfl⟩
    simp -dsimp
    (with_reducible refine brV.intro (fun hn1 => ?_) (fun hn1 => ?_))
    · have hn : n < 16 := by simp at hn1; omega
      have w2 := wq hn (by unfold top; omega)
      simp -dsimp [hn1]
      refine Ti.loopW hm (fun k3 s => ∃ (j : Nat), j + k3 = 2 ∧ s = { t := [(63, vi j), (10, vi n), (60, vi n), (9, .sl 3 2 0 (2 * n + j)), (2, vi pos), (3, .p 0 0), (7, .p 1 0)], d := [], h := [.cells 26 c.cells, .cells 35 (lkL g2), .cells 52 (hdC (allH 1 (2 * n + j)))] }) (k := 2) ?_ ?_
      · exact Wk.sub [(63, vi (0 : Nat)), (10, vi n), (60, vi n), (9, .sl 3 2 0 (2 * n)), (2, vi pos), (3, .p 0 0), (7, .p 1 0)] (by simp) (Wk.now ⟨0, by omega, rfl⟩)
      rintro k3 s ⟨j, hj2, rfl⟩
      simp -dsimp
      (with_reducible refine brV.intro (fun hj1 => ?_) (fun hj1 => ?_))
      · have hj : j < 2 := by simp at hj1; omega
        have w3 := wq hj (by unfold top; omega)
        have y1 : (2 * n + j + 1) * 24 ≤ 140737488355328 := by omega
        have y2 : 2 * n + j + 1 ≤ 9223372036854775807 := by omega
        have hby : Try.prog.bytesOf 52 = 24 := by kernel_rfl
        have hs := allH_succ 1 (2 * n + j)
        rw [show (2 * n + j) / 2 = n by omega, show (2 * n + j) % 2 = j by omega] at hs
        have hs2 : hdC (allH 1 (2 * n + j)) ++ [vi n, vi j, vi 1] = hdC (allH 1 (2 * n + j + 1)) := by rw [hs, hdC_app]
        simp -dsimp [hj1, hby, y1, y2, w3, hs2]
        refine ⟨by kernel_rfl, by decide, k3 - 1, by omega, Wk.some [0, 1, 4] [.cells 26 c.cells, .cells 35 (lkL g2), .cells 52 (hdC (allH 1 (2 * n + j + 1)))] [(63, vi (j + 1 : Nat)), (10, vi n), (60, vi n), (9, .sl 3 2 0 (2 * n + (j + 1))), (2, vi pos), (3, .p 0 0), (7, .p 1 0)] rfl (by simp [hs2]) (by simp) (by simp) (by simp) (by simp [rho, w3]; omega) (by simp)
          (Wk.now ⟨j + 1, by omega, rfl⟩)⟩
      · have hj : j = 2 := by simp at hj1; omega
        subst hj
        simp -dsimp [w2]
        exact ⟨k2 - 1, by omega, Wk.sub [(60, vi (n + 1 : Nat)), (9, .sl 3 2 0 (2 * n + 2)), (2, vi pos), (3, .p 0 0), (7, .p 1 0)] (by simp) (Wk.now ⟨n + 1, by omega, rfl⟩)⟩
    · have hn : n = 16 := by simp at hn1; omega
      subst hn
      have s1 := ct_StepN c pos false false g2 hb
      rw [lkV, lkV, still hI2 hcm] at s1
      have s2 := ct_StepS c (IntKind.wrap .i64 (-pos)) false false (allH 1 32) g2 hb (by rw [allH_length]; unfold top; omega)
      rw [lkV, lkV, still2 hcm] at s2
      rw [allH_length] at s2
      have eV := eqVs_lk g2
      simp -dsimp
      refine CallD.pure s1 (by simp) ?_
      simp -dsimp [eV]
      refine CallD.many [2] [2] s2 (by simp) (by simp) (by simp) (by simp) (by simp) (by simp) (by simp) (by simp [rho]) ?_
      simp -dsimp [eV]
      (with_reducible refine ordI (by kernel_rfl) ?_)
      exact exitV.now rfl
end Go.Proofs.Ytbimcndnledkdaa
