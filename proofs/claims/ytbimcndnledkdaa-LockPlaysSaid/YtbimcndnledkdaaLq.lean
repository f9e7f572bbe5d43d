/- Contracts of functions of the seat's program, and what follows of them: Lq. Conditions are in each statement. -/
import Derived.Test.YtbimcndnledkdaaLp
set_option linter.unusedSimpArgs false
set_option linter.unusedVariables false
namespace Go.Proofs.Ytbimcndnledkdaa
open Go Go.Proofs Go.Vm

set_option maxHeartbeats 8000000 in
set_option maxRecDepth 100000 in
theorem law_LockPlays (c : Cfg) (l : List Tk) (hb : c.lv.length < top) (ho : c.op.length < top) (hl : l.length < top) (hh : ∀ t ∈ l, t.hd.length < top) :
    CallV Try.prog G0 3 [c.enc, .ro 4 (tkL l)] [] fun v _ => v = .c (.bool true) := by
  obtain ⟨b, hb1, sW⟩ := ct_few l hl hh
  have sF := ct_law14_fine c ho
  refine callV_ic hm (fn := Try.f3) rfl ic3_eq ic3_nm ic3_ok (by simp) ?_
  simp -dsimp [ic3]
  (with_reducible refine (CallD.pure (ct_law14_awake) (by simp) ?_).callV)
  simp -dsimp
  (with_reducible refine (CallD.pure (sF) (by simp) ?_).callV)
  cases hf : fineB c
  · simp -dsimp
    (with_reducible refine (CallD.pure (ct_law14_awake) (by simp) ?_).callV)
    simp -dsimp
    exact exitV.now rfl
  simp -dsimp
  (with_reducible refine (CallD.pure (sW) (by simp) ?_).callV)
  cases b
  · simp -dsimp
    (with_reducible refine (CallD.pure (ct_law14_awake) (by simp) ?_).callV)
    simp -dsimp
    exact exitV.now rfl
  have hfew := fewB_of (hb1 rfl)
  have gd := fineB_good hf
  clear sW sF hb1 hf
  simp -dsimp [fold64]
  refine Ti.loopW hm (fun k s => ∃ (q : Nat) (g : Nat → Bool), q + k = l.length ∧ s = { t := [(27, vi q), (26, vi l.length), (1, .ro 4 (tkL l)), (2, .p 0 0), (5, .p 1 0), (6, .p 2 0)], d := [], h := [.cells 26 c.cells, .cells 35 (lkL g), .cells 34 (lkL g)] }) (k := l.length) ?_ ?_
  · exact Wk.sub [(27, vi (0 : Nat)), (26, vi l.length), (1, .ro 4 (tkL l)), (2, .p 0 0), (5, .p 1 0), (6, .p 2 0)] (by simp) (Wk.now ⟨0, _, by omega, rfl⟩)
  rintro k s ⟨q, g, hq, rfl⟩
  simp -dsimp
  (with_reducible refine brV.intro (fun h => ?_) (fun h => ?_))
  · have hlt : q < l.length := by simp at h; omega
    have w1 := wq hlt hl
    obtain ⟨x, hx⟩ : ∃ x, x = l[q] := ⟨_, rfl⟩
    have hxm := hfew.2 l[q] (List.getElem_mem hlt)
    rw [← hx] at hxm
    have sHd := ct_hands x.hd (by omega)
    have sS1 := ct_Step c x.pos x.c0 x.c1 x.hd g hb (by unfold top; omega)
    have sS2 := ct_rLocks gd x.pos x.c0 x.c1 x.hd g hb (by unfold top; omega)
    obtain ⟨g2, hg2⟩ : ∃ g2, g2 = stepL c x.pos x.c0 x.c1 x.hd g := ⟨_, rfl⟩
    rw [← hg2] at sS1 sS2
    have b1 := ct_Held g2
    have b2 := ct_rHeld g2
    have b3 := ct_Locked g2
    have b4 := ct_Shut g2
    have b5 := ct_rShut g2
    have eV := eqVs_lk g2
    simp -dsimp [h, hlt, ← hx]
    (with_reducible refine (CallD.pure (sHd) (by simp) ?_))
    simp -dsimp
    (with_reducible refine (CallD.pure (sS1) (by simp) ?_))
    simp -dsimp
    (with_reducible refine ordI (by kernel_rfl) ?_)
    refine (CallD.pure sS2 (by simp) ?_).callV
    simp -dsimp
    have hO2 : heldI g2 = optI (heldR g2) := rfl
    rw [hO2] at b2
    generalize heldR g2 = o at b1 b2 b3
    clear hO2 sHd sS1 sS2 hg2 hxm
    obtain ⟨sh, hsh⟩ : ∃ sh, sh = shutR g2 := ⟨_, rfl⟩
    rw [← hsh] at b4 b5
    have fin : ∃ k', k' < k ∧ Wk G0 90 0 { t := [(27, vi (q + 1 : Nat)), (26, vi l.length), (1, .ro 4 (tkL l)), (2, .p 0 0), (5, .p 1 0), (6, .p 2 0)], d := [], h := [.cells 26 c.cells, .cells 35 (lkL g2), .cells 34 (lkL g2)] }
        (fun s => ∃ (q : Nat) (g : Nat → Bool), q + k' = l.length ∧ s = { t := [(27, vi q), (26, vi l.length), (1, .ro 4 (tkL l)), (2, .p 0 0), (5, .p 1 0), (6, .p 2 0)], d := [], h := [.cells 26 c.cells, .cells 35 (lkL g), .cells 34 (lkL g)] }) :=
      ⟨k - 1, by omega, Wk.now ⟨q + 1, g2, by omega, rfl⟩⟩
    obtain ⟨k', hk', hwk⟩ := fin
    have zm : max (-1 : Int) 0 = 0 := by decide
    have z0 : ∀ n : Nat, ¬ (n : Int) < 0 := fun n => by omega
    have z1 : ∀ n : Nat, (0 : Int) ≤ (n : Int) := fun n => by omega
    have z2 : ∀ n : Nat, max (n : Int) 0 = (n : Int) := fun n => by omega
    (with_reducible refine (CallD.pure (b1) (by simp) ?_).callV)
    simp -dsimp
    (with_reducible refine (CallD.pure (b2) (by simp) ?_).callV)
    cases o with
    | none =>
      simp only [optI]
      repeat' first
        | simp -dsimp [eV, w1, zm]
        | (with_reducible refine (CallD.pure (b3) (by simp) ?_))
        | (with_reducible refine (CallD.pure (b4) (by simp) ?_))
        | (with_reducible refine (CallD.pure (b5) (by simp) ?_))
        | (with_reducible refine ordI (by kernel_rfl) ?_)
      exact ⟨k', hk', Wk.sub _ (by simp) (Wk.cut 3 (by simp) (by simp) (by simp) (by simp) (by simp) (by simp) hwk)⟩
    | some n =>
      simp only [optI]
      repeat' first
        | simp -dsimp [eV, w1, z0 n, z1 n, z2 n]
        | (with_reducible refine (CallD.pure (b3) (by simp) ?_))
        | (with_reducible refine (CallD.pure (b4) (by simp) ?_))
        | (with_reducible refine (CallD.pure (b5) (by simp) ?_))
        | (with_reducible refine ordI (by kernel_rfl) ?_)
      exact ⟨k', hk', Wk.sub _ (by simp) (Wk.cut 3 (by simp) (by simp) (by simp) (by simp) (by simp) (by simp) hwk)⟩
  · simp -dsimp
    exact exitV.now rfl
end Go.Proofs.Ytbimcndnledkdaa
