/- Contracts of functions of the seat's program, and what follows of them: Cd. Conditions are in each statement. -/
import Derived.Test.YtofdhldillmbdaaCb
set_option linter.unusedSimpArgs false
set_option linter.unusedVariables false
namespace Go.Proofs.Ytofdhldillmbdaa
open Go Go.Proofs Go.Vm

theorem pow16 : ∀ n : Fin 16, IntKind.wrap .i64 ((2 : Int) ^ n.val) = 2 ^ n.val := by decide +kernel
theorem ct_Without (x n : Int) : Ct Try.prog G0 16 [vi x, vi n] [] (vi (without x n)) [] := by
  refine callV_ic hm (fn := Try.f16) rfl ic16_eq ic16_nm ic16_ok (by simp) ?_
  simp -dsimp [ic16]
  refine (CallD.pure (ct_is _) (by simp) ?_).callV
  simp -dsimp
  refine brV.intro (fun h => ?_) (fun h => ?_)
  · have hn : 0 ≤ n ∧ n < 16 := by simpa [isB] using h
    have hmin : min n.toNat (IntKind.bits .i64) = n.toNat := by simp only [IntKind.bits]; omega
    have hp := pow16 ⟨n.toNat, by omega⟩
    simp only at hp
    simp -dsimp [h, hmin, hp]
    refine ⟨hn.1, exitV.cut (by simp) (by simp) (by simp) (by simp) ⟨?_, by simp⟩⟩
    simp [without, h]
  · simp -dsimp [h]
    refine exitV.cut (by simp) (by simp) (by simp) (by simp) ⟨?_, by simp⟩
    simp [without, h]

theorem ct_each (x : Int) : Ct Try.prog G0 29 [vi x] [] (.fn (.func 39) [] [.p 0 0]) [.cells 23 [vi x]] := by
  refine callV_ic hm (fn := Try.f29) rfl ic29_eq ic29_nm ic29_ok (by simp) ?_
  simp -dsimp [ic29]
  refine exitV.now ?_
  exact ⟨rfl, rfl⟩

theorem ct_each1 {x : Int} {a L : Nat} {h : List Blk} (I : Nat → List Blk → Prop) (J : List Blk → Prop) {K : V → List Blk → Prop}
    (hI : ∀ k h', I k h' → h'[a]? = some (.cells 23 [vi x]))
    (hy : ∀ k h', I k h' → k < 16 → hasB x k = true → YieldV Try.prog G0 L [vi k] h' fun v h' => (v = vb true ∧ I (k + 1) h') ∨ (v = vb false ∧ J h'))
    (hn : ∀ k h', I k h' → k < 16 → hasB x k = false → I (k + 1) h')
    (h0 : I 0 h) (hK : ∀ h', I 16 h' ∨ J h' → K (.tup []) h') : CallV Try.prog G0 39 [.yl L, .p a 0] h K := by
  refine callV_ic hm (fn := Try.f39) rfl ic39_eq ic39_nm ic39_ok (by simp) ?_
  simp -dsimp [ic39, (hI 0 h h0)]
  refine Ti.loopW hm (fun k s => ∃ q h', q + k = 16 ∧ I q h' ∧ s = { t := [(4, vi q), (0, .yl L), (1, .p a 0)], d := [], h := h' }) (k := 16) ?_ ?_
  · refine Wk.sub [(4, vi 0), (0, .yl L), (1, .p a 0)] ?_ (Wk.now ⟨0, h, ?_, h0, ?_⟩) <;> simp
  rintro k s ⟨q, h', hq, hIq, rfl⟩
  simp -dsimp
  refine brV.intro (fun h => ?_) (fun h => ?_)
  · have hl : q < 16 := by simp at h; omega
    have hw := wq hl (by unfold top; omega)
    simp -dsimp [h, (hI q h' hIq)]
    refine (CallD.pure (ct_Has _ _) (by simp) ?_).callV
    cases hh : hasB x q
    · simp -dsimp [hh, hw]
      refine ⟨k - 1, by omega, Wk.sub [(4, vi (q + 1 : Nat)), (0, .yl L), (1, .p a 0)] ?_ (Wk.now ⟨q + 1, h', by omega, hn q h' hIq hl hh, rfl⟩)⟩
      simp
    · simp -dsimp [hh]
      refine YieldV.mono (hy q h' hIq hl hh) ?_
      rintro v h2 (⟨rfl, hI2⟩ | ⟨rfl, hJ2⟩)
      · simp -dsimp [hw]
        refine ⟨k - 1, by omega, Wk.sub [(4, vi (q + 1 : Nat)), (0, .yl L), (1, .p a 0)] ?_ (Wk.now ⟨q + 1, h2, by omega, hI2, rfl⟩)⟩
        simp
      · simp -dsimp
        refine exitV.now (hK _ (.inr hJ2))
  · have hl : q = 16 := by simp at h; omega
    subst hl
    simp -dsimp
    exact exitV.now (hK _ (.inl hIq))
end Go.Proofs.Ytofdhldillmbdaa
