/- Contracts of functions of the seat's program, and what follows of them: Fh. Conditions are in each statement. -/
import Derived.Test.YtnoigkdecjeilaaDoorFg
set_option linter.unusedSimpArgs false
set_option linter.unusedVariables false
namespace Go.Proofs.YtnoigkdecjeilaaDoor
open Go Go.Proofs Go.Vm Go.Extern
set_option maxRecDepth 100000

/-- Each one that is kept is kept where its kind says. -/
def okLt (L : List Flt) : Prop := L.length = 12 ∧ ∀ k, k < 12 → atF L k = f0 ∨ ((atF L k).kind = (k : Int) ∧ 1 ≤ k)
theorem atF_zero (k : Nat) : atF Z12 k = f0 := by simp [atF, List.getD, List.getElem?_replicate]; split <;> rfl
theorem okLt_zero : okLt Z12 := ⟨rfl, fun k _ => .inl (atF_zero k)⟩
theorem okLt_set {L : List Flt} (h : okLt L) {j : Nat} {f : Flt} (hf : f = f0 ∨ (f.kind = (j : Int) ∧ 1 ≤ j)) : okLt (L.set j f) := by
  refine ⟨by simp [h.1], fun k hk => ?_⟩
  rw [atF_set (by rw [h.1]; exact hk)]
  by_cases e : j = k
  · subst e; rw [if_pos rfl]; exact hf
  · rw [if_neg e]; exact h.2 k hk
theorem okLt_add {L : List Flt} (h : okLt L) {f : Flt} (c : canP f.kind = true) : okLt (addL L f) := by
  unfold addL
  split
  · exact h
  · obtain ⟨j, hj, h1, h2⟩ := canP_nat c
    rw [hj, Int.toNat_natCast]
    exact okLt_set h (.inr ⟨hj, h1⟩)
theorem okLt_clear {L : List Flt} (h : okLt L) (k : Int) : okLt (clearL L k) := by
  unfold clearL
  split
  · exact okLt_set h (.inl rfl)
  · exact h
theorem okLt_can {L : List Flt} (h : okLt L) : ∀ k, k < 12 → (atF L k).kind ≠ 0 → canP (atF L k).kind = true := by
  intro k hk h0
  rcases h.2 k hk with e | ⟨e, h1⟩
  · rw [e] at h0; exact absurd rfl h0
  · rw [e]; simp [canP]; omega
theorem okLt_none {L : List Flt} (h : okLt L) (hn : ∀ k : Nat, 1 ≤ k → k < 12 → hasL L k = false) : L = Z12 := by
  refine List.ext_getElem (by rw [h.1]; rfl) fun i h1 h2 => ?_
  have hi : i < 12 := by rw [← h.1]; exact h1
  rw [atF_get h1, atF_get h2, atF_zero]
  rcases h.2 i hi with e | ⟨e, h1'⟩
  · exact e
  · have := hn i h1' hi
    simp [hasL, canP, e] at this; omega
def Fj (T : Int) (j : Nat) : List Flt := (List.range 12).map fun i => if 1 ≤ i ∧ i ≤ j then ⟨i, T⟩ else f0
theorem Fj_zero (T : Int) : Fj T 0 = Z12 := rfl
theorem Fj_step (T : Int) {j : Nat} (h : j < 11) : hasL (Fj T j) ((j : Int) + 1) = false ∧ addL (Fj T j) ⟨(j : Int) + 1, T⟩ = Fj T (j + 1) := by
  have : j = 0 ∨ j = 1 ∨ j = 2 ∨ j = 3 ∨ j = 4 ∨ j = 5 ∨ j = 6 ∨ j = 7 ∨ j = 8 ∨ j = 9 ∨ j = 10 := by omega
  rcases this with rfl | rfl | rfl | rfl | rfl | rfl | rfl | rfl | rfl | rfl | rfl <;> exact ⟨rfl, rfl⟩
theorem Fj_all (T : Int) : (allF (Fj T 11)).length = 11 := rfl
set_option maxHeartbeats 8000000 in
theorem law_FaultClears (l : List Int) (tick : Int) (hb : l.length < top) : CallV Tryd.prog G0 8 [.ro 1 (ints l), vi tick] [] fun v _ => v = .c (.bool true) := by
  refine callV_ic hm (fn := Tryd.f8) rfl ic8_eq ic8_nm ic8_ok (by simp) ?_
  by_cases z1 : 30 < (l.length : Int)
  · repeat' first
      | simp -dsimp [ic8, z1]
      | (with_reducible refine (CallD.pure (ct_law02_awake) (by simp) ?_).callV)
      | exact exitV.now rfl
  have z1' : ¬ 30 < l.length := by omega
  repeat' first
    | simp -dsimp [ic8, z1, z1']
    | (with_reducible refine (CallD.pure (ct_law02_awake) (by simp) ?_).callV)
    | (with_reducible refine ordI (by kernel_rfl) ?_)
  refine Ti.loopW hm (fun k s => ∃ (q : Nat) (L : List Flt), q + k = l.length ∧ okLt L ∧ s = { t := [(20, vi q), (19, vi l.length), (0, .ro 1 (ints l)), (1, vi tick), (5, .p 0 0)], d := [], h := [.cells 47 (fltC L)] }) (k := l.length) ?_ ?_
  · exact Wk.sub [(20, vi (0 : Nat)), (19, vi l.length), (0, .ro 1 (ints l)), (1, vi tick), (5, .p 0 0)] (by simp) (Wk.now ⟨0, Z12, by omega, okLt_zero, rfl⟩)
  rintro k s ⟨q, L, hq, hL, rfl⟩
  simp -dsimp
  refine brV.intro (fun hlt => ?_) (fun hlt => ?_)
  · have hlt : q < l.length := by simpa using hlt
    have hw := wq hlt hb
    cases c : canP (at0 l q)
    · have n1 := ct_fault_NewNo (at0 l q) tick c
      have a1 := ct_AddNo L hL.1
      repeat' first
        | simp -dsimp [hlt, hw]
        | (with_reducible refine (CallD.pure (n1) (by simp) ?_).callV)
        | (with_reducible refine ordI (by kernel_rfl) ?_)
      refine (CallD.look (i := 0) a1 (by simp) rfl (by simp) (by simp) (by simp) ?_).callV
      repeat' first
        | simp -dsimp [hlt, hw]
        | (with_reducible refine ordI (by kernel_rfl) ?_)
      exact ⟨k - 1, by omega, Wk.sub [(20, vi (q + 1 : Nat)), (19, vi l.length), (0, .ro 1 (ints l)), (1, vi tick), (5, .p 0 0)] (by simp) (Wk.now ⟨q + 1, L, by omega, hL, rfl⟩)⟩
    · have n1 := ct_fault_New (at0 l q) tick c
      have a1 := ct_Add L hL.1 (Er.s (at0 l q) (mid tick)) c
      simp only [Er.leaf] at a1
      have hL2 : okLt (addL L ⟨at0 l q, mid tick⟩) := okLt_add hL c
      repeat' first
        | simp -dsimp [hlt, hw]
        | (with_reducible refine (CallD.pure (n1) (by simp) ?_).callV)
        | (with_reducible refine ordI (by kernel_rfl) ?_)
      refine (CallD.touch (i := 0) a1 (by simp) rfl (by simp) (by simp) (by simp) ?_).callV
      repeat' first
        | simp -dsimp [hlt, hw]
        | (with_reducible refine ordI (by kernel_rfl) ?_)
      exact ⟨k - 1, by omega, Wk.sub [(20, vi (q + 1 : Nat)), (19, vi l.length), (0, .ro 1 (ints l)), (1, vi tick), (5, .p 0 0)] (by simp) (Wk.now ⟨q + 1, _, by omega, hL2, rfl⟩)⟩
  clear hlt hq
  simp -dsimp
  refine Ti.loopW hm (fun k s => ∃ (j : Nat) (L : List Flt), j + k = 22 ∧ okLt L ∧ (∀ i : Nat, (i : Int) < (j : Int) - 2 → hasL L i = false) ∧ s = { t := [(7, vi ((j : Int) - 2)), (1, vi tick), (5, .p 0 0)], d := [], h := [.cells 47 (fltC L)] }) (k := 22) ?_ ?_
  · exact Wk.sub [(7, vi ((0 : Nat) - 2)), (1, vi tick), (5, .p 0 0)] (by simp) (Wk.now ⟨0, L, by omega, hL, fun i h => by omega, rfl⟩)
  clear hL
  rintro k s ⟨j, L, hj, hL, hn, rfl⟩
  simp -dsimp
  refine brV.intro (fun hlt => ?_) (fun hlt => ?_)
  · have hlt' : (j : Int) - 2 < 20 := by simp at hlt; omega
    have hw : IntKind.wrap .i64 ((j : Int) - 2 + 1) = ((j + 1 : Nat) : Int) - 2 := by rw [w64_of (by omega) (by omega)]; omega
    have h1 := ct_Has L hL.1 ((j : Int) - 2)
    have c1 := ct_Clear L hL.1 ((j : Int) - 2)
    obtain ⟨L1, e1⟩ : ∃ L1, L1 = clearL L ((j : Int) - 2) := ⟨_, rfl⟩
    have hL1 : okLt L1 := by rw [e1]; exact okLt_clear hL _
    have k1 : ∀ i, hasL L1 i = (hasL L i && (i != (j : Int) - 2)) := fun i => by rw [e1, hasL_clear hL.1]
    have k0 : hasL L1 ((j : Int) - 2) = false := by rw [k1]; simp
    rw [← e1] at c1
    have c2 := ct_Clear L1 hL1.1 ((j : Int) - 2)
    have h2 := ct_Has L1 hL1.1 ((j : Int) - 2)
    rw [clearL_same k0, k0] at c2
    rw [k0] at h2
    have hn1 : ∀ i : Nat, (i : Int) < ((j + 1 : Nat) : Int) - 2 → hasL L1 i = false := fun i hi => by
      rw [k1]
      by_cases e : (i : Int) = (j : Int) - 2
      · simp [e]
      · rw [hn i (by omega)]; rfl
    clear k1 k0 e1 hn
    generalize hasL L ((j : Int) - 2) = b at *
    generalize hkk : (j : Int) - 2 = kk at *
    repeat' first
      | simp -dsimp [hlt']
      | (with_reducible refine ordI (by kernel_rfl) ?_)
    refine (CallD.look (i := 0) h1 (by simp) rfl (by simp) (by simp) (by simp) ?_).callV
    repeat' first
      | simp -dsimp
      | (with_reducible refine ordI (by kernel_rfl) ?_)
    refine (CallD.touch (i := 0) c1 (by simp) rfl (by simp) (by simp) (by simp) ?_).callV
    repeat' first
      | simp -dsimp
      | (with_reducible refine ordI (by kernel_rfl) ?_)
    refine (CallD.touch (i := 0) c2 (by simp) rfl (by simp) (by simp) (by simp) ?_).callV
    repeat' first
      | simp -dsimp
      | (with_reducible refine ordI (by kernel_rfl) ?_)
    refine (CallD.look (i := 0) h2 (by simp) rfl (by simp) (by simp) (by simp) ?_).callV
    repeat' first
      | simp -dsimp [hw]
      | (with_reducible refine ordI (by kernel_rfl) ?_)
    exact ⟨k - 1, by omega, Wk.sub [(7, vi (((j + 1 : Nat) : Int) - 2)), (1, vi tick), (5, .p 0 0)] (by simp) (Wk.now ⟨j + 1, L1, by omega, hL1, hn1, rfl⟩)⟩
  have hj22 : j = 22 := by simp at hlt; omega
  have hZ : L = Z12 := okLt_none hL fun i h1 h2 => hn i (by omega)
  subst hZ
  clear hlt hn hL hj
  have al := ct_All Z12 rfl
  rw [show allF Z12 = [] from rfl] at al
  have er := ct_Err Z12 rfl (okLt_can okLt_zero)
  rw [show errV (allF Z12) = .c .nilIface from rfl] at er
  simp -dsimp
  refine (CallD.look (i := 0) al (by simp) rfl (by simp) (by simp) (by simp) ?_).callV
  repeat' first
    | simp -dsimp
    | (with_reducible refine ordI (by kernel_rfl) ?_)
  refine (CallD.look (i := 0) er (by simp) rfl (by simp) (by simp) (by simp) ?_).callV
  repeat' first
    | simp -dsimp
    | (with_reducible refine ordI (by kernel_rfl) ?_)
  refine Ti.loopW hm (fun k s => ∃ j : Nat, j + k = 11 ∧ s = { t := [(9, vi ((j : Int) + 1)), (1, vi tick), (5, .p 0 0)], d := [], h := [.cells 47 (fltC (Fj (mid tick) j))] }) (k := 11) ?_ ?_
  · exact Wk.sub [(9, vi (((0 : Nat) : Int) + 1)), (1, vi tick), (5, .p 0 0)] (by simp) (Wk.now ⟨0, by omega, rfl⟩)
  rintro k s ⟨j, hj, rfl⟩
  simp -dsimp
  refine brV.intro (fun hlt => ?_) (fun hlt => ?_)
  · have hlt : j < 11 := by simp at hlt; omega
    have hlt' : (j : Int) + 1 ≤ 11 := by omega
    have hw : IntKind.wrap .i64 ((j : Int) + 1 + 1) = ((j + 1 : Nat) : Int) + 1 := by rw [w64_of (by omega) (by omega)]; omega
    have c : canP ((j : Int) + 1) = true := by simp [canP]; omega
    have n1 := ct_fault_New ((j : Int) + 1) tick c
    have a1 := ct_Add (Fj (mid tick) j) (by simp [Fj]) (Er.s ((j : Int) + 1) (mid tick)) c
    simp only [Er.leaf] at a1
    rw [(Fj_step (mid tick) hlt).1, (Fj_step (mid tick) hlt).2] at a1
    repeat' first
      | simp -dsimp [hlt, hlt', hw]
      | (with_reducible refine (CallD.pure (n1) (by simp) ?_).callV)
      | (with_reducible refine ordI (by kernel_rfl) ?_)
    refine (CallD.touch (i := 0) a1 (by simp) rfl (by simp) (by simp) (by simp) ?_).callV
    repeat' first
      | simp -dsimp [hlt, hlt', hw]
      | (with_reducible refine ordI (by kernel_rfl) ?_)
    exact ⟨k - 1, by omega, Wk.sub [(9, vi (((j + 1 : Nat) : Int) + 1)), (1, vi tick), (5, .p 0 0)] (by simp) (Wk.now ⟨j + 1, by omega, rfl⟩)⟩
  have hj11 : j = 11 := by simp at hlt; omega
  subst hj11
  have al2 := ct_All (Fj (mid tick) 11) rfl
  have len := Fj_all (mid tick)
  generalize allF (Fj (mid tick) 11) = F at *
  simp -dsimp
  refine (CallD.look (i := 0) al2 (by simp) rfl (by simp) (by simp) (by simp) ?_).callV
  repeat' first
    | simp -dsimp [len]
    | (with_reducible refine ordI (by kernel_rfl) ?_)
  exact exitV.now rfl
end Go.Proofs.YtnoigkdecjeilaaDoor
