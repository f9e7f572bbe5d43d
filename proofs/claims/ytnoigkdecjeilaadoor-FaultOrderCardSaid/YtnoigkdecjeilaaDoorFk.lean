/- Contracts of functions of the seat's program, and what follows of them: Fk. Conditions are in each statement. -/
import Derived.Test.YtnoigkdecjeilaaDoorFi
set_option linter.unusedSimpArgs false
set_option linter.unusedVariables false
namespace Go.Proofs.YtnoigkdecjeilaaDoor
open Go Go.Proofs Go.Vm Go.Extern
set_option maxRecDepth 100000

theorem setS_none (l : List Int) (g : Nat → Nat) : setS l g 0 = fun _ => false := rfl
set_option maxHeartbeats 8000000 in
theorem law_FaultOrder (l : List Int) (tick : Int) (y : Nat) (hy : y ≤ 255) (hb : l.length < top) : CallV Tryd.prog G0 5 [.ro 1 (ints l), vi tick, .c (.int .u8 (y : Int))] [] fun v _ => v = .c (.bool true) := by
  refine callV_ic hm (fn := Tryd.f5) rfl ic5_eq ic5_nm ic5_ok (by simp) ?_
  by_cases z1 : 30 < (l.length : Int)
  · repeat' first
      | simp -dsimp [ic5, z1]
      | (with_reducible refine (CallD.pure (ct_law02_awake) (by simp) ?_).callV)
      | exact exitV.now rfl
  have z1' : ¬ 30 < l.length := by omega
  repeat' first
    | simp -dsimp [ic5, z1, z1']
    | (with_reducible refine (CallD.pure (ct_law02_awake) (by simp) ?_).callV)
    | (with_reducible refine ordI (by kernel_rfl) ?_)
  refine Ti.loopW hm (fun k s => ∃ q : Nat, q + k = l.length ∧ s = { t := [(22, vi q), (21, vi l.length), (0, .ro 1 (ints l)), (1, vi tick), (2, .c (.int .u8 (y : Int))), (7, .p 0 0), (8, .p 1 0)], d := [], h := [.cells 47 (fltC (FS (mid tick) (setS l (fun r => r) q))), .cells 47 (fltC (FS (mid tick) (setS l (fun r => (r + y) % l.length) q)))] }) (k := l.length) ?_ ?_
  · exact Wk.sub [(22, vi (0 : Nat)), (21, vi l.length), (0, .ro 1 (ints l)), (1, vi tick), (2, .c (.int .u8 (y : Int))), (7, .p 0 0), (8, .p 1 0)] (by simp) (Wk.now ⟨0, by omega, by rw [setS_none, setS_none, FS_zero]; rfl⟩)
  rintro k s ⟨q, hq, rfl⟩
  simp -dsimp
  refine brV.intro (fun hlt => ?_) (fun hlt => ?_)
  · have hlt : q < l.length := by simpa using hlt
    have hw := wq hlt hb
    obtain ⟨r, hr⟩ : ∃ r, r = (q + y) % l.length := ⟨_, rfl⟩
    have hrl : r < l.length := by rw [hr]; exact Nat.mod_lt _ (by omega)
    have e1 : IntKind.wrap .i64 (y : Int) = (y : Int) := w64_of (by omega) (by omega)
    have e2 : IntKind.wrap .i64 ((q : Int) + (y : Int)) = ((q + y : Nat) : Int) := by rw [w64_of (by omega) (by omega)]; omega
    have e3 : ((q + y : Nat) : Int).tmod (l.length : Int) = (r : Int) := by
      rw [Int.tmod_eq_emod_of_nonneg (by omega), hr]; omega
    have e3' : ((q : Int) + (y : Int)).tmod (l.length : Int) = (r : Int) := by rw [← e3]; congr 1
    have e4 : (l.length : Int) ≠ 0 := by omega
    have e5 : l ≠ [] := fun e => by rw [e] at hlt; simp at hlt
    have n1 := ct_NewG (at0 l q) tick
    have n2 := ct_NewG (at0 l r) tick
    have a1 := ct_AddG (FS (mid tick) (setS l (fun r => r) q)) (by simp) (at0 l q) tick
    have a2 := ct_AddG (FS (mid tick) (setS l (fun r => (r + y) % l.length) q)) (by simp) (at0 l r) tick
    have s1 : addK (FS (mid tick) (setS l (fun r => r) q)) (at0 l q) tick = FS (mid tick) (setS l (fun r => r) (q + 1)) := by rw [FS_step, setS_succ]
    have s2 : addK (FS (mid tick) (setS l (fun r => (r + y) % l.length) q)) (at0 l r) tick = FS (mid tick) (setS l (fun r => (r + y) % l.length) (q + 1)) := by rw [FS_step, setS_succ, hr]
    rw [s1] at a1
    rw [s2] at a2
    repeat' first
      | simp -dsimp [hlt]
      | (with_reducible refine (CallD.pure (n1) (by simp) ?_).callV)
      | (with_reducible refine ordI (by kernel_rfl) ?_)
    refine (CallD.touch (i := 0) a1 (by simp) rfl (by simp) (by simp) (by simp) ?_).callV
    repeat' first
      | simp -dsimp [hlt, hrl, e1, e2, e3, e3', e4, e5]
      | (with_reducible refine (CallD.pure (n2) (by simp) ?_).callV)
      | (with_reducible refine ordI (by kernel_rfl) ?_)
    refine (CallD.touch (i := 1) a2 (by simp) rfl (by simp) (by simp) (by simp) ?_).callV
    repeat' first
      | simp -dsimp [hw]
      | (with_reducible refine ordI (by kernel_rfl) ?_)
    exact ⟨k - 1, by omega, Wk.sub [(22, vi (q + 1 : Nat)), (21, vi l.length), (0, .ro 1 (ints l)), (1, vi tick), (2, .c (.int .u8 (y : Int))), (7, .p 0 0), (8, .p 1 0)] (by simp) (Wk.now ⟨q + 1, by omega, rfl⟩)⟩
  have hqe : q = l.length := by simp at hlt; omega
  subst hqe
  rw [setS_turn]
  have hL := okLt_FS (mid tick) (setS l (fun r => r) l.length)
  generalize FS (mid tick) (setS l (fun r => r) l.length) = L at *
  have al := ct_All L hL.1
  obtain ⟨hhas, hrise, h11⟩ := allF_rising hL
  have has : ∀ i, i < (allF L).length → Ct Tryd.prog G0 22 [.p 0 0, vi (atF (allF L) i).kind] [.cells 47 (fltC L)] (vb true) [.cells 47 (fltC L)] := fun i hi => by
    have := ct_Has L hL.1 (atF (allF L) i).kind
    rwa [hhas i hi] at this
  have sm := ct_Same2 (allF L) (allF L) (by unfold top; omega)
  simp only [decide_true] at sm
  generalize allF L = F at *
  simp -dsimp
  refine (CallD.look (i := 0) al (by simp) rfl (by simp) (by simp) (by simp) ?_).callV
  repeat' first
    | simp -dsimp
    | (with_reducible refine ordI (by kernel_rfl) ?_)
  refine Ti.loopW hm (fun k s => ∃ q : Nat, q + k = F.length ∧ s = { t := [(49, vi q), (48, vi F.length), (10, .ro 2 (flts F)), (7, .p 0 0), (8, .p 1 0)], d := [], h := [.cells 47 (fltC L), .cells 47 (fltC L)] }) (k := F.length) ?_ ?_
  · exact Wk.sub [(49, vi (0 : Nat)), (48, vi F.length), (10, .ro 2 (flts F)), (7, .p 0 0), (8, .p 1 0)] (by simp) (Wk.now ⟨0, by omega, rfl⟩)
  rintro k s ⟨q, hq, rfl⟩
  simp -dsimp
  refine brV.intro (fun hlt => ?_) (fun hlt => ?_)
  · have hlt : q < F.length := by simpa using hlt
    have hw := wq hlt (by unfold top; omega)
    have h1 := has q hlt
    by_cases hq0 : q = 0
    · have g5 : ¬ 0 < q := by omega
      repeat' first
        | simp -dsimp [hlt, g5]
        | (with_reducible refine ordI (by kernel_rfl) ?_)
      refine (CallD.look (i := 0) h1 (by simp) rfl (by simp) (by simp) (by simp) ?_)
      repeat' first
        | simp -dsimp [hw]
        | (with_reducible refine ordI (by kernel_rfl) ?_)
      exact ⟨k - 1, by omega, Wk.sub [(49, vi (q + 1 : Nat)), (48, vi F.length), (10, .ro 2 (flts F)), (7, .p 0 0), (8, .p 1 0)] (by simp) (Wk.now ⟨q + 1, by omega, rfl⟩)⟩
    · have g5 : 0 < q := by omega
      have w1 : IntKind.wrap .i64 ((q : Int) - 1) = ((q - 1 : Nat) : Int) := by rw [w64_of (by omega) (by omega)]; omega
      have hlt1 : q - 1 < F.length := by omega
      have g6 := hrise q g5 hlt
      have g7 : ¬ (atF F q).kind ≤ (atF F (q - 1)).kind := by omega
      repeat' first
        | simp -dsimp [hlt, g5, w1, hlt1, g7]
        | (with_reducible refine ordI (by kernel_rfl) ?_)
      refine (CallD.look (i := 0) h1 (by simp) rfl (by simp) (by simp) (by simp) ?_)
      repeat' first
        | simp -dsimp [hw]
        | (with_reducible refine ordI (by kernel_rfl) ?_)
      exact ⟨k - 1, by omega, Wk.sub [(49, vi (q + 1 : Nat)), (48, vi F.length), (10, .ro 2 (flts F)), (7, .p 0 0), (8, .p 1 0)] (by simp) (Wk.now ⟨q + 1, by omega, rfl⟩)⟩
  have h11' : (F.length : Int) ≤ 11 := by omega
  simp -dsimp
  refine (CallD.look (i := 1) al (by simp) rfl (by simp) (by simp) (by simp) ?_).callV
  repeat' first
    | simp -dsimp [h11, h11']
    | (with_reducible refine (CallD.pure (sm) (by simp) ?_).callV)
    | (with_reducible refine ordI (by kernel_rfl) ?_)
    | exact exitV.now rfl
end Go.Proofs.YtnoigkdecjeilaaDoor
