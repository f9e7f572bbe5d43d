/- Contracts of functions of the seat's program, and what follows of them: Lm. Conditions are in each statement. -/
import Derived.Test.YtbimcndnledkdaaLi
set_option linter.unusedSimpArgs false
set_option linter.unusedVariables false
namespace Go.Proofs.Ytbimcndnledkdaa
open Go Go.Proofs Go.Vm

theorem close_all {m : Nat} (hm : m < 32) {F : Bool} (O : Bool) : ∀ q, m < q → q ≤ 32 → (allH 2 q).foldl (opn m F) O = false
  | 0, h, _ => by omega
  | q + 1, h, hq => by
    rw [allH_succ, List.foldl_append]
    simp only [List.foldl_cons, List.foldl_nil]
    unfold opn
    by_cases e : ofG m ⟨(q / 2 : Nat), (q % 2 : Nat), 2⟩ = true
    · rw [if_pos e]; rfl
    · rw [if_neg e]
      have hmq : m ≠ q := by
        rintro rfl
        exact e (by simp [ofG])
      exact close_all hm O q (by omega) (by omega)
theorem closed {c : Cfg} {g : Nat → Bool} {pos : Int} (h : LkI c g) (hc : calm g) : lkL (stepL c pos false false (allH 2 32) g) = lkL fun _ => false := by
  refine lkL_ext fun m hm => ?_
  rw [step_noF hm, step_noO hm]
  by_cases ht : th c m = true
  · rw [if_pos ht, if_pos ht, close_all hm _ 32 hm (by omega)]; simp
  · simp only [Bool.not_eq_true] at ht
    rw [ht]
    simpa using h.no m hm ht
theorem s2' : shutR (fun _ => false) = true := s2
theorem openAt_gate (g : Nat → Bool) (n : Nat) : openAt g n = (g (2 * (2 * n) + 1) || g (2 * (2 * n + 1) + 1)) := by
  unfold openAt; rw [show n * 4 + 1 = 2 * (2 * n) + 1 by omega, show n * 4 + 3 = 2 * (2 * n + 1) + 1 by omega]
theorem freeAt_gate (g : Nat → Bool) (n : Nat) : freeAt g n = (g (2 * (2 * n)) || g (2 * (2 * n + 1))) := by
  unfold freeAt; rw [show n * 4 = 2 * (2 * n) by omega, show 2 * (2 * n) + 2 = 2 * (2 * n + 1) by omega]
theorem all_congr {p q : Nat → Bool} : ∀ {m : Nat}, (∀ j, j < m → p j = q j) → (List.range m).all p = (List.range m).all q := by
  intro m h
  rw [Bool.eq_iff_iff]
  simp only [List.all_eq_true, List.mem_range]
  exact ⟨fun k j hj => by rw [← h j hj]; exact k j hj, fun k j hj => by rw [h j hj]; exact k j hj⟩
theorem shut_same {g g2 : Nat → Bool} (h : ∀ m, m < 32 → g2 (2 * m + 1) = g (2 * m + 1)) : shutR g2 = shutR g := by
  refine all_congr fun j hj => ?_
  rw [openAt_gate, openAt_gate, h _ (by omega), h _ (by omega)]
theorem locked_calm {g : Nat → Bool} (h : calm g) : (heldR g).isNone = shutR g := by
  have e : ∀ j, j < 16 → freeAt g j = openAt g j := fun j hj => by rw [openAt_gate, freeAt_gate, h _ (by omega), h _ (by omega)]
  unfold heldR shutR
  rw [Bool.eq_iff_iff]
  simp only [Option.isNone_iff_eq_none, List.find?_eq_none, List.all_eq_true, List.mem_range]
  constructor
  · intro k j hj; have := k j hj; rw [e j hj] at this; simpa using this
  · intro k j hj; have := k j hj; rw [e j hj]; simpa using this
set_option maxHeartbeats 8000000 in
set_option maxRecDepth 100000 in
theorem law_LockEnds (c : Cfg) (l : List Tk) (pos : Int) (hb : c.lv.length < top) (ho : c.op.length < top) (hl : l.length < top) (hh : ∀ t ∈ l, t.hd.length < top) :
    CallV Try.prog G0 5 [c.enc, .ro 4 (tkL l), vi pos] [] fun v _ => v = .c (.bool true) := by
  obtain ⟨b, hb1, sW⟩ := ct_few l hl hh
  have sF := ct_law14_fine c ho
  have sP := ct_ref01_Near pos
  refine callV_ic hm (fn := Try.f5) rfl ic5_eq ic5_nm ic5_ok (by simp) ?_
  simp -dsimp [ic5]
  (with_reducible refine (CallD.pure (ct_law14_awake) (by simp) ?_).callV)
  simp -dsimp
  (with_reducible refine (CallD.pure (sF) (by simp) ?_).callV)
  cases hf : fineB c
  · simp -dsimp
    (with_reducible refine (CallD.pure (ct_law14_awake) (by simp) ?_).callV)
    simp -dsimp
    exact exitV.now rfl
  simp -dsimp
  (with_reducible refine (CallD.pure (sW) (by simp) ?_).callV)
  cases b
  · simp -dsimp
    (with_reducible refine (CallD.pure (ct_law14_awake) (by simp) ?_).callV)
    simp -dsimp
    exact exitV.now rfl
  simp -dsimp
  (with_reducible refine (CallD.pure (sP) (by simp) ?_).callV)
  cases near31 pos
  · simp -dsimp
    (with_reducible refine (CallD.pure (ct_law14_awake) (by simp) ?_).callV)
    simp -dsimp
    exact exitV.now rfl
  have hfew := fewB_of (hb1 rfl)
  clear sW sF hb1 hf sP
  simp -dsimp [fold64]
  refine Ti.loopW hm (fun k s => ∃ (q : Nat) (g : Nat → Bool), q + k = l.length ∧ LkI c g ∧ s = { t := [(34, vi q), (33, vi l.length), (1, .ro 4 (tkL l)), (2, vi pos), (3, .p 0 0), (7, .p 1 0)], d := [], h := [.cells 26 c.cells, .cells 35 (lkL g)] }) (k := l.length) ?_ ?_
  · exact Wk.sub [(34, vi (0 : Nat)), (33, vi l.length), (1, .ro 4 (tkL l)), (2, vi pos), (3, .p 0 0), (7, .p 1 0)] (by simp) (Wk.now ⟨0, _, by omega, LkI.zero c, rfl⟩)
  rintro k s ⟨q, g, hq, hI, rfl⟩
  simp -dsimp
  (with_reducible refine brV.intro (fun h => ?_) (fun h => ?_))
  · have hlt : q < l.length := by simp at h; omega
    have w1 := wq hlt hl
    obtain ⟨x, hx⟩ : ∃ x, x = l[q] := ⟨_, rfl⟩
    have hxm := hfew.2 l[q] (List.getElem_mem hlt)
    rw [← hx] at hxm
    have sHd := ct_hands x.hd (by omega)
    have sSt := ct_Step c x.pos x.c0 x.c1 x.hd g hb (by unfold top; omega)
    have hI2 := hI.step x.pos x.c0 x.c1 x.hd
    have e : q ≤ l.length := by omega
    simp -dsimp [h, hlt, ← hx]
    (with_reducible refine (CallD.pure (sHd) (by simp) ?_))
    simp -dsimp
    (with_reducible refine (CallD.pure (sSt) (by simp) ?_))
    simp -dsimp
    (with_reducible refine ordI (by kernel_rfl) ?_)
    simp -dsimp [w1]
    exact ⟨k - 1, by omega, Wk.sub [(34, vi (q + 1 : Nat)), (33, vi l.length), (1, .ro 4 (tkL l)), (2, vi pos), (3, .p 0 0), (7, .p 1 0)] (by simp) (Wk.now ⟨q + 1, _, by omega, hI2, rfl⟩)⟩
  · have sN := ct_StepN c pos false false g hb
    have hI2 := hI.step pos false false []
    have hcm := calm_step hI pos
    have hop : ∀ m, m < 32 → stepL c pos false false [] g (2 * m + 1) = g (2 * m + 1) := fun m hm => by
      rw [step_noO hm]; simp
    obtain ⟨g2, hg2⟩ : ∃ g2, g2 = stepL c pos false false [] g := ⟨_, rfl⟩
    rw [← hg2] at sN hI2 hcm hop
    clear hg2
    simp -dsimp
    refine (CallD.pure sN (by simp) ?_).callV
    simp -dsimp [fold64]
    refine Ti.loopW hm (fun k s => ∃ (n : Nat), n + k = 16 ∧ s = { t := [(62, vi n), (10, .sl 3 3 0 (2 * n)), (2, vi pos), (3, .p 0 0), (7, .p 1 0), (9, .p 2 0)], d := [], h := [.cells 26 c.cells, .cells 35 (lkL g), .cells 35 (lkL g2), .cells 52 (hdC (allH 2 (2 * n)))] }) (k := 16) ?_ ?_
    · refine Wk.sub [(62, vi (0 : Nat)), (10, .c (.slice none 0 0)), (2, vi pos), (3, .p 0 0), (7, .p 1 0), (9, .p 2 0)] (by simp) ?_
      exact Wk.nil 10 3 52 (by simp) (Wk.sub [(62, vi (0 : Nat)), (10, .sl 3 3 0 0), (2, vi pos), (3, .p 0 0), (7, .p 1 0), (9, .p 2 0)] (by simp) (Wk.now ⟨0, by omega, rfl⟩))
    rintro k2 s ⟨n, hn2, rfl⟩
    simp -dsimp
    (with_reducible refine brV.intro (fun hn1 => ?_) (fun hn1 => ?_))
    · have hn : n < 16 := by simp at hn1; omega
      have w2 := wq hn (by unfold top; omega)
      simp -dsimp [hn1]
      refine Ti.loopW hm (fun k3 s => ∃ (j : Nat), j + k3 = 2 ∧ s = { t := [(65, vi j), (11, vi n), (62, vi n), (10, .sl 3 3 0 (2 * n + j)), (2, vi pos), (3, .p 0 0), (7, .p 1 0), (9, .p 2 0)], d := [], h := [.cells 26 c.cells, .cells 35 (lkL g), .cells 35 (lkL g2), .cells 52 (hdC (allH 2 (2 * n + j)))] }) (k := 2) ?_ ?_
      · exact Wk.sub [(65, vi (0 : Nat)), (11, vi n), (62, vi n), (10, .sl 3 3 0 (2 * n)), (2, vi pos), (3, .p 0 0), (7, .p 1 0), (9, .p 2 0)] (by simp) (Wk.now ⟨0, by omega, rfl⟩)
      rintro k3 s ⟨j, hj2, rfl⟩
      simp -dsimp
      (with_reducible refine brV.intro (fun hj1 => ?_) (fun hj1 => ?_))
      · have hj : j < 2 := by simp at hj1; omega
        have w3 := wq hj (by unfold top; omega)
        have hn' : (n : Int) < 16 := by omega
        have hj' : (j : Int) < 2 := by omega
        have y1 : (2 * n + j + 1) * 24 ≤ 140737488355328 := by omega
        have y2 : 2 * n + j + 1 ≤ 9223372036854775807 := by omega
        have hby : Try.prog.bytesOf 52 = 24 := by kernel_rfl
        have hs := allH_succ 2 (2 * n + j)
        rw [show (2 * n + j) / 2 = n by omega, show (2 * n + j) % 2 = j by omega] at hs
        have hs2 : hdC (allH 2 (2 * n + j)) ++ [vi n, vi j, vi 2] = hdC (allH 2 (2 * n + j + 1)) := by rw [hs, hdC_app]
        have hix : n * 4 + j * 2 < 64 := by omega
        have hix1 : n * 4 + j * 2 + 1 < 64 := by omega
        have e0 := lkL_at g2 hix
        have e1 := lkL_at g2 hix1
        have e2 := lkL_at g hix1
        have q1 := hop (2 * n + j) (by omega)
        have q2 := hcm (2 * n + j) (by omega)
        rw [show 2 * (2 * n + j) = n * 4 + j * 2 by omega] at q1 q2
        rw [q1] at q2 e1
        rw [q2] at e0
        have k1 : g2 (n * 4 + j * 2) = g (n * 4 + j * 2 + 1) := q2
        have k2' : g2 (n * 4 + j * 2 + 1) = g (n * 4 + j * 2 + 1) := q1
        obtain ⟨O, hO⟩ : ∃ O, O = g (n * 4 + j * 2 + 1) := ⟨_, rfl⟩
        rw [← hO] at e0 e1 e2 k1 k2'
        cases O
        all_goals
          simp -dsimp [hj1, hn', hj', hix, hix1, e0, e1, e2, k1, k2', ← hO]
          (with_reducible refine ordI (by kernel_rfl) ?_)
          simp -dsimp [hby, y1, y2, w3, hs2]
          refine ⟨by kernel_rfl, by decide, by omega, k3 - 1, by omega, Wk.some [0, 1, 2, 5] [.cells 26 c.cells, .cells 35 (lkL g), .cells 35 (lkL g2), .cells 52 (hdC (allH 2 (2 * n + j + 1)))] [(65, vi (j + 1 : Nat)), (11, vi n), (62, vi n), (10, .sl 3 3 0 (2 * n + (j + 1))), (2, vi pos), (3, .p 0 0), (7, .p 1 0), (9, .p 2 0)] rfl (by simp [hs2]) (by simp) (by simp) (by simp) (by simp [rho, w3]; omega) (by simp)
            (Wk.now ⟨j + 1, by omega, rfl⟩)⟩
      · have hj : j = 2 := by simp at hj1; omega
        subst hj
        simp -dsimp [w2]
        exact ⟨k2 - 1, by omega, Wk.sub [(62, vi (n + 1 : Nat)), (10, .sl 3 3 0 (2 * n + 2)), (2, vi pos), (3, .p 0 0), (7, .p 1 0), (9, .p 2 0)] (by simp) (Wk.now ⟨n + 1, by omega, rfl⟩)⟩
    · have hn : n = 16 := by simp at hn1; omega
      subst hn
      have s2 := ct_Step c pos false false (allH 2 32) g2 hb (by rw [allH_length]; unfold top; omega)
      rw [lkV, lkV, closed hI2 hcm] at s2
      have b1 := ct_Locked fun _ => false
      have b2 := ct_Shut fun _ => false
      rw [h2] at b1
      rw [s2'] at b2
      have b3 := ct_Shut g2
      have b4 := ct_Shut g
      have b5 := ct_Locked g2
      rw [shut_same hop] at b3
      rw [locked_calm hcm, shut_same hop] at b5
      simp -dsimp
      refine CallV.freeze 3 52 (hdC (allH 2 32)) true (by simp) (by simp) ?_
      have hz := rows_hdC (allH 2 32)
      rw [allH_length] at hz
      simp -dsimp [hz]
      refine (CallD.pure s2 (by simp) ?_).callV
      simp -dsimp [fold64]
      repeat' first
        | simp -dsimp
        | (with_reducible refine (CallD.pure (b1) (by simp) ?_))
        | (with_reducible refine (CallD.pure (b2) (by simp) ?_))
        | (with_reducible refine (CallD.pure (b3) (by simp) ?_))
        | (with_reducible refine (CallD.pure (b4) (by simp) ?_))
        | (with_reducible refine (CallD.pure (b5) (by simp) ?_))
        | (with_reducible refine ordI (by kernel_rfl) ?_)
      exact exitV.now rfl
end Go.Proofs.Ytbimcndnledkdaa
