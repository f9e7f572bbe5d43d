/- Contracts of functions of the seat's program, and what follows of them: Lg. Conditions are in each statement. -/
import Derived.Test.YtbimcndnledkdaaLf
set_option linter.unusedSimpArgs false
set_option linter.unusedVariables false
namespace Go.Proofs.Ytbimcndnledkdaa
open Go Go.Proofs Go.Vm

theorem fineB_good {c : Cfg} (h : fineB c = true) : Good c := by
  unfold fineB at h
  simp only [Bool.and_eq_true, List.isEmpty_iff] at h
  exact good_of h.2
theorem wrap1 : IntKind.wrap .i64 1 = 1 := w64_of (by omega) (by omega)
theorem ri_at {r : Rc} {n s : Nat} (h : r.at n s = true) : r.is = true ∧ r.z = n ∧ (if s = 0 then r.c0 else r.c1) = true := by
  unfold Rc.at at h
  simp only [Bool.and_eq_true, beq_iff_eq] at h
  exact ⟨h.1.1, h.1.2.symm, h.2⟩
theorem there_open {c : Cfg} {n s : Nat} (h : thereB c n s = true) : n < c.op.length ∧ bits .and .i64 (at0 c.op n / 2 ^ s) 1 = 1 := by
  unfold thereB at h
  simp only [Bool.and_eq_true, decide_eq_true_eq, beq_iff_eq, Int.toNat_natCast] at h
  exact ⟨by omega, h.2⟩
/-- What a lock that becomes free tells. -/
theorem freed {c : Cfg} {pos : Int} {c0 c1 : Bool} {l : List Hd} {g : Nat → Bool} {n s : Nat} (hn : n < 16) (hs : s < 2) (h1 : stepL c pos c0 c1 l g (n * 4 + s * 2) = true) (h0 : g (n * 4 + s * 2) = false) :
    zone c pos = ((n : Int), true) ∧ (if s = 0 then c0 else c1) = true ∧ n < c.op.length ∧ bits .and .i64 (at0 c.op n / 2 ^ s) 1 = 1 := by
  have e : n * 4 + s * 2 = 2 * (2 * n + s) := by omega
  have e1 : (2 * n + s) / 2 = n := by omega
  have e2 : (2 * n + s) % 2 = s := by omega
  rw [e] at h1 h0
  rw [step_free c pos c0 c1 l g (by omega)] at h1
  by_cases ht : th c (2 * n + s) = true
  · rw [if_pos ht, h0] at h1
    simp only [newF, Bool.false_or, Bool.and_eq_true] at h1
    have hr := h1.1
    unfold rch at hr
    rw [e1, e2] at hr
    obtain ⟨r1, r2, r3⟩ := ri_at hr
    unfold th at ht
    rw [e1, e2] at ht
    have ho := there_open ht
    refine ⟨?_, r3, ho⟩
    have : zone c pos = ((zone c pos).1, (zone c pos).2) := rfl
    rw [this]
    exact Prod.ext r2 r1
  · rw [if_neg ht, h0] at h1; cases h1
set_option maxHeartbeats 8000000 in
set_option maxRecDepth 100000 in
theorem law_LockZone (c : Cfg) (l : List Tk) (hb : c.lv.length < top) (ho : c.op.length < top) (hl : l.length < top) (hh : ∀ t ∈ l, t.hd.length < top) :
    CallV Try.prog G0 4 [c.enc, .ro 4 (tkL l)] [] fun v _ => v = .c (.bool true) := by
  obtain ⟨b, hb1, sW⟩ := ct_few l hl hh
  have sF := ct_law14_fine c ho
  refine callV_ic hm (fn := Try.f4) rfl ic4_eq ic4_nm ic4_ok (by simp) ?_
  simp -dsimp [ic4]
  (with_reducible refine (CallD.pure (ct_law14_awake) (by simp) ?_).callV)
  simp -dsimp
  (with_reducible refine (CallD.pure (sF) (by simp) ?_).callV)
  cases hf : fineB c
  · simp -dsimp
    (with_reducible refine (CallD.pure (ct_law14_awake) (by simp) ?_).callV)
    simp -dsimp
    exact exitV.now rfl
  simp -dsimp
  (with_reducible refine (CallD.pure (sW) (by simp) ?_).callV)
  cases b
  · simp -dsimp
    (with_reducible refine (CallD.pure (ct_law14_awake) (by simp) ?_).callV)
    simp -dsimp
    exact exitV.now rfl
  have good := fineB_good hf
  have hfew := fewB_of (hb1 rfl)
  have hp : 0 < c.lv.length := by have := good.h2; omega
  clear sW sF hb1 hf
  simp -dsimp [fold64]
  refine Ti.loopW hm (fun k s => ∃ (q : Nat) (g : Nat → Bool), q + k = l.length ∧ LkI c g ∧ s = { t := [(28, vi q), (27, vi l.length), (1, .ro 4 (tkL l)), (2, .p 0 0), (5, .p 1 0)], d := [], h := [.cells 26 c.cells, .cells 35 (lkL g)] }) (k := l.length) ?_ ?_
  · exact Wk.sub [(28, vi (0 : Nat)), (27, vi l.length), (1, .ro 4 (tkL l)), (2, .p 0 0), (5, .p 1 0)] (by simp) (Wk.now ⟨0, _, by omega, LkI.zero c, rfl⟩)
  rintro k s ⟨q, g, hq, hI, rfl⟩
  simp -dsimp
  (with_reducible refine brV.intro (fun h => ?_) (fun h => ?_))
  · have hlt : q < l.length := by simp at h; omega
    have w1 := wq hlt hl
    obtain ⟨x, hx⟩ : ∃ x, x = l[q] := ⟨_, rfl⟩
    have hxm := hfew.2 l[q] (List.getElem_mem hlt)
    rw [← hx] at hxm
    have sHd := ct_hands x.hd (by omega)
    have sSt := ct_Step c x.pos x.c0 x.c1 x.hd g hb (by unfold top; omega)
    have hI2 := hI.step x.pos x.c0 x.c1 x.hd
    have fr := fun (n s : Nat) => @freed c x.pos x.c0 x.c1 x.hd g n s
    obtain ⟨g2, hg2⟩ : ∃ g2, g2 = stepL c x.pos x.c0 x.c1 x.hd g := ⟨_, rfl⟩
    rw [← hg2] at sSt hI2 fr
    have sZ := ct_ref06_Zone c x.pos hb hp
    rw [← zone_eq x.pos hp] at sZ
    simp -dsimp [h, hlt, ← hx, fold64]
    (with_reducible refine (CallD.pure (sHd) (by simp) ?_))
    simp -dsimp
    (with_reducible refine (CallD.pure (sSt) (by simp) ?_))
    simp -dsimp
    (with_reducible refine ordI (by kernel_rfl) ?_)
    have fin : ∃ k', k' < k ∧ Wk G0 117 0 { t := [(28, vi (q + 1 : Nat)), (27, vi l.length), (1, .ro 4 (tkL l)), (2, .p 0 0), (5, .p 1 0)], d := [], h := [.cells 26 c.cells, .cells 35 (lkL g2)] }
        (fun s => ∃ (q : Nat) (g : Nat → Bool), q + k' = l.length ∧ LkI c g ∧ s = { t := [(28, vi q), (27, vi l.length), (1, .ro 4 (tkL l)), (2, .p 0 0), (5, .p 1 0)], d := [], h := [.cells 26 c.cells, .cells 35 (lkL g)] }) :=
      ⟨k - 1, by omega, Wk.now ⟨q + 1, g2, by omega, hI2, rfl⟩⟩
    clear sHd sSt hg2
    refine Ti.loopW hm (fun k2 s => ∃ (n : Nat), n + k2 = 16 ∧ s = { t := [(46, vi n), (28, vi q), (27, vi l.length), (1, .ro 4 (tkL l)), (2, .p 0 0), (5, .p 1 0), (7, .p 2 0), (8, .p 3 0)], d := [], h := [.cells 26 c.cells, .cells 35 (lkL g2), .cells 39 [vi x.pos, vb x.c0, vb x.c1, .ro 3 (hdL x.hd)], .cells 35 (lkL g)] }) (k := 16) ?_ ?_
    · exact Wk.sub [(46, vi (0 : Nat)), (28, vi q), (27, vi l.length), (1, .ro 4 (tkL l)), (2, .p 0 0), (5, .p 1 0), (7, .p 2 0), (8, .p 3 0)] (by simp) (Wk.now ⟨0, by omega, rfl⟩)
    rintro k2 s ⟨n, hn2, rfl⟩
    simp -dsimp
    (with_reducible refine brV.intro (fun hn1 => ?_) (fun hn1 => ?_))
    · have hn : n < 16 := by simp at hn1; omega
      have w2 := wq hn (by unfold top; omega)
      simp -dsimp [hn1]
      refine Ti.loopW hm (fun k3 s => ∃ (j : Nat), j + k3 = 2 ∧ s = { t := [(49, vi j), (9, vi n), (46, vi n), (28, vi q), (27, vi l.length), (1, .ro 4 (tkL l)), (2, .p 0 0), (5, .p 1 0), (7, .p 2 0), (8, .p 3 0)], d := [], h := [.cells 26 c.cells, .cells 35 (lkL g2), .cells 39 [vi x.pos, vb x.c0, vb x.c1, .ro 3 (hdL x.hd)], .cells 35 (lkL g)] }) (k := 2) ?_ ?_
      · exact Wk.sub [(49, vi (0 : Nat)), (9, vi n), (46, vi n), (28, vi q), (27, vi l.length), (1, .ro 4 (tkL l)), (2, .p 0 0), (5, .p 1 0), (7, .p 2 0), (8, .p 3 0)] (by simp) (Wk.now ⟨0, by omega, rfl⟩)
      rintro k3 s ⟨j, hj2, rfl⟩
      simp -dsimp
      (with_reducible refine brV.intro (fun hj1 => ?_) (fun hj1 => ?_))
      · have hj : j < 2 := by simp at hj1; omega
        have w3 := wq hj (by unfold top; omega)
        have hn' : (n : Int) < 16 := by omega
        have hj' : (j : Int) < 2 := by omega
        have fin3 : ∃ k', k' < k3 ∧ Wk G0 117 0 { t := [(49, vi (j + 1 : Nat)), (9, vi n), (46, vi n), (28, vi q), (27, vi l.length), (1, .ro 4 (tkL l)), (2, .p 0 0), (5, .p 1 0), (7, .p 2 0), (8, .p 3 0)], d := [], h := [.cells 26 c.cells, .cells 35 (lkL g2), .cells 39 [vi x.pos, vb x.c0, vb x.c1, .ro 3 (hdL x.hd)], .cells 35 (lkL g)] }
            (fun s => ∃ (j : Nat), j + k' = 2 ∧ s = { t := [(49, vi j), (9, vi n), (46, vi n), (28, vi q), (27, vi l.length), (1, .ro 4 (tkL l)), (2, .p 0 0), (5, .p 1 0), (7, .p 2 0), (8, .p 3 0)], d := [], h := [.cells 26 c.cells, .cells 35 (lkL g2), .cells 39 [vi x.pos, vb x.c0, vb x.c1, .ro 3 (hdL x.hd)], .cells 35 (lkL g)] }) :=
          ⟨k3 - 1, by omega, Wk.now ⟨j + 1, by omega, rfl⟩⟩
        have hix : n * 4 + j * 2 < 64 := by omega
        have hix1 : n * 4 + j * 2 + 1 < 64 := by omega
        have e0 := lkL_at g2 hix
        have e1 := lkL_at g2 hix1
        have e2 := lkL_at g hix
        have op := hI2.op (2 * n + j) (by omega)
        rw [show 2 * (2 * n + j) = n * 4 + j * 2 by omega] at op
        have fr2 := fr n j hn hj
        clear fr hI2 hI fin
        obtain ⟨F, hF⟩ : ∃ F, F = g2 (n * 4 + j * 2) := ⟨_, rfl⟩
        obtain ⟨O, hO⟩ : ∃ F, F = g2 (n * 4 + j * 2 + 1) := ⟨_, rfl⟩
        obtain ⟨F0, hF0⟩ : ∃ F, F = g (n * 4 + j * 2) := ⟨_, rfl⟩
        rw [← hF] at e0 op fr2
        rw [← hO] at e1 op
        rw [← hF0] at e2 fr2
        obtain ⟨k', hk', hwk⟩ := fin3
        cases F
        · cases O
          · simp -dsimp [hj1, hn', hj', hix, hix1, e0, e1, e2, w3, ← hF, ← hO, ← hF0]
            exact ⟨k', hk', Wk.sub _ (by simp) hwk⟩
          · exact absurd (op rfl) (by simp)
        · cases F0
          · obtain ⟨z1, z2, z3, z4⟩ := fr2 rfl rfl
            rw [z1] at sZ
            have e5 := ints_at z3
            have hmin : min j (IntKind.bits .i64) = j := by simp only [IntKind.bits]; omega
            have hjc : j = 0 ∨ j = 1 := by omega
            have hcam : ([vi x.pos, vb x.c0, vb x.c1, .ro 3 (hdL x.hd)] : List V)[1 + j]? = some (vb true) := by
              rcases hjc with rfl | rfl
              · simp at z2; simp [z2]
              · simp at z2; simp [z2]
            have hz4 : (bits .and .i64 (at0 c.op n / 2 ^ j) 1 == 0) = false := by rw [z4]; rfl
            cases O
            all_goals
              simp -dsimp [hj1, hn', hj', hix, hix1, e0, e1, e2, w3, ← hF, ← hO, ← hF0]
              refine (CallD.pure sZ (by simp) ?_).callV
              simp -dsimp [hj1, hn', hj', hcam, z3, e5, hmin, hz4, w3]
              exact ⟨k', hk', Wk.sub _ (by simp [w3, wrap1]) hwk⟩
          · cases O
            all_goals
              simp -dsimp [hj1, hn', hj', hix, hix1, e0, e1, e2, w3, ← hF, ← hO, ← hF0]
              exact ⟨k', hk', Wk.sub _ (by simp) hwk⟩
      · have hj : j = 2 := by simp at hj1; omega
        subst hj
        simp -dsimp [w2]
        exact ⟨k2 - 1, by omega, Wk.sub [(46, vi (n + 1 : Nat)), (28, vi q), (27, vi l.length), (1, .ro 4 (tkL l)), (2, .p 0 0), (5, .p 1 0), (7, .p 2 0), (8, .p 3 0)] (by simp) (Wk.now ⟨n + 1, by omega, rfl⟩)⟩
    · have hn : n = 16 := by simp at hn1; omega
      subst hn
      simp -dsimp [w1]
      obtain ⟨k', hk', hwk⟩ := fin
      exact ⟨k', hk', Wk.sub _ (by simp) (Wk.cut 2 (by simp) (by simp) (by simp) (by simp) (by simp) (by simp) hwk)⟩
  · simp -dsimp
    exact exitV.now rfl
end Go.Proofs.Ytbimcndnledkdaa
