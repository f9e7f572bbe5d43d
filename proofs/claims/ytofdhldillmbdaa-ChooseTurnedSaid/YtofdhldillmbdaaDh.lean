/- Contracts of functions of the seat's program, and what follows of them: Dh. Conditions are in each statement. -/
import Derived.Test.YtofdhldillmbdaaDg
set_option linter.unusedSimpArgs false
set_option linter.unusedVariables false
namespace Go.Proofs.Ytofdhldillmbdaa
open Go Go.Proofs Go.Vm

set_option maxHeartbeats 4000000 in
set_option maxRecDepth 100000 in
theorem ct_nearestU (l : List Int) (a : Int) (hll : l.length < top) : Ct Try.prog G0 36 [.ro 1 (ints l), vi a, vi 1] [] (vi (l.foldl (stepU a) (-1))) [] := by
  refine callV_ic hm (fn := Try.f36) rfl ic36_eq ic36_nm ic36_ok (by simp) ?_
  simp -dsimp [ic36]
  refine Ti.loopW hm (fun k s => ∃ q : Nat, q + k = l.length ∧ s = { t := [(11, vi q), (10, vi l.length), (7, vi ((l.take q).foldl (stepU a) (-1))), (0, .ro 1 (ints l)), (1, vi a), (2, vi 1)], d := [], h := [] }) (k := l.length) ?_ ?_
  · exact Wk.sub [(11, vi (0 : Nat)), (10, vi l.length), (7, vi (-1)), (0, .ro 1 (ints l)), (1, vi a), (2, vi 1)] (by simp) (Wk.now ⟨0, by omega, rfl⟩)
  rintro k s ⟨q, hq, rfl⟩
  obtain ⟨b, hb⟩ : ∃ b, b = (l.take q).foldl (stepU a) (-1) := ⟨_, rfl⟩
  rw [← hb]
  simp -dsimp
  (with_reducible refine brV.intro (fun h => ?_) (fun h => ?_))
  · have hlt : q < l.length := by simp at h; omega
    have w1 := wq hlt hll
    have e1 := ints_at hlt
    have fin : ∀ b', b' = stepU a b (at0 l q) → ∃ k', k' < k ∧ Wk G0 70 0 { t := [(11, vi (q + 1 : Nat)), (10, vi l.length), (7, vi b'), (0, .ro 1 (ints l)), (1, vi a), (2, vi 1)], d := [], h := [] } (fun s => ∃ q : Nat, q + k' = l.length ∧ s = { t := [(11, vi q), (10, vi l.length), (7, vi ((l.take q).foldl (stepU a) (-1))), (0, .ro 1 (ints l)), (1, vi a), (2, vi 1)], d := [], h := [] }) := by
      rintro _ rfl
      refine ⟨k - 1, by omega, Wk.now ⟨q + 1, by omega, ?_⟩⟩
      rw [take_succ_at hlt, List.foldl_append, ← hb]; rfl
    clear hb
    simp -dsimp [h, hlt, e1]
    by_cases c1 : a < at0 l q
    · by_cases c2 : b < 0
      · simp -dsimp [c1, c2, hlt, e1, w1]
        obtain ⟨k', hk', hwk⟩ := fin (at0 l q) (by unfold stepU; rw [if_pos ⟨c1, .inl c2⟩])
        exact ⟨k', hk', Wk.sub _ (by simp) hwk⟩
      · by_cases c3 : at0 l q < b
        · simp -dsimp [c1, c2, c3, hlt, e1, w1]
          obtain ⟨k', hk', hwk⟩ := fin (at0 l q) (by unfold stepU; rw [if_pos ⟨c1, .inr c3⟩])
          exact ⟨k', hk', Wk.sub _ (by simp) hwk⟩
        · simp -dsimp [c1, c2, c3, hlt, e1, w1]
          obtain ⟨k', hk', hwk⟩ := fin b (by unfold stepU; rw [if_neg (by omega)])
          exact ⟨k', hk', Wk.sub _ (by simp) hwk⟩
    · simp -dsimp [c1, hlt, e1, w1]
      obtain ⟨k', hk', hwk⟩ := fin b (by unfold stepU; rw [if_neg (by omega)])
      exact ⟨k', hk', Wk.sub _ (by simp) hwk⟩
  · have hge : q = l.length := by simp at h; omega
    subst hge
    simp -dsimp
    exact exitV.cut (by simp) (by simp) (by simp) (by simp) ⟨by rw [hb]; simp, by simp⟩
set_option maxHeartbeats 4000000 in
set_option maxRecDepth 100000 in
theorem ct_nearestL (l : List Int) (a : Int) (hll : l.length < top) : Ct Try.prog G0 36 [.ro 1 (ints l), vi a, vi (-1)] [] (vi (l.foldl (stepL a) (-1))) [] := by
  refine callV_ic hm (fn := Try.f36) rfl ic36_eq ic36_nm ic36_ok (by simp) ?_
  simp -dsimp [ic36]
  refine Ti.loopW hm (fun k s => ∃ q : Nat, q + k = l.length ∧ s = { t := [(11, vi q), (10, vi l.length), (7, vi ((l.take q).foldl (stepL a) (-1))), (0, .ro 1 (ints l)), (1, vi a), (2, vi (-1))], d := [], h := [] }) (k := l.length) ?_ ?_
  · exact Wk.sub [(11, vi (0 : Nat)), (10, vi l.length), (7, vi (-1)), (0, .ro 1 (ints l)), (1, vi a), (2, vi (-1))] (by simp) (Wk.now ⟨0, by omega, rfl⟩)
  rintro k s ⟨q, hq, rfl⟩
  obtain ⟨b, hb⟩ : ∃ b, b = (l.take q).foldl (stepL a) (-1) := ⟨_, rfl⟩
  rw [← hb]
  simp -dsimp
  (with_reducible refine brV.intro (fun h => ?_) (fun h => ?_))
  · have hlt : q < l.length := by simp at h; omega
    have w1 := wq hlt hll
    have e1 := ints_at hlt
    have fin : ∀ b', b' = stepL a b (at0 l q) → ∃ k', k' < k ∧ Wk G0 70 0 { t := [(11, vi (q + 1 : Nat)), (10, vi l.length), (7, vi b'), (0, .ro 1 (ints l)), (1, vi a), (2, vi (-1))], d := [], h := [] } (fun s => ∃ q : Nat, q + k' = l.length ∧ s = { t := [(11, vi q), (10, vi l.length), (7, vi ((l.take q).foldl (stepL a) (-1))), (0, .ro 1 (ints l)), (1, vi a), (2, vi (-1))], d := [], h := [] }) := by
      rintro _ rfl
      refine ⟨k - 1, by omega, Wk.now ⟨q + 1, by omega, ?_⟩⟩
      rw [take_succ_at hlt, List.foldl_append, ← hb]; rfl
    clear hb
    simp -dsimp [h, hlt, e1]
    by_cases c1 : at0 l q < a
    · by_cases c2 : b < 0
      · simp -dsimp [c1, c2, hlt, e1, w1]
        obtain ⟨k', hk', hwk⟩ := fin (at0 l q) (by unfold stepL; rw [if_pos ⟨c1, .inl c2⟩])
        exact ⟨k', hk', Wk.sub _ (by simp) hwk⟩
      · by_cases c3 : b < at0 l q
        · simp -dsimp [c1, c2, c3, hlt, e1, w1]
          obtain ⟨k', hk', hwk⟩ := fin (at0 l q) (by unfold stepL; rw [if_pos ⟨c1, .inr c3⟩])
          exact ⟨k', hk', Wk.sub _ (by simp) hwk⟩
        · simp -dsimp [c1, c2, c3, hlt, e1, w1]
          obtain ⟨k', hk', hwk⟩ := fin b (by unfold stepL; rw [if_neg (by omega)])
          exact ⟨k', hk', Wk.sub _ (by simp) hwk⟩
    · simp -dsimp [c1, hlt, e1, w1]
      obtain ⟨k', hk', hwk⟩ := fin b (by unfold stepL; rw [if_neg (by omega)])
      exact ⟨k', hk', Wk.sub _ (by simp) hwk⟩
  · have hge : q = l.length := by simp at h; omega
    subst hge
    simp -dsimp
    exact exitV.cut (by simp) (by simp) (by simp) (by simp) ⟨by rw [hb]; simp, by simp⟩

theorem up_bd (x a : Int) : -1 ≤ upO x a ∧ upO x a < 16 := by
  have h := stepU_all (a := a) (sorted_listR x 16) (nonneg_listR x)
  have e : upO x a = _ := h
  cases hf : (listR x 16).filter (fun n => decide (a < n)) with
  | nil => rw [hf] at e; rw [e]; decide
  | cons m l =>
    have hmem : m ∈ (listR x 16).filter (fun n => decide (a < n)) := by rw [hf]; simp
    have h1 := listR_near (by omega) (List.mem_filter.1 hmem).1
    rw [hf] at e
    have e2 : upO x a = m := e
    omega
theorem dn_bd (x a : Int) : -1 ≤ dnO x a ∧ dnO x a < 16 := by
  have h := stepL_all (a := a) (b := -1) (sorted_listR x 16) (nonneg_listR x) (.inl (by omega))
  have e : dnO x a = _ := h
  cases hf : ((listR x 16).filter (fun n => decide (n < a))).getLast? with
  | none => rw [hf] at e; rw [e]; decide
  | some m =>
    have hmem : m ∈ (listR x 16).filter (fun n => decide (n < a)) := List.mem_of_getLast? hf
    have h1 := listR_near (by omega) (List.mem_filter.1 hmem).1
    rw [hf] at e
    have e2 : dnO x a = m := e
    omega
set_option maxHeartbeats 4000000 in
set_option maxRecDepth 100000 in
theorem ct_rNext (x a way : Int) (ha : nearI a) : Ct Try.prog G0 20 [vi x, vi a, vi way] [] (nextV (nextR x a way)) [] := by
  rw [← rNext_eq]
  have hle := listR_le x 16
  have sL := ct_rList x
  have sH := ct_rHas (listR x 16) a (by unfold top; omega)
  have sU := ct_nearestU (listR x 16) a (by unfold top; omega)
  have sD := ct_nearestL (listR x 16) a (by unfold top; omega)
  have uU := up_bd x a
  have uD := dn_bd x a
  unfold nearI at ha
  have w1 : IntKind.wrap .i64 (upO x a - a) = upO x a - a := w64_of (by omega) (by omega)
  have w2 : IntKind.wrap .i64 (a - dnO x a) = a - dnO x a := w64_of (by omega) (by omega)
  have eU : (listR x 16).foldl (stepU a) (-1) = upO x a := rfl
  have eD : (listR x 16).foldl (stepL a) (-1) = dnO x a := rfl
  rw [eU] at sU
  rw [eD] at sD
  unfold rNextR
  clear eU eD
  have main : ∀ (l : List Int) (U D w : Int), Ct Try.prog G0 25 [vi x] [] (.ro 1 (ints l)) [] → Ct Try.prog G0 35 [.ro 1 (ints l), vi a] [] (vb (decide (a ∈ l))) [] →
      Ct Try.prog G0 36 [.ro 1 (ints l), vi a, vi 1] [] (vi U) [] → Ct Try.prog G0 36 [.ro 1 (ints l), vi a, vi (-1)] [] (vi D) [] →
      IntKind.wrap .i64 (U - a) = U - a → IntKind.wrap .i64 (a - D) = a - D →
      ∀ way, heldR way = w → Ct Try.prog G0 20 [vi x, vi a, vi way] [] (nextV (if l = [] then (0, 0, false) else if a ∈ l then (a, w, true) else if 0 ≤ U ∧ (w = 1 ∨ D < 0) then (U, 1, true)
        else if 0 ≤ D ∧ (w = -1 ∨ U < 0) then (D, -1, true) else if U - a < a - D then (U, 1, true) else (D, -1, true))) [] := by
    intro l U D w sL sH sU sD w1 w2 way hw
    refine callV_ic hm (fn := Try.f20) rfl ic20_eq ic20_nm ic20_ok (by simp) ?_
    simp -dsimp [ic20]
    (with_reducible refine (CallD.pure (sL) (by simp) ?_).callV)
    by_cases hw1 : way = 1
    · subst hw1
      have hw' : w = 1 := by rw [← hw]; rfl
      subst hw'
      by_cases h0 : l = []
      · simp -dsimp [h0]
        exact exitV.cut (by simp) (by simp) (by simp) (by simp) ⟨by simp [h0], by simp⟩
      have h0' : ¬ ((l.length : Int) = 0) := by simpa using h0
      simp -dsimp [beq_f h0', h0]
      (with_reducible refine (CallD.pure (sH) (by simp) ?_).callV)
      by_cases hin : a ∈ l
      · simp -dsimp [hin]
        exact exitV.cut (by simp) (by simp) (by simp) (by simp) ⟨by simp [h0, hin], by simp⟩
      simp -dsimp [hin]
      (with_reducible refine (CallD.pure (sU) (by simp) ?_).callV)
      simp -dsimp
      (with_reducible refine (CallD.pure (sD) (by simp) ?_).callV)
      by_cases cU : 0 ≤ U
      · simp -dsimp [cU]
        exact exitV.cut (by simp) (by simp) (by simp) (by simp) ⟨by simp [h0, hin, cU], by simp⟩
      · by_cases cD : 0 ≤ D
        · have cU' : U < 0 := by omega
          simp -dsimp [cU, cD, cU']
          exact exitV.cut (by simp) (by simp) (by simp) (by simp) ⟨by simp [h0, hin, cU, cD, cU'], by simp⟩
        · by_cases cX : U - a < a - D
          · simp -dsimp [cU, cD, w1, w2, cX]
            exact exitV.cut (by simp) (by simp) (by simp) (by simp) ⟨by simp [h0, hin, cU, cD, cX], by simp⟩
          · simp -dsimp [cU, cD, w1, w2, cX]
            exact exitV.cut (by simp) (by simp) (by simp) (by simp) ⟨by simp [h0, hin, cU, cD, cX], by simp⟩
    by_cases hw2 : way = -1
    · subst hw2
      have hw' : w = -1 := by rw [← hw]; rfl
      subst hw'
      by_cases h0 : l = []
      · simp -dsimp [h0]
        exact exitV.cut (by simp) (by simp) (by simp) (by simp) ⟨by simp [h0], by simp⟩
      have h0' : ¬ ((l.length : Int) = 0) := by simpa using h0
      simp -dsimp [beq_f h0', h0]
      (with_reducible refine (CallD.pure (sH) (by simp) ?_).callV)
      by_cases hin : a ∈ l
      · simp -dsimp [hin]
        exact exitV.cut (by simp) (by simp) (by simp) (by simp) ⟨by simp [h0, hin], by simp⟩
      simp -dsimp [hin]
      (with_reducible refine (CallD.pure (sU) (by simp) ?_).callV)
      simp -dsimp
      (with_reducible refine (CallD.pure (sD) (by simp) ?_).callV)
      by_cases cD : 0 ≤ D
      · have cD' : ¬ D < 0 := by omega
        by_cases cU : 0 ≤ U
        · simp -dsimp [cU, cD, cD']
          exact exitV.cut (by simp) (by simp) (by simp) (by simp) ⟨by simp [h0, hin, cU, cD, cD'], by simp⟩
        · simp -dsimp [cU, cD, cD']
          exact exitV.cut (by simp) (by simp) (by simp) (by simp) ⟨by simp [h0, hin, cU, cD, cD'], by simp⟩
      · have cD' : D < 0 := by omega
        by_cases cU : 0 ≤ U
        · simp -dsimp [cU, cD, cD']
          exact exitV.cut (by simp) (by simp) (by simp) (by simp) ⟨by simp [h0, hin, cU, cD, cD'], by simp⟩
        · by_cases cX : U - a < a - D
          · simp -dsimp [cU, cD, w1, w2, cX]
            exact exitV.cut (by simp) (by simp) (by simp) (by simp) ⟨by simp [h0, hin, cU, cD, cX], by simp⟩
          · simp -dsimp [cU, cD, w1, w2, cX]
            exact exitV.cut (by simp) (by simp) (by simp) (by simp) ⟨by simp [h0, hin, cU, cD, cX], by simp⟩
    have hw' : w = 0 := by rw [← hw]; simp [heldR, hw1, hw2]
    subst hw'
    by_cases h0 : l = []
    · simp -dsimp [h0, bne_t hw1, bne_t hw2]
      exact exitV.cut (by simp) (by simp) (by simp) (by simp) ⟨by simp [h0], by simp⟩
    have h0' : ¬ ((l.length : Int) = 0) := by simpa using h0
    simp -dsimp [beq_f h0', h0, bne_t hw1, bne_t hw2]
    (with_reducible refine (CallD.pure (sH) (by simp) ?_).callV)
    by_cases hin : a ∈ l
    · simp -dsimp [hin]
      exact exitV.cut (by simp) (by simp) (by simp) (by simp) ⟨by simp [h0, hin], by simp⟩
    simp -dsimp [hin]
    (with_reducible refine (CallD.pure (sU) (by simp) ?_).callV)
    simp -dsimp
    (with_reducible refine (CallD.pure (sD) (by simp) ?_).callV)
    by_cases cU : 0 ≤ U
    · have cU' : ¬ U < 0 := by omega
      by_cases cD : 0 ≤ D
      · have cD' : ¬ D < 0 := by omega
        by_cases cX : U - a < a - D
        · simp -dsimp [cU, cD, cU', cD', w1, w2, cX]
          exact exitV.cut (by simp) (by simp) (by simp) (by simp) ⟨by simp [h0, hin, cU, cD, cU', cD', cX], by simp⟩
        · simp -dsimp [cU, cD, cU', cD', w1, w2, cX]
          exact exitV.cut (by simp) (by simp) (by simp) (by simp) ⟨by simp [h0, hin, cU, cD, cU', cD', cX], by simp⟩
      · have cD' : D < 0 := by omega
        simp -dsimp [cU, cD, cU', cD']
        exact exitV.cut (by simp) (by simp) (by simp) (by simp) ⟨by simp [h0, hin, cU, cD, cU', cD'], by simp⟩
    · have cU' : U < 0 := by omega
      by_cases cD : 0 ≤ D
      · have cD' : ¬ D < 0 := by omega
        simp -dsimp [cU, cD, cU', cD']
        exact exitV.cut (by simp) (by simp) (by simp) (by simp) ⟨by simp [h0, hin, cU, cD, cU', cD'], by simp⟩
      · by_cases cX : U - a < a - D
        · simp -dsimp [cU, cD, w1, w2, cX]
          exact exitV.cut (by simp) (by simp) (by simp) (by simp) ⟨by simp [h0, hin, cU, cD, cX], by simp⟩
        · simp -dsimp [cU, cD, w1, w2, cX]
          exact exitV.cut (by simp) (by simp) (by simp) (by simp) ⟨by simp [h0, hin, cU, cD, cX], by simp⟩
  exact main _ _ _ _ sL sH sU sD w1 w2 way rfl
end Go.Proofs.Ytofdhldillmbdaa
