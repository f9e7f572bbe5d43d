/- Contracts of functions of the seat's program, and what follows of them: Fg. Conditions are in each statement. -/
import Derived.Test.YtnoigkdecjeilaaDoorFf
set_option linter.unusedSimpArgs false
set_option linter.unusedVariables false
namespace Go.Proofs.YtnoigkdecjeilaaDoor
open Go Go.Proofs Go.Vm Go.Extern
set_option maxRecDepth 100000

@[simp] theorem flat_fault : flat Tryd.prog 40 30 = some [.i, .i] := by kernel_rfl
@[simp] theorem guard_fault : Tryd.prog.eqGuardType Tryd.prog.depth 30 = false := by kernel_rfl
deriving instance DecidableEq for Flt
theorem eq_flts {a b : List Flt} (hl : a.length = b.length) (h : ∀ k, k < a.length → atF a k = atF b k) : a = b :=
  List.ext_getElem hl fun i h1 h2 => by rw [atF_get h1, atF_get h2]; exact h i h1
theorem ct_Same2 (a b : List Flt) (hb : a.length < top) : Ct Tryd.prog G0 23 [.ro 2 (flts a), .ro 2 (flts b)] [] (vb (decide (a = b))) [] := by
  refine callV_ic hm (fn := Tryd.f23) rfl ic23_eq ic23_nm ic23_ok (by simp) ?_
  simp -dsimp [ic23]
  by_cases hl : a.length = b.length
  rotate_left
  · have hl' : ((a.length : Int) != b.length) = true := by simp; omega
    have hne : ¬ a = b := fun e => hl (by rw [e])
    repeat' first
      | simp -dsimp [hl']
      | exact exitV.cut (by simp) (by simp) (by simp) (by simp) ⟨by simp [hne], by simp⟩
  have hl' : ((a.length : Int) != b.length) = false := by simp; omega
  repeat' first
    | simp -dsimp [hl']
  refine Ti.loopW hm (fun k s => ∃ q : Nat, q + k = a.length ∧ (∀ k, k < q → atF a k = atF b k) ∧ s = { t := [(13, vi q), (12, vi a.length), (0, .ro 2 (flts a)), (1, .ro 2 (flts b))], d := [], h := [] }) (k := a.length) ?_ ?_
  · exact Wk.sub [(13, vi (0 : Nat)), (12, vi a.length), (0, .ro 2 (flts a)), (1, .ro 2 (flts b))] (by simp) (Wk.now ⟨0, by omega, fun k h => by omega, rfl⟩)
  rintro k s ⟨q, hq, hs, rfl⟩
  simp -dsimp
  refine brV.intro (fun hlt => ?_) (fun hlt => ?_)
  · have hlt : q < a.length := by simpa using hlt
    have hltb : q < b.length := by omega
    have hw := wq hlt hb
    by_cases he : atF a q = atF b q
    · have e1 : ((atF a q).kind == (atF b q).kind) = true := by rw [he]; simp
      have e2 : ((atF a q).tick == (atF b q).tick) = true := by rw [he]; simp
      repeat' first
        | simp -dsimp [hlt, hltb, e1, e2, hw]
        | (with_reducible refine ordI (by kernel_rfl) ?_)
      exact ⟨k - 1, by omega, Wk.sub [(13, vi (q + 1 : Nat)), (12, vi a.length), (0, .ro 2 (flts a)), (1, .ro 2 (flts b))] (by simp) (Wk.now ⟨q + 1, by omega, fun k h => by
        rcases Nat.lt_or_ge k q with h' | h'
        · exact hs k h'
        · rw [show k = q by omega]; exact he, rfl⟩)⟩
    · have hne : ¬ a = b := fun e => he (by rw [e])
      have e1 : ((atF a q).kind == (atF b q).kind && (atF a q).tick == (atF b q).tick) = false := by
        rw [Bool.eq_false_iff]
        intro h
        simp only [Bool.and_eq_true, beq_iff_eq] at h
        refine he ?_
        obtain ⟨h1, h2⟩ := h
        revert h1 h2
        generalize atF a q = x
        generalize atF b q = y
        intro h1 h2
        cases x; cases y; simp_all
      repeat' first
        | simp -dsimp [hlt, hltb, e1]
        | (with_reducible refine ordI (by kernel_rfl) ?_)
      exact exitV.cut (by simp) (by simp) (by simp) (by simp) ⟨by simp [hne], by simp⟩
  · have hqe : q = a.length := by simp at hlt; omega
    have heq : a = b := eq_flts hl fun k h => hs k (by omega)
    simp -dsimp
    exact exitV.cut (by simp) (by simp) (by simp) (by simp) ⟨by simp [heq], by simp⟩
theorem atF_set {L : List Flt} {j k : Nat} {f : Flt} (hk : k < L.length) : atF (L.set j f) k = if j = k then f else atF L k := by
  simp only [atF, List.getD, List.getElem?_set]
  by_cases h : j = k
  · subst h; simp [hk]
  · simp [h]
theorem canP_nat {k : Int} (h : canP k = true) : ∃ j : Nat, k = j ∧ 1 ≤ j ∧ j < 12 := ⟨k.toNat, by simp [canP] at h; omega, by simp [canP] at h; omega, by simp [canP] at h; omega⟩
theorem hasL_zero (k : Int) : hasL Z12 k = false := by
  unfold hasL
  cases c : canP k
  · rfl
  · obtain ⟨j, rfl, h1, h2⟩ := canP_nat c
    have : atF Z12 j = f0 := by simp [atF, List.getD, List.getElem?_replicate]; split <;> rfl
    simp [this, f0]; omega
theorem hasL_add {L : List Flt} (hL : L.length = 12) {f : Flt} (c : canP f.kind = true) (k : Int) : hasL (addL L f) k = (hasL L k || (k == f.kind)) := by
  unfold addL
  by_cases h : hasL L f.kind = true
  · rw [if_pos h]
    by_cases e : k = f.kind
    · subst e; simp [h]
    · simp [e]
  · rw [if_neg h]
    obtain ⟨i, hi, i1, i2⟩ := canP_nat c
    cases ck : canP k
    · have : ¬ k = f.kind := fun e => by rw [e, c] at ck; cases ck
      simp [hasL, ck, this]
    · obtain ⟨j, rfl, j1, j2⟩ := canP_nat ck
      simp only [hasL, ck, Int.toNat_natCast, hi, atF_set (show j < L.length by omega), Bool.true_and]
      by_cases e : i = j
      · subst e; simp [hi]
      · have : ¬ (j : Int) = i := by omega
        simp [e, this]
theorem hasL_clear {L : List Flt} (hL : L.length = 12) (i k : Int) : hasL (clearL L i) k = (hasL L k && (k != i)) := by
  unfold clearL
  by_cases h : hasL L i = true
  · rw [if_pos h]
    have c : canP i = true := by simp [hasL] at h; exact h.1
    obtain ⟨i, rfl, i1, i2⟩ := canP_nat c
    cases ck : canP k
    · simp [hasL, ck]
    · obtain ⟨j, rfl, j1, j2⟩ := canP_nat ck
      simp only [hasL, ck, Int.toNat_natCast, atF_set (show j < L.length by omega), Bool.true_and]
      by_cases e : i = j
      · subst e; simp [f0]; omega
      · have : ¬ (j : Int) = i := by omega
        simp [e, this]
  · rw [if_neg h]
    by_cases e : k = i
    · subst e; simp at h; simp [h]
    · simp [e]
theorem addL_same {L : List Flt} {f : Flt} (h : hasL L f.kind = true) : addL L f = L := by unfold addL; rw [if_pos h]
theorem clearL_same {L : List Flt} {k : Int} (h : hasL L k = false) : clearL L k = L := by unfold clearL; rw [if_neg (by simp [h])]
set_option maxHeartbeats 8000000 in
theorem law_FaultFirst (kind other a b : Int) : CallV Tryd.prog G0 7 [vi kind, vi other, vi a, vi b] [] fun v _ => v = .c (.bool true) := by
  refine callV_ic hm (fn := Tryd.f7) rfl ic7_eq ic7_nm ic7_ok (by simp) ?_
  have can1 := ct_ref02_Can kind
  have can2 := ct_ref02_Can other
  cases c1 : canP kind
  · rw [c1] at can1
    repeat' first
      | simp -dsimp [ic7]
      | (with_reducible refine (CallD.pure (ct_law02_awake) (by simp) ?_).callV)
      | (with_reducible refine (CallD.pure (can1) (by simp) ?_).callV)
      | (with_reducible refine ordI (by kernel_rfl) ?_)
      | exact exitV.now rfl
  rw [c1] at can1
  cases c2 : canP other
  · rw [c2] at can2
    repeat' first
      | simp -dsimp [ic7]
      | (with_reducible refine (CallD.pure (ct_law02_awake) (by simp) ?_).callV)
      | (with_reducible refine (CallD.pure (can1) (by simp) ?_).callV)
      | (with_reducible refine (CallD.pure (can2) (by simp) ?_).callV)
      | (with_reducible refine ordI (by kernel_rfl) ?_)
      | exact exitV.now rfl
  rw [c2] at can2
  have n1 := ct_fault_New kind a c1
  have n2 := ct_fault_New kind b c1
  have n3 := ct_fault_New other b c2
  obtain ⟨L1, h1⟩ : ∃ L1, L1 = addL Z12 ⟨kind, mid a⟩ := ⟨_, rfl⟩
  have hl1 : L1.length = 12 := by rw [h1]; simp
  have a1 := ct_Add Z12 rfl (Er.s kind (mid a)) c1
  simp only [Er.leaf] at a1
  rw [← h1, hasL_zero, z24] at a1
  have k1 : ∀ k, hasL L1 k = (k == kind) := fun k => by rw [h1, hasL_add rfl c1, hasL_zero]; simp
  have al1 := ct_All L1 hl1
  have a2 := ct_Add L1 hl1 (Er.s kind (mid b)) c1
  simp only [Er.leaf] at a2
  rw [addL_same (by rw [k1]; simp), k1] at a2
  simp only [beq_self_eq_true, Bool.not_true] at a2
  have hsm : (allF L1).length < top := by
    have := List.length_filter_le (fun f : Flt => f.kind != 0) L1
    unfold allF top; omega
  have sm := ct_Same2 (allF L1) (allF L1) hsm
  simp only [decide_true] at sm
  have a3 := ct_Add L1 hl1 (Er.s other (mid b)) c2
  simp only [Er.leaf] at a3
  obtain ⟨L2, h2⟩ : ∃ L2, L2 = addL L1 ⟨other, mid b⟩ := ⟨_, rfl⟩
  have hl2 : L2.length = 12 := by rw [h2]; simp [hl1]
  rw [← h2, k1, show (!(other == kind)) = (other != kind) from rfl] at a3
  generalize hnk : (other != kind) = nk at a3
  have k2 : ∀ k, hasL L2 k = ((k == kind) || (k == other)) := fun k => by rw [h2, hasL_add hl1 c2, k1]
  have cl := ct_Clear L2 hl2 kind
  obtain ⟨L3, h3⟩ : ∃ L3, L3 = clearL L2 kind := ⟨_, rfl⟩
  have hl3 : L3.length = 12 := by rw [h3]; simp [hl2]
  rw [← h3, k2] at cl
  simp only [beq_self_eq_true, Bool.true_or] at cl
  have k3 : ∀ k, hasL L3 k = (((k == kind) || (k == other)) && (k != kind)) := fun k => by rw [h3, hasL_clear hl2, k2]
  have hs1 := ct_Has L3 hl3 kind
  have hs2 := ct_Has L3 hl3 other
  have cl2 := ct_Clear L3 hl3 kind
  rw [clearL_same (by rw [k3]; simp)] at cl2
  rw [show hasL L3 kind = false by rw [k3]; simp] at hs1 cl2
  rw [show hasL L3 other = nk by rw [k3, ← hnk]; simp] at hs2
  have hok1 : ∀ p : Nat → Prop, (Er.s kind (mid a)).v.ok p := fun p => by simp
  repeat' first
    | simp -dsimp [ic7, hnk]
    | (with_reducible refine (CallD.pure (ct_law02_awake) (by simp) ?_).callV)
    | (with_reducible refine (CallD.pure (can1) (by simp) ?_).callV)
    | (with_reducible refine (CallD.pure (can2) (by simp) ?_).callV)
    | (with_reducible refine (CallD.pure (n1) (by simp) ?_).callV)
    | (with_reducible refine (CallD.pure (n2) (by simp) ?_).callV)
    | (with_reducible refine (CallD.pure (n3) (by simp) ?_).callV)
    | (with_reducible refine (CallD.pure (sm) (by simp) ?_).callV)
    | (with_reducible refine ordI (by kernel_rfl) ?_)
  refine (CallD.touch (i := 0) a1 (by simp) rfl (by simp) (by simp) (by simp) ?_).callV
  repeat' first
    | simp -dsimp [hnk]
    | (with_reducible refine (CallD.pure (ct_law02_awake) (by simp) ?_).callV)
    | (with_reducible refine (CallD.pure (can1) (by simp) ?_).callV)
    | (with_reducible refine (CallD.pure (can2) (by simp) ?_).callV)
    | (with_reducible refine (CallD.pure (n1) (by simp) ?_).callV)
    | (with_reducible refine (CallD.pure (n2) (by simp) ?_).callV)
    | (with_reducible refine (CallD.pure (n3) (by simp) ?_).callV)
    | (with_reducible refine (CallD.pure (sm) (by simp) ?_).callV)
    | (with_reducible refine ordI (by kernel_rfl) ?_)
  refine (CallD.look (i := 0) al1 (by simp) rfl (by simp) (by simp) (by simp) ?_).callV
  repeat' first
    | simp -dsimp [hnk]
    | (with_reducible refine (CallD.pure (ct_law02_awake) (by simp) ?_).callV)
    | (with_reducible refine (CallD.pure (can1) (by simp) ?_).callV)
    | (with_reducible refine (CallD.pure (can2) (by simp) ?_).callV)
    | (with_reducible refine (CallD.pure (n1) (by simp) ?_).callV)
    | (with_reducible refine (CallD.pure (n2) (by simp) ?_).callV)
    | (with_reducible refine (CallD.pure (n3) (by simp) ?_).callV)
    | (with_reducible refine (CallD.pure (sm) (by simp) ?_).callV)
    | (with_reducible refine ordI (by kernel_rfl) ?_)
  refine (CallD.touch (i := 0) a2 (by simp) rfl (by simp) (by simp) (by simp) ?_).callV
  repeat' first
    | simp -dsimp [hnk]
    | (with_reducible refine (CallD.pure (ct_law02_awake) (by simp) ?_).callV)
    | (with_reducible refine (CallD.pure (can1) (by simp) ?_).callV)
    | (with_reducible refine (CallD.pure (can2) (by simp) ?_).callV)
    | (with_reducible refine (CallD.pure (n1) (by simp) ?_).callV)
    | (with_reducible refine (CallD.pure (n2) (by simp) ?_).callV)
    | (with_reducible refine (CallD.pure (n3) (by simp) ?_).callV)
    | (with_reducible refine (CallD.pure (sm) (by simp) ?_).callV)
    | (with_reducible refine ordI (by kernel_rfl) ?_)
  refine (CallD.look (i := 0) al1 (by simp) rfl (by simp) (by simp) (by simp) ?_).callV
  repeat' first
    | simp -dsimp [hnk]
    | (with_reducible refine (CallD.pure (ct_law02_awake) (by simp) ?_).callV)
    | (with_reducible refine (CallD.pure (can1) (by simp) ?_).callV)
    | (with_reducible refine (CallD.pure (can2) (by simp) ?_).callV)
    | (with_reducible refine (CallD.pure (n1) (by simp) ?_).callV)
    | (with_reducible refine (CallD.pure (n2) (by simp) ?_).callV)
    | (with_reducible refine (CallD.pure (n3) (by simp) ?_).callV)
    | (with_reducible refine (CallD.pure (sm) (by simp) ?_).callV)
    | (with_reducible refine ordI (by kernel_rfl) ?_)
  refine (CallD.touch (i := 0) a3 (by simp) rfl (by simp) (by simp) (by simp) ?_).callV
  repeat' first
    | simp -dsimp [hnk]
    | (with_reducible refine (CallD.pure (ct_law02_awake) (by simp) ?_).callV)
    | (with_reducible refine (CallD.pure (can1) (by simp) ?_).callV)
    | (with_reducible refine (CallD.pure (can2) (by simp) ?_).callV)
    | (with_reducible refine (CallD.pure (n1) (by simp) ?_).callV)
    | (with_reducible refine (CallD.pure (n2) (by simp) ?_).callV)
    | (with_reducible refine (CallD.pure (n3) (by simp) ?_).callV)
    | (with_reducible refine (CallD.pure (sm) (by simp) ?_).callV)
    | (with_reducible refine ordI (by kernel_rfl) ?_)
  refine (CallD.touch (i := 0) cl (by simp) rfl (by simp) (by simp) (by simp) ?_).callV
  repeat' first
    | simp -dsimp [hnk]
    | (with_reducible refine (CallD.pure (ct_law02_awake) (by simp) ?_).callV)
    | (with_reducible refine (CallD.pure (can1) (by simp) ?_).callV)
    | (with_reducible refine (CallD.pure (can2) (by simp) ?_).callV)
    | (with_reducible refine (CallD.pure (n1) (by simp) ?_).callV)
    | (with_reducible refine (CallD.pure (n2) (by simp) ?_).callV)
    | (with_reducible refine (CallD.pure (n3) (by simp) ?_).callV)
    | (with_reducible refine (CallD.pure (sm) (by simp) ?_).callV)
    | (with_reducible refine ordI (by kernel_rfl) ?_)
  refine (CallD.look (i := 0) hs1 (by simp) rfl (by simp) (by simp) (by simp) ?_).callV
  repeat' first
    | simp -dsimp [hnk]
    | (with_reducible refine (CallD.pure (ct_law02_awake) (by simp) ?_).callV)
    | (with_reducible refine (CallD.pure (can1) (by simp) ?_).callV)
    | (with_reducible refine (CallD.pure (can2) (by simp) ?_).callV)
    | (with_reducible refine (CallD.pure (n1) (by simp) ?_).callV)
    | (with_reducible refine (CallD.pure (n2) (by simp) ?_).callV)
    | (with_reducible refine (CallD.pure (n3) (by simp) ?_).callV)
    | (with_reducible refine (CallD.pure (sm) (by simp) ?_).callV)
    | (with_reducible refine ordI (by kernel_rfl) ?_)
  refine (CallD.look (i := 0) hs2 (by simp) rfl (by simp) (by simp) (by simp) ?_).callV
  repeat' first
    | simp -dsimp [hnk]
    | (with_reducible refine (CallD.pure (ct_law02_awake) (by simp) ?_).callV)
    | (with_reducible refine (CallD.pure (can1) (by simp) ?_).callV)
    | (with_reducible refine (CallD.pure (can2) (by simp) ?_).callV)
    | (with_reducible refine (CallD.pure (n1) (by simp) ?_).callV)
    | (with_reducible refine (CallD.pure (n2) (by simp) ?_).callV)
    | (with_reducible refine (CallD.pure (n3) (by simp) ?_).callV)
    | (with_reducible refine (CallD.pure (sm) (by simp) ?_).callV)
    | (with_reducible refine ordI (by kernel_rfl) ?_)
  refine (CallD.touch (i := 0) cl2 (by simp) rfl (by simp) (by simp) (by simp) ?_).callV
  repeat' first
    | simp -dsimp [hnk]
    | (with_reducible refine (CallD.pure (ct_law02_awake) (by simp) ?_).callV)
    | (with_reducible refine (CallD.pure (can1) (by simp) ?_).callV)
    | (with_reducible refine (CallD.pure (can2) (by simp) ?_).callV)
    | (with_reducible refine (CallD.pure (n1) (by simp) ?_).callV)
    | (with_reducible refine (CallD.pure (n2) (by simp) ?_).callV)
    | (with_reducible refine (CallD.pure (n3) (by simp) ?_).callV)
    | (with_reducible refine (CallD.pure (sm) (by simp) ?_).callV)
    | (with_reducible refine ordI (by kernel_rfl) ?_)
  exact exitV.now rfl
end Go.Proofs.YtnoigkdecjeilaaDoor
