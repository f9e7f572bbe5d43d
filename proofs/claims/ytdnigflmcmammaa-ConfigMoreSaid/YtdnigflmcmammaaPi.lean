/- Contracts of functions of the seat's program, and what follows of them: Pi. Conditions are in each statement. -/
import Derived.Test.YtdnigflmcmammaaPh
set_option linter.unusedSimpArgs false
set_option linter.unusedVariables false
namespace Go.Proofs.Ytdnigflmcmammaa
open Go Go.Proofs Go.Vm

theorem near_all {c : Cfg} (h : nearC c = true) : c.lv.length ≤ 20 ∧ c.op.length ≤ 20 ∧ (∀ k, k < c.lv.length → -2147483648 ≤ at0 c.lv k ∧ at0 c.lv k ≤ 2147483648) ∧ (∀ x ∈ c.nums, -2147483648 ≤ x ∧ x ≤ 2147483648) := by
  simp only [nearC, Bool.and_eq_true, decide_eq_true_eq, allB_iff] at h
  obtain ⟨⟨h1, h2⟩, h3⟩ := h
  have hal : c.all.length = c.lv.length + c.op.length + 19 := by simp [Cfg.all, Cfg.nums]; omega
  refine ⟨h1, h2, fun k hk => ?_, fun x hx => ?_⟩
  · have := h3 k (by omega)
    simp only [near31, Bool.and_eq_true, decide_eq_true_eq] at this
    have e : at0 c.all k = at0 c.lv k := by simp [Cfg.all, at0, List.getD, List.getElem?_append, hk]
    rw [e] at this; exact this
  · obtain ⟨j, hj, rfl⟩ := List.mem_iff_getElem.1 hx
    have hj' : j < 19 := by simpa [Cfg.nums] using hj
    have := h3 (c.lv.length + c.op.length + j) (by omega)
    simp only [near31, Bool.and_eq_true, decide_eq_true_eq] at this
    have e : at0 c.all (c.lv.length + c.op.length + j) = c.nums[j] := by
      simp only [Cfg.all, at0, List.getD]
      rw [List.getElem?_append_right (by simp), List.length_append, show c.lv.length + c.op.length + j - (c.lv.length + c.op.length) = j by omega, List.getElem?_eq_getElem hj]; rfl
    rw [e] at this; exact this
theorem near_half {c : Cfg} (h : nearC c = true) : c.half ≤ 2147483648 ∧ -2147483648 ≤ c.half := by
  have := (near_all h).2.2.2 c.half (by simp [Cfg.nums])
  omega
theorem of_nil {c : Cfg} (h : wrongP c = []) (n : Int) : ofP c n = n := by simp [ofP, h]

def cnt (p : Nat → Bool) : Nat → Nat
  | 0 => 0
  | n + 1 => cnt p n + if p n = true then 1 else 0
theorem cnt_zero {p : Nat → Bool} : ∀ {n : Nat}, (∀ j, j < n → p j = true → False) → cnt p n = 0
  | 0, _ => rfl
  | n + 1, h => by
    unfold cnt
    rw [cnt_zero fun j hj => h j (by omega), if_neg (fun k => h n (by omega) k)]
theorem cnt_one {p : Nat → Bool} : ∀ {n : Nat}, (∀ j k, j < k → k < n → p j = true → p k = true → False) → cnt p n ≤ 1
  | 0, _ => by simp [cnt]
  | n + 1, h => by
    unfold cnt
    by_cases hp : p n = true
    · rw [cnt_zero fun j hj hj2 => h j n hj (by omega) hj2 hp, if_pos hp]; omega
    · rw [if_neg hp]
      have := cnt_one (p := p) (n := n) fun j k hj hk => h j k hj (by omega)
      omega
theorem cnt_le {p : Nat → Bool} : ∀ {n : Nat}, cnt p n ≤ n
  | 0 => by simp [cnt]
  | n + 1 => by
    unfold cnt
    have := cnt_le (p := p) (n := n)
    split <;> omega

def nearAt (c : Cfg) (pos : Int) (k : Nat) : Bool := decide (w64 (pos - at0 c.lv k) ≤ c.near) && decide (w64 (-(w64 (pos - at0 c.lv k))) ≤ c.near)
theorem law_ConfigApart (c : Cfg) (pos : Int) (hb : c.lv.length < top) (ho : c.op.length < top) :
    CallV Try.prog G0 3 [c.enc, vi pos] [] fun v _ => v = .c (.bool true) := by
  refine callV_ic hm (fn := Try.f3) rfl ic3_eq ic3_nm ic3_ok (by simp) ?_
  cases hf : nearC c
  · repeat' first
      | simp -dsimp [ic3, hf]
      | (with_reducible refine (CallD.pure (ct_law05_awake) (by simp) ?_).callV)
      | (with_reducible refine (CallD.pure (ct_ref05_Near _) (by simp) ?_).callV)
      | exact exitV.now rfl
  by_cases hw : wrongP c = []
  case neg =>
    repeat' first
      | simp -dsimp [ic3, hf]
      | (with_reducible refine (CallD.pure (ct_law05_awake) (by simp) ?_).callV)
      | (with_reducible refine (CallD.pure (ct_ref05_Near _) (by simp) ?_).callV)
      | (with_reducible refine (CallD.pure (ct_Check_bad _ hb ho hw) (by simp) ?_).callV)
      | exact exitV.now rfl
  have g := fine_good (fine_iff.1 hw) (near_half hf)
  obtain ⟨q1, q2, q3, q4⟩ := near_all hf
  by_cases hp1 : pos < -2147483648
  · repeat' first
      | simp -dsimp [ic3, hf, hp1]
      | (with_reducible refine (CallD.pure (ct_law05_awake) (by simp) ?_).callV)
      | (with_reducible refine (CallD.pure (ct_ref05_Near _) (by simp) ?_).callV)
      | (with_reducible refine (CallD.pure (ct_Check_ok _ hb ho hw) (by simp) ?_).callV)
      | exact exitV.now rfl
  by_cases hp2 : 2147483648 < pos
  · repeat' first
      | simp -dsimp [ic3, hf, hp1, hp2]
      | (with_reducible refine (CallD.pure (ct_law05_awake) (by simp) ?_).callV)
      | (with_reducible refine (CallD.pure (ct_ref05_Near _) (by simp) ?_).callV)
      | (with_reducible refine (CallD.pure (ct_Check_ok _ hb ho hw) (by simp) ?_).callV)
      | exact exitV.now rfl
  have sp := sp_of (fine_iff.1 hw).a3 (fine_iff.1 hw).a4
  have e1 : riseP c = c.sh + coastR c.ramp 2000 c.sh 0 := by
    have := coast_bd sp (x := c.sh) (by have := g.sl; have := g.sh; omega) (by have := g.fl; have := g.fh; have := g.fh2; omega)
    have := g.sl; have := g.sh; have := g.fl; have := g.fh; have := g.fh2
    rw [rise_eq sp]; exact w64_id (by omega) (by omega)
  have e2 : brakeP c = c.fh + coastR c.ramp 2000 c.fh 0 := by
    have := coast_bd sp (x := c.fh) (by have := g.sl; have := g.sh; have := g.fl; have := g.fh; omega) (by have := g.fh2; omega)
    have := g.sl; have := g.sh; have := g.fl; have := g.fh; have := g.fh2
    unfold brakeP
    rw [coast_eq g.ramp1 g.ramp2 (by omega) (by omega)]; exact w64_id (by omega) (by omega)
  have n := nums_of g
  have u1 := g.half1; have u2 := g.near1; have u3 := n.va; have u4 := g.level1; have u5 := g.half2; have u6 := g.near2; have u7 := n.cr; have u8 := n.lev; have u9 := n.ne; have u10 := n.ha; have u11 := g.coast1; have u12 := g.coast2; have u13 := n.fh; have u14 := g.sl; have u15 := g.sh
  have k1 : decide (w64 (c.vane + riseP c) ≤ c.half) = true := by rw [e1, w64_id (by omega) (by omega)]; simpa using u1
  have k2 : decide (w64 (c.half + brakeP c) ≤ c.near) = true := by rw [e2, w64_id (by omega) (by omega)]; simp; omega
  have k3 : decide (c.creep ≤ c.vane) = true := by simpa using u3
  have k4 : decide (riseP c ≤ c.level) = true := by rw [e1]; simpa using u4
  repeat' first
    | simp -dsimp [ic3, hf, hp1, hp2]
    | (with_reducible refine (CallD.pure (ct_law05_awake) (by simp) ?_).callV)
    | (with_reducible refine (CallD.pure (ct_ref05_Near _) (by simp) ?_).callV)
    | (with_reducible refine (CallD.pure (ct_Check_ok _ hb ho hw) (by simp) ?_).callV)
    | exact exitV.now rfl
  refine Ti.loopW hm (fun k s => ∃ q : Nat, q + k = c.lv.length ∧ s = { t := [(32, vi q), (31, vi c.lv.length), (5, vi (cnt (nearAt c pos) q)), (1, vi pos), (2, .p 0 0)], d := [], h := [.cells 26 c.cells] }) (k := c.lv.length) ?_ ?_
  · exact Wk.sub [(32, vi (0 : Nat)), (31, vi c.lv.length), (5, vi (cnt (nearAt c pos) 0 : Nat)), (1, vi pos), (2, .p 0 0)] (by simp [cnt]) (Wk.now ⟨0, by omega, rfl⟩)
  rintro k s ⟨q, hq, rfl⟩
  simp -dsimp
  refine brV.intro (fun hl => ?_) (fun hl => ?_)
  · have hl : q < c.lv.length := by simpa using hl
    have hw2 := wq hl hb
    have hc : IntKind.wrap .i64 ((cnt (nearAt c pos) q : Int) + 1) = ((cnt (nearAt c pos) q + 1 : Nat) : Int) := by
      have := cnt_le (p := nearAt c pos) (n := q)
      exact wq (q := cnt (nearAt c pos) q) (n := q + 1) (by omega) (by omega)
    have nxt : ∀ b, nearAt c pos q = b → (cnt (nearAt c pos) (q + 1) : Int) = if b = true then ((cnt (nearAt c pos) q + 1 : Nat) : Int) else cnt (nearAt c pos) q := by
      intro b hb; rw [cnt, hb]; split <;> simp
    simp -dsimp [hl]
    repeat' first
      | simp -dsimp [h, hl, hw2, hc]
      | simp -dsimp [hl, hw2, hc]
      | (with_reducible refine brV.intro (fun h => ?_) (fun h => ?_))
      | (with_reducible refine ordI (by kernel_rfl) ?_)
    all_goals (refine ⟨k - 1, by omega, Wk.sub [(32, vi (q + 1 : Nat)), (31, vi c.lv.length), (5, vi (cnt (nearAt c pos) (q + 1) : Nat)), (1, vi pos), (2, .p 0 0)] ?_ (Wk.now ⟨q + 1, by omega, rfl⟩)⟩)
    · have := nxt true (by simp_all [nearAt])
      simp [this]
    · have := nxt false (by rw [nearAt, Bool.and_eq_false_iff]; first | exact .inl h | exact .inr h)
      simp [this]
    · have := nxt false (by rw [nearAt, Bool.and_eq_false_iff]; first | exact .inl h | exact .inr h)
      simp [this]
  · have hqe : q = c.lv.length := by simp at hl; omega
    subst hqe
    have k0 : decide ((cnt (nearAt c pos) c.lv.length : Int) ≤ 1) = true := by
      have := cnt_one (p := nearAt c pos) (n := c.lv.length) fun i j hij hj h1 h2 => by
        have ap := apart_lv g hij hj
        have b1 := q3 i (by omega)
        have b2 := q3 j hj
        simp only [nearAt, Bool.and_eq_true, decide_eq_true_eq] at h1 h2
        rw [w64_id (x := pos - at0 c.lv i) (by omega) (by omega), w64_id (x := -_) (by omega) (by omega)] at h1
        rw [w64_id (x := pos - at0 c.lv j) (by omega) (by omega), w64_id (x := -_) (by omega) (by omega)] at h2
        omega
      simp; omega
    repeat' first
      | simp -dsimp [k0, k1, k2, k3, k4, of_nil hw]
      | (with_reducible refine (CallD.pure (ct_Rise _ hb ho) (by simp) ?_))
      | (with_reducible refine (CallD.pure (ct_Brake _ hb ho) (by simp) ?_))
      | (with_reducible refine ordI (by kernel_rfl) ?_)
      | exact exitV.now rfl
end Go.Proofs.Ytdnigflmcmammaa
