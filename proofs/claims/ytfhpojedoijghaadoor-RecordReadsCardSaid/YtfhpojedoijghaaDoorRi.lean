/- Contracts of functions of the seat's program, and what follows of them: Ri. Conditions are in each statement. -/
import Derived.Test.YtfhpojedoijghaaDoorRh
set_option linter.unusedSimpArgs false
set_option linter.unusedVariables false
namespace Go.Proofs.YtfhpojedoijghaaDoor
open Go Go.Proofs Go.Vm

@[simp] theorem isIface_err : isIface Tryd.prog 29 = true := by kernel_rfl
@[simp] theorem tbytes_bytes : tbytes Tryd.prog 22 = true := by kernel_rfl
@[simp] theorem flat_fault : flat Tryd.prog 40 45 = some [.i, .i] := by kernel_rfl
@[simp] theorem guard_fault : Tryd.prog.eqGuardType Tryd.prog.depth 45 = false := by kernel_rfl
theorem byAt_get {b : List (BitVec 8)} {k : Nat} (h : k < b.length) : b[k] = byAt b k := by simp [byAt, List.getD, h]
theorem atF_get {l : List Flt} {k : Nat} (h : k < l.length) : l[k] = atF l k := by simp [atF, List.getD, h]
theorem eq_bytes {a b : List (BitVec 8)} (hl : a.length = b.length) (h : ∀ k, k < a.length → byAt a k = byAt b k) : a = b :=
  List.ext_getElem hl fun i h1 h2 => by rw [byAt_get h1, byAt_get h2]; exact h i h1
theorem eq_flts {a b : List Flt} (hl : a.length = b.length) (h : ∀ k, k < a.length → atF a k = atF b k) : a = b :=
  List.ext_getElem hl fun i h1 h2 => by rw [atF_get h1, atF_get h2]; exact h i h1
theorem n8_ne (x y : BitVec 8) : (n8 x != n8 y) = !decide (x = y) := by
  by_cases h : x = y
  · subst h; simp
  · have : n8 x ≠ n8 y := fun e => h (n8_inj e)
    simp [h, this]
theorem ct_Same3 (a b : List (BitVec 8)) (hb : a.length < top) : Ct Tryd.prog G0 14 [.ro 1 (bys a), .ro 1 (bys b)] [] (vb (decide (a = b))) [] := by
  refine callV_ic hm (fn := Tryd.f14) rfl ic14_eq ic14_nm ic14_ok (by simp) ?_
  simp -dsimp [ic14]
  by_cases hl : a.length = b.length
  rotate_left
  · have hl' : ((a.length : Int) != b.length) = true := by simp; omega
    have hne : ¬ a = b := fun e => hl (by rw [e])
    repeat' first
      | simp -dsimp [hl']
      | exact exitV.cut (by simp) (by simp) (by simp) (by simp) ⟨by simp [hne], by simp⟩
  have hl' : ((a.length : Int) != b.length) = false := by simp; omega
  repeat' first
    | simp -dsimp [hl']
  refine Ti.loopW hm (fun k s => ∃ q : Nat, q + k = a.length ∧ (∀ k, k < q → byAt a k = byAt b k) ∧ s = { t := [(13, vi q), (12, vi a.length), (0, .ro 1 (bys a)), (1, .ro 1 (bys b))], d := [], h := [] }) (k := a.length) ?_ ?_
  · exact Wk.sub [(13, vi (0 : Nat)), (12, vi a.length), (0, .ro 1 (bys a)), (1, .ro 1 (bys b))] (by simp) (Wk.now ⟨0, by omega, fun k h => by omega, rfl⟩)
  rintro k s ⟨q, hq, hs, rfl⟩
  simp -dsimp
  refine brV.intro (fun hlt => ?_) (fun hlt => ?_)
  · have hlt : q < a.length := by simpa using hlt
    have hltb : q < b.length := by omega
    have hw := wq hlt hb
    have hn := n8_ne (byAt a q) (byAt b q)
    by_cases he : byAt a q = byAt b q
    · rw [decide_eq_true he, Bool.not_true] at hn
      repeat' first
        | simp -dsimp [hlt, hltb, hn, hw]
        | (with_reducible refine ordI (by kernel_rfl) ?_)
      exact ⟨k - 1, by omega, Wk.sub [(13, vi (q + 1 : Nat)), (12, vi a.length), (0, .ro 1 (bys a)), (1, .ro 1 (bys b))] (by simp) (Wk.now ⟨q + 1, by omega, fun k h => by
        rcases Nat.lt_or_ge k q with h' | h'
        · exact hs k h'
        · rw [show k = q by omega]; exact he, rfl⟩)⟩
    · rw [decide_eq_false he, Bool.not_false] at hn
      have hne : ¬ a = b := fun e => he (by rw [e])
      repeat' first
        | simp -dsimp [hlt, hltb, hn]
        | (with_reducible refine ordI (by kernel_rfl) ?_)
      exact exitV.cut (by simp) (by simp) (by simp) (by simp) ⟨by simp [hne], by simp⟩
  · have hqe : q = a.length := by simp at hlt; omega
    have heq : a = b := eq_bytes hl fun k h => hs k (by omega)
    simp -dsimp
    exact exitV.cut (by simp) (by simp) (by simp) (by simp) ⟨by simp [heq], by simp⟩
theorem ct_Same2 (a b : List Flt) (hb : a.length < top) : Ct Tryd.prog G0 10 [.ro 2 (flts a), .ro 2 (flts b)] [] (vb (decide (a = b))) [] := by
  refine callV_ic hm (fn := Tryd.f10) rfl ic10_eq ic10_nm ic10_ok (by simp) ?_
  simp -dsimp [ic10]
  by_cases hl : a.length = b.length
  rotate_left
  · have hl' : ((a.length : Int) != b.length) = true := by simp; omega
    have hne : ¬ a = b := fun e => hl (by rw [e])
    repeat' first
      | simp -dsimp [hl']
      | exact exitV.cut (by simp) (by simp) (by simp) (by simp) ⟨by simp [hne], by simp⟩
  have hl' : ((a.length : Int) != b.length) = false := by simp; omega
  repeat' first
    | simp -dsimp [hl']
  refine Ti.loopW hm (fun k s => ∃ q : Nat, q + k = a.length ∧ (∀ k, k < q → atF a k = atF b k) ∧ s = { t := [(13, vi q), (12, vi a.length), (0, .ro 2 (flts a)), (1, .ro 2 (flts b))], d := [], h := [] }) (k := a.length) ?_ ?_
  · exact Wk.sub [(13, vi (0 : Nat)), (12, vi a.length), (0, .ro 2 (flts a)), (1, .ro 2 (flts b))] (by simp) (Wk.now ⟨0, by omega, fun k h => by omega, rfl⟩)
  rintro k s ⟨q, hq, hs, rfl⟩
  simp -dsimp
  refine brV.intro (fun hlt => ?_) (fun hlt => ?_)
  · have hlt : q < a.length := by simpa using hlt
    have hltb : q < b.length := by omega
    have hw := wq hlt hb
    by_cases he : atF a q = atF b q
    · have e1 : ((atF a q).kind == (atF b q).kind) = true := by rw [he]; simp
      have e2 : ((atF a q).tick == (atF b q).tick) = true := by rw [he]; simp
      repeat' first
        | simp -dsimp [hlt, hltb, e1, e2, hw]
        | (with_reducible refine ordI (by kernel_rfl) ?_)
      exact ⟨k - 1, by omega, Wk.sub [(13, vi (q + 1 : Nat)), (12, vi a.length), (0, .ro 2 (flts a)), (1, .ro 2 (flts b))] (by simp) (Wk.now ⟨q + 1, by omega, fun k h => by
        rcases Nat.lt_or_ge k q with h' | h'
        · exact hs k h'
        · rw [show k = q by omega]; exact he, rfl⟩)⟩
    · have hne : ¬ a = b := fun e => he (by rw [e])
      have e1 : ((atF a q).kind == (atF b q).kind && (atF a q).tick == (atF b q).tick) = false := by
        rw [Bool.eq_false_iff]
        intro h
        simp only [Bool.and_eq_true, beq_iff_eq] at h
        refine he ?_
        obtain ⟨h1, h2⟩ := h
        revert h1 h2
        generalize atF a q = x
        generalize atF b q = y
        intro h1 h2
        cases x; cases y; simp_all
      repeat' first
        | simp -dsimp [hlt, hltb, e1]
        | (with_reducible refine ordI (by kernel_rfl) ?_)
      exact exitV.cut (by simp) (by simp) (by simp) (by simp) ⟨by simp [hne], by simp⟩
  · have hqe : q = a.length := by simp at hlt; omega
    have heq : a = b := eq_flts hl fun k h => hs k (by omega)
    simp -dsimp
    exact exitV.cut (by simp) (by simp) (by simp) (by simp) ⟨by simp [heq], by simp⟩
theorem crc_nine : n16 (crc [49#8, 50#8, 51#8, 52#8, 53#8, 54#8, 55#8, 56#8, 57#8]) = 10673 := by decide +kernel
set_option maxRecDepth 100000 in
theorem ct_law03_awake : Ct Tryd.prog G0 5 [] [] (vb true) [] := by
  have hr : rightB [⟨6, 5⟩] = true := by decide
  have w := ct_Write [⟨6, 5⟩] (by decide) hr
  have r := ct_Read (recR [⟨6, 5⟩]) (by rw [recR_length]; decide)
  rw [read_rec hr] at r
  have s := ct_Sum [49#8, 50#8, 51#8, 52#8, 53#8, 54#8, 55#8, 56#8, 57#8] (by decide)
  rw [crc_nine, show bys [49#8, 50#8, 51#8, 52#8, 53#8, 54#8, 55#8, 56#8, 57#8] = [.c (.int .u8 49), .c (.int .u8 50), .c (.int .u8 51), .c (.int .u8 52), .c (.int .u8 53), .c (.int .u8 54), .c (.int .u8 55), .c (.int .u8 56), .c (.int .u8 57)] from rfl] at s
  have hl : (recR [⟨6, 5⟩]).length = 10 := by rw [recR_length]; rfl
  refine callV_ic hm (fn := Tryd.f5) rfl ic5_eq ic5_nm ic5_ok (by simp) ?_
  simp -dsimp [ic5]
  generalize recR [⟨6, 5⟩] = x at *
  simp only [readV, flts, List.map_cons, List.map_nil, Flt.enc] at w r
  refine CallV.freeze 0 45 [vi 6, vi 5] true (by simp) (by simp) ?_
  simp -dsimp [rows]
  refine (CallD.pure w (by simp) ?_).callV
  repeat' first
    | simp -dsimp [hl]
    | (with_reducible refine (CallD.pure (r) (by simp) ?_).callV)
    | (with_reducible refine (CallD.pure (s) (by simp) ?_).callV)
    | (with_reducible refine ordI (by kernel_rfl) ?_)
  exact exitV.cut (by simp) (by simp) (by simp) (by simp) ⟨rfl, by simp⟩
end Go.Proofs.YtfhpojedoijghaaDoor
