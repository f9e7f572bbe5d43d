/- Contracts of functions of the seat's program, and what follows of them: Rc. Conditions are in each statement. -/
import Derived.Test.YtfhpojedoijghaaDoorRb
set_option linter.unusedSimpArgs false
set_option linter.unusedVariables false
namespace Go.Proofs.YtfhpojedoijghaaDoor
open Go Go.Proofs Go.Vm

/-- A fault. -/
structure Flt where
  kind : Int
  tick : Int
  deriving DecidableEq
abbrev Flt.enc (f : Flt) : V := .agg [vi f.kind, vi f.tick]
def f0 : Flt := ⟨0, 0⟩
def flts (l : List Flt) : List V := l.map fun f => f.enc
def fltC : List Flt → List V
  | [] => []
  | f :: l => vi f.kind :: vi f.tick :: fltC l
@[simp] theorem fltC_length : ∀ (l : List Flt), (fltC l).length = 2 * l.length
  | [] => rfl
  | f :: l => by simp [fltC, fltC_length l]; omega
theorem fltC_app : ∀ (a b : List Flt), fltC (a ++ b) = fltC a ++ fltC b
  | [], _ => rfl
  | f :: a, b => by simp [fltC, fltC_app a b]
@[simp] theorem flts_length (l : List Flt) : (flts l).length = l.length := by simp [flts]
def atF (l : List Flt) (k : Nat) : Flt := l.getD k f0
@[simp] theorem flts_get (l : List Flt) (k : Nat) (h : k < (flts l).length) : (flts l)[k] = (atF l k).enc := by
  have : k < l.length := by simpa using h
  simp [flts, atF, List.getD, this]
@[simp] theorem okL_flts (p : Nat → Prop) (l : List Flt) : okL p (flts l) := by
  induction l with
  | nil => trivial
  | cons x l ih => exact ⟨by simp, ih⟩
@[simp] theorem renL_flts (ρ : Nat → Nat) (l : List Flt) : renL ρ (flts l) = flts l := by
  induction l with
  | nil => rfl
  | cons x l ih => simp [flts, renL] at ih ⊢; exact ih
@[simp] theorem okL_fltC (p : Nat → Prop) : ∀ (l : List Flt), okL p (fltC l)
  | [] => trivial
  | x :: l => ⟨trivial, trivial, okL_fltC p l⟩
@[simp] theorem renL_fltC (ρ : Nat → Nat) : ∀ (l : List Flt), renL ρ (fltC l) = fltC l
  | [] => rfl
  | x :: l => by simp [fltC, renL_fltC ρ l]
theorem rows_flts : ∀ (l : List Flt), rows true 2 l.length (fltC l) = flts l
  | [] => rfl
  | x :: l => by
    have := rows_flts l
    simp [flts, rows, fltC] at this ⊢; exact this

/-! ### Which faults there may be -/
def goodF (l : List Flt) (k : Nat) : Bool :=
  decide ((if k = 0 then 0 else (atF l (k - 1)).kind) < (atF l k).kind) && decide ((atF l k).kind ≤ 11) && decide (0 ≤ (atF l k).tick) && decide ((atF l k).tick ≤ 1099511627775)
def rightB (l : List Flt) : Bool := allB (goodF l) l.length
theorem ct_right (l : List Flt) (hb : l.length < top) : Ct Tryd.prog G0 18 [.ro 2 (flts l)] [] (vb (rightB l)) [] := by
  refine callV_ic hm (fn := Tryd.f18) rfl ic18_eq ic18_nm ic18_ok (by simp) ?_
  simp -dsimp [ic18]
  refine Ti.loopW hm (fun k s => ∃ q : Nat, q + k = l.length ∧ allB (goodF l) q = true ∧ s = { t := [(8, vi q), (7, vi l.length), (6, .ro 2 (flts l)), (3, vi (if q = 0 then 0 else (atF l (q - 1)).kind))], d := [], h := [] }) (k := l.length) ?_ ?_
  · exact Wk.sub [(8, vi (0 : Nat)), (7, vi l.length), (6, .ro 2 (flts l)), (3, vi 0)] (by simp) (Wk.now ⟨0, by omega, by simp [allB], by simp⟩)
  rintro k s ⟨q, hq, ha, rfl⟩
  generalize hp : (if q = 0 then 0 else (atF l (q - 1)).kind) = p
  simp -dsimp
  refine brV.intro (fun hlt => ?_) (fun hlt => ?_)
  rotate_left
  · have : q = l.length := by simp at hlt; omega
    subst this
    simp -dsimp
    exact exitV.cut (by simp) (by simp) (by simp) (by simp) ⟨by simp [rightB, ha], by simp⟩
  have hlt : q < l.length := by simpa using hlt
  have hw := wq hlt hb
  by_cases hg : goodF l q = true
  · have hg' := hg
    simp only [goodF, hp, Bool.and_eq_true, decide_eq_true_eq] at hg'
    obtain ⟨⟨⟨g1, g2⟩, g3⟩, g4⟩ := hg'
    have g1 : ¬ (atF l q).kind ≤ p := by omega
    have g2 : ¬ 11 < (atF l q).kind := by omega
    have g3 : ¬ (atF l q).tick < 0 := by omega
    have g4 : ¬ 1099511627775 < (atF l q).tick := by omega
    repeat' first
      | simp -dsimp [hlt, g1, g2, g3, g4, hw]
      | (with_reducible refine ordI (by kernel_rfl) ?_)
    exact ⟨k - 1, by omega, Wk.sub [(8, vi (q + 1 : Nat)), (7, vi l.length), (6, .ro 2 (flts l)), (3, vi (atF l q).kind)] (by simp) (Wk.cut 0 (by simp) (by simp) (by simp) (by simp) (by simp) (by simp) (Wk.now ⟨q + 1, by omega, allB_succ ha hg, by simp⟩))⟩
  · have hg' : goodF l q = false := by simpa using hg
    have res : rightB l = false := allB_false hlt hg'
    simp only [goodF, hp, Bool.and_eq_true, decide_eq_true_eq] at hg
    by_cases g1 : (atF l q).kind ≤ p
    · repeat' first
        | simp -dsimp [hlt, g1]
        | exact exitV.cut (by simp) (by simp) (by simp) (by simp) ⟨by simp [res], by simp⟩
    by_cases g2 : 11 < (atF l q).kind
    · repeat' first
        | simp -dsimp [hlt, g1, g2]
        | exact exitV.cut (by simp) (by simp) (by simp) (by simp) ⟨by simp [res], by simp⟩
    by_cases g3 : (atF l q).tick < 0
    · repeat' first
        | simp -dsimp [hlt, g1, g2, g3]
        | exact exitV.cut (by simp) (by simp) (by simp) (by simp) ⟨by simp [res], by simp⟩
    by_cases g4 : 1099511627775 < (atF l q).tick
    · repeat' first
        | simp -dsimp [hlt, g1, g2, g3, g4]
        | exact exitV.cut (by simp) (by simp) (by simp) (by simp) ⟨by simp [res], by simp⟩
    exact absurd ⟨⟨⟨by omega, by omega⟩, by omega⟩, by omega⟩ hg

@[simp] theorem tslice_bytes : tslice Tryd.prog 22 = true := by kernel_rfl
@[simp] theorem tslice_faults : tslice Tryd.prog 27 = true := by kernel_rfl
/-! ### Errors -/
def canP (k : Int) : Bool := decide (1 ≤ k) && decide (k ≤ 11)
theorem ct_fault_can (k : Int) : Ct Tryd.prog G0 28 [vi k] [] (vb (canP k)) [] := by
  refine callV_ic hm (fn := Tryd.f28) rfl ic28_eq ic28_nm ic28_ok (by simp) ?_
  simp -dsimp [ic28]
  repeat' first
    | simp -dsimp [*]
    | (with_reducible refine brV.intro (fun h => ?_) (fun h => ?_))
    | (with_reducible refine exitV.cut (by simp) (by simp) (by simp) (by simp) ⟨?_, by simp⟩)
    | (with_reducible refine ordI (by kernel_rfl) ?_)
  all_goals first | rfl | (simp only [canP, *]; simp; done) | (simp_all [canP]; done) | (simp_all [canP]; intros; omega)
abbrev flt (k t : Int) : V := .iface 65 (.agg [vi k, vi t])
theorem ct_fault_New (k t : Int) (h : canP k = true) : Ct Tryd.prog G0 24 [vi k, vi t] [] (flt k (max 0 (min t 1099511627775))) [] := by
  refine callV_ic hm (fn := Tryd.f24) rfl ic24_eq ic24_nm ic24_ok (by simp) ?_
  simp -dsimp [ic24]
  repeat' first
    | simp -dsimp [*]
    | (with_reducible refine exitV.cut (by simp) (by simp) (by simp) (by simp) ⟨?_, by simp⟩)
    | (with_reducible refine (CallD.pure (ct_fault_can _) (by simp) ?_).callV)
    | (with_reducible refine ordI (by kernel_rfl) ?_)
  exact ⟨by kernel_rfl, exitV.cut (by simp) (by simp) (by simp) (by simp) ⟨rfl, by simp⟩⟩
theorem ct_New0 : Ct Tryd.prog G0 24 [vi 2, vi 0] [] (flt 2 0) [] := ct_fault_New 2 0 (by decide)
abbrev wrapV (p : List UInt8) (e : V) : V := .iface 61 (.agg [vs p, e])
theorem ct_fault_Wrap (p : List UInt8) (k t : Int) : Ct Tryd.prog G0 23 [vs p, flt k t] [] (wrapV p (flt k t)) [] := by
  refine callV_ic hm (fn := Tryd.f23) rfl ic23_eq ic23_nm ic23_ok (by simp) ?_
  simp -dsimp [ic23]
  repeat' first
    | simp -dsimp [*]
    | (with_reducible refine exitV.cut (by simp) (by simp) (by simp) (by simp) ⟨?_, by simp⟩)
    | (with_reducible refine ordI (by kernel_rfl) ?_)
  exact ⟨by kernel_rfl, by kernel_rfl, exitV.cut (by simp) (by simp) (by simp) (by simp) ⟨rfl, by simp⟩⟩
abbrev badV (p : List UInt8) : V := wrapV p (flt 2 0)
theorem ct_wrong (p : List UInt8) : Ct Tryd.prog G0 15 [vs p] [] (badV p) [] := by
  refine callV_ic hm (fn := Tryd.f15) rfl ic15_eq ic15_nm ic15_ok (by simp) ?_
  simp -dsimp [ic15]
  repeat' first
    | simp -dsimp [*]
    | (with_reducible refine (CallD.pure (ct_New0) (by simp) ?_).callV)
    | (with_reducible refine (CallD.pure (ct_fault_Wrap _ _ _) (by simp) ?_).callV)
    | (with_reducible refine ordI (by kernel_rfl) ?_)
  exact exitV.cut (by simp) (by simp) (by simp) (by simp) ⟨rfl, by simp⟩
end Go.Proofs.YtfhpojedoijghaaDoor
