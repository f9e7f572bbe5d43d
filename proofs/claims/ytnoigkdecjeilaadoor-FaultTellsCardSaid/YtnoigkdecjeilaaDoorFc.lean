/- Contracts of functions of the seat's program, and what follows of them: Fc. Conditions are in each statement. -/
import Derived.Test.YtnoigkdecjeilaaDoorFb
set_option linter.unusedSimpArgs false
set_option linter.unusedVariables false
namespace Go.Proofs.YtnoigkdecjeilaaDoor
open Go Go.Proofs Go.Vm Go.Extern
set_option maxRecDepth 100000

def f0 : Flt := ⟨0, 0⟩
def flts (l : List Flt) : List V := l.map fun f => f.enc
def fltC : List Flt → List V
  | [] => []
  | f :: l => vi f.kind :: vi f.tick :: fltC l
@[simp] theorem fltC_length : ∀ (l : List Flt), (fltC l).length = 2 * l.length
  | [] => rfl
  | f :: l => by simp [fltC, fltC_length l]; omega
theorem fltC_app : ∀ (a b : List Flt), fltC (a ++ b) = fltC a ++ fltC b
  | [], _ => rfl
  | f :: a, b => by simp [fltC, fltC_app a b]
@[simp] theorem flts_length (l : List Flt) : (flts l).length = l.length := by simp [flts]
def atF (l : List Flt) (k : Nat) : Flt := l.getD k f0
@[simp] theorem flts_get (l : List Flt) (k : Nat) (h : k < (flts l).length) : (flts l)[k] = (atF l k).enc := by
  have : k < l.length := by simpa using h
  simp [flts, atF, List.getD, this]
@[simp] theorem okL_flts (p : Nat → Prop) (l : List Flt) : okL p (flts l) := by
  induction l with
  | nil => trivial
  | cons x l ih => exact ⟨by simp, ih⟩
@[simp] theorem renL_flts (ρ : Nat → Nat) (l : List Flt) : renL ρ (flts l) = flts l := by
  induction l with
  | nil => rfl
  | cons x l ih => simp [flts, renL] at ih ⊢; exact ih
@[simp] theorem okL_fltC (p : Nat → Prop) : ∀ (l : List Flt), okL p (fltC l)
  | [] => trivial
  | x :: l => ⟨trivial, trivial, okL_fltC p l⟩
@[simp] theorem renL_fltC (ρ : Nat → Nat) : ∀ (l : List Flt), renL ρ (fltC l) = fltC l
  | [] => rfl
  | x :: l => by simp [fltC, renL_fltC ρ l]
theorem rows_flts : ∀ (l : List Flt), rows true 2 l.length (fltC l) = flts l
  | [] => rfl
  | x :: l => by
    have := rows_flts l
    simp [flts, rows, fltC] at this ⊢; exact this

theorem fltC_at0 : ∀ {L : List Flt} {k : Nat}, k < L.length → (fltC L)[k * 2]? = some (vi (atF L k).kind)
  | [], k, h => by simp at h
  | f :: L, 0, h => rfl
  | f :: L, k + 1, h => by
    have := fltC_at0 (L := L) (k := k) (by simpa using h)
    rw [show (k + 1) * 2 = k * 2 + 2 by omega]
    simpa [fltC, atF] using this
theorem fltC_at1 : ∀ {L : List Flt} {k : Nat}, k < L.length → (fltC L)[k * 2 + 1]? = some (vi (atF L k).tick)
  | [], k, h => by simp at h
  | f :: L, 0, h => rfl
  | f :: L, k + 1, h => by
    have := fltC_at1 (L := L) (k := k) (by simpa using h)
    rw [show (k + 1) * 2 + 1 = k * 2 + 1 + 2 by omega]
    simpa [fltC, atF] using this
theorem fltC_set : ∀ {L : List Flt} {k : Nat} (a b : Int), k < L.length → ((fltC L).set (k * 2) (vi a)).set (k * 2 + 1) (vi b) = fltC (L.set k ⟨a, b⟩)
  | [], k, a, b, h => by simp at h
  | f :: L, 0, a, b, h => rfl
  | f :: L, k + 1, a, b, h => by
    have := fltC_set (L := L) (k := k) a b (by simpa using h)
    rw [show (k + 1) * 2 = k * 2 + 2 by omega, show k * 2 + 2 + 1 = k * 2 + 1 + 2 by omega]
    simpa [fltC] using this
theorem fltC_part : ∀ {L : List Flt} {k : Nat}, k < L.length → ((fltC L).drop (k * 2)).take 2 = [vi (atF L k).kind, vi (atF L k).tick]
  | [], k, h => by simp at h
  | f :: L, 0, h => rfl
  | f :: L, k + 1, h => by
    have := fltC_part (L := L) (k := k) (by simpa using h)
    rw [show (k + 1) * 2 = k * 2 + 2 by omega]
    simpa [fltC, atF] using this
def hasL (L : List Flt) (k : Int) : Bool := canP k && ((atF L k.toNat).kind == k)
theorem ct_Has (L : List Flt) (hL : L.length = 12) (k : Int) : Ct Tryd.prog G0 22 [.p 0 0, vi k] [.cells 47 (fltC L)] (vb (hasL L k)) [.cells 47 (fltC L)] := by
  have can := ct_fault_can k
  refine callV_ic hm (fn := Tryd.f22) rfl ic22_eq ic22_nm ic22_ok (by simp) ?_
  simp -dsimp [ic22]
  cases c : canP k
  · rw [c] at can
    repeat' first
      | simp -dsimp
      | (with_reducible refine (CallD.pure (can) (by simp) ?_).callV)
      | (with_reducible refine ordI (by kernel_rfl) ?_)
    exact exitV.cut (by simp) (by simp) (by simp) (by simp) ⟨by simp [hasL, c], by simp⟩
  · rw [c] at can
    obtain ⟨j, rfl⟩ : ∃ j : Nat, k = j := ⟨k.toNat, by simp [canP] at c; omega⟩
    have hj : j < 12 := by simp [canP] at c; omega
    have hj' : (j : Int) < 12 := by omega
    have hj2 : j * 2 ≤ 22 := by omega
    have a0 := fltC_at0 (L := L) (k := j) (by omega)
    repeat' first
      | simp -dsimp [hj, hj', a0]
      | (with_reducible refine (CallD.pure (can) (by simp) ?_).callV)
      | (with_reducible refine ordI (by kernel_rfl) ?_)
    exact exitV.cut (by simp) (by simp) (by simp) (by simp) ⟨by simp [hasL, c], by simp⟩
def addL (L : List Flt) (f : Flt) : List Flt := if hasL L f.kind then L else L.set f.kind.toNat f
@[simp] theorem addL_length (L : List Flt) (f : Flt) : (addL L f).length = L.length := by unfold addL; split <;> simp
theorem ct_Add (L : List Flt) (hL : L.length = 12) (e : Er) (c : canP e.leaf.1 = true) : Ct Tryd.prog G0 20 [.p 0 0, e.v] [.cells 47 (fltC L)] (vb (!hasL L e.leaf.1)) [.cells 47 (fltC (addL L ⟨e.leaf.1, e.leaf.2⟩))] := by
  have f := ct_Of e
  have has := ct_Has L hL e.leaf.1
  generalize hx : e.v = x at *
  have hok : ∀ p : Nat → Prop, x.ok p := fun p => by rw [← hx]; simp
  have hren : ∀ ρ : Nat → Nat, x.ren ρ = x := fun ρ => by rw [← hx]; simp
  generalize e.leaf.1 = k at *
  generalize e.leaf.2 = t at *
  obtain ⟨j, rfl⟩ : ∃ j : Nat, k = j := ⟨k.toNat, by simp [canP] at c; omega⟩
  have hj : j < 12 := by simp [canP] at c; omega
  have hj' : (j : Int) < 12 := by omega
  have hj2 : j * 2 ≤ 22 := by omega
  have hs := fltC_set (L := L) (k := j) j t (by omega)
  refine callV_ic hm (fn := Tryd.f20) rfl ic20_eq ic20_nm ic20_ok (by simp) ?_
  simp -dsimp [ic20]
  cases h : hasL L j
  · rw [h] at has
    repeat' first
      | simp -dsimp [hj, hj', hj2, hs, hL]
      | (with_reducible refine (CallD.pure f (by simp [hok]) ?_).callV)
      | (with_reducible refine (CallD.look (i := 0) has (by simp) rfl (by simp) (by simp) (by simp) ?_).callV)
      | (with_reducible refine ordI (by kernel_rfl) ?_)
    exact exitV.cut (by simp) (by simp) (by simp) (by simp) ⟨by simp, by simp [addL, h]⟩
  · rw [h] at has
    repeat' first
      | simp -dsimp [hj, hj']
      | (with_reducible refine (CallD.pure f (by simp [hok]) ?_).callV)
      | (with_reducible refine (CallD.look (i := 0) has (by simp) rfl (by simp) (by simp) (by simp) ?_).callV)
      | (with_reducible refine ordI (by kernel_rfl) ?_)
    exact exitV.cut (by simp) (by simp) (by simp) (by simp) ⟨by simp, by simp [addL, h]⟩
theorem ct_AddNo (L : List Flt) (hL : L.length = 12) : Ct Tryd.prog G0 20 [.p 0 0, .c .nilIface] [.cells 47 (fltC L)] (vb false) [.cells 47 (fltC L)] := by
  refine callV_ic hm (fn := Tryd.f20) rfl ic20_eq ic20_nm ic20_ok (by simp) ?_
  simp -dsimp [ic20]
  repeat' first
    | simp -dsimp
    | (with_reducible refine (CallD.pure (ct_Of0) (by simp) ?_).callV)
    | (with_reducible refine ordI (by kernel_rfl) ?_)
  exact exitV.cut (by simp) (by simp) (by simp) (by simp) ⟨by simp, by simp⟩
def clearL (L : List Flt) (k : Int) : List Flt := if hasL L k then L.set k.toNat f0 else L
@[simp] theorem clearL_length (L : List Flt) (k : Int) : (clearL L k).length = L.length := by unfold clearL; split <;> simp
theorem ct_Clear (L : List Flt) (hL : L.length = 12) (k : Int) : Ct Tryd.prog G0 27 [.p 0 0, vi k] [.cells 47 (fltC L)] (vb (hasL L k)) [.cells 47 (fltC (clearL L k))] := by
  have has := ct_Has L hL k
  refine callV_ic hm (fn := Tryd.f27) rfl ic27_eq ic27_nm ic27_ok (by simp) ?_
  simp -dsimp [ic27]
  cases h : hasL L k
  · rw [h] at has
    repeat' first
      | simp -dsimp
      | (with_reducible refine (CallD.look (i := 0) has (by simp) rfl (by simp) (by simp) (by simp) ?_).callV)
      | (with_reducible refine ordI (by kernel_rfl) ?_)
    exact exitV.cut (by simp) (by simp) (by simp) (by simp) ⟨by simp, by simp [clearL, h]⟩
  · rw [h] at has
    have c : canP k = true := by simp [hasL] at h; exact h.1
    obtain ⟨j, rfl⟩ : ∃ j : Nat, k = j := ⟨k.toNat, by simp [canP] at c; omega⟩
    have hj : j < 12 := by simp [canP] at c; omega
    have hj' : (j : Int) < 12 := by omega
    have hj2 : j * 2 ≤ 22 := by omega
    have hs := fltC_set (L := L) (k := j) 0 0 (by omega)
    repeat' first
      | simp -dsimp [hj, hj', hj2, hs, hL]
      | (with_reducible refine (CallD.look (i := 0) has (by simp) rfl (by simp) (by simp) (by simp) ?_).callV)
      | (with_reducible refine ordI (by kernel_rfl) ?_)
    exact exitV.cut (by simp) (by simp) (by simp) (by simp) ⟨by simp, by simp [clearL, h]; rfl⟩
end Go.Proofs.YtnoigkdecjeilaaDoor
