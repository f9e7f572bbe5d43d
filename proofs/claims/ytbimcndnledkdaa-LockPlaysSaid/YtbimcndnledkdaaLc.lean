/- Contracts of functions of the seat's program, and what follows of them: Lc. Conditions are in each statement. -/
import Derived.Test.YtbimcndnledkdaaLb
import Derived.Test.YtbimcndnledkdaaV5
set_option linter.unusedSimpArgs false
set_option linter.unusedVariables false
namespace Go.Proofs.Ytbimcndnledkdaa
open Go Go.Proofs Go.Vm

@[simp] theorem flat_lock : flat Try.prog 40 32 = some [.b, .b] := by kernel_rfl
@[simp] theorem guard_lock : Try.prog.eqGuardType Try.prog.depth 32 = false := by kernel_rfl
@[simp] theorem flat_locks2 : flat Try.prog 40 33 = some [.b, .b, .b, .b] := by kernel_rfl
@[simp] theorem guard_locks2 : Try.prog.eqGuardType Try.prog.depth 33 = false := by kernel_rfl
theorem fold64 : ([vb false, vb false, vb false, vb false, vb false, vb false, vb false, vb false, vb false, vb false, vb false, vb false, vb false, vb false, vb false, vb false, vb false, vb false, vb false, vb false, vb false, vb false, vb false, vb false, vb false, vb false, vb false, vb false, vb false, vb false, vb false, vb false, vb false, vb false, vb false, vb false, vb false, vb false, vb false, vb false, vb false, vb false, vb false, vb false, vb false, vb false, vb false, vb false, vb false, vb false, vb false, vb false, vb false, vb false, vb false, vb false, vb false, vb false, vb false, vb false, vb false, vb false, vb false, vb false] : List V) = lkL fun _ => false := by kernel_rfl
theorem lkL_row (g : Nat → Bool) {n : Nat} (h : n < 16) : ((lkL g).drop (n * 4)).take 4 = [vb (g (n * 4)), vb (g (n * 4 + 1)), vb (g (n * 4 + 2)), vb (g (n * 4 + 3))] := by
  apply List.ext_getElem
  · simp; omega
  · intro j h1 h2
    have hj : j < 4 := by simpa using h2
    have : j = 0 ∨ j = 1 ∨ j = 2 ∨ j = 3 := by omega
    rcases this with rfl | rfl | rfl | rfl <;> simp
/-- Is one free at a landing? -/
def freeAt (g : Nat → Bool) (n : Nat) : Bool := g (n * 4) || g (n * 4 + 2)
def openAt (g : Nat → Bool) (n : Nat) : Bool := g (n * 4 + 1) || g (n * 4 + 3)
def heldR (g : Nat → Bool) : Option Nat := (List.range 16).find? (freeAt g)
theorem find_none {p : Nat → Bool} {m : Nat} (h : ∀ j, j < m → p j = false) : (List.range m).find? p = none := by
  rw [List.find?_eq_none]; intro j hj; rw [h j (by simpa using hj)]; simp
theorem find_first {p : Nat → Bool} {m n : Nat} (hn : n < m) (h : ∀ j, j < n → p j = false) (hp : p n = true) : (List.range m).find? p = some n := by
  have e : List.range m = List.range n ++ (List.range (m - n)).map (n + ·) := by
    rw [← List.range_add]; congr 1; omega
  rw [e, List.find?_append, find_none h]
  have : m - n = (m - n - 1) + 1 := by omega
  rw [this, List.range_succ_eq_map]
  simp [hp]
def shutR (g : Nat → Bool) : Bool := (List.range 16).all fun n => !openAt g n
theorem all_false {p : Nat → Bool} {m n : Nat} (hn : n < m) (h : p n = false) : (List.range m).all p = false := by
  rw [List.all_eq_false]; exact ⟨n, by simpa using hn, by simp [h]⟩
theorem all_true {p : Nat → Bool} {m : Nat} (h : ∀ j, j < m → p j = true) : (List.range m).all p = true := by
  rw [List.all_eq_true]; intro j hj; exact h j (by simpa using hj)
abbrev heldV (o : Option Nat) : V := .tup [vi ((o.getD 0 : Nat) : Int), vb o.isSome]
set_option maxHeartbeats 4000000 in
set_option maxRecDepth 100000 in
theorem ct_Held (g : Nat → Bool) : Ct Try.prog G0 14 [lkV g] [] (heldV (heldR g)) [] := by
  refine callV_ic hm (fn := Try.f14) rfl ic14_eq ic14_nm ic14_ok (by simp) ?_
  simp -dsimp [ic14]
  refine Ti.scope0 hm ?_
  simp -dsimp
  refine Ti.loopW hm (fun k s => ∃ n : Nat, n + k = 16 ∧ (∀ j, j < n → freeAt g j = false) ∧ s = { t := [(11, vi n), (10, lkV g), (4, vi 0), (5, vb false)], d := [], h := [] }) (k := 16) ?_ ?_
  · exact Wk.sub [(11, vi (0 : Nat)), (10, lkV g), (4, vi 0), (5, vb false)] (by simp) (Wk.cut 0 (by simp) (by simp) (by simp) (by simp) (by simp) (by simp) (Wk.now ⟨0, by omega, by omega, rfl⟩))
  rintro k s ⟨n, hq, hf, rfl⟩
  simp -dsimp
  (with_reducible refine brV.intro (fun h => ?_) (fun h => ?_))
  · have hl : n < 16 := by simp at h; omega
    have hl' : (n : Int) < 16 := by omega
    have w1 := wq hl (by unfold top; omega)
    have w10 : IntKind.wrap .i64 1 = 1 := w64_of (by omega) (by omega)
    have w20 : IntKind.wrap .i64 2 = 2 := w64_of (by omega) (by omega)
    have hrow := lkL_row g hl
    have hb4 : n * 4 + 4 ≤ 64 := by omega
    have fin : freeAt g n = false → ∃ k', k' < k ∧ Wk G0 29 0 { t := [(11, vi (n + 1 : Nat)), (10, lkV g), (4, vi 0), (5, vb false)], d := [], h := [] } (fun s => ∃ n : Nat, n + k' = 16 ∧ (∀ j, j < n → freeAt g j = false) ∧ s = { t := [(11, vi n), (10, lkV g), (4, vi 0), (5, vb false)], d := [], h := [] }) := by
      intro hff
      refine ⟨k - 1, by omega, Wk.now ⟨n + 1, by omega, fun j hj => ?_, rfl⟩⟩
      rcases Nat.lt_or_ge j n with h4 | h4
      · exact hf j h4
      · rw [show j = n by omega]; exact hff
    have done : freeAt g n = true → heldR g = some n := fun h => find_first hl hf h
    unfold freeAt at fin done
    obtain ⟨b0, e0⟩ : ∃ b, b = g (n * 4) := ⟨_, rfl⟩
    obtain ⟨b1, e1⟩ : ∃ b, b = g (n * 4 + 1) := ⟨_, rfl⟩
    obtain ⟨b2, e2⟩ : ∃ b, b = g (n * 4 + 2) := ⟨_, rfl⟩
    obtain ⟨b3, e3⟩ : ∃ b, b = g (n * 4 + 3) := ⟨_, rfl⟩
    rw [← e0, ← e2] at fin done
    rw [← e0, ← e1, ← e2, ← e3] at hrow
    clear e0 e1 e2 e3
    have hb5 : 4 ≤ 64 - n * 4 := by omega
    simp -dsimp [h, hl', hrow, hb5]
    cases b0 <;> cases b1 <;> cases b2 <;> cases b3
    all_goals
      repeat' first
        | simp -dsimp [w10, w20, w1]
        | (with_reducible refine Ti.unroll hm 3 ?_)
    all_goals first
      | (with_reducible refine exitV.cut (by simp) (by simp) (by simp) (by simp) ⟨?_, by simp⟩; rw [done rfl]; simp)
      | (obtain ⟨k', hk', hwk⟩ := fin rfl
         exact ⟨k', hk', Wk.sub _ (by simp) (Wk.cut 0 (by simp) (by simp) (by simp) (by simp) (by simp) (by simp) hwk)⟩)
  · have hl : n = 16 := by simp at h; omega
    subst hl
    simp -dsimp
    exact exitV.cut (by simp) (by simp) (by simp) (by simp) ⟨by rw [heldR, find_none hf]; rfl, by simp⟩
end Go.Proofs.Ytbimcndnledkdaa
