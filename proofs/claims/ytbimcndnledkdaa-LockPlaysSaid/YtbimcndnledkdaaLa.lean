/- Contracts of functions of the seat's program, and what follows of them: La. Conditions are in each statement. -/
import Derived.Test.YtbimcndnledkdaaKg
import Derived.Test.YtbimcndnledkdaaV5
set_option linter.unusedSimpArgs false
set_option linter.unusedVariables false
namespace Go.Proofs.Ytbimcndnledkdaa
open Go Go.Proofs Go.Vm

/-- All locks, cell by cell: free, open; side by side; landing by landing. -/
def lkL (g : Nat → Bool) : List V := (List.range 64).map fun k => vb (g k)
abbrev lkV (g : Nat → Bool) : V := .agg (lkL g)
def upd1 (g : Nat → Bool) (k : Nat) (b : Bool) : Nat → Bool := fun j => if j = k then b else g j
@[simp] theorem lkL_length (g : Nat → Bool) : (lkL g).length = 64 := by simp [lkL]
theorem lkL_at (g : Nat → Bool) {k : Nat} (h : k < 64) : (lkL g)[k]? = some (vb (g k)) := by simp [lkL, h]
@[simp] theorem lkL_get (g : Nat → Bool) (k : Nat) (h : k < (lkL g).length) : (lkL g)[k] = vb (g k) := by simp [lkL]
@[simp] theorem lkL_set (g : Nat → Bool) (k : Nat) (b : Bool) : (lkL g).set k (vb b) = lkL (upd1 g k b) := by
  apply List.ext_getElem
  · simp
  · intro j h1 h2
    simp [List.getElem_set, upd1]
    by_cases e : k = j
    · subst e; simp
    · have e2 : ¬ j = k := fun h => e h.symm
      simp [e, e2]
theorem okL_map_vb (p : Nat → Prop) (g : Nat → Bool) : ∀ l : List Nat, okL p (l.map fun k => vb (g k))
  | [] => trivial
  | _ :: l => ⟨trivial, okL_map_vb p g l⟩
theorem renL_map_vb (ρ : Nat → Nat) (g : Nat → Bool) : ∀ l : List Nat, renL ρ (l.map fun k => vb (g k)) = l.map fun k => vb (g k)
  | [] => rfl
  | _ :: l => by simp only [List.map_cons, renL, renL_map_vb ρ g l, V.ren]
theorem fitsL_map_vb (i n : Nat) (b : Bool) (g : Nat → Bool) : ∀ l : List Nat, fitsL i n b (l.map fun k => vb (g k))
  | [] => trivial
  | _ :: l => ⟨trivial, fitsL_map_vb i n b g l⟩
theorem frzL_map_vb (i : Nat) (cs : List V) (b : Bool) (g : Nat → Bool) : ∀ l : List Nat, frzL i cs b (l.map fun k => vb (g k)) = l.map fun k => vb (g k)
  | [] => rfl
  | _ :: l => by simp only [List.map_cons, frzL, frzL_map_vb i cs b g l, V.frz]
@[simp] theorem okL_lkL (p : Nat → Prop) (g : Nat → Bool) : okL p (lkL g) := okL_map_vb p g _
@[simp] theorem renL_lkL (ρ : Nat → Nat) (g : Nat → Bool) : renL ρ (lkL g) = lkL g := renL_map_vb ρ g _
@[simp] theorem fitsL_lkL (i n : Nat) (b : Bool) (g : Nat → Bool) : fitsL i n b (lkL g) := fitsL_map_vb i n b g _
@[simp] theorem frzL_lkL (i : Nat) (cs : List V) (b : Bool) (g : Nat → Bool) : frzL i cs b (lkL g) = lkL g := frzL_map_vb i cs b g _
@[simp] theorem lkL_take (g : Nat → Bool) : (lkL g).take 64 = lkL g := List.take_of_length_le (by simp)

@[simp] theorem putV_lkL (g h : Nat → Bool) : putV (lkL g) 0 (lkL h) = lkL h := putV_all (by simp)

/-- Is there a gate? -/
def thereB (c : Cfg) (n s : Int) : Bool := decide (0 ≤ n) && decide (n < min (c.lv.length : Int) (min (c.op.length : Int) 16)) && decide (0 ≤ s) && decide (s < 2) && (bits .and .i64 (at0 c.op n.toNat / 2 ^ s.toNat) 1 == 1)
theorem ct_there (c : Cfg) (n s : Int) : Ct Try.prog G0 27 [c.enc, vi n, vi s] [] (vb (thereB c n s)) [] := by
  refine callV_ic hm (fn := Try.f27) rfl ic27_eq ic27_nm ic27_ok (by simp) ?_
  simp -dsimp [ic27]
  by_cases h1 : 0 ≤ n
  · by_cases h2 : n < min (c.lv.length : Int) (min (c.op.length : Int) 16)
    · by_cases h3 : 0 ≤ s
      · by_cases h4 : s < 2
        · have hlt : n.toNat < c.op.length := by omega
          have e1 := ints_at hlt
          have hmin : min s.toNat (IntKind.bits .i64) = s.toNat := by simp only [IntKind.bits]; omega
          simp -dsimp [h1, h2, h3, h4, hlt, e1, hmin]
          exact ⟨by omega, exitV.cut (by simp) (by simp) (by simp) (by simp) ⟨by simp [thereB, h1, h2, h3, h4], by simp⟩⟩
        · simp -dsimp [h1, h2, h3, h4]
          exact exitV.cut (by simp) (by simp) (by simp) (by simp) ⟨by simp [thereB, h4], by simp⟩
      · simp -dsimp [h1, h2, h3]
        exact exitV.cut (by simp) (by simp) (by simp) (by simp) ⟨by simp [thereB, h3], by simp⟩
    · simp -dsimp [h1, h2]
      exact exitV.cut (by simp) (by simp) (by simp) (by simp) ⟨by simp [thereB, h2], by simp⟩
  · simp -dsimp [h1]
    exact exitV.cut (by simp) (by simp) (by simp) (by simp) ⟨by simp [thereB, h1], by simp⟩

theorem ct_gates (c : Cfg) : Ct Try.prog G0 26 [c.enc] [] (.fn (.func 41) [] [.p 0 0]) [.cells 26 c.cells] := by
  refine callV_ic hm (fn := Try.f26) rfl ic26_eq ic26_nm ic26_ok (by simp) ?_
  simp -dsimp [ic26]
  refine exitV.now ?_
  exact ⟨rfl, rfl⟩

theorem ct_gates1 {c : Cfg} {a L : Nat} {h : List Blk} (I : Nat → List Blk → Prop) {K : V → List Blk → Prop}
    (hI : ∀ k h', I k h' → h'[a]? = some (.cells 26 c.cells))
    (hy : ∀ (n s : Nat) h', n < 16 → s < 2 → I (2 * n + s) h' → thereB c n s = true → YieldV Try.prog G0 L [vi n, vi s] h' fun v h' => v = vb true ∧ I (2 * n + s + 1) h')
    (hn : ∀ (n s : Nat) h', n < 16 → s < 2 → I (2 * n + s) h' → thereB c n s = false → I (2 * n + s + 1) h')
    (h0 : I 0 h) (hK : ∀ h', I 32 h' → K (.tup []) h') : CallV Try.prog G0 41 [.yl L, .p a 0] h K := by
  refine callV_ic hm (fn := Try.f41) rfl ic41_eq ic41_nm ic41_ok (by simp) ?_
  simp -dsimp [ic41]
  refine Ti.loopW hm (fun k s => ∃ (n : Nat) (h' : List Blk), n + k = 16 ∧ I (2 * n) h' ∧ s = { t := [(5, vi n), (0, .yl L), (1, .p a 0)], d := [], h := h' }) (k := 16) ?_ ?_
  · exact Wk.sub [(5, vi (0 : Nat)), (0, .yl L), (1, .p a 0)] (by simp) (Wk.now ⟨0, h, by omega, h0, rfl⟩)
  rintro k s ⟨n, h', hq, hIn, rfl⟩
  simp -dsimp
  (with_reducible refine brV.intro (fun h => ?_) (fun h => ?_))
  · have hl : n < 16 := by simp at h; omega
    have hw := wq hl (by unfold top; omega)
    simp -dsimp [h]
    refine Ti.loopW hm (fun k s => ∃ (j : Nat) (h' : List Blk), j + k = 2 ∧ I (2 * n + j) h' ∧ s = { t := [(8, vi j), (3, vi n), (5, vi n), (0, .yl L), (1, .p a 0)], d := [], h := h' }) (k := 2) ?_ ?_
    · exact Wk.sub [(8, vi (0 : Nat)), (3, vi n), (5, vi n), (0, .yl L), (1, .p a 0)] (by simp) (Wk.now ⟨0, h', by omega, hIn, rfl⟩)
    rintro k2 s ⟨j, h2, hj, hIj, rfl⟩
    simp -dsimp
    (with_reducible refine brV.intro (fun hb => ?_) (fun hb => ?_))
    · have hl2 : j < 2 := by simp at hb; omega
      have hw2 := wq hl2 (by unfold top; omega)
      have sT := ct_there c n j
      simp -dsimp [hb, hI _ _ hIj]
      (with_reducible refine (CallD.pure (sT) (by simp) ?_).callV)
      cases ht : thereB c n j
      · simp -dsimp [ht, hw2]
        exact ⟨k2 - 1, by omega, Wk.sub [(8, vi (j + 1 : Nat)), (3, vi n), (5, vi n), (0, .yl L), (1, .p a 0)] (by simp) (Wk.now ⟨j + 1, h2, by omega, hn n j h2 hl hl2 hIj ht, rfl⟩)⟩
      · simp -dsimp [ht]
        refine YieldV.mono (hy n j h2 hl hl2 hIj ht) ?_
        rintro v h3 ⟨rfl, hI3⟩
        simp -dsimp [hw2]
        exact ⟨k2 - 1, by omega, Wk.sub [(8, vi (j + 1 : Nat)), (3, vi n), (5, vi n), (0, .yl L), (1, .p a 0)] (by simp) (Wk.now ⟨j + 1, h3, by omega, hI3, rfl⟩)⟩
    · have hl2 : j = 2 := by simp at hb; omega
      subst hl2
      simp -dsimp [hw]
      exact ⟨k - 1, by omega, Wk.sub [(5, vi (n + 1 : Nat)), (0, .yl L), (1, .p a 0)] (by simp) (Wk.now ⟨n + 1, h2, by omega, hIj, rfl⟩)⟩
  · have hl : n = 16 := by simp at h; omega
    subst hl
    simp -dsimp
    exact exitV.now (hK _ hIn)
end Go.Proofs.Ytbimcndnledkdaa
