/- Contracts of functions of the seat's program, and what follows of them: Fi. Conditions are in each statement. -/
import Derived.Test.YtnoigkdecjeilaaDoorFh
set_option linter.unusedSimpArgs false
set_option linter.unusedVariables false
namespace Go.Proofs.YtnoigkdecjeilaaDoor
open Go Go.Proofs Go.Vm Go.Extern
set_option maxRecDepth 100000

/-- What New makes. -/
def newV (k t : Int) : V := if canP k then (Er.s k (mid t)).v else .c .nilIface
@[simp] theorem newV_ok (k t : Int) (p : Nat → Prop) : (newV k t).ok p := by unfold newV; split <;> simp
@[simp] theorem newV_ren (k t : Int) (ρ : Nat → Nat) : (newV k t).ren ρ = newV k t := by unfold newV; split <;> simp
theorem ct_NewG (k t : Int) : Ct Tryd.prog G0 17 [vi k, vi t] [] (newV k t) [] := by
  unfold newV
  cases c : canP k
  · exact ct_fault_NewNo k t c
  · exact ct_fault_New k t c
def addK (L : List Flt) (k t : Int) : List Flt := if canP k then addL L ⟨k, mid t⟩ else L
@[simp] theorem addK_length (L : List Flt) (k t : Int) : (addK L k t).length = L.length := by unfold addK; split <;> simp
theorem ct_AddG (L : List Flt) (hL : L.length = 12) (k t : Int) : Ct Tryd.prog G0 20 [.p 0 0, newV k t] [.cells 47 (fltC L)] (vb (canP k && !hasL L k)) [.cells 47 (fltC (addK L k t))] := by
  unfold newV addK
  cases c : canP k
  · exact ct_AddNo L hL
  · exact ct_Add L hL (Er.s k (mid t)) c
/-- A latch in which these kinds are kept, all of one tick. -/
def FS (T : Int) (S : Nat → Bool) : List Flt := (List.range 12).map fun i => if 1 ≤ i ∧ S i = true then ⟨i, T⟩ else f0
@[simp] theorem FS_length (T : Int) (S : Nat → Bool) : (FS T S).length = 12 := by simp [FS]
theorem atF_FS (T : Int) (S : Nat → Bool) {k : Nat} (h : k < 12) : atF (FS T S) k = if 1 ≤ k ∧ S k = true then ⟨k, T⟩ else f0 := by
  rw [← atF_get (by simpa using h)]
  simp [FS]
theorem flts_ext {A B : List Flt} (hA : A.length = 12) (hB : B.length = 12) (h : ∀ k, k < 12 → atF A k = atF B k) : A = B :=
  List.ext_getElem (by rw [hA, hB]) fun i h1 h2 => by rw [atF_get h1, atF_get h2]; exact h i (by omega)
theorem FS_step (t : Int) (S : Nat → Bool) (k : Int) : addK (FS (mid t) S) k t = FS (mid t) (fun i => S i || (k == (i : Int))) := by
  unfold addK
  refine flts_ext (by split <;> simp) (by simp) fun i hi => ?_
  rw [atF_FS _ _ hi]
  cases c : canP k
  · have : ¬ (k = (i : Int) ∧ 1 ≤ i) := fun e => by simp [canP, e.1] at c; omega
    simp only [Bool.false_eq_true, if_false]
    rw [atF_FS _ _ hi]
    by_cases h1 : 1 ≤ i
    · have : ¬ k = (i : Int) := fun e => this ⟨e, h1⟩
      simp [h1, this]
    · simp [h1]
  · obtain ⟨j, rfl, j1, j2⟩ := canP_nat c
    simp only [if_true, addL]
    have hh : hasL (FS (mid t) S) j = S j := by
      simp only [hasL, c, Bool.true_and, Int.toNat_natCast, atF_FS _ _ j2, j1, true_and]
      cases S j
      · simp [f0]; omega
      · simp
    rw [hh]
    cases hS : S j
    · simp only [Bool.false_eq_true, if_false, Int.toNat_natCast]
      rw [atF_set (by simpa using hi), atF_FS _ _ hi]
      by_cases e : j = i
      · subst e; simp [j1]
      · have : ¬ (j : Int) = i := by omega
        simp [e, this]
    · simp only [if_true]
      rw [atF_FS _ _ hi]
      by_cases e : j = i
      · subst e; simp [hS]
      · have : ¬ (j : Int) = i := by omega
        simp [this]
theorem FS_zero (T : Int) : FS T (fun _ => false) = Z12 := rfl
theorem okLt_FS (T : Int) (S : Nat → Bool) : okLt (FS T S) := by
  refine ⟨by simp, fun k hk => ?_⟩
  rw [atF_FS _ _ hk]
  split
  · rename_i h; exact .inr ⟨rfl, h.1⟩
  · exact .inl rfl
def setS (l : List Int) (g : Nat → Nat) (q : Nat) (i : Nat) : Bool := (List.range q).any fun r => at0 l (g r) == (i : Int)
theorem setS_succ (l : List Int) (g : Nat → Nat) (q : Nat) : setS l g (q + 1) = fun i => setS l g q i || (at0 l (g q) == (i : Int)) := by
  funext i
  simp [setS, List.range_succ]
theorem setS_turn (l : List Int) (y : Nat) : setS l (fun r => (r + y) % l.length) l.length = setS l (fun r => r) l.length := by
  funext i
  rw [Bool.eq_iff_iff]
  simp only [setS, List.any_eq_true, List.mem_range]
  constructor
  · rintro ⟨r, hr, e⟩
    exact ⟨(r + y) % l.length, Nat.mod_lt _ (by omega), e⟩
  · rintro ⟨r, hr, e⟩
    have hy : y % l.length < l.length := Nat.mod_lt _ (by omega)
    refine ⟨(r + (l.length - y % l.length)) % l.length, Nat.mod_lt _ (by omega), ?_⟩
    have : ((r + (l.length - y % l.length)) % l.length + y) % l.length = r := by
      rw [Nat.mod_add_mod, Nat.add_mod, ← Nat.mod_mod_of_dvd y (Nat.dvd_refl l.length)]
      rw [← Nat.add_mod, Nat.mod_mod]
      rw [show r + (l.length - y % l.length) + y % l.length = r + l.length by omega, Nat.add_mod_right, Nat.mod_eq_of_lt hr]
    rw [this]; exact e
/-- Which kinds are kept, rising. -/
theorem allF_form {L : List Flt} (h : okLt L) : ∃ K : List Nat, allF L = K.map (atF L) ∧ K.Pairwise (· < ·) ∧ (∀ k ∈ K, (atF L k).kind = (k : Int) ∧ 1 ≤ k ∧ k < 12) ∧ K.length ≤ 11 := by
  have e : L = (List.range 12).map (atF L) := List.ext_getElem (by simp [h.1]) fun i h1 h2 => by rw [atF_get h1]; simp
  refine ⟨(List.range 12).filter fun k => (atF L k).kind != 0, ?_, ?_, ?_, ?_⟩
  · unfold allF
    conv => lhs; rw [e]
    rw [List.filter_map]; rfl
  · exact List.Pairwise.filter _ List.pairwise_lt_range
  · intro k hk
    simp only [List.mem_filter, List.mem_range, bne_iff_ne] at hk
    rcases h.2 k hk.1 with e | ⟨e, h1⟩
    · rw [e] at hk; exact absurd rfl hk.2
    · exact ⟨e, h1, hk.1⟩
  · have h0 : ((atF L 0).kind != 0) = false := by
      rcases h.2 0 (by omega) with e | ⟨e, h1⟩
      · rw [e]; rfl
      · omega
    rw [show List.range 12 = 0 :: [1, 2, 3, 4, 5, 6, 7, 8, 9, 10, 11] from rfl, List.filter_cons, h0]
    exact List.length_filter_le _ _
theorem allF_rising {L : List Flt} (h : okLt L) : (∀ i, i < (allF L).length → hasL L (atF (allF L) i).kind = true) ∧ (∀ i, 0 < i → i < (allF L).length → (atF (allF L) (i - 1)).kind < (atF (allF L) i).kind) ∧ (allF L).length ≤ 11 := by
  obtain ⟨K, e, hp, hk, hl⟩ := allF_form h
  have hat : ∀ i (hi : i < K.length), atF (allF L) i = atF L K[i] := fun i hi => by
    rw [← atF_get (by rw [e]; simpa using hi)]
    simp [e]
  refine ⟨fun i hi => ?_, fun i h0 hi => ?_, by rw [e]; simpa using hl⟩
  · have hi' : i < K.length := by rw [e] at hi; simpa using hi
    obtain ⟨k1, k2, k3⟩ := hk _ (List.getElem_mem hi')
    rw [hat i hi', k1]
    simp [hasL, canP, k1]; omega
  · have hi' : i < K.length := by rw [e] at hi; simpa using hi
    rw [hat i hi', hat (i - 1) (by omega), (hk _ (List.getElem_mem hi')).1, (hk _ (List.getElem_mem (show i - 1 < K.length by omega))).1]
    have := (List.pairwise_iff_getElem.1 hp) (i - 1) i (by omega) hi' (by omega)
    omega
end Go.Proofs.YtnoigkdecjeilaaDoor
