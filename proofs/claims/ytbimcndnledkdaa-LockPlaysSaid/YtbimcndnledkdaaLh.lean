/- Contracts of functions of the seat's program, and what follows of them: Lh. Conditions are in each statement. -/
import Derived.Test.YtbimcndnledkdaaLg
set_option linter.unusedSimpArgs false
set_option linter.unusedVariables false
namespace Go.Proofs.Ytbimcndnledkdaa
open Go Go.Proofs Go.Vm

theorem ct_StepN (c : Cfg) (pos : Int) (c0 c1 : Bool) (g : Nat → Bool) (hb : c.lv.length < top) :
    Ct Try.prog G0 11 [lkV g, c.enc, vi pos, .agg [vb c0, vb c1], .c (.slice none 0 0)] [] (lkV (stepL c pos c0 c1 [] g)) [] :=
  CallV.args (fun _ _ h => cnL_nil (z := 3) [lkV g, c.enc, vi pos, .agg [vb c0, vb c1]] h) (ct_Step c pos c0 c1 [] g hb (by unfold top; simp))
theorem ct_StepS (c : Cfg) (pos : Int) (c0 c1 : Bool) (l : List Hd) (g : Nat → Bool) (hb : c.lv.length < top) (hl : l.length < top) :
    Ct Try.prog G0 11 [lkV g, c.enc, vi pos, .agg [vb c0, vb c1], .sl 3 0 0 l.length] [.cells 52 (hdC l)] (lkV (stepL c pos c0 c1 l g)) ([.gone] ++ []) := by
  refine CallV.freeze 0 52 (hdC l) true (by simp) (by simp) ?_
  simp -dsimp
  exact (CallD.pure (ct_Step c pos c0 c1 l g hb hl) (by simp) ⟨by simp [V.ren], rfl⟩).callV
/-- All hands, one behind the other. -/
def allH (w : Int) (q : Nat) : List Hd := (List.range q).map fun m => ⟨(m / 2 : Nat), (m % 2 : Nat), w⟩
theorem allH_succ (w : Int) (q : Nat) : allH w (q + 1) = allH w q ++ [⟨(q / 2 : Nat), (q % 2 : Nat), w⟩] := by simp [allH, List.range_succ]
@[simp] theorem allH_length (w : Int) (q : Nat) : (allH w q).length = q := by simp [allH]
/-- All ticks ahead. -/
def ticked (c : Cfg) (l : List Tk) (g : Nat → Bool) : Nat → Bool := l.foldl (fun g t => stepL c t.pos t.c0 t.c1 t.hd g) g
theorem step_noO {c : Cfg} {pos : Int} {g : Nat → Bool} {m : Nat} (hm : m < 32) (l : List Hd) : stepL c pos false false l g (2 * m + 1) = if th c m = true then l.foldl (opn m (g (2 * m))) (g (2 * m + 1)) else g (2 * m + 1) := by
  rw [step_open c pos false false l g hm]
  have hr : rch (rcOf c pos false false) m = false := by simp [rch, Rc.at, rcOf]
  rw [hr]; simp [newO, newF]
theorem step_noF {c : Cfg} {pos : Int} {g : Nat → Bool} {m : Nat} (hm : m < 32) (l : List Hd) : stepL c pos false false l g (2 * m) = if th c m = true then g (2 * m) && l.foldl (opn m (g (2 * m))) (g (2 * m + 1)) else g (2 * m) := by
  rw [step_free c pos false false l g hm]
  have hr : rch (rcOf c pos false false) m = false := by simp [rch, Rc.at, rcOf]
  rw [hr]; simp [newO, newF]
/-- A lock is free just where its gate is open. -/
def calm (g : Nat → Bool) : Prop := ∀ m, m < 32 → g (2 * m) = g (2 * m + 1)
theorem calm_step {c : Cfg} {g : Nat → Bool} (h : LkI c g) (pos : Int) : calm (stepL c pos false false [] g) := by
  intro m hm
  rw [step_noF hm, step_noO hm]
  by_cases ht : th c m = true
  · rw [if_pos ht, if_pos ht]
    have := h.op m hm
    cases h1 : g (2 * m) <;> cases h2 : g (2 * m + 1) <;> simp_all
  · simp only [Bool.not_eq_true] at ht
    have := h.no m hm ht
    simp [ht, this]
theorem lkL_ext {g h : Nat → Bool} (e : ∀ m, m < 32 → g (2 * m) = h (2 * m) ∧ g (2 * m + 1) = h (2 * m + 1)) : lkL g = lkL h := by
  refine lkL_congr (List.map_congr_left fun k hk => ?_)
  have hk' : k < 64 := by simpa using hk
  have := e (k / 2) (by omega)
  rcases Nat.mod_two_eq_zero_or_one k with h0 | h0
  · rw [show k = 2 * (k / 2) by omega]; exact this.1
  · rw [show k = 2 * (k / 2) + 1 by omega]; exact this.2
theorem still {c : Cfg} {g : Nat → Bool} (h : LkI c g) (hc : calm g) (pos : Int) : lkL (stepL c pos false false [] g) = lkL g := by
  refine lkL_ext fun m hm => ?_
  rw [step_noF hm, step_noO hm]
  have := hc m hm
  by_cases ht : th c m = true
  · rw [if_pos ht, if_pos ht]
    exact ⟨by rw [List.foldl_nil, this]; simp, rfl⟩
  · rw [if_neg ht, if_neg ht]; exact ⟨rfl, rfl⟩
theorem opn_open {m : Nat} {O : Bool} : ∀ (l : List Hd), (∀ h ∈ l, h.w = 1) → l.foldl (opn m O) O = O
  | [], _ => rfl
  | h :: l, hw => by
    have e : opn m O O h = O := by
      unfold opn
      rw [hw h (by simp)]
      cases O <;> simp
    rw [List.foldl_cons, e]; exact opn_open l fun x hx => hw x (by simp [hx])
theorem still2 {c : Cfg} {g : Nat → Bool} (hc : calm g) (pos : Int) (q : Nat) : lkL (stepL c pos false false (allH 1 q) g) = lkL g := by
  refine lkL_ext fun m hm => ?_
  rw [step_noF hm, step_noO hm]
  have := hc m hm
  have ho : (allH 1 q).foldl (opn m (g (2 * m + 1))) (g (2 * m + 1)) = g (2 * m + 1) := opn_open _ fun h hh => by
    simp only [allH, List.mem_map] at hh
    obtain ⟨_, _, rfl⟩ := hh; rfl
  by_cases ht : th c m = true
  · rw [if_pos ht, if_pos ht, this, ho]
    simp
  · rw [if_neg ht, if_neg ht]; exact ⟨rfl, rfl⟩
theorem eqVs_bools : ∀ (bs : List Bool), eqVs (bs.map fun _ => CK.b) (bs.map fun b => vb b) (bs.map fun b => vb b) = some true
  | [] => rfl
  | b :: bs => by simp [eqVs, eqv, eqVs_bools bs]
end Go.Proofs.Ytbimcndnledkdaa
