/- Contracts of functions of the seat's program, and what follows of them: Lf. Conditions are in each statement. -/
import Derived.Test.YtbimcndnledkdaaLe
set_option linter.unusedSimpArgs false
set_option linter.unusedVariables false
namespace Go.Proofs.Ytbimcndnledkdaa
open Go Go.Proofs Go.Vm

/-! ### Plain: gate by gate -/
def th (c : Cfg) (m : Nat) : Bool := thereB c (m / 2 : Nat) (m % 2 : Nat)
def rch (r : Rc) (m : Nat) : Bool := r.at (m / 2) (m % 2)
theorem ph1_at (c : Cfg) (r : Rc) (g : Nat → Bool) (k : Nat) : ∀ q, ph1 c r g q k = if k % 2 = 0 ∧ k / 2 < q ∧ th c (k / 2) = true then g k || rch r (k / 2) else g k
  | 0 => by simp [ph1]
  | q + 1 => by
    have ih := ph1_at c r g k q
    rw [ph1_succ]
    unfold p1
    by_cases ht : thereB c (q / 2 : Nat) (q % 2 : Nat) = true
    · rw [if_pos ht]
      simp only [upd1]
      by_cases hk : k = 2 * q
      · subst hk
        have e1 : 2 * q / 2 = q := by omega
        have e2 : 2 * q % 2 = 0 := by omega
        have ih2 := ph1_at c r g (2 * q) q
        rw [if_neg (by omega)] at ih2
        rw [if_pos rfl, ih2, if_pos ⟨e2, by omega, by rw [e1]; exact ht⟩, e1]
        rfl
      · rw [if_neg hk, ih]
        have e : (k % 2 = 0 ∧ k / 2 < q + 1 ∧ th c (k / 2) = true) ↔ (k % 2 = 0 ∧ k / 2 < q ∧ th c (k / 2) = true) := by
          constructor
          · rintro ⟨h1, h2, h3⟩; exact ⟨h1, by omega, h3⟩
          · rintro ⟨h1, h2, h3⟩; exact ⟨h1, by omega, h3⟩
        simp only [e]
    · rw [if_neg ht, ih]
      by_cases hk : k = 2 * q
      · subst hk
        have e1 : 2 * q / 2 = q := by omega
        rw [if_neg (by omega), if_neg (by rintro ⟨_, _, h3⟩; rw [e1] at h3; exact ht h3)]
      · have e : (k % 2 = 0 ∧ k / 2 < q + 1 ∧ th c (k / 2) = true) ↔ (k % 2 = 0 ∧ k / 2 < q ∧ th c (k / 2) = true) := by
          constructor
          · rintro ⟨h1, h2, h3⟩; exact ⟨h1, by omega, h3⟩
          · rintro ⟨h1, h2, h3⟩; exact ⟨h1, by omega, h3⟩
        simp only [e]
theorem ph3_odd (c : Cfg) (r : Rc) (g : Nat → Bool) {k : Nat} (hk : k % 2 = 1) : ∀ q, ph3 c r g q k = g k
  | 0 => rfl
  | q + 1 => by
    rw [ph3_succ]
    unfold p3
    by_cases ht : thereB c (q / 2 : Nat) (q % 2 : Nat) = true
    · rw [if_pos ht]; simp only [upd1]; rw [if_neg (by omega), ph3_odd c r g hk q]
    · rw [if_neg ht, ph3_odd c r g hk q]
theorem ph3_at (c : Cfg) (r : Rc) (g : Nat → Bool) (m : Nat) : ∀ q, ph3 c r g q (2 * m) = if m < q ∧ th c m = true then g (2 * m) && (g (2 * m + 1) || rch r m) else g (2 * m)
  | 0 => by simp [ph3]
  | q + 1 => by
    have ih := ph3_at c r g m q
    have od := ph3_odd c r g (k := 2 * q + 1) (by omega) q
    rw [ph3_succ]
    unfold p3
    by_cases ht : thereB c (q / 2 : Nat) (q % 2 : Nat) = true
    · rw [if_pos ht]
      simp only [upd1]
      by_cases hk : m = q
      · subst hk
        rw [if_neg (by omega)] at ih
        rw [if_pos rfl, ih, od, if_pos ⟨by omega, ht⟩]
        rfl
      · rw [if_neg (by omega), ih]
        have e : (m < q + 1 ∧ th c m = true) ↔ (m < q ∧ th c m = true) := by
          constructor
          · rintro ⟨h2, h3⟩; exact ⟨by omega, h3⟩
          · rintro ⟨h2, h3⟩; exact ⟨by omega, h3⟩
        simp only [e]
    · rw [if_neg ht, ih]
      by_cases hk : m = q
      · subst hk
        rw [if_neg (by omega), if_neg (by rintro ⟨_, h3⟩; exact ht h3)]
      · have e : (m < q + 1 ∧ th c m = true) ↔ (m < q ∧ th c m = true) := by
          constructor
          · rintro ⟨h2, h3⟩; exact ⟨by omega, h3⟩
          · rintro ⟨h2, h3⟩; exact ⟨by omega, h3⟩
        simp only [e]
/-- Is it that gate's hand? -/
def ofG (m : Nat) (h : Hd) : Bool := decide (h.n = (m / 2 : Nat)) && decide (h.s = (m % 2 : Nat))
/-- What hands do with a gate whose lock is free, or not. -/
def opn (m : Nat) (F : Bool) (o : Bool) (h : Hd) : Bool := if ofG m h = true then (if h.w = 1 then o || F else if h.w = 2 then false else o) else o
theorem there_rng {c : Cfg} {n s : Int} (h : thereB c n s = true) : 0 ≤ n ∧ n < 16 ∧ 0 ≤ s ∧ s < 2 := by
  unfold thereB at h
  simp only [Bool.and_eq_true, decide_eq_true_eq] at h
  omega
theorem p2_even (c : Cfg) (g : Nat → Bool) (h : Hd) (m : Nat) : p2 c g h (2 * m) = g (2 * m) := by
  unfold p2
  by_cases ht : thereB c h.n h.s = true
  · rw [if_pos ht]
    split
    · simp only [upd1]; rw [if_neg (by omega)]
    · split
      · simp only [upd1]; rw [if_neg (by omega)]
      · rfl
  · rw [if_neg ht]
theorem p2_odd (c : Cfg) (g : Nat → Bool) (h : Hd) (m : Nat) : p2 c g h (2 * m + 1) = if th c m = true then opn m (g (2 * m)) (g (2 * m + 1)) h else g (2 * m + 1) := by
  unfold p2 opn
  by_cases ht : thereB c h.n h.s = true
  · rw [if_pos ht]
    have hr := there_rng ht
    by_cases ho : ofG m h = true
    · have ho' := ho
      simp only [ofG, Bool.and_eq_true, decide_eq_true_eq] at ho'
      have ek : (2 * h.n + h.s).toNat = m := by omega
      have et : th c m = true := by unfold th; rw [← ho'.1, ← ho'.2]; exact ht
      rw [ek, if_pos et, if_pos ho]
      split
      · simp [upd1]
      · split
        · simp [upd1]
        · rfl
    · have ek : (2 * h.n + h.s).toNat ≠ m := by
        intro e
        apply ho
        simp only [ofG, Bool.and_eq_true, decide_eq_true_eq]
        omega
      rw [if_neg ho, ite_self]
      split
      · simp only [upd1]; rw [if_neg (by omega)]
      · split
        · simp only [upd1]; rw [if_neg (by omega)]
        · rfl
  · rw [if_neg ht]
    by_cases ho : ofG m h = true
    · have ho' := ho
      simp only [ofG, Bool.and_eq_true, decide_eq_true_eq] at ho'
      have et : ¬ th c m = true := by unfold th; rw [← ho'.1, ← ho'.2]; exact ht
      rw [if_neg et]
    · rw [if_neg ho, ite_self]
theorem ph2_even (c : Cfg) (m : Nat) : ∀ (l : List Hd) (g : Nat → Bool), ph2 c g l (2 * m) = g (2 * m)
  | [], g => rfl
  | h :: l, g => by
    show ph2 c (p2 c g h) l (2 * m) = _
    rw [ph2_even c m l, p2_even]
theorem ph2_odd (c : Cfg) (m : Nat) : ∀ (l : List Hd) (g : Nat → Bool), ph2 c g l (2 * m + 1) = if th c m = true then l.foldl (opn m (g (2 * m))) (g (2 * m + 1)) else g (2 * m + 1)
  | [], g => by simp [ph2]
  | h :: l, g => by
    show ph2 c (p2 c g h) l (2 * m + 1) = _
    rw [ph2_odd c m l, p2_even, p2_odd]
    by_cases ht : th c m = true
    · simp only [ht, if_true, List.foldl_cons]
    · rw [if_neg ht, if_neg ht, if_neg ht]
/-- A gate's next tick. -/
def newF (F R : Bool) : Bool := F || R
def newO (m : Nat) (F R O : Bool) (l : List Hd) : Bool := l.foldl (opn m (newF F R)) O
theorem step_open (c : Cfg) (pos : Int) (c0 c1 : Bool) (l : List Hd) (g : Nat → Bool) {m : Nat} (hm : m < 32) :
    stepL c pos c0 c1 l g (2 * m + 1) = if th c m = true then newO m (g (2 * m)) (rch (rcOf c pos c0 c1) m) (g (2 * m + 1)) l else g (2 * m + 1) := by
  unfold stepL
  have e1 : 2 * m / 2 = m := by omega
  rw [ph3_odd c _ _ (by omega), ph2_odd, ph1_at, ph1_at, e1]
  by_cases ht : th c m = true
  · rw [if_pos ht, if_pos ht, if_pos ⟨by omega, by omega, ht⟩, if_neg (by omega)]
    rfl
  · rw [if_neg ht, if_neg ht, if_neg (by omega)]
theorem step_free (c : Cfg) (pos : Int) (c0 c1 : Bool) (l : List Hd) (g : Nat → Bool) {m : Nat} (hm : m < 32) :
    stepL c pos c0 c1 l g (2 * m) = if th c m = true then newF (g (2 * m)) (rch (rcOf c pos c0 c1) m) && (newO m (g (2 * m)) (rch (rcOf c pos c0 c1) m) (g (2 * m + 1)) l || rch (rcOf c pos c0 c1) m) else g (2 * m) := by
  unfold stepL
  have e1 : 2 * m / 2 = m := by omega
  rw [ph3_at, ph2_even, ph2_odd, ph1_at, ph1_at, e1]
  by_cases ht : th c m = true
  · rw [if_pos ⟨hm, ht⟩, if_pos ⟨by omega, by omega, ht⟩, if_pos ht, if_pos ht, if_neg (by omega)]
    rfl
  · rw [if_neg (fun h => ht h.2), if_neg (fun h => ht h.2.2), if_neg ht]
theorem foldl_opn_false {m : Nat} : ∀ (l : List Hd), l.foldl (opn m false) false = false
  | [] => rfl
  | h :: l => by
    have e : opn m false false h = false := by
      unfold opn; split
      · split
        · rfl
        · split <;> rfl
      · rfl
    rw [List.foldl_cons, e]; exact foldl_opn_false l
/-- What is always so: an open gate's lock is free; where no gate is, nothing is. -/
structure LkI (c : Cfg) (g : Nat → Bool) : Prop where
  op : ∀ m, m < 32 → g (2 * m + 1) = true → g (2 * m) = true
  no : ∀ m, m < 32 → th c m = false → g (2 * m) = false ∧ g (2 * m + 1) = false
theorem LkI.zero (c : Cfg) : LkI c fun _ => false := ⟨fun _ _ h => (by cases h), fun _ _ _ => ⟨rfl, rfl⟩⟩
theorem newO_F {m : Nat} {F R O : Bool} {l : List Hd} (h : O = true → F = true) (hn : newO m F R O l = true) : newF F R = true := by
  cases hF : newF F R with
  | true => rfl
  | false =>
    unfold newO at hn
    rw [hF] at hn
    have hO : O = false := by
      cases O with
      | false => rfl
      | true => have := h rfl; unfold newF at hF; rw [this] at hF; simp at hF
    rw [hO, foldl_opn_false] at hn
    cases hn
theorem LkI.step {c : Cfg} {g : Nat → Bool} (h : LkI c g) (pos : Int) (c0 c1 : Bool) (l : List Hd) : LkI c (stepL c pos c0 c1 l g) := by
  refine ⟨fun m hm ho => ?_, fun m hm ht => ?_⟩
  · rw [step_open c pos c0 c1 l g hm] at ho
    rw [step_free c pos c0 c1 l g hm]
    by_cases ht : th c m = true
    · rw [if_pos ht] at ho ⊢
      rw [ho, newO_F (h.op m hm) ho]; rfl
    · rw [if_neg ht] at ho ⊢
      exact h.op m hm ho
  · rw [step_open c pos c0 c1 l g hm, step_free c pos c0 c1 l g hm, ht]
    simpa using h.no m hm ht
theorem heldR_none {g : Nat → Bool} (h : ∀ m, m < 32 → g (2 * m) = false) : heldR g = none := by
  refine find_none fun j hj => ?_
  have h1 := h (2 * j) (by omega)
  have h2 := h (2 * j + 1) (by omega)
  unfold freeAt
  rw [show j * 4 = 2 * (2 * j) by omega, h1, show 2 * (2 * j) + 2 = 2 * (2 * j + 1) by omega, h2]; rfl
end Go.Proofs.Ytbimcndnledkdaa
