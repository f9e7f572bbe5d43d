/- Contracts of functions of the seat's program, and what follows of them: Da. Conditions are in each statement. -/
import Derived.Test.YtofdhldillmbdaaCm
import Derived.Test.YtofdhldillmbdaaV5
set_option linter.unusedSimpArgs false
set_option linter.unusedVariables false
namespace Go.Proofs.Ytofdhldillmbdaa
open Go Go.Proofs Go.Vm

def nearI (n : Int) : Prop := -2147483648 ≤ n ∧ n ≤ 2147483648
def far (a b : Int) : Int := max (a - b) (b - a)
theorem ct_far (a b : Int) (ha : nearI a) (hb : nearI b) : Ct Try.prog G0 40 [vi a, vi b] [] (vi (far a b)) [] := by
  unfold nearI at ha hb
  have w1 : IntKind.wrap .i64 (a - b) = a - b := w64_of (by omega) (by omega)
  have w2 : IntKind.wrap .i64 (b - a) = b - a := w64_of (by omega) (by omega)
  refine callV_ic hm (fn := Try.f40) rfl ic40_eq ic40_nm ic40_ok (by simp) ?_
  simp -dsimp [ic40]
  simp -dsimp [w1, w2]
  exact exitV.cut (by simp) (by simp) (by simp) (by simp) ⟨rfl, by simp⟩

/-- A step of the search for the nearest. -/
def nearS (at' : Int) (b n : Int) : Int := if far n at' < far b at' then n else b
def nearR (at' : Int) : List Int → Int
  | [] => 0
  | n :: l => l.foldl (nearS at') n
theorem nearR_snoc (at' : Int) {l : List Int} {n : Int} (h : l ≠ []) : nearR at' (l ++ [n]) = nearS at' (nearR at' l) n := by
  cases l with
  | nil => exact absurd rfl h
  | cons a l => simp [nearR, List.foldl_append]
theorem nearR_mem (at' : Int) {l : List Int} (h : l ≠ []) : nearR at' l ∈ l := by
  have : ∀ (l : List Int) (b : Int), l.foldl (nearS at') b = b ∨ l.foldl (nearS at') b ∈ l := by
    intro l
    induction l with
    | nil => intro b; exact .inl rfl
    | cons a l ih =>
      intro b
      simp only [List.foldl_cons]
      rcases ih (nearS at' b a) with h | h
      · rw [h]; unfold nearS; split
        · exact .inr (by simp)
        · exact .inl rfl
      · exact .inr (by simp [h])
  cases l with
  | nil => exact absurd rfl h
  | cons a l =>
    simp only [nearR]
    rcases this l a with h | h
    · rw [h]; simp
    · simp [h]

set_option maxHeartbeats 2000000 in
theorem ct_near (a : Int) (l : List Int) (ha : nearI a) (hl : ∀ n ∈ l, nearI n) (hll : l.length < top) :
    Ct Try.prog G0 34 [vi a, .sl 1 0 0 l.length] [.cells 3 (ints l)] (.tup [vi (nearR a l), vb (decide (l ≠ []))]) [.cells 3 (ints l)] := by
  refine callV_ic hm (fn := Try.f34) rfl ic34_eq ic34_nm ic34_ok (by simp) ?_
  simp -dsimp [ic34]
  refine Ti.loopW hm (fun k s => ∃ q : Nat, q + k = l.length ∧ s = { t := [(11, vi q), (6, vi (nearR a (l.take q))), (0, vi a), (1, .sl 1 0 0 l.length), (9, .sl 1 0 0 l.length), (10, vi l.length)], d := [], h := [.cells 3 (ints l)] }) (k := l.length) ?_ ?_
  · refine Wk.sub [(11, vi (0 : Nat)), (6, vi 0), (0, vi a), (1, .sl 1 0 0 l.length), (9, .sl 1 0 0 l.length), (10, vi l.length)] (by simp) (Wk.now ⟨0, by omega, rfl⟩)
  rintro k s ⟨q, hq, rfl⟩
  simp -dsimp
  (with_reducible refine brV.intro (fun h => ?_) (fun h => ?_))
  · have hlt : q < l.length := by simp at h; omega
    have hw := wq hlt hll
    have hb := ints_at hlt
    have hn := hl _ (at0_mem hlt)
    have hs := take_succ_at hlt
    have hmem : q ≠ 0 → nearI (nearR a (l.take q)) := fun h0 => hl _ (List.mem_of_mem_take (nearR_mem a (by intro he; simp at he; rcases he with he | he; exact h0 he; rw [he] at hlt; simp at hlt)))
    have hs2 : q ≠ 0 → nearR a (l.take (q + 1)) = nearS a (nearR a (l.take q)) (at0 l q) := fun h0 => by
      rw [hs, nearR_snoc a (by intro he; simp at he; rcases he with he | he; exact h0 he; rw [he] at hlt; simp at hlt)]
    have hs3 : q = 0 → nearR a (l.take (q + 1)) = at0 l q := fun h0 => by rw [hs, h0]; rfl
    simp -dsimp [h, hb, hlt]
    by_cases h0 : q = 0
    · have h0' : ((q : Int) = 0) := by omega
      simp -dsimp [h0']
      refine ⟨k - 1, by omega, Wk.sub [(11, vi (q + 1 : Nat)), (6, vi (at0 l q)), (0, vi a), (1, .sl 1 0 0 l.length), (9, .sl 1 0 0 l.length), (10, vi l.length)] ?_ (Wk.now ⟨q + 1, by omega, ?_⟩)⟩
      · subst h0
        simp at hw
        simp [hw]
      · rw [hs3 h0]
    · have h0' : ¬ ((q : Int) = 0) := by omega
      have f1 := ct_far (at0 l q) a hn ha
      have f2 := ct_far (nearR a (l.take q)) a (hmem h0) ha
      have hs4 := hs2 h0
      unfold nearS at hs4
      simp -dsimp [beq_f h0']
      (with_reducible refine (CallD.pure (f1) (by simp) ?_).callV)
      simp -dsimp
      (with_reducible refine (CallD.pure (f2) (by simp) ?_).callV)
      simp -dsimp
      by_cases hc : far (at0 l q) a < far (nearR a (l.take q)) a
      · rw [if_pos hc] at hs4
        simp -dsimp [hc]
        refine ⟨k - 1, by omega, Wk.sub [(11, vi (q + 1 : Nat)), (6, vi (at0 l q)), (0, vi a), (1, .sl 1 0 0 l.length), (9, .sl 1 0 0 l.length), (10, vi l.length)] ?_ (Wk.now ⟨q + 1, by omega, ?_⟩)⟩
        · simp [hw]
        · rw [hs4]
      · rw [if_neg hc] at hs4
        simp -dsimp [hc]
        refine ⟨k - 1, by omega, Wk.sub [(11, vi (q + 1 : Nat)), (6, vi (nearR a (l.take q))), (0, vi a), (1, .sl 1 0 0 l.length), (9, .sl 1 0 0 l.length), (10, vi l.length)] ?_ (Wk.now ⟨q + 1, by omega, ?_⟩)⟩
        · simp [hw]
        · rw [hs4]
  · have hge : q = l.length := by simp at h; omega
    subst hge
    simp -dsimp
    exact exitV.cut (by simp) (by simp) (by simp) (by simp) ⟨by cases l <;> simp, by simp⟩

def heldR (way : Int) : Int := if way = 1 ∨ way = -1 then way else 0
theorem ct_held (way : Int) : Ct Try.prog G0 32 [vi way] [] (vi (heldR way)) [] := by
  refine callV_ic hm (fn := Try.f32) rfl ic32_eq ic32_nm ic32_ok (by simp) ?_
  simp -dsimp [ic32]
  by_cases h1 : way = 1
  · subst h1
    simp -dsimp
    exact exitV.cut (by simp) (by simp) (by simp) (by simp) ⟨rfl, by simp⟩
  · by_cases h2 : way = -1
    · subst h2
      simp -dsimp
      exact exitV.cut (by simp) (by simp) (by simp) (by simp) ⟨rfl, by simp⟩
    · have e : heldR way = 0 := by simp [heldR, h1, h2]
      simp -dsimp [bne_t h1, bne_t h2]
      exact exitV.cut (by simp) (by simp) (by simp) (by simp) ⟨by rw [e], by simp⟩
end Go.Proofs.Ytofdhldillmbdaa
