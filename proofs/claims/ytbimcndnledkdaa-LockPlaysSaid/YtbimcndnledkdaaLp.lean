/- Contracts of functions of the seat's program, and what follows of them: Lp. Conditions are in each statement. -/
import Derived.Test.YtbimcndnledkdaaLo
set_option linter.unusedSimpArgs false
set_option linter.unusedVariables false
namespace Go.Proofs.Ytbimcndnledkdaa
open Go Go.Proofs Go.Vm

/-- The document's answer, for the first gates. -/
def outG (g2 : Nat → Bool) (m : Nat) : Nat → Bool := fun k => if k < 2 * m then g2 k else false
theorem outG_succ {g2 : Nat → Bool} {m : Nat} (hm : m < 32) {a b : Bool} (ha : a = g2 (2 * m)) (hb : b = g2 (2 * m + 1)) : lkL (upd1 (upd1 (outG g2 m) (2 * m) a) (2 * m + 1) b) = lkL (outG g2 (m + 1)) := by
  refine lkL_ext fun j hj => ?_
  simp only [upd1, outG]
  by_cases e : j = m
  · subst e
    exact ⟨by rw [if_neg (by omega), if_pos rfl, if_pos (by omega)]; exact ha, by rw [if_pos rfl, if_pos (by omega)]; exact hb⟩
  · have e1 : (2 * j < 2 * m) ↔ (2 * j < 2 * (m + 1)) := by omega
    have e2 : (2 * j + 1 < 2 * m) ↔ (2 * j + 1 < 2 * (m + 1)) := by omega
    exact ⟨by rw [if_neg (by omega), if_neg (by omega)]; simp only [e1], by rw [if_neg (by omega), if_neg (by omega)]; simp only [e2]⟩
theorem outG_all (g2 : Nat → Bool) : lkL (outG g2 32) = lkL g2 := by
  refine lkL_ext fun j hj => ?_
  simp only [outG]
  rw [if_pos (by omega), if_pos (by omega)]; exact ⟨rfl, rfl⟩
theorem upd_twice {g : Nat → Bool} {k : Nat} (a b a' b' : Bool) : lkL (upd1 (upd1 (upd1 (upd1 g k a) (k + 1) b) k a') (k + 1) b') = lkL (upd1 (upd1 g k a') (k + 1) b') := by
  refine lkL_congr (List.map_congr_left fun j _ => ?_)
  simp only [upd1]
  by_cases h1 : j = k + 1
  · simp [h1]
  · by_cases h2 : j = k
    · simp [h2]
    · simp [h1, h2]
theorem fold64' {g2 : Nat → Bool} : lkL (fun _ => false) = lkL (outG g2 0) := by
  refine lkL_congr (List.map_congr_left fun j _ => ?_)
  simp [outG]
set_option maxHeartbeats 8000000 in
set_option maxRecDepth 100000 in
theorem ct_rLocks {c : Cfg} (gd : Good c) (pos : Int) (c0 c1 : Bool) (l : List Hd) (g : Nat → Bool) (hb : c.lv.length < top) (hl : l.length < top) :
    Ct Try.prog G0 13 [lkV g, c.enc, vi pos, .agg [vb c0, vb c1], .ro 3 (hdL l)] [] (lkV (stepL c pos c0 c1 l g)) [] := by
  obtain ⟨g2, hg2⟩ : ∃ g2, g2 = stepL c pos c0 c1 l g := ⟨_, rfl⟩
  refine callV_ic hm (fn := Try.f13) rfl ic13_eq ic13_nm ic13_ok (by simp) ?_
  simp -dsimp [ic13]
  simp -dsimp [fold64]
  refine Ti.loopW hm (fun k s => ∃ (n : Nat), n + k = 16 ∧ s = { t := [(12, vi n), (4, .ro 3 (hdL l)), (2, vi pos), (5, .p 0 0), (6, .p 1 0), (8, .p 2 0), (10, .p 3 0), (11, .p 4 0)], d := [], h := [.cells 34 (lkL g), .cells 26 c.cells, .cells 36 [vb c0, vb c1], .cells 34 (lkL fun _ => false), .cells 34 (lkL (outG g2 (2 * n)))] }) (k := 16) ?_ ?_
  · exact Wk.sub [(12, vi (0 : Nat)), (4, .ro 3 (hdL l)), (2, vi pos), (5, .p 0 0), (6, .p 1 0), (8, .p 2 0), (10, .p 3 0), (11, .p 4 0)] (by simp) (Wk.now ⟨0, by omega, by rw [Nat.mul_zero, ← fold64' (g2 := g2)]⟩)
  rintro k2 s ⟨n, hn2, rfl⟩
  simp -dsimp
  (with_reducible refine brV.intro (fun hn1 => ?_) (fun hn1 => ?_))
  · have hn : n < 16 := by simp at hn1; omega
    have w2 := wq hn (by unfold top; omega)
    simp -dsimp [hn1]
    refine Ti.loopW hm (fun k3 s => ∃ (j : Nat), j + k3 = 2 ∧ s = { t := [(13, vi j), (12, vi n), (4, .ro 3 (hdL l)), (2, vi pos), (5, .p 0 0), (6, .p 1 0), (8, .p 2 0), (10, .p 3 0), (11, .p 4 0)], d := [], h := [.cells 34 (lkL g), .cells 26 c.cells, .cells 36 [vb c0, vb c1], .cells 34 (lkL fun _ => false), .cells 34 (lkL (outG g2 (2 * n + j)))] }) (k := 2) ?_ ?_
    · exact Wk.sub [(13, vi (0 : Nat)), (12, vi n), (4, .ro 3 (hdL l)), (2, vi pos), (5, .p 0 0), (6, .p 1 0), (8, .p 2 0), (10, .p 3 0), (11, .p 4 0)] (by simp) (Wk.now ⟨0, by omega, rfl⟩)
    rintro k3 s ⟨j, hj2, rfl⟩
    simp -dsimp
    (with_reducible refine brV.intro (fun hj1 => ?_) (fun hj1 => ?_))
    · have hj : j < 2 := by simp at hj1; omega
      have w3 := wq hj (by unfold top; omega)
      have hn' : (n : Int) < 16 := by omega
      have hj' : (j : Int) < 2 := by omega
      have hix : n * 4 + j * 2 < 64 := by omega
      have hix1 : n * 4 + j * 2 + 1 < 64 := by omega
      have hix2 : 2 ≤ 64 - (n * 4 + j * 2) := by omega
      have pr := lkL_pair g hix1
      have e1 : (2 * n + j) / 2 = n := by omega
      have e2 : (2 * n + j) % 2 = j := by omega
      have e3 : n * 4 + j * 2 = 2 * (2 * n + j) := by omega
      have st1 := step_free c pos c0 c1 l g (m := 2 * n + j) (by omega)
      have st2 := step_open c pos c0 c1 l g (m := 2 * n + j) (by omega)
      rw [← hg2, ← e3] at st1 st2
      have sT := ct_There gd hn hj
      have sR := ct_Reaches gd pos c0 c1 (n := n) hj hb
      have hrch : rch (rcOf c pos c0 c1) (2 * n + j) = (rcOf c pos c0 c1).at n j := by unfold rch; rw [e1, e2]
      have hth : th c (2 * n + j) = thereB c n j := by unfold th; rw [e1, e2]
      obtain ⟨R, hR⟩ : ∃ R, R = (rcOf c pos c0 c1).at n j := ⟨_, rfl⟩
      rw [hrch, hth, ← hR] at st1
      rw [hrch, hth, ← hR] at st2
      rw [← hR] at sR
      have sS := ct_rStep (g (n * 4 + j * 2)) (g (n * 4 + j * 2 + 1)) R e1 e2 l hl
      have og : ∀ a b, a = g2 (n * 4 + j * 2) → b = g2 (n * 4 + j * 2 + 1) → lkL (upd1 (upd1 (outG g2 (2 * n + j)) (n * 4 + j * 2) a) (n * 4 + j * 2 + 1) b) = lkL (outG g2 (2 * n + (j + 1))) := by
        intro a b ha hb'
        rw [e3] at ha hb' ⊢
        exact outG_succ (by omega) ha hb'
      have fin : ∃ k', k' < k3 ∧ Wk G0 55 0 { t := [(13, vi (j + 1 : Nat)), (12, vi n), (4, .ro 3 (hdL l)), (2, vi pos), (5, .p 0 0), (6, .p 1 0), (8, .p 2 0), (10, .p 3 0), (11, .p 4 0)], d := [], h := [.cells 34 (lkL g), .cells 26 c.cells, .cells 36 [vb c0, vb c1], .cells 34 (lkL fun _ => false), .cells 34 (lkL (outG g2 (2 * n + (j + 1))))] }
          (fun s => ∃ (j : Nat), j + k' = 2 ∧ s = { t := [(13, vi j), (12, vi n), (4, .ro 3 (hdL l)), (2, vi pos), (5, .p 0 0), (6, .p 1 0), (8, .p 2 0), (10, .p 3 0), (11, .p 4 0)], d := [], h := [.cells 34 (lkL g), .cells 26 c.cells, .cells 36 [vb c0, vb c1], .cells 34 (lkL fun _ => false), .cells 34 (lkL (outG g2 (2 * n + j)))] }) :=
        ⟨k3 - 1, by omega, Wk.now ⟨j + 1, by omega, rfl⟩⟩
      obtain ⟨k', hk', hwk⟩ := fin
      clear hR hrch hth
      simp -dsimp [hj1, hn', hj', hix, hix1, hix2, pr]
      refine ⟨by omega, ?_⟩
      (with_reducible refine ordI (by kernel_rfl) ?_)
      refine (CallD.pure sT (by simp) ?_).callV
      cases ht : thereB c n j
      · rw [ht] at st1 st2
        simp only [Bool.false_eq_true, if_false] at st1 st2
        have og' := og _ _ st1.symm st2.symm
        simp -dsimp [w3, og']
        exact ⟨k', hk', Wk.sub _ (by simp) hwk⟩
      · rw [ht] at st1 st2
        simp only [if_true] at st1 st2
        have og' := og _ _ st1.symm st2.symm
        have ut := fun a b a' b' => upd_twice (g := outG g2 (2 * n + j)) (k := n * 4 + j * 2) a b a' b'
        simp -dsimp [hj1, hn', hj', hix, hix1, hix2, pr]
        refine CallD.pure sR (by simp) ?_
        simp -dsimp
        refine CallD.pure sS (by simp) ?_
        simp -dsimp [hn', hj', hix, hix1, w3, ut, og']
        refine ⟨by omega, ?_⟩
        (with_reducible refine ordI (by kernel_rfl) ?_)
        exact ⟨k', hk', Wk.sub _ (by simp) hwk⟩
    · have hj : j = 2 := by simp at hj1; omega
      subst hj
      simp -dsimp [w2]
      exact ⟨k2 - 1, by omega, Wk.sub [(12, vi (n + 1 : Nat)), (4, .ro 3 (hdL l)), (2, vi pos), (5, .p 0 0), (6, .p 1 0), (8, .p 2 0), (10, .p 3 0), (11, .p 4 0)] (by simp) (Wk.now ⟨n + 1, by omega, rfl⟩)⟩
  · have hn : n = 16 := by simp at hn1; omega
    subst hn
    have oa := outG_all g2
    simp -dsimp [oa]
    exact exitV.cut (by simp) (by simp) (by simp) (by simp) ⟨by rw [hg2], by simp⟩

def optI : Option Nat → Int
  | some n => (n : Int)
  | none => -1
abbrev heldI (g : Nat → Bool) : Int := optI (heldR g)
set_option maxHeartbeats 8000000 in
set_option maxRecDepth 100000 in
theorem ct_rHeld (g : Nat → Bool) : Ct Try.prog G0 15 [lkV g] [] (vi (heldI g)) [] := by
  refine callV_ic hm (fn := Try.f15) rfl ic15_eq ic15_nm ic15_ok (by simp) ?_
  simp -dsimp [ic15]
  refine Ti.loopW hm (fun k s => ∃ n : Nat, n + k = 16 ∧ (∀ j, j < n → freeAt g j = false) ∧ s = { t := [(3, vi n), (1, .p 0 0)], d := [], h := [.cells 34 (lkL g)] }) (k := 16) ?_ ?_
  · exact Wk.sub [(3, vi (0 : Nat)), (1, .p 0 0)] (by simp) (Wk.now ⟨0, by omega, by omega, rfl⟩)
  rintro k s ⟨n, hq, hf, rfl⟩
  simp -dsimp
  (with_reducible refine brV.intro (fun h => ?_) (fun h => ?_))
  · have hl : n < 16 := by simp at h; omega
    have hl' : (n : Int) < 16 := by omega
    have w1 := wq hl (by unfold top; omega)
    have e0 := lkL_at g (k := n * 4) (by omega)
    have e2 := lkL_at g (k := n * 4 + 2) (by omega)
    have i0 : n * 4 < 64 := by omega
    have i2 : n * 4 + 2 < 64 := by omega
    have done : freeAt g n = true → heldI g = n := fun h => by
      have : heldR g = some n := find_first hl hf h
      unfold heldI; rw [this]; rfl
    have fin : freeAt g n = false → ∃ k', k' < k ∧ Wk G0 21 0 { t := [(3, vi (n + 1 : Nat)), (1, .p 0 0)], d := [], h := [.cells 34 (lkL g)] } (fun s => ∃ n : Nat, n + k' = 16 ∧ (∀ j, j < n → freeAt g j = false) ∧ s = { t := [(3, vi n), (1, .p 0 0)], d := [], h := [.cells 34 (lkL g)] }) := by
      intro hff
      refine ⟨k - 1, by omega, Wk.now ⟨n + 1, by omega, fun j hj => ?_, rfl⟩⟩
      rcases Nat.lt_or_ge j n with h4 | h4
      · exact hf j h4
      · rw [show j = n by omega]; exact hff
    unfold freeAt at done fin
    clear hf
    cases h0 : g (n * 4)
    · cases h2 : g (n * 4 + 2)
      · rw [h0, h2] at fin
        obtain ⟨k', hk', hwk⟩ := fin rfl
        simp -dsimp [h, hl', e0, e2, i0, i2, h0, h2, w1]
        exact ⟨k', hk', Wk.sub _ (by simp) hwk⟩
      · have hd := done (by rw [h2]; simp)
        rw [hd]
        simp -dsimp [h, hl', e0, e2, i0, i2, h0, h2, w1]
        exact exitV.cut (by simp) (by simp) (by simp) (by simp) ⟨by simp, by simp⟩
    · have hd := done (by rw [h0]; simp)
      rw [hd]
      simp -dsimp [h, hl', e0, e2, i0, i2, h0, w1]
      exact exitV.cut (by simp) (by simp) (by simp) (by simp) ⟨by simp, by simp⟩
  · have hl : n = 16 := by simp at h; omega
    subst hl
    have hd : heldI g = -1 := by
      have : heldR g = none := find_none hf
      unfold heldI; rw [this]; rfl
    rw [hd]
    simp -dsimp
    exact exitV.cut (by simp) (by simp) (by simp) (by simp) ⟨by simp, by simp⟩
set_option maxHeartbeats 8000000 in
set_option maxRecDepth 100000 in
theorem ct_rShut (g : Nat → Bool) : Ct Try.prog G0 18 [lkV g] [] (vb (shutR g)) [] := by
  refine callV_ic hm (fn := Try.f18) rfl ic18_eq ic18_nm ic18_ok (by simp) ?_
  simp -dsimp [ic18]
  refine Ti.loopW hm (fun k s => ∃ n : Nat, n + k = 16 ∧ (∀ j, j < n → openAt g j = false) ∧ s = { t := [(3, vi n), (1, .p 0 0)], d := [], h := [.cells 34 (lkL g)] }) (k := 16) ?_ ?_
  · exact Wk.sub [(3, vi (0 : Nat)), (1, .p 0 0)] (by simp) (Wk.now ⟨0, by omega, by omega, rfl⟩)
  rintro k s ⟨n, hq, hf, rfl⟩
  simp -dsimp
  (with_reducible refine brV.intro (fun h => ?_) (fun h => ?_))
  · have hl : n < 16 := by simp at h; omega
    have hl' : (n : Int) < 16 := by omega
    have w1 := wq hl (by unfold top; omega)
    have e0 := lkL_at g (k := n * 4 + 1) (by omega)
    have e2 := lkL_at g (k := n * 4 + 3) (by omega)
    have i0 : n * 4 + 1 < 64 := by omega
    have i2 : n * 4 + 3 < 64 := by omega
    have i1 : n * 4 < 64 := by omega
    have done : openAt g n = true → shutR g = false := fun h => all_false hl (by rw [h]; rfl)
    have fin : openAt g n = false → ∃ k', k' < k ∧ Wk G0 20 0 { t := [(3, vi (n + 1 : Nat)), (1, .p 0 0)], d := [], h := [.cells 34 (lkL g)] } (fun s => ∃ n : Nat, n + k' = 16 ∧ (∀ j, j < n → openAt g j = false) ∧ s = { t := [(3, vi n), (1, .p 0 0)], d := [], h := [.cells 34 (lkL g)] }) := by
      intro hff
      refine ⟨k - 1, by omega, Wk.now ⟨n + 1, by omega, fun j hj => ?_, rfl⟩⟩
      rcases Nat.lt_or_ge j n with h4 | h4
      · exact hf j h4
      · rw [show j = n by omega]; exact hff
    unfold openAt at done fin
    clear hf
    cases h0 : g (n * 4 + 1)
    · cases h2 : g (n * 4 + 3)
      · rw [h0, h2] at fin
        obtain ⟨k', hk', hwk⟩ := fin rfl
        simp -dsimp [h, hl', e0, e2, i0, i1, i2, h0, h2, w1]
        exact ⟨k', hk', Wk.sub _ (by simp) hwk⟩
      · have hd := done (by rw [h2]; simp)
        rw [hd]
        simp -dsimp [h, hl', e0, e2, i0, i1, i2, h0, h2, w1]
        exact exitV.cut (by simp) (by simp) (by simp) (by simp) ⟨by simp, by simp⟩
    · have hd := done (by rw [h0]; simp)
      rw [hd]
      simp -dsimp [h, hl', e0, e2, i0, i1, i2, h0, w1]
      exact exitV.cut (by simp) (by simp) (by simp) (by simp) ⟨by simp, by simp⟩
  · have hl : n = 16 := by simp at h; omega
    subst hl
    have hd : shutR g = true := all_true fun j hj => by rw [hf j hj]; rfl
    rw [hd]
    simp -dsimp
    exact exitV.cut (by simp) (by simp) (by simp) (by simp) ⟨by simp, by simp⟩
end Go.Proofs.Ytbimcndnledkdaa
