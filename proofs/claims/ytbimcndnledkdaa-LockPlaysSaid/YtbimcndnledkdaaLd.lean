/- Contracts of functions of the seat's program, and what follows of them: Ld. Conditions are in each statement. -/
import Derived.Test.YtbimcndnledkdaaLc
set_option linter.unusedSimpArgs false
set_option linter.unusedVariables false
namespace Go.Proofs.Ytbimcndnledkdaa
open Go Go.Proofs Go.Vm

theorem ct_Locked (g : Nat → Bool) : Ct Try.prog G0 16 [lkV g] [] (vb (heldR g).isNone) [] := by
  refine callV_ic hm (fn := Try.f16) rfl ic16_eq ic16_nm ic16_ok (by simp) ?_
  simp -dsimp [ic16]
  (with_reducible refine (CallD.pure (ct_Held g) (by simp) ?_).callV)
  simp -dsimp
  exact exitV.cut (by simp) (by simp) (by simp) (by simp) ⟨rfl, by simp⟩
set_option maxHeartbeats 4000000 in
set_option maxRecDepth 100000 in
theorem ct_Shut (g : Nat → Bool) : Ct Try.prog G0 17 [lkV g] [] (vb (shutR g)) [] := by
  refine callV_ic hm (fn := Try.f17) rfl ic17_eq ic17_nm ic17_ok (by simp) ?_
  simp -dsimp [ic17]
  refine Ti.loopW hm (fun k s => ∃ n : Nat, n + k = 16 ∧ (∀ j, j < n → openAt g j = false) ∧ s = { t := [(8, vi n), (7, lkV g)], d := [], h := [] }) (k := 16) ?_ ?_
  · exact Wk.sub [(8, vi (0 : Nat)), (7, lkV g)] (by simp) (Wk.cut 0 (by simp) (by simp) (by simp) (by simp) (by simp) (by simp) (Wk.now ⟨0, by omega, by omega, rfl⟩))
  rintro k s ⟨n, hq, hf, rfl⟩
  simp -dsimp
  (with_reducible refine brV.intro (fun h => ?_) (fun h => ?_))
  · have hl : n < 16 := by simp at h; omega
    have hl' : (n : Int) < 16 := by omega
    have w1 := wq hl (by unfold top; omega)
    have w10 : IntKind.wrap .i64 1 = 1 := w64_of (by omega) (by omega)
    have w20 : IntKind.wrap .i64 2 = 2 := w64_of (by omega) (by omega)
    have hrow := lkL_row g hl
    have fin : openAt g n = false → ∃ k', k' < k ∧ Wk G0 19 0 { t := [(8, vi (n + 1 : Nat)), (7, lkV g)], d := [], h := [] } (fun s => ∃ n : Nat, n + k' = 16 ∧ (∀ j, j < n → openAt g j = false) ∧ s = { t := [(8, vi n), (7, lkV g)], d := [], h := [] }) := by
      intro hff
      refine ⟨k - 1, by omega, Wk.now ⟨n + 1, by omega, fun j hj => ?_, rfl⟩⟩
      rcases Nat.lt_or_ge j n with h4 | h4
      · exact hf j h4
      · rw [show j = n by omega]; exact hff
    have done : openAt g n = true → shutR g = false := fun h => all_false hl (by rw [h]; rfl)
    unfold openAt at fin done
    obtain ⟨b0, e0⟩ : ∃ b, b = g (n * 4) := ⟨_, rfl⟩
    obtain ⟨b1, e1⟩ : ∃ b, b = g (n * 4 + 1) := ⟨_, rfl⟩
    obtain ⟨b2, e2⟩ : ∃ b, b = g (n * 4 + 2) := ⟨_, rfl⟩
    obtain ⟨b3, e3⟩ : ∃ b, b = g (n * 4 + 3) := ⟨_, rfl⟩
    rw [← e1, ← e3] at fin done
    rw [← e0, ← e1, ← e2, ← e3] at hrow
    clear e0 e1 e2 e3
    have hb5 : 4 ≤ 64 - n * 4 := by omega
    simp -dsimp [h, hl', hrow, hb5]
    cases b1 <;> cases b3
    all_goals
      repeat' first
        | simp -dsimp [w10, w20, w1]
        | (with_reducible refine Ti.unroll hm 3 ?_)
    all_goals first
      | (with_reducible refine exitV.cut (by simp) (by simp) (by simp) (by simp) ⟨?_, by simp⟩; rw [done rfl])
      | (obtain ⟨k', hk', hwk⟩ := fin rfl
         exact ⟨k', hk', Wk.sub _ (by simp) (Wk.cut 0 (by simp) (by simp) (by simp) (by simp) (by simp) (by simp) hwk)⟩)
  · have hl : n = 16 := by simp at h; omega
    subst hl
    simp -dsimp
    exact exitV.cut (by simp) (by simp) (by simp) (by simp) ⟨by
      have : shutR g = true := all_true fun j hj => by rw [hf j hj]; rfl
      rw [this], by simp⟩

/-- Hands, cell by cell. -/
def hdC : List Hd → List V
  | [] => []
  | h :: l => vi h.n :: vi h.s :: vi h.w :: hdC l
theorem hdC_app : ∀ (a : List Hd) (h : Hd), hdC (a ++ [h]) = hdC a ++ [vi h.n, vi h.s, vi h.w]
  | [], h => rfl
  | x :: a, h => by simp [hdC, hdC_app a h]
@[simp] theorem hdC_length : ∀ l : List Hd, (hdC l).length = l.length * 3
  | [] => rfl
  | x :: l => by simp [hdC, hdC_length l]; omega
@[simp] theorem okL_hdC (p : Nat → Prop) : ∀ l : List Hd, okL p (hdC l)
  | [] => trivial
  | _ :: l => ⟨trivial, trivial, trivial, okL_hdC p l⟩
@[simp] theorem renL_hdC (ρ : Nat → Nat) : ∀ l : List Hd, renL ρ (hdC l) = hdC l
  | [] => rfl
  | x :: l => by simp [hdC, renL, renL_hdC ρ l]
@[simp] theorem rows_hdC : ∀ l : List Hd, rows true 3 l.length (hdC l) = hdL l
  | [] => rfl
  | x :: l => by
    have := rows_hdC l
    simp [hdC, rows, hdL] at this ⊢; exact this
set_option maxHeartbeats 4000000 in
theorem ct_hands (l : List Hd) (hl : l.length < 1000) : Ct Try.prog G0 12 [.ro 3 (hdL l)] [] (.ro 3 (hdL l)) [] := by
  refine callV_ic hm (fn := Try.f12) rfl ic12_eq ic12_nm ic12_ok (by simp) ?_
  simp -dsimp [ic12]
  refine Ti.loopW hm (fun k s => ∃ q : Nat, q + k = l.length ∧ s = { t := [(7, vi q), (6, vi l.length), (3, .sl 3 0 0 (l.take q).length), (0, .ro 3 (hdL l))], d := [], h := [.cells 52 (hdC (l.take q))] }) (k := l.length) ?_ ?_
  · exact Wk.sub [(7, vi (0 : Nat)), (6, vi l.length), (3, .c (.slice none 0 0)), (0, .ro 3 (hdL l))] (by simp) (Wk.nil 3 3 52 (by simp) (Wk.sub [(7, vi (0 : Nat)), (6, vi l.length), (3, .sl 3 0 0 0), (0, .ro 3 (hdL l))] (by simp) (Wk.now ⟨0, by omega, rfl⟩)))
  rintro k s ⟨q, hq, rfl⟩
  obtain ⟨a, ha⟩ : ∃ a, a = l.take q := ⟨_, rfl⟩
  rw [← ha]
  simp -dsimp
  (with_reducible refine brV.intro (fun h => ?_) (fun h => ?_))
  · have hlt : q < l.length := by simp at h; omega
    have w1 := wq hlt (by unfold top; omega)
    have hs := take_snoc hlt
    rw [← ha] at hs
    have hal : a.length ≤ 1000 := by rw [ha]; simp; omega
    obtain ⟨x, hx⟩ : ∃ x, x = l[q] := ⟨_, rfl⟩
    have y1 : (a.length + 1) * 24 ≤ 140737488355328 := by omega
    have y2 : a.length + 1 ≤ 9223372036854775807 := by omega
    have hby : Try.prog.bytesOf 52 = 24 := by kernel_rfl
    have hts : tslice Try.prog 41 = true := by kernel_rfl
    simp -dsimp [h, hlt, ← hx, hby, y1, y2, w1]
    refine ⟨by decide, by kernel_rfl, k - 1, by omega, Wk.one (.cells 52 (hdC (a ++ [x]))) 2 [(7, vi (q + 1 : Nat)), (6, vi l.length), (3, .sl 3 0 0 (a.length + 1)), (0, .ro 3 (hdL l))] rfl ?_ rfl (by simp) ?_ (by simp) (Wk.now ⟨q + 1, by omega, ?_⟩)⟩
    · simp only [Blk.ren, renL_hdC]; simp [hdC_app]
    · simp
    · rw [hs, ← hx]; simp
  · have hge : q = l.length := by simp at h; omega
    subst hge
    rw [List.take_length] at ha
    rw [ha]
    simp -dsimp
    refine exitV.freeze 0 52 (hdC l) true (by simp) (fun _ => ⟨fun h => by simp at h, by simp⟩) ?_
    simp only [V.frz, if_true, List.drop_zero, rows_hdC]
    exact exitV.cut (by simp) (by simp) (by simp) (by simp) ⟨rfl, by simp⟩

def fineB (c : Cfg) : Bool := nearC c && (wrongR c).isEmpty
theorem ct_law14_fine (c : Cfg) (hb : c.op.length < top) : Ct Try.prog G0 9 [c.enc] [] (vb (fineB c)) [] := by
  refine callV_ic hm (fn := Try.f9) rfl ic9_eq ic9_nm ic9_ok (by simp) ?_
  simp -dsimp [ic9]
  (with_reducible refine (CallD.pure (ct_ref05_Near c) (by simp) ?_).callV)
  cases h : nearC c
  · simp -dsimp
    exact exitV.cut (by simp) (by simp) (by simp) (by simp) ⟨by simp [fineB, h], by simp⟩
  · simp -dsimp
    (with_reducible refine (CallD.pure (ct_ref05_Wrong c hb) (by simp) ?_).callV)
    simp -dsimp
    exact exitV.cut (by simp) (by simp) (by simp) (by simp) ⟨by simp [fineB, h], by simp⟩
end Go.Proofs.Ytbimcndnledkdaa
