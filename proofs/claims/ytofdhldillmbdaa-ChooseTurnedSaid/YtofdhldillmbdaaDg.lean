/- Contracts of functions of the seat's program, and what follows of them: Dg. Conditions are in each statement. -/
import Derived.Test.YtofdhldillmbdaaDf
set_option linter.unusedSimpArgs false
set_option linter.unusedVariables false
namespace Go.Proofs.Ytofdhldillmbdaa
open Go Go.Proofs Go.Vm

def neB (n a : Int) : Bool := decide (a ≠ n)
set_option maxHeartbeats 2000000 in
theorem ct_rWithout (x n : Int) (hx : i64 x) (hn : 0 ≤ n ∧ n < 16) : Ct Try.prog G0 37 [vi x, vi n] [] (vi (without x n)) [] := by
  refine callV_ic hm (fn := Try.f37) rfl ic37_eq ic37_nm ic37_ok (by simp) ?_
  simp -dsimp [ic37]
  have sL := ct_rList x
  have hle := listR_le x 16
  have hb : ∀ n ∈ listR x 16, 0 ≤ n ∧ n < 16 := fun n hn => listR_near (by omega) hn
  have hw : bitsR ((listR x 16).filter (neB n)) = without x n := rWithout_eq hx hn
  obtain ⟨l, hl⟩ : ∃ l, l = listR x 16 := ⟨_, rfl⟩
  rw [← hl] at sL hle hb hw
  (with_reducible refine (CallD.pure (sL) (by simp) ?_).callV)
  simp -dsimp
  refine Ti.loopW hm (fun k s => ∃ q : Nat, q + k = l.length ∧ s = { t := [(12, vi q), (11, vi l.length), (5, .sl 1 0 0 ((l.take q).filter (neB n)).length), (6, .ro 1 (ints l)), (1, vi n)], d := [], h := [.cells 3 (ints ((l.take q).filter (neB n)))] }) (k := l.length) ?_ ?_
  · exact Wk.sub [(12, vi (0 : Nat)), (11, vi l.length), (5, .c (.slice none 0 0)), (6, .ro 1 (ints l)), (1, vi n)] (by simp) (Wk.nil 5 1 3 (by simp) (Wk.sub [(12, vi (0 : Nat)), (11, vi l.length), (5, .sl 1 0 0 0), (6, .ro 1 (ints l)), (1, vi n)] (by simp) (Wk.now ⟨0, by omega, rfl⟩)))
  rintro k s ⟨q, hq, rfl⟩
  simp -dsimp
  (with_reducible refine brV.intro (fun h => ?_) (fun h => ?_))
  · have hlt : q < l.length := by simp at h; omega
    have w1 := wq hlt (by unfold top; omega)
    have hbq := ints_at hlt
    have hs := filter_snoc hlt (neB n)
    have hlen : ((l.take q).filter (neB n)).length ≤ 16 := Nat.le_trans (List.length_filter_le ..) (by simp; omega)
    obtain ⟨f, hf⟩ : ∃ f, f = (l.take q).filter (neB n) := ⟨_, rfl⟩
    rw [← hf] at hlen hs ⊢
    have y1 : (f.length + 1) * 8 ≤ 140737488355328 := by omega
    have y2 : f.length + 1 ≤ 9223372036854775807 := by omega
    have hby : Try.prog.bytesOf 3 = 8 := by kernel_rfl
    simp -dsimp [h, hbq, hlt]
    by_cases hc : at0 l q = n
    · rw [if_neg (by simp [neB, hc])] at hs
      simp -dsimp [bne_f hc, w1]
      refine ⟨k - 1, by omega, Wk.sub [(12, vi (q + 1 : Nat)), (11, vi l.length), (5, .sl 1 0 0 f.length), (6, .ro 1 (ints l)), (1, vi n)] (by simp) (Wk.now ⟨q + 1, by omega, by rw [hs]⟩)⟩
    · rw [if_pos (by simp [neB, hc])] at hs
      simp -dsimp [bne_t hc, y1, y2, hby, w1, hbq, hlt]
      refine ⟨by decide, k - 1, by omega, Wk.one (.cells 3 (ints (f ++ [at0 l q]))) 2 [(12, vi (q + 1 : Nat)), (11, vi l.length), (5, .sl 1 0 0 (f.length + 1)), (6, .ro 1 (ints l)), (1, vi n)] rfl ?_ rfl (by simp) ?_ (by simp) (Wk.now ⟨q + 1, by omega, ?_⟩)⟩
      · simp [ints_snoc]
      · simp
      · rw [hs]; simp
  · have hge : q = l.length := by simp at h; omega
    subst hge
    rw [List.take_length]
    have hb2 : ∀ m ∈ l.filter (neB n), 0 ≤ m ∧ m < 16 := fun m hm => hb m (List.mem_filter.1 hm).1
    have hlen : (l.filter (neB n)).length ≤ 16 := Nat.le_trans (List.length_filter_le ..) hle
    have sB := ct_rBits _ hb2 hlen
    rw [hw] at sB
    obtain ⟨f, hf⟩ : ∃ f, f = l.filter (neB n) := ⟨_, rfl⟩
    rw [← hf] at sB ⊢
    have hz : rows false 1 f.length (ints f) = ints f := rows_ints' _
    simp -dsimp
    refine CallV.freeze 0 3 (ints f) false (by simp) (by simp) ?_
    simp -dsimp [hz]
    (with_reducible refine (CallD.pure (sB) (by simp) ?_).callV)
    simp -dsimp
    exact exitV.cut (by simp) (by simp) (by simp) (by simp) ⟨rfl, by simp⟩
end Go.Proofs.Ytofdhldillmbdaa
