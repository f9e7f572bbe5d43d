/- Contracts of functions of the seat's program, and what follows of them: Di. Conditions are in each statement. -/
import Derived.Test.YtofdhldillmbdaaDh
set_option linter.unusedSimpArgs false
set_option linter.unusedVariables false
namespace Go.Proofs.Ytofdhldillmbdaa
open Go Go.Proofs Go.Vm

set_option maxHeartbeats 2000000 in
theorem ct_rTour (x a way : Int) (hx : i64 x) (ha : nearI a) : Ct Try.prog G0 23 [vi x, vi a, vi way] [] (.ro 1 (ints (tourR 17 x a way))) [] := by
  obtain ⟨W, hW⟩ : ∃ W, tourR 17 x a way = W := ⟨_, rfl⟩
  rw [hW]
  refine callV_ic hm (fn := Try.f23) rfl ic23_eq ic23_nm ic23_ok (by simp) ?_
  simp -dsimp [ic23]
  refine Ti.loopW hm (fun k s => ∃ (x' a' way' : Int) (out : List Int), i64 x' ∧ nearI a' ∧ cnt x' < k ∧ out.length + k = 17 ∧ out ++ tourR k x' a' way' = W ∧
    s = { t := [(7, .sl 1 0 0 out.length), (0, vi x'), (1, vi a'), (2, vi way')], d := [], h := [.cells 3 (ints out)] }) (k := 17) ?_ ?_
  · refine Wk.sub [(7, .c (.slice none 0 0)), (0, vi x), (1, vi a), (2, vi way)] (by simp) (Wk.nil 7 1 3 (by simp) (Wk.sub [(7, .sl 1 0 0 0), (0, vi x), (1, vi a), (2, vi way)] (by simp) (Wk.now ⟨x, a, way, [], hx, ha, ?_, rfl, hW, rfl⟩)))
    have := listR_le x 16; unfold cnt; omega
  clear hW
  rintro k s ⟨x', a', way', out, hx', ha', hc, hk, ht, rfl⟩
  obtain ⟨k, rfl⟩ : ∃ q, k = q + 1 := ⟨k - 1, by omega⟩
  have sN := ct_rNext x' a' way' ha'
  obtain ⟨⟨to, th, ok⟩, hn⟩ : ∃ p, nextR x' a' way' = p := ⟨_, rfl⟩
  simp only [tourR] at ht
  rw [hn] at sN ht
  simp -dsimp
  refine (CallD.pure sN (by simp) ?_).callV
  cases ok
  · simp -dsimp
    refine exitV.freeze 0 3 (ints out) false (by simp) (fun _ => ⟨fun _ => rfl, by simp⟩) ?_
    have hz : rows false 1 out.length (ints out) = ints out := rows_ints' _
    simp only [V.frz, if_true, List.drop_zero, hz]
    exact exitV.cut (by simp) (by simp) (by simp) (by simp) ⟨by simp at ht; rw [ht], by simp⟩
  · have hb := nextR_ok hn
    have hr := hasB_range hb
    have sW := ct_rWithout x' to hx' hr
    have y1 : (out.length + 1) * 8 ≤ 140737488355328 := by omega
    have y2 : out.length + 1 ≤ 9223372036854775807 := by omega
    have hby : Try.prog.bytesOf 3 = 8 := by kernel_rfl
    simp -dsimp [y1, y2, hby]
    refine ⟨by decide, ?_⟩
    (with_reducible refine (CallD.pure (sW) (by simp) ?_).callV)
    simp -dsimp
    refine ⟨k, by omega, Wk.one (.cells 3 (ints (out ++ [to]))) 2 [(7, .sl 1 0 0 (out.length + 1)), (0, vi (without x' to)), (1, vi to), (2, vi th)] rfl ?_ rfl (by simp) ?_ (by simp)
      (Wk.now ⟨without x' to, to, th, out ++ [to], without_i64 _ _, ?_, ?_, ?_, ?_, ?_⟩)⟩
    · simp [ints_snoc]
    · simp
    · unfold nearI; omega
    · have := cnt_without hx' hb; omega
    · simp; omega
    · simpa using ht
    · simp

theorem tour_len (x a way : Int) : ∀ n, (tourR n x a way).length ≤ n := by
  intro n
  induction n generalizing x a way with
  | zero => simp [tourR]
  | succ n ih =>
    simp only [tourR]
    split
    · simp; exact ih _ _ _
    · simp
theorem t82 : tourR 17 82 3 (-1) = [1, 4, 6] := by decide +kernel
theorem n82 : nextR 82 3 (-1) = (1, -1, true) := by decide +kernel
theorem ct_law18_awake : Ct Try.prog G0 17 [] [] (vb true) [] := by
  have sN := ct_Next 82 3 (-1) (by decide)
  have sT := ct_Tour 82 3 (-1) (by unfold i64; omega) (by decide)
  rw [n82] at sN
  rw [t82] at sT
  have sI := ct_Ints [1, 4, 6] [1, 4, 6] (by decide)
  have e146 : V.ro 1 [vi 1, vi 4, vi 6] = V.ro 1 (ints [1, 4, 6]) := rfl
  refine callV_ic hm (fn := Try.f17) rfl ic17_eq ic17_nm ic17_ok (by simp) ?_
  simp -dsimp [ic17]
  (with_reducible refine (CallD.pure (sN) (by simp) ?_).callV)
  simp -dsimp
  (with_reducible refine (CallD.pure (sT) (by simp) ?_).callV)
  simp -dsimp
  refine CallV.freeze 0 3 [vi 1, vi 4, vi 6] false (by simp) (by simp) ?_
  simp -dsimp
  rw [e146]
  (with_reducible refine (CallD.pure (sI) (by simp) ?_).callV)
  simp -dsimp
  exact exitV.cut (by simp) (by simp) (by simp) (by simp) ⟨by simp, by simp⟩

set_option maxHeartbeats 2000000 in
theorem law_ChooseTells (x a way : Int) (hx : i64 x) : CallV Try.prog G0 5 [vi x, vi a, vi way] [] fun v _ => v = .c (.bool true) := by
  have sK := ct_Near18 a
  refine callV_ic hm (fn := Try.f5) rfl ic5_eq ic5_nm ic5_ok (by simp) ?_
  simp -dsimp [ic5]
  (with_reducible refine (CallD.pure (ct_law18_awake) (by simp) ?_).callV)
  simp -dsimp
  (with_reducible refine (CallD.pure (sK) (by simp) ?_).callV)
  by_cases ha : nearI a
  · simp -dsimp [ha]
    have sN := ct_Next x a way ha
    have sM := ct_rNext x a way ha
    have sT := ct_Tour x a way hx ha
    have sU := ct_rTour x a way hx ha
    have hle := tour_len x a way 17
    obtain ⟨⟨to, th, ok⟩, hn⟩ : ∃ p, nextR x a way = p := ⟨_, rfl⟩
    obtain ⟨W, hW⟩ : ∃ W, tourR 17 x a way = W := ⟨_, rfl⟩
    rw [hn] at sN sM
    rw [hW] at sT sU hle
    have sI := ct_Ints W W (by unfold top; omega)
    (with_reducible refine (CallD.pure (sN) (by simp) ?_).callV)
    simp -dsimp
    (with_reducible refine (CallD.pure (sM) (by simp) ?_).callV)
    simp -dsimp
    (with_reducible refine (CallD.pure (sT) (by simp) ?_).callV)
    simp -dsimp
    (with_reducible refine (CallD.pure (sU) (by simp) ?_).callV)
    simp -dsimp
    (with_reducible refine (CallD.pure (sI) (by simp) ?_).callV)
    simp -dsimp
    exact exitV.now rfl
  · simp -dsimp [ha]
    (with_reducible refine (CallD.pure (ct_law18_awake) (by simp) ?_).callV)
    simp -dsimp
    exact exitV.now rfl
end Go.Proofs.Ytofdhldillmbdaa
