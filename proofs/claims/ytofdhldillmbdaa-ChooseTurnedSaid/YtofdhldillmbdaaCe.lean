/- Contracts of functions of the seat's program, and what follows of them: Ce. Conditions are in each statement. -/
import Derived.Test.YtofdhldillmbdaaCd
set_option linter.unusedSimpArgs false
set_option linter.unusedVariables false
namespace Go.Proofs.Ytofdhldillmbdaa
open Go Go.Proofs Go.Vm

/-- The landings that are called, among the first ones. -/
def listR (x : Int) (q : Nat) : List Int := ((List.range q).filter fun k : Nat => hasB x k).map fun k : Nat => (k : Int)
theorem listR_succ (x : Int) (q : Nat) : listR x (q + 1) = if hasB x q = true then listR x q ++ [(q : Int)] else listR x q := by
  simp only [listR, List.range_succ, List.filter_append, List.map_append]
  by_cases h : hasB x q = true
  · simp [h]
  · simp [h]
theorem listR_le (x : Int) (q : Nat) : (listR x q).length ≤ q := by
  simp only [listR, List.length_map]
  exact Nat.le_trans (List.length_filter_le ..) (by simp)

set_option maxRecDepth 100000 in
theorem ct_AppendSeq (x : Int) : CallV Try.prog G0 38 [.c (.slice none 0 0), .fn (.func 39) [] [.p 0 0]] [.cells 23 [vi x]] fun v h' =>
    (listR x 16 = [] ∧ v = .c (.slice none 0 0) ∨ listR x 16 ≠ [] ∧ v = .ro 1 (ints (listR x 16))) ∧ h' = [.cells 23 [vi x]] := by
  refine callV_ic hm (fn := Try.f38) rfl ic38_eq ic38_nm ic38_ok (by simp) ?_
  simp -dsimp [ic38]
  refine Ti.rangeE [(2, .p 1 0)] rfl (by simp) ?_
  intro ca cb env ha hcb ka kb he
  simp -dsimp
  refine ct_each1 (x := x) (fun q h' => ∃ hx y, h' = [.cells 23 [vi x], .cells 24 [y], .deferred true, .loop .ready none env 13 #[7] ca cb] ++ hx ∧
    ((listR x q = [] ∧ y = .c (.slice none 0 0)) ∨ (listR x q ≠ [] ∧ ∃ j, y = .sl 1 (j + 4) 0 (listR x q).length ∧ hx[j]? = some (.cells 3 (ints (listR x q)))))) (fun _ => False) ?_ ?_ ?_ ?_ ?_
  · rintro k h' ⟨hx, y, rfl, _⟩
    simp
  · rintro k h' ⟨hx, y, rfl, hc⟩ hk hh
    have hs := listR_succ x k
    rw [if_pos hh] at hs
    refine YieldV.ofIC hm ha hcb ka kb rfl rfl [(2, .p 1 0)] he (by simp) ?_
    have hle := listR_le x k
    have y1 : ((listR x k).length + 1) * 8 ≤ 140737488355328 := by omega
    have y2 : (listR x k).length + 1 ≤ 9223372036854775807 := by omega
    rcases hc with ⟨h0, rfl⟩ | ⟨h0, j, rfl, hj⟩
    · simp -dsimp
      refine ⟨_, _, _, _, _, _, ⟨rfl, rfl, rfl, rfl, rfl, rfl⟩, by kernel_rfl, by decide +kernel, _, _, _, _, _, _, _, ⟨rfl, rfl, rfl, rfl, rfl, rfl, rfl⟩, exitV.now (.inl ⟨rfl, _, _, rfl, .inr ⟨?_, ?_⟩⟩)⟩
      · rw [hs]; simp
      · refine ⟨hx.length + 1, ?_, ?_⟩
        · rw [hs, h0]; rfl
        · rw [hs, h0]; simp [ints]
    · have hjl := (List.getElem?_eq_some_iff.1 hj).1
      have hj2 : (hx ++ [Blk.cells 3 [vi k]])[j]? = some (.cells 3 (ints (listR x k))) := by rw [List.getElem?_append_left hjl]; exact hj
      simp -dsimp [hj, hj2, y1, y2]
      have hby : Try.prog.bytesOf 3 = 8 := by kernel_rfl
      refine ⟨_, _, _, _, _, _, ⟨rfl, rfl, rfl, rfl, rfl, rfl⟩, by kernel_rfl, by rw [hby]; exact y1, _, _, _, _, _, _, _, ⟨rfl, rfl, rfl, rfl, rfl, rfl, rfl⟩, exitV.now (.inl ⟨rfl, (hx ++ [Blk.cells 3 [vi k]]).set j .gone ++ [.cells 3 (ints (listR x k) ++ [vi k])], _, rfl, .inr ⟨?_, ?_⟩⟩)⟩
      · rw [hs]; simp
      · refine ⟨hx.length + 1, ?_, ?_⟩
        · rw [hs]; simp
        · rw [hs]; simp [ints]
  · rintro k h' ⟨hx, y, rfl, hc⟩ hk hh
    have hs := listR_succ x k
    rw [if_neg (by simp [hh])] at hs
    rw [hs]
    exact ⟨hx, y, rfl, hc⟩
  · exact ⟨[], _, rfl, .inl ⟨rfl, rfl⟩⟩
  · rintro h' (⟨hx, y, rfl, hc⟩ | h')
    · simp -dsimp [jumpQ]
      refine ⟨_, _, _, _, _, _, _, ⟨rfl, rfl, rfl, rfl, rfl, rfl, rfl⟩, by simp, ?_⟩
      simp -dsimp [jumpQ]
      rcases hc with ⟨h0, rfl⟩ | ⟨h0, j, rfl, hj⟩
      · exact exitV.cut (by simp) (by simp) (by simp) (by simp) ⟨.inl ⟨h0, rfl⟩, by simp⟩
      · refine exitV.freeze (j + 4) 3 (ints (listR x 16)) false (by simpa using hj) (fun _ => ⟨fun _ => rfl, by simp⟩) ?_
        have hz : rows false 1 (listR x 16).length (ints (listR x 16)) = ints (listR x 16) := rows_ints' _
        simp only [V.frz, if_true, List.drop_zero, hz]
        exact exitV.cut (by simp) (by simp) (by simp) (by simp) ⟨.inr ⟨h0, rfl⟩, by simp⟩
    · exact h'.elim

/-- The list that is told. -/
def listV (x : Int) : V := if listR x 16 = [] then .c (.slice none 0 0) else .ro 1 (ints (listR x 16))
theorem ct_Collect (x : Int) : CallV Try.prog G0 28 [.fn (.func 39) [] [.p 0 0]] [.cells 23 [vi x]] fun v h' => v = listV x ∧ h' = [.cells 23 [vi x]] := by
  refine callV_ic hm (fn := Try.f28) rfl ic28_eq ic28_nm ic28_ok (by simp) ?_
  simp -dsimp [ic28]
  refine CallV.mono (ct_AppendSeq x) ?_
  rintro v h' ⟨hv, rfl⟩
  simp -dsimp
  refine exitV.now ⟨?_, rfl⟩
  unfold listV
  rcases hv with ⟨h0, rfl⟩ | ⟨h0, rfl⟩
  · rw [if_pos h0]
  · rw [if_neg h0]
theorem listV_ok (x : Int) (p : Nat → Prop) : (listV x).ok p := by
  unfold listV; split <;> simp
theorem ct_List (x : Int) : Ct Try.prog G0 12 [vi x] [] (listV x) [] := by
  refine callV_ic hm (fn := Try.f12) rfl ic12_eq ic12_nm ic12_ok (by simp) ?_
  simp -dsimp [ic12]
  refine (CallD.fresh (ct_each _) (by simp) ?_).callV
  simp -dsimp
  refine CallV.mono (ct_Collect x) ?_
  rintro v h' ⟨rfl, rfl⟩
  simp -dsimp
  exact exitV.cut (by simp) (by simp) (by simp) (listV_ok _ _) ⟨rfl, by simp⟩

end Go.Proofs.Ytofdhldillmbdaa
