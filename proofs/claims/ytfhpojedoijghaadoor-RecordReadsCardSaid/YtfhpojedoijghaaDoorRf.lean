/- Contracts of functions of the seat's program, and what follows of them: Rf. Conditions are in each statement. -/
import Derived.Test.YtfhpojedoijghaaDoorRe
set_option linter.unusedSimpArgs false
set_option linter.unusedVariables false
namespace Go.Proofs.YtfhpojedoijghaaDoor
open Go Go.Proofs Go.Vm

theorem ct_Chunk (xs : List (BitVec 8)) : Ct Tryd.prog G0 16 [.ro 1 (bys xs), vi 6] [] (.fn (.func 25) [] [.p 0 0, .p 1 0]) [.cells 22 [.ro 1 (bys xs)], .cells 3 [vi 6]] := by
  refine callV_ic hm (fn := Tryd.f16) rfl ic16_eq ic16_nm ic16_ok (by simp) ?_
  simp -dsimp [ic16]
  exact exitV.now ⟨rfl, rfl⟩
theorem rho6 : ∀ i, i < 5 → rho [0, 1, 2, 3, 4, 6] 0 i = i := fun i hi => by
  have : i = 0 ∨ i = 1 ∨ i = 2 ∨ i = 3 ∨ i = 4 := by omega
  rcases this with rfl | rfl | rfl | rfl | rfl <;> rfl
theorem rho7 : ∀ i, i < 6 → rho [0, 1, 2, 3, 4, 5, 7] 0 i = i := fun i hi => by
  have : i = 0 ∨ i = 1 ∨ i = 2 ∨ i = 3 ∨ i = 4 ∨ i = 5 := by omega
  rcases this with rfl | rfl | rfl | rfl | rfl | rfl <;> rfl
/-- The heap of a reader, ahead of its parts: what it has so far, what is cut in parts, and by how many. -/
def stR (env : Nat → Option V) (n : Nat) (ps : Array Tmp) (ca cb : Code) (xs : List (BitVec 8)) (l : List Flt) : Nat → List Blk
  | 0 => [.cells 27 [.c (.slice none 0 0)], .cells 22 [.ro 1 (bys xs)], .cells 3 [vi 6], .deferred true, .loop .ready none env n ps ca cb]
  | q + 1 => [.cells 27 [.sl 2 5 0 (q + 1)], .cells 22 [.ro 1 (bys xs)], .cells 3 [vi 6], .deferred true, .loop .ready none env n ps ca cb, .cells 45 (fltC (l.take (q + 1)))]
def stN (env : Nat → Option V) (n : Nat) (ps : Array Tmp) (ca cb : Code) (xs : List (BitVec 8)) (l : List Flt) : Nat → List Blk
  | 0 => stR env n ps ca cb xs l 1
  | q + 1 => [.cells 27 [.sl 2 6 0 (q + 2)], .cells 22 [.ro 1 (bys xs)], .cells 3 [vi 6], .deferred true, .loop .ready none env n ps ca cb, .gone, .cells 45 (fltC (l.take (q + 2)))]
set_option maxRecDepth 100000 in
theorem ct_chunk1 {env : Nat → Option V} {n : Nat} {ps : Array Tmp} {ca cb : Code} {xs : List (BitVec 8)} {l : List Flt} {N : Nat} {K : V → List Blk → Prop} (hx : xs.length = 6 * N) (hN : N ≤ 300) (he : okT (· < 5) env)
    (hy : ∀ q, q < N → YieldV Tryd.prog G0 4 [.ro 1 (bys ((xs.drop (6 * q)).take 6))] (stR env n ps ca cb xs l q) fun v h' => v = vb true ∧ h' = stN env n ps ca cb xs l q)
    (hK : K (.tup []) (stR env n ps ca cb xs l N)) : CallV Tryd.prog G0 25 [.yl 4, .p 1 0, .p 2 0] (stR env n ps ca cb xs l 0) K := by
  have hre : renT (rho [0, 1, 2, 3, 4, 6] 0) env = env := renT_same he fun i hi => by
    have : i = 0 ∨ i = 1 ∨ i = 2 ∨ i = 3 ∨ i = 4 := by omega
    rcases this with rfl | rfl | rfl | rfl | rfl <;> rfl
  refine callV_ic hm (fn := Tryd.f25) rfl ic25_eq ic25_nm ic25_ok (by simp) ?_
  simp -dsimp [ic25]
  refine Ti.loopW hm (fun k s => ∃ q i : Nat, q + k = N ∧ i = 6 * q ∧ s = { t := [(4, vi i), (0, .yl 4), (1, .p 1 0), (2, .p 2 0)], d := [], h := stR env n ps ca cb xs l q }) (k := N) ?_ ?_
  · exact Wk.sub [(4, vi (0 : Nat)), (0, .yl 4), (1, .p 1 0), (2, .p 2 0)] (by simp) (Wk.now ⟨0, 0, by omega, by omega, rfl⟩)
  rintro k s ⟨q, i, hq, hi, rfl⟩
  by_cases hlt : q < N
  · have hyq := hy q hlt
    have hdt : (bys xs).drop i = bys (xs.drop i) := bys_drop xs i
    have htt : (bys (xs.drop i)).take 6 = bys ((xs.drop i).take 6) := bys_take _ 6
    rw [← hi] at hyq
    have h1 : i < xs.length := by omega
    have h2 : (i : Int) ≤ xs.length := by omega
    have h3 : min 6 ((xs.length - i : Nat) : Int) = 6 := by omega
    have h4 : IntKind.wrap .i64 ((i : Int) + 6) = ((i + 6 : Nat) : Int) := by rw [w64_of (by omega) (by omega)]; omega
    have h5 : (i : Int) + 6 ≤ xs.length := by omega
    have h6 : (i + 6 - i) = 6 := by omega
    have h7 : ((i : Int) + 6).toNat = i + 6 := by omega
    have h8 : IntKind.wrap .i64 ((i : Int) + 6) = (i : Int) + 6 := w64_of (by omega) (by omega)
    have h2' : i ≤ xs.length := by omega
    have h9 : (i : Int) ≤ (i : Int) + 6 := by omega
    rcases q with _ | q
    · simp -dsimp [stR]
      simp -dsimp [h1]
      repeat' first
        | simp -dsimp [h1, h2, h2', h3, h8, h5, h6, h7, h9, hdt, htt]
        | (with_reducible refine ordI (by kernel_rfl) ?_)
      refine YieldV.mono hyq ?_
      rintro v h' ⟨rfl, rfl⟩
      simp -dsimp [stN, stR, h8]
      exact ⟨k - 1, by omega, Wk.sub [(4, vi (i + 6 : Nat)), (0, .yl 4), (1, .p 1 0), (2, .p 2 0)] (by simp) (Wk.now ⟨1, i + 6, by omega, by omega, rfl⟩)⟩
    · simp -dsimp [stR]
      simp -dsimp [h1]
      repeat' first
        | simp -dsimp [h1, h2, h2', h3, h8, h5, h6, h7, h9, hdt, htt]
        | (with_reducible refine ordI (by kernel_rfl) ?_)
      refine YieldV.mono hyq ?_
      rintro v h' ⟨rfl, rfl⟩
      simp -dsimp [stN, stR, h8]
      refine ⟨k - 1, by omega, Wk.drop (stR env n ps ca cb xs l (q + 2)) (rho [0, 1, 2, 3, 4, 6] 0) [(4, vi (i + 6 : Nat)), (0, .yl 4), (1, .p 1 0), (2, .p 2 0)] [] ?_ rfl (by simp) (by simp [stR]) ?_ ?_ ?_ (by simp [stR]) ?_ (by simp [stR]) (Wk.now ⟨q + 2, i + 6, by omega, by omega, rfl⟩)⟩
      · exact subR_get (by simp [rho])
      · intro a ha
        have ha : a < 5 := ha
        have : a = 0 ∨ a = 1 ∨ a = 2 ∨ a = 3 ∨ a = 4 := by omega
        rcases this with rfl | rfl | rfl | rfl | rfl <;> rfl
      · intro a b ha hb e
        have ha : a < 6 := ha
        have hb : b < 6 := hb
        have h6 : ∀ x, x < 6 → rho [0, 1, 2, 3, 4, 6] 0 x = if x = 5 then 6 else x := by
          intro x hx
          have : x = 0 ∨ x = 1 ∨ x = 2 ∨ x = 3 ∨ x = 4 ∨ x = 5 := by omega
          rcases this with rfl | rfl | rfl | rfl | rfl | rfl <;> rfl
        rw [h6 a ha, h6 b hb] at e
        split at e <;> split at e <;> omega
      · intro a b hb
        have ha : a < 6 := (List.getElem?_eq_some_iff.1 hb).1
        have : a = 0 ∨ a = 1 ∨ a = 2 ∨ a = 3 ∨ a = 4 ∨ a = 5 := by omega
        rcases this with rfl | rfl | rfl | rfl | rfl | rfl <;> (simp [stR] at hb; subst hb; simp [rho, hre])
        all_goals first | exact hre.symm | skip
      · intro b hb
        simp only [stR, List.mem_cons, List.not_mem_nil, or_false] at hb
        rcases hb with rfl | rfl | rfl | rfl | rfl | rfl <;> simp [stR]
        exact okT_mono he fun i hi => by omega
  · have hqN : q = N := by omega
    subst hqN
    have h1 : ¬ i < xs.length := by omega
    rcases q with _ | q
    · simp -dsimp [stR]
      simp -dsimp [h1]
      exact exitV.now hK
    · simp -dsimp [stR]
      simp -dsimp [h1]
      exact exitV.now hK
end Go.Proofs.YtfhpojedoijghaaDoor
