/- Contracts of functions of the seat's program, and what follows of them: Rj. Conditions are in each statement. -/
import Derived.Test.YtfhpojedoijghaaRi
set_option linter.unusedSimpArgs false
set_option linter.unusedVariables false
namespace Go.Proofs.Ytfhpojedoijghaa
open Go Go.Proofs Go.Vm

theorem xor64 (a b : BitVec 16) : bits .xor .i64 (n16 a) (n16 b) = n16 (a ^^^ b) := by
  have ha := a.isLt; have hb := b.isLt
  have e : ∀ x : BitVec 16, BitVec.ofInt 64 (n16 x) = BitVec.ofNat 64 x.toNat := fun x => by unfold n16; rw [BitVec.ofInt_natCast]
  show IntKind.wrap .i64 ((BitVec.ofInt 64 (n16 a) ^^^ BitVec.ofInt 64 (n16 b)).toNat : Int) = _
  have hx : a.toNat ^^^ b.toNat < 2 ^ 16 := Nat.xor_lt_two_pow ha hb
  rw [e, e, BitVec.toNat_xor, BitVec.toNat_ofNat, BitVec.toNat_ofNat, Nat.mod_eq_of_lt (by omega), Nat.mod_eq_of_lt (by omega), w64_of (by omega) (by omega)]
  unfold n16
  rw [BitVec.toNat_xor]
def xor3 (a b c : List (BitVec 8)) : List (BitVec 8) := List.zipWith (fun x y => x ^^^ y) (List.zipWith (fun x y => x ^^^ y) a b) c
theorem xor3_succ {a b c : List (BitVec 8)} {q : Nat} (h1 : q < a.length) (h2 : q < b.length) (h3 : q < c.length) : (xor3 a b c).take (q + 1) = (xor3 a b c).take q ++ [byAt a q ^^^ byAt b q ^^^ byAt c q] := by
  rw [List.take_add_one]
  congr 1
  simp only [xor3, List.getElem?_zipWith, List.getElem?_eq_getElem h1, List.getElem?_eq_getElem h2, List.getElem?_eq_getElem h3, byAt_get]
  rfl
theorem xor3_length {a b c : List (BitVec 8)} (h2 : a.length ≤ b.length) (h3 : a.length ≤ c.length) : (xor3 a b c).length = a.length := by simp [xor3]; omega
set_option maxRecDepth 100000 in
set_option maxHeartbeats 8000000 in
theorem law_RecordSums (a b c : List (BitVec 8)) (ha : a.length < top) (hb : b.length < top) (hc : c.length < top) :
    CallV Try.prog G0 5 [.ro 1 (bys a), .ro 1 (bys b), .ro 1 (bys c)] [] fun v _ => v = .c (.bool true) := by
  refine callV_ic hm (fn := Try.f5) rfl ic5_eq ic5_nm ic5_ok (by simp) ?_
  by_cases z1 : 300 < (a.length : Int)
  · repeat' first
      | simp -dsimp [ic5, z1]
      | (with_reducible refine (CallD.pure (ct_law03_awake) (by simp) ?_).callV)
      | exact exitV.now rfl
  by_cases z2 : (b.length : Int) < a.length
  · repeat' first
      | simp -dsimp [ic5, z1, z2]
      | (with_reducible refine (CallD.pure (ct_law03_awake) (by simp) ?_).callV)
      | exact exitV.now rfl
  by_cases z3 : (c.length : Int) < a.length
  · repeat' first
      | simp -dsimp [ic5, z1, z2, z3]
      | (with_reducible refine (CallD.pure (ct_law03_awake) (by simp) ?_).callV)
      | exact exitV.now rfl
  have z1' : ¬ 300 < a.length := by omega
  have z2' : ¬ b.length < a.length := by omega
  have z3' : ¬ c.length < a.length := by omega
  have xl := xor3_length (a := a) (b := b) (c := c) (by omega) (by omega)
  repeat' first
    | simp -dsimp [ic5, z1, z2, z3, z1', z2', z3']
    | (with_reducible refine (CallD.pure (ct_law03_awake) (by simp) ?_).callV)
  refine Ti.loopW hm (fun k s => ∃ (q : Nat) (x : List (BitVec 8)), q + k = a.length ∧ x = (xor3 a b c).take q ∧ s = { t := [(37, vi q), (36, vi a.length), (8, .sl 1 0 0 x.length), (7, vi a.length), (0, .ro 1 (bys a)), (1, .ro 1 (bys b)), (2, .ro 1 (bys c))], d := [], h := [.cells 5 (bys x)] }) (k := a.length) ?_ ?_
  · refine Wk.sub [(37, vi (0 : Nat)), (36, vi a.length), (8, .c (.slice none 0 0)), (7, vi a.length), (0, .ro 1 (bys a)), (1, .ro 1 (bys b)), (2, .ro 1 (bys c))] (by simp) ?_
    exact Wk.nil 8 1 5 (by simp) (Wk.sub [(37, vi (0 : Nat)), (36, vi a.length), (8, .sl 1 0 0 0), (7, vi a.length), (0, .ro 1 (bys a)), (1, .ro 1 (bys b)), (2, .ro 1 (bys c))] (by simp) (Wk.now ⟨0, [], by omega, rfl, rfl⟩))
  rintro k s ⟨q, x, hq, hx, rfl⟩
  have xq : x.length = q := by rw [hx]; simp [xl]; omega
  simp -dsimp
  refine brV.intro (fun hlt => ?_) (fun hlt => ?_)
  · have hlt : q < a.length := by simpa using hlt
    have hlb : q < b.length := by omega
    have hlc : q < c.length := by omega
    have hw := wq hlt ha
    have hby : Try.prog.bytesOf 5 = 1 := by kernel_rfl
    have y1 : q + 1 ≤ 140737488355328 := by omega
    have y2 : q + 1 ≤ 9223372036854775807 := by omega
    have hs := xor3_succ hlt hlb hlc
    rw [← hx] at hs
    have hf : bys x ++ [b8 (byAt a q ^^^ byAt b q ^^^ byAt c q)] = bys (x ++ [byAt a q ^^^ byAt b q ^^^ byAt c q]) := by rw [bys_app]; rfl
    repeat' first
      | simp -dsimp [hlt, hlb, hlc, hby, y1, y2, hw, xor8, xq, hf]
      | (with_reducible refine ordI (by kernel_rfl) ?_)
    refine ⟨k - 1, by omega, Wk.some [2] [.cells 5 (bys (x ++ [byAt a q ^^^ byAt b q ^^^ byAt c q]))] [(37, vi (q + 1 : Nat)), (36, vi a.length), (8, .sl 1 0 0 (x ++ [byAt a q ^^^ byAt b q ^^^ byAt c q]).length), (7, vi a.length), (0, .ro 1 (bys a)), (1, .ro 1 (bys b)), (2, .ro 1 (bys c))] rfl (by simp) (by simp) (by simp) (by simp) (by simp [rho, hw, xq]) (by simp)
      (Wk.now ⟨q + 1, _, by omega, hs.symm, rfl⟩)⟩
  · have hqe : q = a.length := by simp at hlt; omega
    have hX : x = xor3 a b c := by rw [hx, List.take_of_length_le (by omega)]
    have s1 := ct_Sum x (by omega)
    have s2 := ct_Sum a ha
    have s3 := ct_Sum (b.take a.length) (by simp; omega)
    have s4 := ct_Sum (c.take a.length) (by simp; omega)
    have key : crc x = crc a ^^^ crc (b.take a.length) ^^^ crc (c.take a.length) := by
      rw [hX]
      exact crcF_xor3 a b c 0xffff#16 0xffff#16 0xffff#16 (by omega) (by omega)
    have bd := n16_bd (crc x)
    have g1 : 0 ≤ n16 (crc x) := bd.1
    have g2 : n16 (crc x) ≤ 65535 := bd.2
    have tb := bys_take b a.length
    have tc := bys_take c a.length
    have lb : (a.length : Int) ≤ b.length := by omega
    have lc : (a.length : Int) ≤ c.length := by omega
    have rx : rows false 1 x.length (bys x) = bys x := rows_bys x
    repeat' first
      | simp -dsimp
    refine CallV.freeze 0 5 (bys x) false (by simp) (by simp) ?_
    simp -dsimp [rx]
    refine (CallD.pure s1 (by simp) ?_).callV
    repeat' first
      | simp -dsimp [g1, g2, lb, lc, tb, tc, xor64, ← key]
      | (with_reducible refine (CallD.pure (s2) (by simp) ?_))
      | (with_reducible refine (CallD.pure (s3) (by simp) ?_))
      | (with_reducible refine (CallD.pure (s4) (by simp) ?_))
      | (with_reducible refine (CallD.pure (ct_Sum0) (by simp) ?_))
      | (with_reducible refine ordI (by kernel_rfl) ?_)
      | exact exitV.now rfl
end Go.Proofs.Ytfhpojedoijghaa
