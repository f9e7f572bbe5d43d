/- Contracts of functions of the seat's program, and what follows of them: Rb. Conditions are in each statement. -/
import Derived.Test.YtfhpojedoijghaaDoorRa
import Derived.Test.YtfhpojedoijghaaDoorIc
import Derived.Test.YtfhpojedoijghaaDoorV6
set_option linter.unusedSimpArgs false
set_option linter.unusedVariables false
namespace Go.Proofs.YtfhpojedoijghaaDoor
open Go Go.Proofs Go.Vm

def n8 (x : BitVec 8) : Int := (x.toNat : Int)
def n16 (r : BitVec 16) : Int := (r.toNat : Int)
abbrev b8 (x : BitVec 8) : V := .c (.int .u8 (n8 x))
abbrev b16 (r : BitVec 16) : V := .c (.int .u16 (n16 r))
def bys (b : List (BitVec 8)) : List V := b.map b8
def byAt (b : List (BitVec 8)) (k : Nat) : BitVec 8 := b.getD k 0#8
@[simp] theorem bys_length (b : List (BitVec 8)) : (bys b).length = b.length := by simp [bys]
@[simp] theorem bys_get (b : List (BitVec 8)) (k : Nat) (h : k < (bys b).length) : (bys b)[k] = b8 (byAt b k) := by
  have : k < b.length := by simpa using h
  simp [bys, byAt, List.getD, this]
theorem bys_at {b : List (BitVec 8)} {k : Nat} (h : k < b.length) : (bys b)[k]? = some (b8 (byAt b k)) := by simp [bys, byAt, List.getD, h]
@[simp] theorem okL_bys (p : Nat → Prop) (b : List (BitVec 8)) : okL p (bys b) := by
  induction b with
  | nil => trivial
  | cons x b ih => exact ⟨trivial, ih⟩
@[simp] theorem renL_bys (ρ : Nat → Nat) (b : List (BitVec 8)) : renL ρ (bys b) = bys b := by
  induction b with
  | nil => rfl
  | cons x b ih => simp [bys, renL] at ih ⊢; exact ih
@[simp] theorem fitsL_bys (i n : Nat) (g : Bool) (b : List (BitVec 8)) : fitsL i n g (bys b) := by
  induction b with
  | nil => trivial
  | cons x b ih => exact ⟨trivial, ih⟩
@[simp] theorem frzL_bys (i : Nat) (cs : List V) (g : Bool) (b : List (BitVec 8)) : frzL i cs g (bys b) = bys b := by
  induction b with
  | nil => rfl
  | cons x b ih => simp [bys, frzL] at ih ⊢; exact ih
@[simp] theorem bys_cells (b : List (BitVec 8)) : ((bys b).map V.cells).flatten = bys b := by
  induction b with
  | nil => rfl
  | cons x b ih => simp [bys] at ih ⊢; exact ih
theorem bys_app (a b : List (BitVec 8)) : bys (a ++ b) = bys a ++ bys b := by simp [bys]
theorem bys_take (b : List (BitVec 8)) (n : Nat) : (bys b).take n = bys (b.take n) := by simp [bys, List.map_take]
theorem bys_drop (b : List (BitVec 8)) (n : Nat) : (bys b).drop n = bys (b.drop n) := by simp [bys, List.map_drop]
theorem bys_set (b : List (BitVec 8)) (n : Nat) (x : BitVec 8) : (bys b).set n (b8 x) = bys (b.set n x) := by simp [bys, List.map_set]
theorem rows_bys : ∀ (b : List (BitVec 8)), rows false 1 b.length (bys b) = bys b
  | [] => rfl
  | x :: b => by
    have := rows_bys b
    simp [bys, rows] at this ⊢; exact this
theorem n8_bd (x : BitVec 8) : 0 ≤ n8 x ∧ n8 x ≤ 255 := by unfold n8; have := x.isLt; omega
theorem n16_bd (x : BitVec 16) : 0 ≤ n16 x ∧ n16 x ≤ 65535 := by unfold n16; have := x.isLt; omega
theorem wu16_of {x : Int} (h1 : 0 ≤ x) (h2 : x ≤ 65535) : IntKind.wrap .u16 x = x := by
  simp only [IntKind.wrap, IntKind.signed, IntKind.bits]; simp; omega
theorem wu8_of' {x : Int} (h1 : 0 ≤ x) (h2 : x ≤ 255) : IntKind.wrap .u8 x = x := by
  simp only [IntKind.wrap, IntKind.signed, IntKind.bits]; simp; omega
theorem wrap16_nat (n : Nat) : IntKind.wrap .u16 (n : Int) = n16 (BitVec.ofNat 16 n) := by
  simp only [IntKind.wrap, IntKind.signed, IntKind.bits, n16, BitVec.toNat_ofNat]; simp
theorem wrap8_nat (n : Nat) : IntKind.wrap .u8 (n : Int) = n8 (BitVec.ofNat 8 n) := by
  simp only [IntKind.wrap, IntKind.signed, IntKind.bits, n8, BitVec.toNat_ofNat]; simp
theorem wrap_n16 (r : BitVec 16) : IntKind.wrap .i64 (n16 r) = n16 r := by have := n16_bd r; exact w64_of (by omega) (by omega)
theorem wrap_n8 (r : BitVec 8) : IntKind.wrap .i64 (n8 r) = n8 r := by have := n8_bd r; exact w64_of (by omega) (by omega)
theorem wrap_8_16 (x : BitVec 8) : IntKind.wrap .u16 (n8 x) = n16 (x.setWidth 16) := by
  have := x.isLt
  rw [n8, wrap16_nat]
  congr 1
  apply BitVec.eq_of_toNat_eq; simp
theorem ofInt_n16 (r : BitVec 16) : BitVec.ofInt 16 (n16 r) = r := by
  apply BitVec.eq_of_toNat_eq
  have := r.isLt
  simp [n16]
theorem ofInt_n8 (r : BitVec 8) : BitVec.ofInt 8 (n8 r) = r := by
  apply BitVec.eq_of_toNat_eq
  have := r.isLt
  simp [n8]
theorem xor16 (a b : BitVec 16) : bits .xor .u16 (n16 a) (n16 b) = n16 (a ^^^ b) := by
  show IntKind.wrap .u16 (((BitVec.ofInt 16 (n16 a)) ^^^ (BitVec.ofInt 16 (n16 b))).toNat : Int) = _
  rw [ofInt_n16, ofInt_n16, wrap16_nat]; simp
theorem xor8 (a b : BitVec 8) : bits .xor .u8 (n8 a) (n8 b) = n8 (a ^^^ b) := by
  show IntKind.wrap .u8 (((BitVec.ofInt 8 (n8 a)) ^^^ (BitVec.ofInt 8 (n8 b))).toNat : Int) = _
  rw [ofInt_n8, ofInt_n8, wrap8_nat]; simp
theorem xor16c (a : BitVec 16) : bits .xor .u16 (n16 a) 4129 = n16 (a ^^^ 0x1021#16) := xor16 a 0x1021#16
theorem shl16 (a : BitVec 16) (n : Nat) (hn : n ≤ 16) : IntKind.wrap .u16 (n16 a * 2 ^ min n IntKind.u16.bits) = n16 (a <<< n) := by
  rw [show min n IntKind.u16.bits = n from Nat.min_eq_left hn, n16, show ((a.toNat : Int) * 2 ^ n) = ((a.toNat * 2 ^ n : Nat) : Int) by simp, wrap16_nat]
  congr 1
  apply BitVec.eq_of_toNat_eq; simp [Nat.shiftLeft_eq]
theorem shr16 (a : BitVec 16) (n : Nat) (hn : n ≤ 16) : n16 a / 2 ^ min n IntKind.u16.bits = n16 (a >>> n) := by
  rw [show min n IntKind.u16.bits = n from Nat.min_eq_left hn, n16, n16, BitVec.toNat_ushiftRight, Nat.shiftRight_eq_div_pow]; simp
theorem msb_one (a : BitVec 16) : (n16 (a >>> 15) == 1) = a.msb := by
  have h := a.isLt
  rw [BitVec.msb_eq_decide, n16, BitVec.toNat_ushiftRight, Nat.shiftRight_eq_div_pow]
  rw [Bool.eq_iff_iff]; simp; omega
/-- The check, walked. -/
theorem ct_Sum (b : List (BitVec 8)) (hb : b.length < top) : Ct Tryd.prog G0 6 [.ro 1 (bys b)] [] (vi (n16 (crc b))) [] := by
  refine callV_ic hm (fn := Tryd.f6) rfl ic6_eq ic6_nm ic6_ok (by simp) ?_
  simp -dsimp [ic6]
  refine Ti.loopW hm (fun k s => ∃ q : Nat, q + k = b.length ∧ s = { t := [(10, vi q), (9, vi b.length), (8, .ro 1 (bys b)), (3, b16 (crcF 0xffff#16 (b.take q)))], d := [], h := [] }) (k := b.length) ?_ ?_
  · exact Wk.sub [(10, vi (0 : Nat)), (9, vi b.length), (8, .ro 1 (bys b)), (3, .c (.int .u16 65535))] (by simp) (Wk.now ⟨0, by omega, by simp [crcF, n16]⟩)
  rintro k s ⟨q, hq, rfl⟩
  generalize hr : crcF 0xffff#16 (b.take q) = r
  simp -dsimp
  refine brV.intro (fun hlt => ?_) (fun hlt => ?_)
  rotate_left
  · have : q = b.length := by simp at hlt; omega
    subst this
    simp -dsimp [wrap_n16]
    refine exitV.cut (by simp) (by simp) (by simp) (by simp) ⟨?_, by simp⟩
    rw [← hr, List.take_length]; rfl
  have hlt : q < b.length := by simpa using hlt
  have hw := wq hlt hb
  have hnext : crcF 0xffff#16 (b.take (q + 1)) = stB r (byAt b q) := by
    rw [← hr, List.take_add_one, List.getElem?_eq_getElem hlt, crcF_app]
    simp [byAt, List.getD, hlt, crcF]
  have s8 := shl16 ((byAt b q).setWidth 16) 8 (by omega)
  have w1 : IntKind.wrap .i64 1 = 1 := by decide
  simp -dsimp [hlt]
  generalize byAt b q = x at *
  obtain ⟨r0, hr0⟩ : ∃ r0, r0 = r ^^^ (x.setWidth 16 <<< 8) := ⟨_, rfl⟩
  have hx : bits .xor .u16 (n16 r) (n16 (x.setWidth 16 <<< 8)) = n16 r0 := by rw [xor16, hr0]
  refine Ti.scope hm (fun l j s => l = 0 ∧ ∃ n : Nat, n + j = 8 ∧ n < 8 ∧ s = { t := [(6, vi n), (3, b16 (tN n r0)), (10, vi q), (9, vi b.length), (8, .ro 1 (bys b))], d := [], h := [] }) ?_ ?_
  · have s1 := shl16 r0 1 (by omega)
    have s15 := shr16 r0 15 (by omega)
    cases hmsb : r0.msb
    · have e1 : tS r0 = r0 <<< 1 := by simp [tS, hmsb]
      simp -dsimp [wrap_8_16, s8, hx, s1, s15, msb_one, hmsb, w1, xor16c]
      simp -dsimp [scopeQ, findI]
      exact ⟨7, Wk.sub [(6, vi (1)), (3, b16 (r0 <<< 1)), (10, vi q), (9, vi b.length), (8, .ro 1 (bys b))] (by simp) (Wk.now ⟨rfl, 1, by omega, by omega, by simp [tN, e1]⟩)⟩
    · have e1 : tS r0 = (r0 <<< 1) ^^^ 0x1021#16 := by simp [tS, hmsb]
      simp -dsimp [wrap_8_16, s8, hx, s1, s15, msb_one, hmsb, w1, xor16c]
      simp -dsimp [scopeQ, findI]
      exact ⟨7, Wk.sub [(6, vi (1)), (3, b16 ((r0 <<< 1) ^^^ 0x1021#16)), (10, vi q), (9, vi b.length), (8, .ro 1 (bys b))] (by simp) (Wk.now ⟨rfl, 1, by omega, by omega, by simp [tN, e1]⟩)⟩
  · rintro l rest j s hf ⟨rfl, n, hn, hn8, rfl⟩
    simp [findI] at hf
    subst hf
    have wn := wq (q := n) (n := 8) hn8 (by unfold top; omega)
    generalize hv : tN n r0 = v
    have s1 := shl16 v 1 (by omega)
    have s15 := shr16 v 15 (by omega)
    cases hmsb : v.msb
    · have e1 : tS v = v <<< 1 := by simp [tS, hmsb]
      have e2 : tN (n + 1) r0 = v <<< 1 := by rw [tN_succ, hv, e1]
      by_cases h8 : n + 1 < 8
      · have h8' : (n : Int) + 1 < 8 := by omega
        simp -dsimp [s1, s15, msb_one, hmsb, wn, h8', xor16c]
        simp -dsimp [scopeQ, findI]
        exact ⟨j - 1, by omega, Wk.sub [(6, vi ((n + 1 : Nat))), (3, b16 (v <<< 1)), (10, vi q), (9, vi b.length), (8, .ro 1 (bys b))] (by simp) (Wk.now ⟨rfl, n + 1, by omega, by omega, by simp [e2]⟩)⟩
      · have h8' : ¬ (n : Int) + 1 < 8 := by omega
        have hn7 : n + 1 = 8 := by omega
        simp -dsimp [s1, s15, msb_one, hmsb, wn, h8', xor16c, hw]
        refine ⟨k - 1, by omega, Wk.sub [(10, vi (q + 1 : Nat)), (9, vi b.length), (8, .ro 1 (bys b)), (3, b16 (v <<< 1))] (by simp) (Wk.now ⟨q + 1, by omega, ?_⟩)⟩
        rw [hnext, stB, ← hr0, ← e2, hn7]
    · have e1 : tS v = (v <<< 1) ^^^ 0x1021#16 := by simp [tS, hmsb]
      have e2 : tN (n + 1) r0 = (v <<< 1) ^^^ 0x1021#16 := by rw [tN_succ, hv, e1]
      by_cases h8 : n + 1 < 8
      · have h8' : (n : Int) + 1 < 8 := by omega
        simp -dsimp [s1, s15, msb_one, hmsb, wn, h8', xor16c]
        simp -dsimp [scopeQ, findI]
        exact ⟨j - 1, by omega, Wk.sub [(6, vi ((n + 1 : Nat))), (3, b16 ((v <<< 1) ^^^ 0x1021#16)), (10, vi q), (9, vi b.length), (8, .ro 1 (bys b))] (by simp) (Wk.now ⟨rfl, n + 1, by omega, by omega, by simp [e2]⟩)⟩
      · have h8' : ¬ (n : Int) + 1 < 8 := by omega
        have hn7 : n + 1 = 8 := by omega
        simp -dsimp [s1, s15, msb_one, hmsb, wn, h8', xor16c, hw]
        refine ⟨k - 1, by omega, Wk.sub [(10, vi (q + 1 : Nat)), (9, vi b.length), (8, .ro 1 (bys b)), (3, b16 ((v <<< 1) ^^^ 0x1021#16))] (by simp) (Wk.now ⟨q + 1, by omega, ?_⟩)⟩
        rw [hnext, stB, ← hr0, ← e2, hn7]
theorem ct_SumB (b : List (BitVec 8)) (hb : b.length < top) : Ct Tryd.prog G0 6 [.sl 1 0 0 b.length] [.cells 5 (bys b)] (vi (n16 (crc b))) [.cells 5 (bys b)] := by
  have e : frzL 0 (bys b) false [.sl 1 0 0 b.length] = [.ro 1 (bys b)] := by simp [rows_bys]
  refine Ct.lend (g := false) (by simp) (by rw [e]; simp) ?_
  rw [e]
  exact ct_Sum b hb
theorem ct_Sum0 : Ct Tryd.prog G0 6 [.c (.slice none 0 0)] [] (vi 65535) [] :=
  CallV.args (fun _ _ h => cnL_nil [] h) (ct_Sum [] (by decide))
end Go.Proofs.YtfhpojedoijghaaDoor
