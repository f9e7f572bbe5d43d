/- Contracts of functions of the seat's program, and what follows of them: Rd. Conditions are in each statement. -/
import Derived.Test.YtfhpojedoijghaaDoorRc
set_option linter.unusedSimpArgs false
set_option linter.unusedVariables false
namespace Go.Proofs.YtfhpojedoijghaaDoor
open Go Go.Proofs Go.Vm

def byI (x : Int) : BitVec 8 := BitVec.ofInt 8 x
theorem n8_byI (x : Int) : IntKind.wrap .u8 x = n8 (byI x) := by
  simp only [IntKind.wrap, IntKind.signed, IntKind.bits, n8, byI, BitVec.toNat_ofInt]; simp
  exact (Int.max_eq_left (Int.emod_nonneg _ (by decide))).symm
def tickB (t : Int) : List (BitVec 8) := [byI (t / 4294967296), byI (t / 16777216), byI (t / 65536), byI (t / 256), byI t]
def encF (f : Flt) : List (BitVec 8) := byI f.kind :: tickB f.tick
def encs : List Flt → List (BitVec 8)
  | [] => []
  | f :: l => encF f ++ encs l
@[simp] theorem encF_length (f : Flt) : (encF f).length = 6 := rfl
theorem encs_length : ∀ l : List Flt, (encs l).length = 6 * l.length
  | [] => rfl
  | f :: l => by simp [encs, encs_length l]; omega
theorem encs_app : ∀ a b : List Flt, encs (a ++ b) = encs a ++ encs b
  | [], _ => rfl
  | f :: a, b => by simp [encs, encs_app a b]
theorem encs_succ {l : List Flt} {q : Nat} (h : q < l.length) : encs (l.take (q + 1)) = encs (l.take q) ++ encF (atF l q) := by
  rw [List.take_add_one, List.getElem?_eq_getElem h, encs_app]
  simp [encs, atF, List.getD, h]
def bodyR (l : List Flt) : List (BitVec 8) := 76#8 :: byI l.length :: encs l
def recR (l : List Flt) : List (BitVec 8) := bodyR l ++ [hi8 (crc (bodyR l)), lo8 (crc (bodyR l))]
theorem bodyR_length (l : List Flt) : (bodyR l).length = 2 + 6 * l.length := by simp [bodyR, encs_length]; omega
theorem recR_length (l : List Flt) : (recR l).length = 4 + 6 * l.length := by simp [recR, bodyR_length]; omega
theorem wrap_hi (c : BitVec 16) : IntKind.wrap .u8 (n16 c / 256) = n8 (hi8 c) := by
  have h := c.isLt
  rw [wu8_of' (by unfold n16; omega) (by unfold n16; omega)]
  unfold n16 n8 hi8
  rw [BitVec.toNat_setWidth, BitVec.toNat_ushiftRight, Nat.shiftRight_eq_div_pow]; omega
theorem wrap_lo (c : BitVec 16) : IntKind.wrap .u8 (n16 c) = n8 (lo8 c) := by
  rw [n8_byI]; congr 1
theorem wk32 : IntKind.wrap .i64 32 = 32 := by decide
theorem wk24 : IntKind.wrap .i64 24 = 24 := by decide
theorem wk16 : IntKind.wrap .i64 16 = 16 := by decide
theorem wk8 : IntKind.wrap .i64 8 = 8 := by decide
theorem wk3 : IntKind.wrap .i64 3 = 3 := by decide
theorem wk2 : IntKind.wrap .i64 2 = 2 := by decide
theorem wk1 : IntKind.wrap .i64 1 = 1 := by decide
theorem wk0 : IntKind.wrap .i64 0 = 0 := by decide
theorem wkm : IntKind.wrap .i64 (-1) = -1 := by decide
theorem mb32 : min 32 IntKind.i64.bits = 32 := by decide
theorem mb24 : min 24 IntKind.i64.bits = 24 := by decide
theorem mb16 : min 16 IntKind.i64.bits = 16 := by decide
theorem mb8 : min 8 IntKind.i64.bits = 8 := by decide
theorem mb0 : min 0 IntKind.i64.bits = 0 := by decide
theorem right_kind {l : List Flt} (h : rightB l = true) : ∀ k : Nat, k < l.length → (k : Int) + 1 ≤ (atF l k).kind ∧ (atF l k).kind ≤ 11 ∧ 0 ≤ (atF l k).tick ∧ (atF l k).tick ≤ 1099511627775
  | 0, hk => by
    have := allB_iff.1 h 0 hk
    simp [goodF] at this; omega
  | k + 1, hk => by
    have := allB_iff.1 h (k + 1) hk
    have ih := right_kind h k (by omega)
    simp [goodF] at this; omega
theorem right_len {l : List Flt} (h : rightB l = true) : l.length ≤ 11 := by
  rcases Nat.lt_or_ge 11 l.length with h' | h'
  · have := right_kind h 11 h'; omega
  · exact h'
set_option maxRecDepth 100000 in
set_option maxHeartbeats 8000000 in
theorem ct_Write (l : List Flt) (hb : l.length < top) (hr : rightB l = true) : Ct Tryd.prog G0 12 [.ro 2 (flts l)] [] (.tup [.ro 1 (bys (recR l)), .c .nilIface]) [] := by
  have h11 := right_len hr
  refine callV_ic hm (fn := Tryd.f12) rfl ic12_eq ic12_nm ic12_ok (by simp) ?_
  simp -dsimp [ic12]
  have l1 : IntKind.wrap .u8 (l.length : Int) = n8 (byI l.length) := n8_byI _
  repeat' first
    | simp -dsimp [hr, l1]
    | (with_reducible refine (CallD.pure (ct_right _ hb) (by simp) ?_).callV)
    | (with_reducible refine ordI (by kernel_rfl) ?_)
  refine Ti.loopW hm (fun k s => ∃ (q : Nat) (out : List (BitVec 8)), q + k = l.length ∧ out = 76#8 :: byI l.length :: encs (l.take q) ∧ s = { t := [(19, vi q), (18, vi l.length), (17, .ro 2 (flts l)), (4, .sl 1 0 0 out.length)], d := [], h := [.cells 5 (bys out)] }) (k := l.length) ?_ ?_
  · exact Wk.sub [(19, vi (0 : Nat)), (18, vi l.length), (17, .ro 2 (flts l)), (4, .sl 1 0 0 2)] (by simp) (Wk.now ⟨0, _, by omega, rfl, by simp [encs, bys, n8]⟩)
  rintro k s ⟨q, out, hq, ho, rfl⟩
  have olen : out.length ≤ 68 := by rw [ho]; simp [encs_length]; omega
  obtain ⟨m, hm'⟩ : ∃ m, m = out.length := ⟨_, rfl⟩
  rw [← hm'] at olen ⊢
  have hby : Tryd.prog.bytesOf 5 = 1 := by kernel_rfl
  have y1 : m + 1 ≤ 140737488355328 := by omega
  have z1 : m + 1 ≤ 9223372036854775807 := by omega
  have y2 : m + 2 ≤ 140737488355328 := by omega
  have z2 : m + 2 ≤ 9223372036854775807 := by omega
  have y3 : m + 3 ≤ 140737488355328 := by omega
  have z3 : m + 3 ≤ 9223372036854775807 := by omega
  have y4 : m + 4 ≤ 140737488355328 := by omega
  have z4 : m + 4 ≤ 9223372036854775807 := by omega
  have y5 : m + 5 ≤ 140737488355328 := by omega
  have z5 : m + 5 ≤ 9223372036854775807 := by omega
  have y6 : m + 6 ≤ 140737488355328 := by omega
  have z6 : m + 6 ≤ 9223372036854775807 := by omega
  simp -dsimp
  refine brV.intro (fun hlt => ?_) (fun hlt => ?_)
  · have hlt : q < l.length := by simpa using hlt
    have hw := wq hlt hb
    repeat' first
      | simp -dsimp [hlt, hby, y1, z1, ← hm']
      | (with_reducible refine ordI (by kernel_rfl) ?_)
    refine Ti.unroll hm 6 ?_
    repeat' first
      | simp -dsimp [hlt, hby, y2, z2, y3, z3, y4, z4, y5, z5, y6, z6, wk32, wk24, wk16, wk8, wk3, wk2, wk1, wk0, wkm, mb32, mb24, mb16, mb8, mb0, n8_byI, ← hm']
      | (with_reducible refine ordI (by kernel_rfl) ?_)
    have hcell : bys out ++ [b8 (byI (atF l q).kind), b8 (byI ((atF l q).tick / 4294967296)), b8 (byI ((atF l q).tick / 16777216)), b8 (byI ((atF l q).tick / 65536)), b8 (byI ((atF l q).tick / 256)), b8 (byI (atF l q).tick)] = bys (out ++ encF (atF l q)) := by rw [bys_app]; rfl
    exact ⟨k - 1, by omega, Wk.some [13] [.cells 5 (bys (out ++ encF (atF l q)))] [(19, vi (q + 1 : Nat)), (18, vi l.length), (17, .ro 2 (flts l)), (4, .sl 1 0 0 (out ++ encF (atF l q)).length)] rfl (by simp [hcell]) (by simp) (by simp) (by simp) (by simp [rho, hw, ← hm']) (by simp)
      (Wk.now ⟨q + 1, out ++ encF (atF l q), by omega, by rw [encs_succ hlt, ho]; simp, rfl⟩)⟩
  · have hqe : q = l.length := by simp at hlt; omega
    have hob : out = bodyR l := by rw [ho, hqe, List.take_length]; rfl
    have hs := ct_SumB out (by unfold top; omega)
    have hf : bys out ++ [b8 (hi8 (crc out)), b8 (lo8 (crc out))] = bys (recR l) := by rw [hob]; simp [recR, bys_app]; rfl
    have hfl : m + 2 = (recR l).length := by rw [hm', hob, recR]; simp
    rw [← hm'] at hs
    repeat' first
      | simp -dsimp [wrap_hi, wrap_lo, wk8, mb8, hby, y2, z2, ← hm']
      | (with_reducible refine (CallD.look (i := 0) hs (by simp) rfl (by simp) (by simp) (by simp) ?_).callV)
      | (with_reducible refine ordI (by kernel_rfl) ?_)
    rw [hf, hfl]
    refine exitV.freeze 2 _ _ false rfl (by simp) ?_
    simp -dsimp [rows_bys]
    exact exitV.cut (by simp) (by simp) (by simp) (by simp) ⟨rfl, by simp⟩
theorem ct_WriteBad (l : List Flt) (hb : l.length < top) (hr : rightB l = false) : Ct Tryd.prog G0 12 [.ro 2 (flts l)] [] (.tup [.c (.slice none 0 0), badV [119, 114, 105, 116, 101]]) [] := by
  refine callV_ic hm (fn := Tryd.f12) rfl ic12_eq ic12_nm ic12_ok (by simp) ?_
  simp -dsimp [ic12]
  repeat' first
    | simp -dsimp [hr]
    | (with_reducible refine (CallD.pure (ct_right _ hb) (by simp) ?_).callV)
    | (with_reducible refine (CallD.pure (ct_wrong _) (by simp) ?_).callV)
    | (with_reducible refine ordI (by kernel_rfl) ?_)
  exact exitV.cut (by simp) (by simp) (by simp) (by simp) ⟨rfl, by simp⟩
end Go.Proofs.YtfhpojedoijghaaDoor
