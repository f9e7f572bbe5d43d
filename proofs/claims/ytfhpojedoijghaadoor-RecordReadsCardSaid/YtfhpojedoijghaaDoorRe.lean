/- Contracts of functions of the seat's program, and what follows of them: Re. Conditions are in each statement. -/
import Derived.Test.YtfhpojedoijghaaDoorRd
set_option linter.unusedSimpArgs false
set_option linter.unusedVariables false
namespace Go.Proofs.YtfhpojedoijghaaDoor
open Go Go.Proofs Go.Vm

/-! ### A fault's bytes, read -/
def tickF (t : Int) (b : List (BitVec 8)) : Int := b.foldl (fun t x => t * 256 + n8 x) t
theorem tickF_bd : ∀ (b : List (BitVec 8)) (t : Int) (m : Nat), 0 ≤ t → t < 256 ^ m → 0 ≤ tickF t b ∧ tickF t b < 256 ^ (m + b.length)
  | [], t, m, h0, h1 => by simpa [tickF] using ⟨h0, h1⟩
  | x :: b, t, m, h0, h1 => by
    have hx := n8_bd x
    have e : (256 : Int) ^ (m + 1) = 256 ^ m * 256 := by rw [Int.pow_succ]
    have := tickF_bd b (t * 256 + n8 x) (m + 1) (by omega) (by rw [e]; omega)
    simp only [tickF, List.foldl_cons, List.length_cons] at this ⊢
    rw [show m + (b.length + 1) = m + 1 + b.length by omega]; exact this
theorem or64 {t : Int} (h0 : 0 ≤ t) (h1 : t < 4294967296) (x : BitVec 8) : bits .or .i64 (t * 256) (n8 x) = t * 256 + n8 x := by
  obtain ⟨k, rfl⟩ := Int.eq_ofNat_of_zero_le h0
  have hk : k < 4294967296 := by omega
  have hx := x.isLt
  have e1 : BitVec.ofInt 64 ((k : Int) * 256) = BitVec.ofNat 64 (k * 256) := by
    rw [show (k : Int) * 256 = ((k * 256 : Nat) : Int) by omega, BitVec.ofInt_natCast]
  have e2 : BitVec.ofInt 64 (n8 x) = BitVec.ofNat 64 x.toNat := by unfold n8; rw [BitVec.ofInt_natCast]
  show IntKind.wrap .i64 ((BitVec.ofInt 64 ((k : Int) * 256) ||| BitVec.ofInt 64 (n8 x)).toNat : Int) = _
  have e3 : k * 256 ||| x.toNat = k * 256 + x.toNat := by
    have := Nat.two_pow_add_eq_or_of_lt (i := 8) hx k
    rw [Nat.mul_comm k 256]; exact this.symm
  rw [e1, e2, BitVec.toNat_or, BitVec.toNat_ofNat, BitVec.toNat_ofNat, Nat.mod_eq_of_lt (by omega), Nat.mod_eq_of_lt (by omega), e3]
  unfold n8
  rw [w64_of (by omega) (by omega)]; omega
def oneF (c : List (BitVec 8)) : Flt := ⟨n8 (byAt c 0), tickF 0 (c.drop 1)⟩
theorem tickF_app (t : Int) (a b : List (BitVec 8)) : tickF t (a ++ b) = tickF (tickF t a) b := by simp [tickF]
theorem tickF_succ {b : List (BitVec 8)} {q : Nat} (t : Int) (h : q < b.length) : tickF t (b.take (q + 1)) = tickF t (b.take q) * 256 + n8 (byAt b q) := by
  rw [List.take_add_one, List.getElem?_eq_getElem h, tickF_app]
  simp [tickF, byAt, List.getD, h]
set_option maxRecDepth 100000 in
theorem ct_one (c : List (BitVec 8)) (hc : c.length = 6) : Ct Tryd.prog G0 17 [.ro 1 (bys c)] [] (oneF c).enc [] := by
  obtain ⟨d, hd⟩ : ∃ d, d = c.drop 1 := ⟨_, rfl⟩
  have hdl : d.length = 5 := by rw [hd]; simp; omega
  have h0 : 0 < c.length := by omega
  have hcn : c ≠ [] := fun e => by rw [e] at hc; simp at hc
  have hcl : (1 : Int) ≤ c.length := by omega
  have k1 : IntKind.wrap .i64 (n8 (byAt c 0)) = n8 (byAt c 0) := wrap_n8 _
  have bd : (bys c).drop 1 = bys d := by rw [bys_drop, hd]
  have tk : (bys d).take (c.length - 1) = bys d := by rw [bys_take, List.take_of_length_le (by omega)]
  have hl5 : (c.length : Int) - 1 = (d.length : Int) := by omega
  refine callV_ic hm (fn := Tryd.f17) rfl ic17_eq ic17_nm ic17_ok (by simp) ?_
  simp -dsimp [ic17]
  repeat' first
    | simp -dsimp [h0, hcn, hcl, k1, bd, tk]
    | (with_reducible refine ordI (by kernel_rfl) ?_)
  refine Ti.loopW hm (fun k s => ∃ q : Nat, q + k = d.length ∧ s = { t := [(14, vi q), (13, vi d.length), (12, .ro 1 (bys d)), (3, .p 1 0), (2, .p 0 0)], d := [], h := [.cells 45 [vi 0, vi 0], .cells 45 [vi (n8 (byAt c 0)), vi (tickF 0 (d.take q))]] }) (k := d.length) ?_ ?_
  · exact Wk.sub [(14, vi (0 : Nat)), (13, vi d.length), (12, .ro 1 (bys d)), (3, .p 1 0), (2, .p 0 0)] (by simp) (Wk.now ⟨0, by omega, by simp [tickF]⟩)
  rintro k s ⟨q, hq, rfl⟩
  simp -dsimp
  refine brV.intro (fun hlt => ?_) (fun hlt => ?_)
  · have hlt : q < d.length := by simpa using hlt
    have hw := wq hlt (by unfold top; omega)
    have b1 := tickF_bd (d.take q) 0 0 (by omega) (by decide)
    rw [List.length_take, Nat.min_eq_left (by omega), Nat.zero_add] at b1
    have b2 : (256 : Int) ^ q ≤ 4294967296 := by
      have : q = 0 ∨ q = 1 ∨ q = 2 ∨ q = 3 ∨ q = 4 := by omega
      rcases this with rfl | rfl | rfl | rfl | rfl <;> decide
    have hs := tickF_succ (b := d) (q := q) 0 hlt
    generalize tickF 0 (d.take q) = T at *
    have e1 : IntKind.wrap .i64 (T * 256) = T * 256 := w64_of (by omega) (by omega)
    have e2 := or64 b1.1 (by omega) (byAt d q)
    have e3 : IntKind.wrap .i64 (n8 (byAt d q)) = n8 (byAt d q) := wrap_n8 _
    repeat' first
      | simp -dsimp [hlt, mb8, e1, e2, e3, hw]
      | (with_reducible refine ordI (by kernel_rfl) ?_)
    exact ⟨k - 1, by omega, Wk.sub [(14, vi (q + 1 : Nat)), (13, vi d.length), (12, .ro 1 (bys d)), (3, .p 1 0), (2, .p 0 0)] (by simp) (Wk.now ⟨q + 1, by omega, by rw [hs]⟩)⟩
  · have : q = d.length := by simp at hlt; omega
    subst this
    simp -dsimp
    exact exitV.cut (by simp) (by simp) (by simp) (by simp) ⟨by rw [hd]; rfl, by simp⟩
end Go.Proofs.YtfhpojedoijghaaDoor
