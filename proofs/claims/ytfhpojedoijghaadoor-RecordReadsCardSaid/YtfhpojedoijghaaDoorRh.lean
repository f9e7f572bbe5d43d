/- Contracts of functions of the seat's program, and what follows of them: Rh. Conditions are in each statement. -/
import Derived.Test.YtfhpojedoijghaaDoorRg
set_option linter.unusedSimpArgs false
set_option linter.unusedVariables false
namespace Go.Proofs.YtfhpojedoijghaaDoor
open Go Go.Proofs Go.Vm

/-! ### What is written is read -/
theorem n8_mod (x : Int) : n8 (byI x) = x % 256 := by
  simp only [n8, byI, BitVec.toNat_ofInt]; simp
  exact Int.max_eq_left (Int.emod_nonneg _ (by decide))
theorem n8_inj {x y : BitVec 8} (h : n8 x = n8 y) : x = y := BitVec.eq_of_toNat_eq (by unfold n8 at h; omega)
theorem byI_n8 (x : BitVec 8) : byI (n8 x) = x := n8_inj (by rw [n8_mod]; have := n8_bd x; omega)
theorem tick_enc {t : Int} (h0 : 0 ≤ t) (h1 : t ≤ 1099511627775) : tickF 0 (tickB t) = t := by
  simp only [tickF, tickB, List.foldl_cons, List.foldl_nil, n8_mod]; omega
theorem one_enc {f : Flt} (k0 : 0 ≤ f.kind) (k1 : f.kind ≤ 255) (h0 : 0 ≤ f.tick) (h1 : f.tick ≤ 1099511627775) : oneF (encF f) = f := by
  have e : oneF (encF f) = ⟨n8 (byI f.kind), tickF 0 (tickB f.tick)⟩ := rfl
  rw [e, tick_enc h0 h1, n8_mod, Int.emod_eq_of_lt k0 (by omega)]
theorem enc_one : ∀ {c : List (BitVec 8)}, c.length = 6 → encF (oneF c) = c
  | [a, b, d, e, f, g], _ => by
    have h1 := n8_bd a; have h2 := n8_bd b; have h3 := n8_bd d; have h4 := n8_bd e; have h5 := n8_bd f; have h6 := n8_bd g
    have ek : oneF [a, b, d, e, f, g] = ⟨n8 a, tickF 0 [b, d, e, f, g]⟩ := rfl
    rw [ek]
    simp only [encF, tickB, tickF, List.foldl_cons, List.foldl_nil, byI_n8, List.cons.injEq, and_true, true_and]
    refine ⟨n8_inj ?_, n8_inj ?_, n8_inj ?_, n8_inj ?_, n8_inj ?_⟩ <;> rw [n8_mod] <;> omega
theorem parts_enc {q : Nat} : ∀ {l : List Flt}, q < l.length → ((encs l).drop (6 * q)).take 6 = encF (atF l q) := by
  induction q with
  | zero =>
    intro l h
    cases l with
    | nil => simp at h
    | cons f l => rfl
  | succ q ih =>
    intro l h
    cases l with
    | nil => simp at h
    | cons f l =>
      have := ih (l := l) (by simpa using h)
      have e : (encs (f :: l)).drop (6 * (q + 1)) = (encs l).drop (6 * q) := by
        rw [show 6 * (q + 1) = 6 + 6 * q by omega, ← List.drop_drop]; rfl
      rw [e, this]; rfl
theorem body_at (l : List Flt) : byAt (recR l) 1 = byI l.length := rfl
theorem nParts_rec {l : List Flt} (h : l.length ≤ 255) : nParts (recR l) = l.length := by
  unfold nParts
  rw [body_at]
  have := n8_mod (l.length : Int)
  unfold n8 at this; omega
theorem payload_rec (l : List Flt) : payload (recR l) = encs l := by
  unfold payload
  rw [recR_length]
  have e : (recR l).drop 2 = encs l ++ [hi8 (crc (bodyR l)), lo8 (crc (bodyR l))] := rfl
  rw [e, show 4 + 6 * l.length - 4 = (encs l).length by rw [encs_length]; omega]
  simp
theorem readL_rec {l : List Flt} (h : rightB l = true) : readL (recR l) = l := by
  have h11 := right_len h
  unfold readL
  rw [nParts_rec (by omega), payload_rec]
  apply List.ext_getElem (by simp)
  intro i h1 h2
  simp only [List.getElem_map, List.getElem_range, partL]
  have hi : i < l.length := by simpa using h1
  have k := right_kind h i hi
  rw [parts_enc hi, one_enc (by omega) (by omega) (by omega) (by omega)]
  simp [atF, List.getD, hi]
theorem read_rec {l : List Flt} (h : rightB l = true) : readR (recR l) = .ok l := by
  have h11 := right_len h
  have c : crc (recR l) = 0#16 := (crc_side (bodyR l) (crc (bodyR l))).2 rfl
  have b0 : byAt (recR l) 0 = 76#8 := rfl
  unfold readR
  rw [recR_length, nParts_rec (by omega), readL_rec h, if_neg (by omega), if_neg (by simp [c]), if_neg (by simp [b0]), if_neg (by simp [h])]
/-- The check that two bytes tell. -/
def told (x y : BitVec 8) : BitVec 16 := x.setWidth 16 <<< 8 ||| y.setWidth 16
theorem hi_told (x y : BitVec 8) : hi8 (told x y) = x := by
  apply BitVec.eq_of_toNat_eq
  have hx := x.isLt; have hy := y.isLt
  have e : (x.toNat <<< 8 ||| y.toNat) = 256 * x.toNat + y.toNat := by
    have := Nat.two_pow_add_eq_or_of_lt (i := 8) hy x.toNat
    rw [Nat.shiftLeft_eq, Nat.mul_comm]; exact this.symm
  simp only [hi8, told, BitVec.toNat_setWidth, BitVec.toNat_ushiftRight, BitVec.toNat_or, BitVec.toNat_shiftLeft, Nat.shiftRight_eq_div_pow]
  rw [Nat.mod_eq_of_lt (show x.toNat < 2 ^ 16 by omega), Nat.mod_eq_of_lt (show y.toNat < 2 ^ 16 by omega), Nat.mod_eq_of_lt (show x.toNat <<< 8 < 2 ^ 16 by rw [Nat.shiftLeft_eq]; omega), e]
  omega
theorem lo_told (x y : BitVec 8) : lo8 (told x y) = y := by
  apply BitVec.eq_of_toNat_eq
  have hx := x.isLt; have hy := y.isLt
  have e : (x.toNat <<< 8 ||| y.toNat) = 256 * x.toNat + y.toNat := by
    have := Nat.two_pow_add_eq_or_of_lt (i := 8) hy x.toNat
    rw [Nat.shiftLeft_eq, Nat.mul_comm]; exact this.symm
  simp only [lo8, told, BitVec.toNat_setWidth, BitVec.toNat_or, BitVec.toNat_shiftLeft]
  rw [Nat.mod_eq_of_lt (show x.toNat < 2 ^ 16 by omega), Nat.mod_eq_of_lt (show y.toNat < 2 ^ 16 by omega), Nat.mod_eq_of_lt (show x.toNat <<< 8 < 2 ^ 16 by rw [Nat.shiftLeft_eq]; omega), e]
  omega
theorem encs_parts : ∀ (N : Nat) (xs : List (BitVec 8)), xs.length = 6 * N → encs ((List.range N).map (partL xs)) = xs
  | 0, xs, h => by
    have : xs = [] := List.eq_nil_of_length_eq_zero (by omega)
    simp [this, encs]
  | N + 1, xs, h => by
    rw [List.range_succ, List.map_append, encs_app]
    have ht : encs ((List.range N).map (partL xs)) = xs.take (6 * N) := by
      have := encs_parts N (xs.take (6 * N)) (by simp; omega)
      rw [← this]
      congr 1
      apply List.map_congr_left
      intro q hq
      have hq : q < N := by simpa using hq
      simp only [partL]
      congr 1
      rw [List.drop_take, List.take_take, Nat.min_eq_left (by omega)]
    have hl : ((xs.drop (6 * N)).take 6).length = 6 := by simp; omega
    rw [ht]
    simp only [List.map_cons, List.map_nil, encs, List.append_nil, partL]
    rw [enc_one hl, show (xs.drop (6 * N)).take 6 = xs.drop (6 * N) from List.take_of_length_le (by simp; omega), List.take_append_drop]
/-- What is read, written, is the same bytes. -/
theorem rec_read {b : List (BitVec 8)} {l : List Flt} (h : readR b = .ok l) : recR l = b ∧ rightB l = true := by
  unfold readR at h
  split at h
  · cases h
  split at h
  · cases h
  split at h
  · cases h
  split at h
  · cases h
  rename_i c1 c2 c3 c4
  cases h
  have hl : b.length = 4 + 6 * nParts b := by omega
  have hc : crc b = 0#16 := by simpa using c2
  have h0 : byAt b 0 = 76#8 := by simpa using c3
  have hp : (payload b).length = 6 * nParts b := by simp [payload]; omega
  have he : encs (readL b) = payload b := encs_parts _ _ hp
  obtain ⟨x, y, hxy⟩ : ∃ x y, b.drop (b.length - 2) = [x, y] := by
    have : (b.drop (b.length - 2)).length = 2 := by simp; omega
    match hd : b.drop (b.length - 2), this with
    | [x, y], _ => exact ⟨x, y, rfl⟩
  have hn : byI (nParts b : Int) = byAt b 1 := byI_n8 (byAt b 1)
  have hb : b = bodyR (readL b) ++ [x, y] := by
    have e2 : b = b.take (b.length - 2) ++ [x, y] := by rw [← hxy, List.take_append_drop]
    have e3 : b.take (b.length - 2) = bodyR (readL b) := by
      unfold bodyR
      rw [he, readL_length, hn, ← h0]
      match b, hl with
      | a :: d :: r, hl =>
        simp only [List.length_cons, payload, byAt, List.drop_succ_cons, List.drop_zero, List.getD_cons_zero, List.getD_cons_succ]
        simp only [List.length_cons] at hl
        obtain ⟨k, hk⟩ : ∃ k, r.length = k + 2 := ⟨r.length - 2, by omega⟩
        rw [hk, show k + 2 + 1 + 1 - 2 = k + 2 by omega, show k + 2 + 1 + 1 - 4 = k by omega]; rfl
    rw [← e3]; exact e2
  refine ⟨?_, by simpa using c4⟩
  have hside : crc (bodyR (readL b)) = told x y := by
    rw [← crc_side, hi_told, lo_told, ← hb]; exact hc
  unfold recR
  rw [hside, hi_told, lo_told, ← hb]
theorem rec_inj {a b : List Flt} (ha : rightB a = true) (hb : rightB b = true) (h : recR a = recR b) : a = b := by
  have h1 := read_rec ha
  have h2 := read_rec hb
  rw [h, h2] at h1
  cases h1; rfl
end Go.Proofs.YtfhpojedoijghaaDoor
