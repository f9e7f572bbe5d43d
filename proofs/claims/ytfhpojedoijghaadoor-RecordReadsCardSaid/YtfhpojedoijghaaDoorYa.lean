/- Contracts of functions of the seat's program, and what follows of them: Ya. Conditions are in each statement. -/
import Derived.Test.YtfhpojedoijghaaDoorRi
set_option linter.unusedSimpArgs false
set_option linter.unusedVariables false
namespace Go.Proofs.YtfhpojedoijghaaDoor
open Go Go.Proofs Go.Vm

theorem xor64 (a b : BitVec 16) : bits .xor .i64 (n16 a) (n16 b) = n16 (a ^^^ b) := by
  have ha := a.isLt; have hb := b.isLt
  have e : ∀ x : BitVec 16, BitVec.ofInt 64 (n16 x) = BitVec.ofNat 64 x.toNat := fun x => by unfold n16; rw [BitVec.ofInt_natCast]
  show IntKind.wrap .i64 ((BitVec.ofInt 64 (n16 a) ^^^ BitVec.ofInt 64 (n16 b)).toNat : Int) = _
  have hx : a.toNat ^^^ b.toNat < 2 ^ 16 := Nat.xor_lt_two_pow ha hb
  rw [e, e, BitVec.toNat_xor, BitVec.toNat_ofNat, BitVec.toNat_ofNat, Nat.mod_eq_of_lt (by omega), Nat.mod_eq_of_lt (by omega), w64_of (by omega) (by omega)]
  unfold n16
  rw [BitVec.toNat_xor]
theorem xor64c (a : BitVec 16) : bits .xor .i64 (n16 a) 4129 = n16 (a ^^^ 0x1021#16) := xor64 a 0x1021#16
theorem two16 (a : BitVec 16) : 2 * n16 a % 65536 = n16 (a <<< 1) := by
  unfold n16
  rw [BitVec.toNat_shiftLeft, Nat.shiftLeft_eq]; omega
theorem two8 (a : BitVec 8) : 2 * n8 a % 256 = n8 (a <<< 1) := by
  unfold n8
  rw [BitVec.toNat_shiftLeft, Nat.shiftLeft_eq]; omega
theorem high16 (r : BitVec 16) (x : BitVec 8) : (n16 r / 32768 != n8 x / 128 % 2) = (r ^^^ (x.setWidth 16 <<< 8)).msb := by
  have h1 : n16 r / 32768 = if r.msb then 1 else 0 := by
    rw [BitVec.msb_eq_decide]; unfold n16; have := r.isLt
    by_cases h : 2 ^ (16 - 1) ≤ r.toNat
    · simp only [h, decide_true, if_true]; simp at h; omega
    · simp only [h, decide_false]; simp at h; simp; omega
  have h2 : n8 x / 128 % 2 = if x.msb then 1 else 0 := by
    rw [BitVec.msb_eq_decide]; unfold n8; have := x.isLt
    by_cases h : 2 ^ (8 - 1) ≤ x.toNat
    · simp only [h, decide_true, if_true]; simp at h; omega
    · simp only [h, decide_false]; simp at h; simp; omega
  have h3 : (x.setWidth 16 <<< 8).msb = x.msb := by simp [BitVec.msb_eq_getLsbD_last]
  rw [h1, h2, BitVec.msb_xor, h3]
  cases r.msb <;> cases x.msb <;> rfl
theorem step8 : ∀ x : BitVec 8, (x <<< 1).setWidth 16 <<< 8 = (x.setWidth 16 <<< 8) <<< 1 := by decide +kernel
theorem step16 (r : BitVec 16) (x : BitVec 8) : (r <<< 1) ^^^ ((x <<< 1).setWidth 16 <<< 8) = (r ^^^ (x.setWidth 16 <<< 8)) <<< 1 := by
  rw [step8, BitVec.shiftLeft_xor_distrib]
theorem ct_ref02_Can (k : Int) : Ct Tryd.prog G0 26 [vi k] [] (vb (canP k)) [] := by
  refine callV_ic hm (fn := Tryd.f26) rfl ic26_eq ic26_nm ic26_ok (by simp) ?_
  simp -dsimp [ic26]
  repeat' first
    | simp -dsimp [*]
    | (with_reducible refine brV.intro (fun h => ?_) (fun h => ?_))
    | (with_reducible refine exitV.cut (by simp) (by simp) (by simp) (by simp) ⟨?_, by simp⟩)
    | (with_reducible refine ordI (by kernel_rfl) ?_)
  all_goals first | rfl | (simp only [canP, *]; simp; done) | (simp_all [canP]; done) | (simp_all [canP]; intros; omega)
theorem good_pos {l : List Flt} {q : Nat} (h : allB (goodF l) q = true) : ∀ k : Nat, k < q → 0 < (atF l k).kind
  | 0, hk => by
    have := allB_iff.1 h 0 hk
    simp [goodF] at this; omega
  | k + 1, hk => by
    have := allB_iff.1 h (k + 1) hk
    have ih := good_pos h k (by omega)
    simp [goodF] at this; omega
set_option maxRecDepth 100000 in
set_option maxHeartbeats 8000000 in
theorem ct_ref_Right (l : List Flt) (hb : l.length < top) : Ct Tryd.prog G0 19 [.ro 2 (flts l)] [] (vb (rightB l)) [] := by
  refine callV_ic hm (fn := Tryd.f19) rfl ic19_eq ic19_nm ic19_ok (by simp) ?_
  simp -dsimp [ic19]
  refine Ti.loopW hm (fun k s => ∃ q : Nat, q + k = l.length ∧ allB (goodF l) q = true ∧ s = { t := [(6, vi q), (5, vi l.length), (0, .ro 2 (flts l))], d := [], h := [] }) (k := l.length) ?_ ?_
  · exact Wk.sub [(6, vi (0 : Nat)), (5, vi l.length), (0, .ro 2 (flts l))] (by simp) (Wk.now ⟨0, by omega, by simp [allB], by simp⟩)
  rintro k s ⟨q, hq, ha, rfl⟩
  simp -dsimp
  refine brV.intro (fun hlt => ?_) (fun hlt => ?_)
  rotate_left
  · have : q = l.length := by simp at hlt; omega
    subst this
    simp -dsimp
    exact exitV.cut (by simp) (by simp) (by simp) (by simp) ⟨by simp [rightB, ha], by simp⟩
  have hlt : q < l.length := by simpa using hlt
  have hw := wq hlt hb
  have hlb := hb
  unfold top at hlb
  have can := ct_ref02_Can (atF l q).kind
  have pos := good_pos ha
  have bad : goodF l q = false → rightB l = false := fun h => allB_false hlt h
  by_cases g2 : canP (atF l q).kind = true
  rotate_left
  · have res : rightB l = false := bad (by
      rcases q with _ | p
      · simp [canP] at g2; simp [goodF]; intros; omega
      · have := pos p (by omega); simp [canP] at g2; simp [goodF]; intros; omega)
    have g2 : canP (atF l q).kind = false := by simpa using g2
    repeat' first
      | simp -dsimp [hlt, g2]
      | (with_reducible refine (CallD.pure (can) (by simp) ?_))
      | (with_reducible refine ordI (by kernel_rfl) ?_)
      | exact exitV.cut (by simp) (by simp) (by simp) (by simp) ⟨by simp [res], by simp⟩
  by_cases g3 : (atF l q).tick < 0
  · have res : rightB l = false := bad (by simp [goodF]; intros; omega)
    repeat' first
      | simp -dsimp [hlt, g2, g3]
      | (with_reducible refine (CallD.pure (can) (by simp) ?_))
      | (with_reducible refine ordI (by kernel_rfl) ?_)
      | exact exitV.cut (by simp) (by simp) (by simp) (by simp) ⟨by simp [res], by simp⟩
  by_cases g4 : 1099511627775 < (atF l q).tick
  · have res : rightB l = false := bad (by simp [goodF]; intros; omega)
    repeat' first
      | simp -dsimp [hlt, g2, g3, g4]
      | (with_reducible refine (CallD.pure (can) (by simp) ?_))
      | (with_reducible refine ordI (by kernel_rfl) ?_)
      | exact exitV.cut (by simp) (by simp) (by simp) (by simp) ⟨by simp [res], by simp⟩
  by_cases hq0 : q = 0
  · have good : goodF l q = true := by simp [canP] at g2; simp [goodF, hq0]; subst hq0; omega
    have g5 : ¬ 0 < q := by omega
    repeat' first
      | simp -dsimp [hlt, g2, g3, g4, g5, hw]
      | (with_reducible refine (CallD.pure (can) (by simp) ?_))
      | (with_reducible refine ordI (by kernel_rfl) ?_)
    exact ⟨k - 1, by omega, Wk.sub [(6, vi ((q + 1 : Nat) : Int)), (5, vi l.length), (0, .ro 2 (flts l))] (by simp) (Wk.now ⟨q + 1, by omega, allB_succ ha good, rfl⟩)⟩
  have g5 : 0 < q := by omega
  have w1 : IntKind.wrap .i64 ((q : Int) - 1) = ((q - 1 : Nat) : Int) := by rw [w64_of (by omega) (by omega)]; omega
  have hlt1 : q - 1 < l.length := by omega
  by_cases g6 : (atF l q).kind ≤ (atF l (q - 1)).kind
  · have res : rightB l = false := bad (by simp [goodF, hq0]; intros; omega)
    repeat' first
      | simp -dsimp [hlt, g2, g3, g4, g5, w1, hlt1, g6]
      | (with_reducible refine (CallD.pure (can) (by simp) ?_))
      | (with_reducible refine ordI (by kernel_rfl) ?_)
      | exact exitV.cut (by simp) (by simp) (by simp) (by simp) ⟨by simp [res], by simp⟩
  · have good : goodF l q = true := by simp [canP] at g2; simp [goodF, hq0]; omega
    repeat' first
      | simp -dsimp [hlt, g2, g3, g4, g5, w1, hlt1, g6, hw]
      | (with_reducible refine (CallD.pure (can) (by simp) ?_))
      | (with_reducible refine ordI (by kernel_rfl) ?_)
    exact ⟨k - 1, by omega, Wk.sub [(6, vi ((q + 1 : Nat) : Int)), (5, vi l.length), (0, .ro 2 (flts l))] (by simp) (Wk.now ⟨q + 1, by omega, allB_succ ha good, rfl⟩)⟩
set_option maxRecDepth 100000 in
theorem ct_ref_Sum (b : List (BitVec 8)) (hb : b.length < top) : Ct Tryd.prog G0 7 [.ro 1 (bys b)] [] (vi (n16 (crc b))) [] := by
  refine callV_ic hm (fn := Tryd.f7) rfl ic7_eq ic7_nm ic7_ok (by simp) ?_
  simp -dsimp [ic7]
  refine Ti.loopW hm (fun k s => ∃ q : Nat, q + k = b.length ∧ s = { t := [(10, vi q), (9, vi b.length), (0, .ro 1 (bys b)), (3, vi (n16 (crcF 0xffff#16 (b.take q))))], d := [], h := [] }) (k := b.length) ?_ ?_
  · exact Wk.sub [(10, vi (0 : Nat)), (9, vi b.length), (0, .ro 1 (bys b)), (3, vi 65535)] (by simp) (Wk.now ⟨0, by omega, by simp [crcF, n16]⟩)
  rintro k s ⟨q, hq, rfl⟩
  generalize hr : crcF 0xffff#16 (b.take q) = r
  simp -dsimp
  refine brV.intro (fun hlt => ?_) (fun hlt => ?_)
  rotate_left
  · have : q = b.length := by simp at hlt; omega
    subst this
    simp -dsimp
    refine exitV.cut (by simp) (by simp) (by simp) (by simp) ⟨?_, by simp⟩
    rw [← hr, List.take_length]; rfl
  have hlt : q < b.length := by simpa using hlt
  have hw := wq hlt hb
  have hnext : crcF 0xffff#16 (b.take (q + 1)) = stB r (byAt b q) := by
    rw [← hr, List.take_add_one, List.getElem?_eq_getElem hlt, crcF_app]
    simp [byAt, List.getD, hlt, crcF]
  have w8 := wrap_n8 (byAt b q)
  repeat' first
    | simp -dsimp [hlt, w8]
    | (with_reducible refine ordI (by kernel_rfl) ?_)
  generalize byAt b q = x at *
  obtain ⟨r0, hr0⟩ : ∃ r0, r0 = r ^^^ (x.setWidth 16 <<< 8) := ⟨_, rfl⟩
  refine Ti.loopW hm (fun j s => ∃ (n : Nat) (rr : BitVec 16) (xx : BitVec 8), n + j = 8 ∧ xx = x <<< n ∧ rr ^^^ (xx.setWidth 16 <<< 8) = tN n r0 ∧ s = { t := [(6, vi n), (3, vi (n16 rr)), (5, vi (n8 xx)), (10, vi q), (9, vi b.length), (0, .ro 1 (bys b))], d := [], h := [] }) (k := 8) ?_ ?_
  · exact Wk.sub [(6, vi (0 : Nat)), (3, vi (n16 r)), (5, vi (n8 x)), (10, vi q), (9, vi b.length), (0, .ro 1 (bys b))] (by simp) (Wk.now ⟨0, r, x, by omega, by simp, by simp [hr0, tN], rfl⟩)
  rintro j s ⟨n, rr, xx, hn, hx, hR, rfl⟩
  simp -dsimp
  refine brV.intro (fun hl8 => ?_) (fun hl8 => ?_)
  rotate_left
  · have : n = 8 := by simp at hl8; omega
    subst this
    have hx0 : xx = 0#8 := by rw [hx]; simp
    rw [hx0] at hR
    have hR' : rr = tN 8 r0 := by rw [← hR]; simp
    repeat' first
      | simp -dsimp [hw]
      | (with_reducible refine ordI (by kernel_rfl) ?_)
    exact ⟨k - 1, by omega, Wk.sub [(10, vi (q + 1 : Nat)), (9, vi b.length), (0, .ro 1 (bys b)), (3, vi (n16 rr))] (by simp) (Wk.now ⟨q + 1, by omega, by rw [hnext, hR', hr0]; rfl⟩)⟩
  have hl8 : n < 8 := by simp at hl8; omega
  have hl8' : (n : Int) < 8 := by omega
  have wn := wq (q := n) (n := 8) hl8 (by unfold top; omega)
  have b1 := n16_bd rr
  have b2 := n8_bd xx
  have e1 : IntKind.wrap .i64 (2 * n16 rr) = 2 * n16 rr := w64_of (by omega) (by omega)
  have e2 : IntKind.wrap .i64 (2 * n8 xx) = 2 * n8 xx := w64_of (by omega) (by omega)
  have e3 : (2 * n16 rr).tmod 65536 = n16 (rr <<< 1) := by rw [Int.tmod_eq_emod_of_nonneg (by omega)]; exact two16 rr
  have e4 : (2 * n8 xx).tmod 256 = n8 (xx <<< 1) := by rw [Int.tmod_eq_emod_of_nonneg (by omega)]; exact two8 xx
  have hh : (IntKind.wrap .i64 ((n16 rr).tdiv 32768) != (IntKind.wrap .i64 ((n8 xx).tdiv 128)).tmod 2) = (rr ^^^ (xx.setWidth 16 <<< 8)).msb := by
    rw [← high16, Int.tdiv_eq_ediv_of_nonneg (by omega), Int.tdiv_eq_ediv_of_nonneg (by omega), w64_of (by omega) (by omega), w64_of (by omega) (by omega), Int.tmod_eq_emod_of_nonneg (by omega)]
  rw [hR] at hh
  have hx' : xx <<< 1 = x <<< (n + 1) := by rw [hx, BitVec.shiftLeft_add]
  have hs := step16 rr xx
  rw [hR] at hs
  cases hm' : (tN n r0).msb
  · rw [hm'] at hh
    have hR2 : (rr <<< 1) ^^^ ((xx <<< 1).setWidth 16 <<< 8) = tN (n + 1) r0 := by rw [hs, tN_succ, tS, hm']; simp
    repeat' first
      | simp -dsimp [hl8, hl8', e1, e2, e3, e4, hh, wn]
      | (with_reducible refine ordI (by kernel_rfl) ?_)
    exact ⟨j - 1, by omega, Wk.sub [(6, vi (n + 1 : Nat)), (3, vi (n16 (rr <<< 1))), (5, vi (n8 (xx <<< 1))), (10, vi q), (9, vi b.length), (0, .ro 1 (bys b))] (by simp) (Wk.now ⟨n + 1, rr <<< 1, xx <<< 1, by omega, hx', hR2, rfl⟩)⟩
  · rw [hm'] at hh
    have hR2 : ((rr <<< 1) ^^^ 0x1021#16) ^^^ ((xx <<< 1).setWidth 16 <<< 8) = tN (n + 1) r0 := by
      rw [tN_succ, tS, hm', if_pos rfl, ← hs]
      generalize rr <<< 1 = u
      generalize (xx <<< 1).setWidth 16 <<< 8 = v
      rw [BitVec.xor_assoc, BitVec.xor_comm 0x1021#16 v, ← BitVec.xor_assoc]
    have e5 := xor64c (rr <<< 1)
    repeat' first
      | simp -dsimp [hl8, hl8', e1, e2, e3, e4, e5, hh, wn]
      | (with_reducible refine ordI (by kernel_rfl) ?_)
    exact ⟨j - 1, by omega, Wk.sub [(6, vi (n + 1 : Nat)), (3, vi (n16 ((rr <<< 1) ^^^ 0x1021#16))), (5, vi (n8 (xx <<< 1))), (10, vi q), (9, vi b.length), (0, .ro 1 (bys b))] (by simp) (Wk.now ⟨n + 1, (rr <<< 1) ^^^ 0x1021#16, xx <<< 1, by omega, hx', hR2, rfl⟩)⟩
end Go.Proofs.YtfhpojedoijghaaDoor
