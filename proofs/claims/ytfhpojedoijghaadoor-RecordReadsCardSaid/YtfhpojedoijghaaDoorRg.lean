/- Contracts of functions of the seat's program, and what follows of them: Rg. Conditions are in each statement. -/
import Derived.Test.YtfhpojedoijghaaDoorRf
set_option linter.unusedSimpArgs false
set_option linter.unusedVariables false
namespace Go.Proofs.YtfhpojedoijghaaDoor
open Go Go.Proofs Go.Vm

def nParts (b : List (BitVec 8)) : Nat := (byAt b 1).toNat
def payload (b : List (BitVec 8)) : List (BitVec 8) := (b.drop 2).take (b.length - 4)
def partL (xs : List (BitVec 8)) (q : Nat) : Flt := oneF ((xs.drop (6 * q)).take 6)
def readL (b : List (BitVec 8)) : List Flt := (List.range (nParts b)).map (partL (payload b))
@[simp] theorem readL_length (b : List (BitVec 8)) : (readL b).length = nParts b := by simp [readL]
theorem readL_take (b : List (BitVec 8)) (q : Nat) (h : q < nParts b) : (readL b).take (q + 1) = (readL b).take q ++ [partL (payload b) q] := by
  rw [List.take_add_one, List.getElem?_eq_getElem (by simpa using h)]
  simp only [readL, List.getElem_map, List.getElem_range, Option.toList_some]
def readR (b : List (BitVec 8)) : Except (List UInt8) (List Flt) :=
  if b.length < 4 ∨ b.length ≠ 4 + 6 * nParts b then .error [108, 101, 110, 103, 116, 104] else
  if crc b ≠ 0#16 then .error [115, 117, 109] else
  if byAt b 0 ≠ 76#8 then .error [109, 97, 114, 107] else
  if rightB (readL b) = false then .error [102, 97, 117, 108, 116] else .ok (readL b)
def readV : Except (List UInt8) (List Flt) → V
  | .ok l => .tup [.ro 2 (flts l), .c .nilIface]
  | .error p => .tup [.c (.slice none 0 0), badV p]
theorem n8_nat (x : BitVec 8) : n8 x = (x.toNat : Int) := rfl
theorem n16_zero (r : BitVec 16) : (n16 r != 0) = !decide (r = 0#16) := by
  by_cases h : r = 0#16
  · subst h; rfl
  · have : r.toNat ≠ 0 := fun e => h (BitVec.eq_of_toNat_eq (by simpa using e))
    simp [n16, h, this]
theorem n8_76 (x : BitVec 8) : (n8 x != 76) = !decide (x = 76#8) := by
  by_cases h : x = 76#8
  · subst h; rfl
  · have : x.toNat ≠ 76 := fun e => h (BitVec.eq_of_toNat_eq (by simpa using e))
    simp [n8, h]; omega
theorem ct_rightB (l : List Flt) (hb : l.length < top) : Ct Tryd.prog G0 18 [.sl 2 0 0 l.length] [.cells 45 (fltC l)] (vb (rightB l)) [.cells 45 (fltC l)] := by
  have e : frzL 0 (fltC l) true [.sl 2 0 0 l.length] = [.ro 2 (flts l)] := by simp [rows_flts]
  refine Ct.lend (g := true) (by simp; omega) (by rw [e]; simp) ?_
  rw [e]
  exact ct_right l hb
theorem ct_right0 : Ct Tryd.prog G0 18 [.c (.slice none 0 0)] [] (vb true) [] :=
  CallV.args (fun _ _ h => cnL_nil [] h) (ct_right [] (by decide))
theorem cn_tup_nil {e : En} {y : Value} {z : Nat} {v : V} (h : Cn e (.tup [.c (.slice none 0 0), v]) y) : Cn e (.tup [.ro z [], v]) y := by
  simp only [Cn, CnL] at h ⊢
  obtain ⟨ys, hy, x1, xs, h1, h2, x2, xs2, h3, h4, h5⟩ := h
  exact ⟨ys, hy, x1, xs, h1, ⟨none, 0, h2, Nat.le_refl _, .inl trivial⟩, x2, xs2, h3, h4, h5⟩
set_option maxRecDepth 100000 in
set_option maxHeartbeats 8000000 in
theorem ct_Read (b : List (BitVec 8)) (hb : b.length < top) : Ct Tryd.prog G0 8 [.ro 1 (bys b)] [] (readV (readR b)) [] := by
  refine callV_ic hm (fn := Tryd.f8) rfl ic8_eq ic8_nm ic8_ok (by simp) ?_
  simp -dsimp [ic8]
  by_cases c1 : b.length < 4
  · have c1' : (b.length : Int) < 4 := by omega
    repeat' first
      | simp -dsimp [c1']
      | (with_reducible refine (CallD.pure (ct_wrong _) (by simp) ?_).callV)
      | exact exitV.cut (by simp) (by simp) (by simp) (by simp) ⟨by simp [readR, c1, readV], by simp⟩
  have c1' : ¬ (b.length : Int) < 4 := by omega
  have d1 : 1 < b.length := by omega
  have d0 : 0 < b.length := by omega
  have d1' : (1 : Int) < b.length := by omega
  have d0' : (0 : Int) < b.length := by omega
  have bnn : b ≠ [] := fun e => by rw [e] at d0; simp at d0
  have nb := n8_bd (byAt b 1)
  have e1 : IntKind.wrap .i64 (n8 (byAt b 1)) = n8 (byAt b 1) := wrap_n8 _
  have e2 : IntKind.wrap .i64 (6 * n8 (byAt b 1)) = 6 * n8 (byAt b 1) := w64_of (by omega) (by omega)
  have e3 : IntKind.wrap .i64 (2 + 6 * n8 (byAt b 1)) = 2 + 6 * n8 (byAt b 1) := w64_of (by omega) (by omega)
  have e4 : IntKind.wrap .i64 (2 + 6 * n8 (byAt b 1) + 2) = 2 + 6 * n8 (byAt b 1) + 2 := w64_of (by omega) (by omega)
  have nn : n8 (byAt b 1) = (nParts b : Int) := rfl
  by_cases c2 : b.length = 4 + 6 * nParts b
  rotate_left
  · have c2' : ((b.length : Int) != 2 + 6 * n8 (byAt b 1) + 2) = true := by rw [nn]; simp; omega
    repeat' first
      | simp -dsimp [c1', d1, d1', d0', bnn, e1, e2, e3, e4, c2']
      | (with_reducible refine (CallD.pure (ct_wrong _) (by simp) ?_).callV)
      | exact exitV.cut (by simp) (by simp) (by simp) (by simp) ⟨by simp [readR, c2, readV], by simp⟩
  have c2' : ((b.length : Int) != 2 + 6 * n8 (byAt b 1) + 2) = false := by rw [nn]; simp; omega
  have r1 : ¬ (b.length < 4 ∨ b.length ≠ 4 + 6 * nParts b) := by omega
  have sum := ct_Sum b hb
  have c3' := n16_zero (crc b)
  by_cases c3 : crc b = 0#16
  rotate_left
  · simp only [c3, decide_false, Bool.not_false] at c3'
    repeat' first
      | simp -dsimp [c1', d1, d1', d0', bnn, e1, e2, e3, e4, c2', c3']
      | (with_reducible refine (CallD.pure (sum) (by simp) ?_).callV)
      | (with_reducible refine (CallD.pure (ct_wrong _) (by simp) ?_).callV)
      | exact exitV.cut (by simp) (by simp) (by simp) (by simp) ⟨by simp [readR, r1, c3, readV], by simp⟩
  simp only [c3, decide_true, Bool.not_true] at c3'
  have c4' := n8_76 (byAt b 0)
  by_cases c4 : byAt b 0 = 76#8
  rotate_left
  · simp only [c4, decide_false, Bool.not_false] at c4'
    repeat' first
      | simp -dsimp [c1', d1, d1', d0', bnn, d0, e1, e2, e3, e4, c2', c3', c4', c3]
      | (with_reducible refine (CallD.pure (sum) (by simp) ?_).callV)
      | (with_reducible refine (CallD.pure (ct_wrong _) (by simp) ?_).callV)
      | exact exitV.cut (by simp) (by simp) (by simp) (by simp) ⟨by simp [readR, r1, c3, c4, readV], by simp⟩
  simp only [c4, decide_true, Bool.not_true] at c4'
  have c4'' : (n8 (76#8) != 76) = false := by rw [← c4]; rw [c4]; exact c4'
  have f1 : IntKind.wrap .i64 ((b.length : Int) - 2) = (b.length : Int) - 2 := w64_of (by omega) (by unfold top at hb; omega)
  have f2 : (2 : Int) ≤ (b.length : Int) - 2 := by omega
  have f3 : (b.length : Int) - 2 ≤ b.length := by omega
  have f4 : ((b.length : Int) - 2 - 2).toNat = b.length - 4 := by omega
  have pl : ((bys b).drop 2).take (b.length - 4) = bys (payload b) := by rw [bys_drop, bys_take]; rfl
  repeat' first
    | simp -dsimp [c1', d1, d1', d0', bnn, d0, e1, e2, e3, e4, c2', c3', c4', c3, c4, c4'', f1, f2, f3, f4, pl]
    | (with_reducible refine (CallD.pure (sum) (by simp) ?_).callV)
    | (with_reducible refine (CallD.fresh (ct_Chunk _) (by simp) ?_).callV)
  have hx : (payload b).length = 6 * nParts b := by simp [payload]; omega
  have hN : nParts b ≤ 255 := by unfold nParts; have := (byAt b 1).isLt; omega
  have hby : Tryd.prog.bytesOf 45 = 16 := by kernel_rfl
  refine Ti.wk (X := fun s2 => s2 = { t := [(4, .p 0 0), (39, .fn (.func 25) [] [.p 1 0, .p 2 0])], d := [], h := [.cells 27 [.c (.slice none 0 0)], .cells 22 [.ro 1 (bys (payload b))], .cells 3 [vi 6]] }) (Wk.sub [(4, .p 0 0), (39, .fn (.func 25) [] [.p 1 0, .p 2 0])] (by simp) (Wk.now rfl)) ?_
  rintro s2 rfl
  refine Ti.range rfl ?_
  intro ca cb ha hcb ka kb
  have he : okT (· < 5) (get [(4, .p 0 0), (39, .fn (.func 25) [] [.p 1 0, .p 2 0])]) := okT_get (by simp)
  have hte : ∀ k v, get [(4, .p 0 0)] k = some v → get [(4, .p 0 0), (39, .fn (.func 25) [] [.p 1 0, .p 2 0])] k = some v := subT_get (by simp)
  generalize hE : get [(4, .p 0 0), (39, .fn (.func 25) [] [.p 1 0, .p 2 0])] = env at *
  refine ct_chunk1 (l := readL b) (xs := payload b) (N := nParts b) hx (by omega) he ?_ ?_
  · intro q hq
    have hlen : (((payload b).drop (6 * q)).take 6).length = 6 := by simp; omega
    have one := ct_one _ hlen
    have htk := readL_take b q hq
    have y1 : (q + 1 + 1) * 16 ≤ 140737488355328 := by omega
    have y2 : q + 1 + 1 ≤ 9223372036854775807 := by omega
    rcases q with _ | q
    · simp only [Nat.mul_zero, List.drop_zero] at one
      refine YieldV.ofIC hm ha hcb ka kb rfl rfl [(4, .p 0 0)] hte (by simp) ?_
      simp -dsimp [stR]
      refine ⟨_, _, _, _, _, _, ⟨rfl, rfl, rfl, rfl, rfl, rfl⟩, ?_⟩
      repeat' first
        | simp -dsimp [hby, y1, y2]
        | (with_reducible refine (CallD.pure (one) (by simp) ?_))
        | (with_reducible refine ordI (by kernel_rfl) ?_)
      refine ⟨rfl, by kernel_rfl, _, _, _, _, _, _, _, ⟨rfl, rfl, rfl, rfl, rfl, rfl, rfl⟩, ?_⟩
      have f1 : fltC ((readL b).take 1) = [vi (oneF ((payload b).take 6)).kind, vi (oneF ((payload b).take 6)).tick] := by
        have := readL_take b 0 hq
        rw [Nat.zero_add] at this
        rw [this]; simp [fltC, partL]
      have hre : renT (rho [0, 1, 2, 3, 4, 6] 0) env = env := renT_same he rho6
      refine exitV.some' [0, 1, 2, 3, 4, 6] (stR env 51 #[40] ca cb (payload b) (readL b) 1) (by simp) (by simp [stR]) (fun i hi => rho6 i hi) ?_ (by simp) (by simp [stR]) ?_ ⟨rfl, rfl⟩
      · simp [stR, rho, hre, f1]
      · intro k hk
        simp only [stR, List.mem_cons, List.not_mem_nil, or_false] at hk
        rcases hk with rfl | rfl | rfl | rfl | rfl | rfl <;> simp [stR]
        exact okT_mono he fun i hi => by omega
    · 
      refine YieldV.ofIC hm ha hcb ka kb rfl rfl [(4, .p 0 0)] hte (by simp) ?_
      simp -dsimp [stR]
      refine ⟨_, _, _, _, _, _, ⟨rfl, rfl, rfl, rfl, rfl, rfl⟩, ?_⟩
      repeat' first
        | simp -dsimp [hby, y1, y2]
        | (with_reducible refine (CallD.pure (one) (by simp) ?_))
        | (with_reducible refine ordI (by kernel_rfl) ?_)
      refine ⟨rfl, ⟨by omega, by omega, by omega⟩, by kernel_rfl, _, _, _, _, _, _, _, ⟨rfl, rfl, rfl, rfl, rfl, rfl, rfl⟩, ?_⟩
      have f1 : fltC ((readL b).take (q + 1)) ++ [vi (oneF (((payload b).drop (6 * (q + 1))).take 6)).kind, vi (oneF (((payload b).drop (6 * (q + 1))).take 6)).tick] = fltC ((readL b).take (q + 2)) := by
        have := readL_take b (q + 1) hq
        rw [this, fltC_app]; rfl
      rw [f1]
      have hre : renT (rho [0, 1, 2, 3, 4, 5, 7] 0) env = env := renT_same he fun i hi => rho7 i (by omega)
      refine exitV.some' [0, 1, 2, 3, 4, 5, 7] (stN env 51 #[40] ca cb (payload b) (readL b) (q + 1)) (by simp) (by simp [stR]) (fun i hi => rho7 i hi) ?_ (by simp) (by simp [stN]) ?_ ⟨rfl, rfl⟩
      · simp [stN, rho, hre]
      · intro k hk
        simp only [stN, List.mem_cons, List.not_mem_nil, or_false] at hk
        rcases hk with rfl | rfl | rfl | rfl | rfl | rfl | rfl <;> simp [stN]
        exact okT_mono he fun i hi => by omega
  · rcases hNp : nParts b with _ | M
    · have hnil : readL b = [] := List.eq_nil_of_length_eq_zero (by simp [hNp])
      refine ⟨_, _, _, _, _, _, _, rfl, by simp, ?_⟩
      simp -dsimp [jumpQ, stR]
      repeat' first
        | simp -dsimp [jumpQ, stR]
        | (with_reducible refine (CallD.pure (ct_right0) (by simp) ?_).callV)
      have hrr : readR b = .ok [] := by simp [readR, r1, c3, c4, hnil, rightB, allB]
      refine exitV.see (.tup [.ro 2 [], .c .nilIface]) (fun e y => cn_tup_nil) ?_
      exact exitV.cut (by simp) (by simp) (by simp) (by simp) ⟨by rw [hrr]; rfl, by simp⟩
    · refine ⟨_, _, _, _, _, _, _, rfl, by simp, ?_⟩
      have htk : (readL b).take (M + 1) = readL b := List.take_of_length_le (by simp [hNp])
      have hB := ct_rightB (readL b) (by simp [hNp]; unfold top; omega)
      have hrw : rows true 2 (M + 1) (fltC (readL b)) = flts (readL b) := by have := rows_flts (readL b); rwa [readL_length, hNp] at this
      rw [readL_length, hNp] at hB
      simp -dsimp [jumpQ, stR, htk]
      cases hR : rightB (readL b)
      · have hrr : readR b = .error [102, 97, 117, 108, 116] := by simp [readR, r1, c3, c4, hR]
        rw [hR] at hB
        repeat' first
          | simp -dsimp [jumpQ, stR, htk]
          | (with_reducible refine (CallD.look (i := 5) hB (by simp) rfl (by simp) (by simp) (by simp) ?_).callV)
          | (with_reducible refine (CallD.pure (ct_wrong _) (by simp) ?_).callV)
        exact exitV.cut (by simp) (by simp) (by simp) (by simp) ⟨by rw [hrr]; rfl, by simp⟩
      · have hrr : readR b = .ok (readL b) := by simp [readR, r1, c3, c4, hR]
        rw [hR] at hB
        repeat' first
          | simp -dsimp [jumpQ, stR, htk]
          | (with_reducible refine (CallD.look (i := 5) hB (by simp) rfl (by simp) (by simp) (by simp) ?_).callV)
        refine exitV.freeze 5 _ _ true rfl (by simp [hNp]; omega) ?_
        have hrw2 : V.agg ((fltC (readL b)).take 2) :: rows true 2 M ((fltC (readL b)).drop 2) = flts (readL b) := by rw [← hrw]; rfl
        simp -dsimp [hrw2]
        exact exitV.cut (by simp) (by simp) (by simp) (by simp) ⟨by rw [hrr]; rfl, by simp⟩
end Go.Proofs.YtfhpojedoijghaaDoor
