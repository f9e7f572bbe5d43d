/- Contracts of functions of the seat's program, and what follows of them: Yb. Conditions are in each statement. -/
import Derived.Test.YtfhpojedoijghaaDoorYa
set_option linter.unusedSimpArgs false
set_option linter.unusedVariables false
namespace Go.Proofs.YtfhpojedoijghaaDoor
open Go Go.Proofs Go.Vm

theorem bys_fills (b : List (BitVec 8)) : (∀ x : V, x ∈ bys b → x.fills = true) ↔ True := by
  refine iff_true_intro fun x hx => ?_
  simp only [bys, List.mem_map] at hx
  obtain ⟨y, _, rfl⟩ := hx
  rfl
theorem wrap_lo' (c : BitVec 16) : IntKind.wrap .u8 (n16 c % 256) = n8 (lo8 c) := by
  rw [← wrap_lo]
  have := n16_bd c
  simp only [IntKind.wrap, IntKind.signed, IntKind.bits]
  simp
set_option maxRecDepth 100000 in
set_option maxHeartbeats 8000000 in
theorem ct_sealed (b : List (BitVec 8)) (hb : b.length ≤ 1000) : Ct Tryd.prog G0 22 [.ro 1 (bys b)] [] (.ro 1 (bys (b ++ [hi8 (crc b), lo8 (crc b)]))) [] := by
  have s1 := ct_ref_Sum b (by unfold top; omega)
  obtain ⟨c, hc⟩ : ∃ c, c = crc b := ⟨_, rfl⟩
  rw [← hc] at s1 ⊢
  have hby : Tryd.prog.bytesOf 5 = 1 := by kernel_rfl
  have y1 : b.length ≤ 140737488355328 := by omega
  have y2 : b.length ≤ 9223372036854775807 := by omega
  have y3 : b.length + 2 ≤ 140737488355328 := by omega
  have y4 : b.length + 2 ≤ 9223372036854775807 := by omega
  have f1 : bys b ++ [b8 (hi8 c), b8 (lo8 c)] = bys (b ++ [hi8 c, lo8 c]) := by rw [bys_app]; rfl
  have bd := n16_bd c
  have t1 : (n16 c).tdiv 256 = n16 c / 256 := Int.tdiv_eq_ediv_of_nonneg (by omega)
  have t2 : IntKind.wrap .i64 (n16 c / 256) = n16 c / 256 := w64_of (by omega) (by omega)
  have t3 : (n16 c).tmod 256 = n16 c % 256 := Int.tmod_eq_emod_of_nonneg (by omega)
  have r1 := rows_bys (b ++ [hi8 c, lo8 c])
  have l1 : (b ++ [hi8 c, lo8 c]).length = b.length + 2 := by simp
  rw [l1] at r1
  refine callV_ic hm (fn := Tryd.f22) rfl ic22_eq ic22_nm ic22_ok (by simp) ?_
  simp -dsimp [ic22]
  repeat' first
    | simp -dsimp [hby, y1, y2, y3, y4, t1, t2, t3, wrap_hi, wrap_lo', f1, bys_fills]
    | (with_reducible refine (CallD.pure (s1) (by simp) ?_).callV)
    | (with_reducible refine ordI (by kernel_rfl) ?_)
  generalize b ++ [hi8 c, lo8 c] = x at *
  obtain ⟨M, hM⟩ : ∃ M, M = b.length + 2 := ⟨_, rfl⟩
  rw [← hM] at r1 l1 ⊢
  refine exitV.freeze 3 _ _ false rfl (by simp [l1]) ?_
  simp -dsimp [r1]
  exact exitV.cut (by simp) (by simp) (by simp) (by simp) ⟨rfl, by simp⟩
theorem byI_mod (x : Int) : byI (x % 256) = byI x := n8_inj (by rw [n8_mod, n8_mod]; omega)
set_option maxRecDepth 100000 in
set_option maxHeartbeats 8000000 in
theorem ct_ref_Write (l : List Flt) (hb : l.length < top) (hr : rightB l = true) : Ct Tryd.prog G0 13 [.ro 2 (flts l)] [] (.tup [.ro 1 (bys (recR l)), vb true]) [] := by
  have h11 := right_len hr
  have rk := right_kind hr
  have l1 : IntKind.wrap .u8 (l.length : Int) = n8 (byI l.length) := n8_byI _
  have rg := ct_ref_Right l hb
  rw [hr] at rg
  refine callV_ic hm (fn := Tryd.f13) rfl ic13_eq ic13_nm ic13_ok (by simp) ?_
  simp -dsimp [ic13]
  repeat' first
    | simp -dsimp [l1]
    | (with_reducible refine (CallD.pure (rg) (by simp) ?_).callV)
    | (with_reducible refine ordI (by kernel_rfl) ?_)
  refine Ti.loopW hm (fun k s => ∃ (q : Nat) (out : List (BitVec 8)), q + k = l.length ∧ out = 76#8 :: byI l.length :: encs (l.take q) ∧ s = { t := [(16, vi q), (15, vi l.length), (0, .ro 2 (flts l)), (4, .sl 1 0 0 out.length)], d := [], h := [.cells 5 (bys out)] }) (k := l.length) ?_ ?_
  · exact Wk.sub [(16, vi (0 : Nat)), (15, vi l.length), (0, .ro 2 (flts l)), (4, .sl 1 0 0 2)] (by simp) (Wk.now ⟨0, _, by omega, rfl, by simp [encs, bys, n8]⟩)
  rintro k s ⟨q, out, hq, ho, rfl⟩
  have olen : out.length ≤ 68 := by rw [ho]; simp [encs_length]; omega
  obtain ⟨m, hm'⟩ : ∃ m, m = out.length := ⟨_, rfl⟩
  rw [← hm'] at olen ⊢
  have hby : Tryd.prog.bytesOf 5 = 1 := by kernel_rfl
  have y1 : m + 1 ≤ 140737488355328 := by omega
  have z1 : m + 1 ≤ 9223372036854775807 := by omega
  have y6 : m + 1 + 5 ≤ 140737488355328 := by omega
  have z6 : m + 1 + 5 ≤ 9223372036854775807 := by omega
  simp -dsimp
  refine brV.intro (fun hlt => ?_) (fun hlt => ?_)
  · have hlt : q < l.length := by simpa using hlt
    have hw := wq hlt hb
    have fk := rk q hlt
    have tk : ∀ d : Int, 0 < d → (atF l q).tick.tdiv d = (atF l q).tick / d := fun d _ => Int.tdiv_eq_ediv_of_nonneg (by omega)
    have d1 := tk 4294967296 (by decide)
    have d2 := tk 16777216 (by decide)
    have d3 := tk 65536 (by decide)
    have d4 := tk 256 (by decide)
    have w1 : IntKind.wrap .i64 ((atF l q).tick / 4294967296) = (atF l q).tick / 4294967296 := w64_of (by omega) (by omega)
    have w2 : IntKind.wrap .i64 ((atF l q).tick / 16777216) = (atF l q).tick / 16777216 := w64_of (by omega) (by omega)
    have w3 : IntKind.wrap .i64 ((atF l q).tick / 65536) = (atF l q).tick / 65536 := w64_of (by omega) (by omega)
    have w4 : IntKind.wrap .i64 ((atF l q).tick / 256) = (atF l q).tick / 256 := w64_of (by omega) (by omega)
    have tm : ∀ x : Int, 0 ≤ x → x.tmod 256 = x % 256 := fun x hx => Int.tmod_eq_emod_of_nonneg hx
    have m2 := tm ((atF l q).tick / 16777216) (by omega)
    have m3 := tm ((atF l q).tick / 65536) (by omega)
    have m4 := tm ((atF l q).tick / 256) (by omega)
    have m5 := tm (atF l q).tick (by omega)
    have hcell : bys out ++ [b8 (byI (atF l q).kind), b8 (byI ((atF l q).tick / 4294967296)), b8 (byI ((atF l q).tick / 16777216)), b8 (byI ((atF l q).tick / 65536)), b8 (byI ((atF l q).tick / 256)), b8 (byI (atF l q).tick)] = bys (out ++ encF (atF l q)) := by rw [bys_app]; rfl
    repeat' first
      | simp -dsimp [hlt, hby, y1, z1, y6, z6, ← hm', n8_byI, d1, d2, d3, d4, w1, w2, w3, w4, m2, m3, m4, m5, byI_mod]
      | (with_reducible refine ordI (by kernel_rfl) ?_)
    exact ⟨k - 1, by omega, Wk.some [4] [.cells 5 (bys (out ++ encF (atF l q)))] [(16, vi (q + 1 : Nat)), (15, vi l.length), (0, .ro 2 (flts l)), (4, .sl 1 0 0 (out ++ encF (atF l q)).length)] rfl (by simp [hcell]) (by simp) (by simp) (by simp) (by simp [rho, hw, ← hm']) (by simp)
      (Wk.now ⟨q + 1, out ++ encF (atF l q), by omega, by rw [encs_succ hlt, ho]; simp, rfl⟩)⟩
  · have hqe : q = l.length := by simp at hlt; omega
    have hob : out = bodyR l := by rw [ho, hqe, List.take_length]; rfl
    have hs := ct_sealed out (by omega)
    rw [show out ++ [hi8 (crc out), lo8 (crc out)] = recR l by rw [hob]; rfl] at hs
    simp -dsimp
    refine CallV.freeze 0 5 (bys out) false (by simp) (by simp [← hm']) ?_
    have ro := rows_bys out
    rw [← hm'] at ro
    simp -dsimp [ro]
    refine (CallD.pure hs (by simp) ?_).callV
    repeat' first
      | simp -dsimp
      | (with_reducible refine ordI (by kernel_rfl) ?_)
    exact exitV.cut (by simp) (by simp) (by simp) (by simp) ⟨rfl, by simp⟩
theorem ct_ref_WriteBad (l : List Flt) (hb : l.length < top) (hr : rightB l = false) : Ct Tryd.prog G0 13 [.ro 2 (flts l)] [] (.tup [.c (.slice none 0 0), vb false]) [] := by
  have rg := ct_ref_Right l hb
  rw [hr] at rg
  refine callV_ic hm (fn := Tryd.f13) rfl ic13_eq ic13_nm ic13_ok (by simp) ?_
  simp -dsimp [ic13]
  repeat' first
    | simp -dsimp
    | (with_reducible refine (CallD.pure (rg) (by simp) ?_).callV)
    | (with_reducible refine ordI (by kernel_rfl) ?_)
  exact exitV.cut (by simp) (by simp) (by simp) (by simp) ⟨rfl, by simp⟩
end Go.Proofs.YtfhpojedoijghaaDoor
