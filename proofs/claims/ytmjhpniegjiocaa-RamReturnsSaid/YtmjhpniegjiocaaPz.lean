/- Contracts of functions of the seat's program, and what follows of them: Pz. Conditions are in each statement. -/
import Derived.Test.YtmjhpniegjiocaaPy
set_option linter.unusedSimpArgs false
set_option linter.unusedVariables false
namespace Go.Proofs.Ytmjhpniegjiocaa
open Go Go.Proofs Go.Vm

theorem rem_len {l : List Int} {q : Nat} (hl : 0 < l.length) (hq : q < 9223372036854775807) : ∃ a : Nat, (q : Int).tmod (l.length : Int) = (a : Int) ∧ IntKind.wrap .i64 (a : Int) = (a : Int) ∧ a < l.length := by
  have h := Nat.mod_lt q hl
  have h2 := Nat.mod_le q l.length
  refine ⟨q % l.length, ?_, w64_of (by omega) (by omega), h⟩
  rw [Int.tmod_eq_emod_of_nonneg (by omega), Int.natCast_emod]
/-- What is known of the car while it isn't at its level. -/
def Ret (c : Cfg) (lv : Int) (q : Nat) (p v : Int) : Prop :=
  lv ≤ p ∨ (0 ≤ v ∧ v ≤ c.sh ∧ min ((q : Int) * c.ramp) c.sl ≤ v ∧ lowAt c lv q ≤ p)
set_option maxHeartbeats 16000000 in
set_option maxRecDepth 100000 in
theorem law_RamReturns (c : Cfg) (w below : Int) (fs ls : List Int) (hb : c.lv.length < top) (ho : c.op.length < top) (hw1 : 0 ≤ w) (hw2 : w ≤ 255) (hz : fs.length < top) (hy : ls.length < top) :
    CallV Try.prog G0 9 [c.enc, .c (.int .u8 w), vi below, .ro 1 (ints fs), .ro 1 (ints ls)] [] fun v _ => v = .c (.bool true) := by
  refine callV_ic hm (fn := Try.f9) rfl ic9_eq ic9_nm ic9_ok (by simp) ?_
  cases hf : fineB c
  · repeat' first
      | simp -dsimp [ic9, hf]
      | (with_reducible refine (CallD.pure (ct_law12_awake) (by simp) ?_).callV)
      | (with_reducible refine (CallD.pure (ct_law12_fine _ ho) (by simp) ?_).callV)
      | exact exitV.now rfl
  by_cases z1 : fs.length = 0
  · repeat' first
      | simp -dsimp [ic9, hf, z1]
      | (with_reducible refine (CallD.pure (ct_law12_awake) (by simp) ?_).callV)
      | (with_reducible refine (CallD.pure (ct_law12_fine _ ho) (by simp) ?_).callV)
      | exact exitV.now rfl
  have y1 : ((fs.length : Int) == 0) = false := beq_eq_false_iff_ne.2 (by omega)
  by_cases z2 : ls.length = 0
  · repeat' first
      | simp -dsimp [ic9, hf, y1, z2]
      | (with_reducible refine (CallD.pure (ct_law12_awake) (by simp) ?_).callV)
      | (with_reducible refine (CallD.pure (ct_law12_fine _ ho) (by simp) ?_).callV)
      | exact exitV.now rfl
  have y2 : ((ls.length : Int) == 0) = false := beq_eq_false_iff_ne.2 (by omega)
  by_cases z3 : 50 < (fs.length : Int)
  · repeat' first
      | simp -dsimp [ic9, hf, y1, y2, z3]
      | (with_reducible refine (CallD.pure (ct_law12_awake) (by simp) ?_).callV)
      | (with_reducible refine (CallD.pure (ct_law12_fine _ ho) (by simp) ?_).callV)
      | exact exitV.now rfl
  by_cases z4 : 50 < (ls.length : Int)
  · repeat' first
      | simp -dsimp [ic9, hf, y1, y2, z3, z4]
      | (with_reducible refine (CallD.pure (ct_law12_awake) (by simp) ?_).callV)
      | (with_reducible refine (CallD.pure (ct_law12_fine _ ho) (by simp) ?_).callV)
      | exact exitV.now rfl
  have g := fineB_good hf
  have hwR : wrongR c = [] := by simp only [fineB, Bool.and_eq_true, List.isEmpty_iff] at hf; exact hf.2
  have hw : wrongP c = [] := fine_iff.2 (fine_of_R hwR)
  have hp : 0 < c.lv.length := by have := g.h2; omega
  have hl0 : (c.lv.length : Int) ≠ 0 := by omega
  have hnil : c.lv ≠ [] := fun h => by rw [h] at hp; simp at hp
  have fnil : fs ≠ [] := fun h => by rw [h] at z1; simp at z1
  have lnil : ls ≠ [] := fun h => by rw [h] at z2; simp at z2
  obtain ⟨i, hil, hmod⟩ := which_mod g hw1
  have c1 : IntKind.wrap .i64 w = w := w64_of (by omega) (by omega)
  have c2 : IntKind.wrap .i64 (i : Int) = (i : Int) := w64_of (by omega) (by have := g.h16; omega)
  have n := nums_of g
  have n1 := n.lev; have n2 := n.cr; have n3 := n.va; have n4 := n.ha; have n5 := n.ne; have n6 := n.fh; have n7 := n.ne2
  have k1 := g.leak1; have k2 := g.leak2; have s1 := g.sl; have s2 := g.sh; have r1 := g.ramp1; have t1 := g.star1; have t2 := g.star2
  have hlb := lv_bd g hil
  have hbig : at0 c.lv i ≤ at0 c.lv (c.lv.length - 1) := mono_lv g (by omega) (by omega)
  have hlast := lv_bd g (k := c.lv.length - 1) (by omega)
  obtain ⟨d, hd⟩ : ∃ d, d = clampP below 0 c.vane := ⟨_, rfl⟩
  have hdb : 0 ≤ d ∧ d ≤ c.vane := by rw [hd, clamp_eq (by omega)]; exact clampR_bd (by omega)
  obtain ⟨lv, hl⟩ : ∃ lv, lv = at0 c.lv i := ⟨_, rfl⟩
  have w1 : IntKind.wrap .i64 (lv - d) = lv - d := w64_of (by omega) (by omega)
  have hR := ct_Return c hb ho
  obtain ⟨b0, b1, b2, b3, b4⟩ := back_eq g
  rw [show ofP c (backP c) = backP c by simp [ofP, hw]] at hR
  have w2 : IntKind.wrap .i64 (backP c - c.star) = backP c - c.star := w64_of (by omega) (by omega)
  obtain ⟨B, hB⟩ : ∃ B : Nat, min 5000 (backP c - c.star) = (B : Int) := ⟨(min 5000 (backP c - c.star)).toNat, by omega⟩
  simp -dsimp [ic9]
  repeat' first
    | simp -dsimp [hf, y1, y2, z3, z4, hnil, fnil, lnil, c1, c2, hmod, hl0, hil, ← hd, ← hl, w1, w2, hB]
    | (with_reducible refine (CallD.pure (ct_law12_awake) (by simp) ?_).callV)
    | (with_reducible refine (CallD.pure (ct_law12_fine _ ho) (by simp) ?_).callV)
    | (with_reducible refine (CallD.pure (ct_ramp_Clamp _ _ _) (by simp) ?_).callV)
    | (with_reducible refine (CallD.pure (hR) (by simp) ?_))
    | (with_reducible refine ordI (by kernel_rfl) ?_)
  refine Ti.loopW hm (fun k s => ∃ (q : Nat) (p v : Int), q + k = B ∧ Ret c lv q p v ∧ s = { t := [(66, vi q), (65, vi B), (12, .p 1 0), (11, vi lv), (5, .p 0 0), (3, .ro 1 (ints fs)), (4, .ro 1 (ints ls))], d := [], h := [.cells 26 c.cells, .cells 28 [vi p, vi v]] }) (k := B) ?_ ?_
  · refine Wk.sub [(66, vi (0 : Nat)), (65, vi B), (12, .p 1 0), (11, vi lv), (5, .p 0 0), (3, .ro 1 (ints fs)), (4, .ro 1 (ints ls))] (by simp) (Wk.now ⟨0, lv - d, 0, by omega, .inr ⟨by omega, by omega, by simp; omega, ?_⟩, rfl⟩)
    unfold lowAt
    rw [if_pos (by omega)]; simp; omega
  rintro k s ⟨q, p, v, hq, hret, rfl⟩
  simp -dsimp
  refine brV.intro (fun hlt => ?_) (fun hlt => ?_)
  rotate_left
  · have hqB : q = B := by simp at hlt; omega
    have done : lv ≤ p ∨ 5000 < backP c - c.star := by
      rcases Int.lt_or_le 5000 (backP c - c.star) with h | h
      · exact .inr h
      · left
        rcases hret with h' | ⟨_, _, _, h'⟩
        · exact h'
        · refine low_end g (level := lv) (p := p) ?_
          rw [show 4 + Tk c.ramp c.sh + Tk (c.sl - c.leak) (c.vane + c.leak * Tk c.ramp c.sh) = (q : Int) by omega]
          exact h'
    by_cases hpl : lv ≤ p
    · repeat' first
        | simp -dsimp [hpl]
        | (with_reducible refine ordI (by kernel_rfl) ?_)
        | exact exitV.now rfl
    · have h5 : 5000 < backP c - c.star := done.resolve_left hpl
      repeat' first
        | simp -dsimp [hpl, h5, w2]
        | (with_reducible refine (CallD.pure (hR) (by simp) ?_))
        | (with_reducible refine ordI (by kernel_rfl) ?_)
        | exact exitV.now rfl
  have hlt : q < B := by simpa using hlt
  have hw4 : IntKind.wrap .i64 ((q : Int) + 1) = ((q + 1 : Nat) : Int) := by rw [w64_of (by omega) (by omega)]; omega
  by_cases hpl : lv ≤ p
  · repeat' first
      | simp -dsimp [hpl]
      | exact exitV.now rfl
  obtain ⟨i1, i2, i3, i4⟩ := hret.resolve_left hpl
  obtain ⟨fi, f1, f2, f3⟩ := rem_len (l := fs) (q := q) (by omega) (by omega)
  obtain ⟨gi, g1, g2, g3⟩ := rem_len (l := ls) (q := q) (by omega) (by omega)
  have fz : (fs.length : Int) ≠ 0 := by omega
  have gz : (ls.length : Int) ≠ 0 := by omega
  have sN := ct_ref12_Near ⟨p, v⟩ ⟨1, true, at0 fs fi, at0 ls gi, false, 0⟩
  have sS := ct_ram_Step c ⟨p, v⟩ ⟨1, true, at0 fs fi, at0 ls gi, false, 0⟩ hb hp
  simp only [Drv.enc, Drv.cells, Car.enc] at sN sS
  cases hn : near12 ⟨p, v⟩ ⟨1, true, at0 fs fi, at0 ls gi, false, 0⟩
  · repeat' first
      | simp -dsimp [hlt, hn, hpl, f1, f2, f3, g1, g2, g3, fz, gz, fnil, lnil, Drv.enc, Drv.cells]
      | (with_reducible refine (CallD.pure (sN) (by simp) ?_).callV)
      | (with_reducible refine ordI (by kernel_rfl) ?_)
      | exact exitV.now rfl
  have hk := near12_bd hn
  dsimp only at hk
  obtain ⟨e1, _⟩ := step_eq g (k := ⟨p, v⟩) (d := ⟨1, true, at0 fs fi, at0 ls gi, false, 0⟩) (by show _ ≤ p; omega) (by show p ≤ _; omega) (by show _ ≤ v; omega) (by show v ≤ _; omega) (by show (_ : Int) ≤ 0; omega) (by show (0 : Int) ≤ _; omega)
  have st := ret_step g (k := ⟨p, v⟩) (d := ⟨1, true, at0 fs fi, at0 ls gi, false, 0⟩) rfl rfl rfl i1 i2 (level := lv) (by omega)
  rw [e1] at sS
  generalize tick c ⟨p, v⟩ ⟨1, true, at0 fs fi, at0 ls gi, false, 0⟩ = nx at *
  dsimp only at st
  have next : Ret c lv (q + 1) nx.pos nx.speed := by
    rcases st with h | ⟨j1, j2, j3, j4⟩
    · exact .inl h
    · obtain ⟨x1, x2⟩ := low_next g (level := lv) (j := q) (by omega) i3 j3 j1 i4 j4
      exact .inr ⟨j1, j2, by rw [show ((q + 1 : Nat) : Int) = (q : Int) + 1 by omega]; exact x1, by rw [show ((q + 1 : Nat) : Int) = (q : Int) + 1 by omega]; exact x2⟩
  repeat' first
    | simp -dsimp [hlt, hn, hpl, f1, f2, f3, g1, g2, g3, fz, gz, fnil, lnil, hw4, Drv.enc, Drv.cells]
    | (with_reducible refine (CallD.pure (sN) (by simp) ?_).callV)
    | (with_reducible refine (CallD.pure (sS) (by simp) ?_).callV)
    | (with_reducible refine ordI (by kernel_rfl) ?_)
  exact ⟨k - 1, by omega, Wk.sub [(66, vi (q + 1 : Nat)), (65, vi B), (12, .p 1 0), (11, vi lv), (5, .p 0 0), (3, .ro 1 (ints fs)), (4, .ro 1 (ints ls))] (by simp) (Wk.cut 2 (by simp) (by simp) (by simp) (by simp) (by simp) (by simp) (Wk.now ⟨q + 1, nx.pos, nx.speed, by omega, next, rfl⟩))⟩
end Go.Proofs.Ytmjhpniegjiocaa
