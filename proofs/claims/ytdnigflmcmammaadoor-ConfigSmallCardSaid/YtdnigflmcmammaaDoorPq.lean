/- Contracts of functions of the seat's program, and what follows of them: Pq. Conditions are in each statement. -/
import Derived.Test.YtdnigflmcmammaaDoorPp
set_option linter.unusedSimpArgs false
set_option linter.unusedVariables false
namespace Go.Proofs.YtdnigflmcmammaaDoor
open Go Go.Proofs Go.Vm

def zeroC : List V := .c (.slice none 0 0) :: .c (.slice none 0 0) :: [vi 0, vi 0, vi 0, vi 0, vi 0, vi 0, vi 0, vi 0, vi 0, vi 0, vi 0, vi 0, vi 0, vi 0, vi 0, vi 0, vi 0, vi 0, vi 0]
def cfgC (l : Ln) (a b : V) : List V := [a, b, vi l.half, vi l.vane, vi l.level, vi l.creep, vi l.near, vi l.fl, vi l.fh, vi l.sl, vi l.sh, vi l.leak, vi l.ramp, vi 0, vi 0, vi l.star, vi 0, vi 0, vi 0, vi 0, vi 0]
@[simp] theorem lvs_length (l : Ln) (k : Nat) : (l.lvs k).length = k := by simp [Ln.lvs]
@[simp] theorem ops_length (l : Ln) (k : Nat) : (l.ops k).length = k := by simp [Ln.ops]
theorem lvs_succ (l : Ln) (k : Nat) : ints (l.lvs (k + 1)) = ints (l.lvs k) ++ [vi (k * l.gp)] := by simp [Ln.lvs, List.range_succ, ints]
theorem ops_succ (l : Ln) (k : Nat) : ints (l.ops (k + 1)) = ints (l.ops k) ++ [vi (l.op k)] := by simp [Ln.ops, List.range_succ, ints]
theorem lvs_snoc (l : Ln) (k : Nat) : ints (l.lvs k) ++ [vi (k * l.gp)] = ints (l.lvs (k + 1)) := (lvs_succ l k).symm
theorem ops_snoc (l : Ln) (k : Nat) : ints (l.ops k) ++ [vi (l.op k)] = ints (l.ops (k + 1)) := (ops_succ l k).symm
theorem rows_lvs (l : Ln) (k : Nat) : rows false 1 k (ints (l.lvs k)) = ints (l.lvs k) := by have := rows_ints' (l.lvs k); rwa [lvs_length] at this
theorem rows_ops (l : Ln) (k : Nat) : rows false 1 k (ints (l.ops k)) = ints (l.ops k) := by have := rows_ints' (l.ops k); rwa [ops_length] at this
theorem opens_bd {x : Int} {n : Nat} (h : by16 x) : 0 ≤ x / 2 ^ n ∧ x / 2 ^ n ≤ 65535 := by
  have h1 : (0 : Int) ≤ 2 ^ n := Int.le_of_lt (Int.pow_pos (by omega))
  have h2 := Int.ediv_nonneg h.1 h1
  have h3 := Int.ediv_le_self (2 ^ n) h.1
  unfold by16 at h
  omega
set_option maxRecDepth 100000 in
set_option maxHeartbeats 16000000 in
theorem ct_LiftX (s : Sm) (h : s.ok) : ∃ l : Ln, l.ok ∧ (l.star = s.star.tmod 12 ∧ l.run = 1 + s.run) ∧ Ct Tryd.prog G0 5 [s.enc] [] l.cfg.enc [] := by
  obtain ⟨yn, en, fn, gn, kn⟩ := cv (x := s.landings) (n := 5) h.landings.1 (by omega) (by omega)
  obtain ⟨ysl, esl, fsl, gsl, ksl⟩ := cv (x := s.slow) (n := 9) h.slow.1 (by omega) (by omega)
  obtain ⟨qs, eqs, fqs, gqs, kqs⟩ := cq (x := s.slow) (n := 9) h.slow (by omega)
  obtain ⟨ya2, ea2, fa2, ga2, ka2⟩ := cv (x := qs) (n := 4) gqs (by omega) (by omega)
  obtain ⟨ya3, ea3, fa3, ga3, ka3⟩ := cv (x := s.fast) (n := 30) h.fast.1 (by omega) (by omega)
  obtain ⟨qf, eqf, fqf, gqf, kqf⟩ := cq (x := s.fast) (n := 30) h.fast (by omega)
  obtain ⟨ya4, ea4, fa4, ga4, ka4⟩ := cv (x := qf) (n := 4) gqf (by omega) (by omega)
  obtain ⟨yra, era, fra, gra, kra⟩ := cv (x := s.ramp) (n := 12) h.ramp.1 (by omega) (by omega)
  obtain ⟨ylk, elk, flk, glk, klk⟩ := cv (x := s.leak) (n := 2 + ysl) h.leak.1 (by omega) (by omega)
  obtain ⟨yst, est, fst, gst, kst⟩ := cv (x := s.star) (n := 12) h.star.1 (by omega) (by omega)
  obtain ⟨yb0, eb0, fb0, gb0, kb0⟩ := cv (x := s.m0) (n := 8) h.m0.1 (by omega) (by omega)
  obtain ⟨yb1, eb1, fb1, gb1, kb1⟩ := cv (x := s.m1) (n := 8) h.m1.1 (by omega) (by omega)
  obtain ⟨yb2, eb2, fb2, gb2, kb2⟩ := cv (x := s.m2) (n := 20) h.m2.1 (by omega) (by omega)
  obtain ⟨yb3, eb3, fb3, gb3, kb3⟩ := cv (x := s.m3) (n := 20) h.m3.1 (by omega) (by omega)
  obtain ⟨yb4, eb4, fb4, gb4, kb4⟩ := cv (x := s.m4) (n := 20) h.m4.1 (by omega) (by omega)
  obtain ⟨ygap, egap, fgap, ggap, kgap⟩ := cv (x := s.gap) (n := 200) h.gap.1 (by omega) (by omega)
  obtain ⟨ybo, ebo, fbo, gbo, kbo⟩ := cv (x := s.bounce) (n := 5) h.bounce.1 (by omega) (by omega)
  obtain ⟨ylo, elo, flo, glo, klo⟩ := cv (x := s.look) (n := 4) h.look.1 (by omega) (by omega)
  obtain ⟨ypa, epa, fpa, gpa, kpa⟩ := cv (x := s.patience) (n := 300) h.patience.1 (by omega) (by omega)
  obtain ⟨yss, ess, fss, gss, kss⟩ := cv (x := s.starts) (n := 9) h.starts.1 (by omega) (by omega)
  obtain ⟨ytr, etr, ftr, gtr, ktr⟩ := cv (x := s.tries) (n := 4) h.tries.1 (by omega) (by omega)
  have hru := h.run; have hwi := h.within; have hle := h.leak; unfold by16 at hru hwi; unfold by8 at hle
  have frun : IntKind.wrap .i64 s.run = s.run := w64_of (by omega) (by omega)
  have fwi : IntKind.wrap .i64 s.within = s.within := w64_of (by omega) (by omega)
  have fle : IntKind.wrap .i64 s.leak = s.leak := w64_of (by omega) (by omega)
  obtain ⟨opn, hopn⟩ : ∃ f : Nat → Int, f = fun (k : Nat) => 1 + (s.opens / 2 ^ min (2 * (k : Int)).toNat IntKind.u16.bits).tmod 3 := ⟨_, rfl⟩
  obtain ⟨l, hl⟩ : ∃ l : Ln, l = { n := (2 + yn).toNat, sl := 2 + ysl, a2 := ya2, a3 := ya3, a4 := ya4, ramp := 1 + yra, leak := ylk, star := yst, b0 := yb0, b1 := yb1, b2 := yb2, b3 := yb3, b4 := yb4, gap := ygap, bounce := ybo, lk := ylo, run := 1 + s.run, within := 1 + s.within, patience := 1 + ypa, starts := 1 + yss, tries := 1 + ytr, op := opn } := ⟨_, rfl⟩
  have ok : l.ok := by
    subst hl; subst hopn
    constructor <;> (try simp only) <;> (try omega)
    intro k
    have b := opens_bd (n := min (2 * (k : Int)).toNat IntKind.u16.bits) h.opens
    obtain ⟨y, e, _, g1, g2⟩ := cv (x := s.opens / 2 ^ min (2 * (k : Int)).toNat IntKind.u16.bits) (n := 3) b.1 (by omega) (by omega)
    rw [e]; omega
  have bd := Ln.bds ok
  have za2 : ya2 = l.a2 := by rw [hl]
  rw [za2] at ea2 fa2
  have za3 : ya3 = l.a3 := by rw [hl]
  rw [za3] at ea3 fa3
  have za4 : ya4 = l.a4 := by rw [hl]
  rw [za4] at ea4 fa4
  have zlk : ylk = l.leak := by rw [hl]
  rw [zlk] at elk flk
  have zst : yst = l.star := by rw [hl]
  rw [zst] at est fst
  have zb0 : yb0 = l.b0 := by rw [hl]
  rw [zb0] at eb0 fb0
  have zb1 : yb1 = l.b1 := by rw [hl]
  rw [zb1] at eb1 fb1
  have zb2 : yb2 = l.b2 := by rw [hl]
  rw [zb2] at eb2 fb2
  have zb3 : yb3 = l.b3 := by rw [hl]
  rw [zb3] at eb3 fb3
  have zb4 : yb4 = l.b4 := by rw [hl]
  rw [zb4] at eb4 fb4
  have zgap : ygap = l.gap := by rw [hl]
  rw [zgap] at egap fgap
  have zbo : ybo = l.bounce := by rw [hl]
  rw [zbo] at ebo fbo
  have zlo : ylo = l.lk := by rw [hl]
  rw [zlo] at elo flo
  have r1 := ok.sl; have r2 := ok.a2; have r3 := ok.a3; have r4 := ok.a4; have r5 := ok.ramp; have r6 := ok.leak; have r7 := ok.star; have r8 := ok.b0; have r9 := ok.b1; have r10 := ok.b2; have r11 := ok.b3; have r12 := ok.b4; have r13 := ok.gap; have r14 := ok.bounce; have r15 := ok.lk
  have d1 := bd.sh; have d2 := bd.fl; have d3 := bd.fh; have d4 := bd.c1; have d5 := bd.c2; have d6 := bd.tk; have d7 := bd.lk; have d8 := bd.td
  have w0 : IntKind.wrap .i64 (2 + ysl) = l.sl := by
    refine (w64_of (by omega) (by omega)).trans ?_
    first | rfl | (rw [hl])
  have esl2 : (2 + ysl) = l.sl := by rw [hl]
  rw [esl2] at elk
  have w1 : IntKind.wrap .i64 (l.sl + l.a2) = l.sh := by
    refine (w64_of (by omega) (by omega)).trans ?_
    first | rfl | (rw [hl])
  have w2 : IntKind.wrap .i64 (l.sh + l.a3) = l.fl := by
    refine (w64_of (by omega) (by omega)).trans ?_
    first | rfl | (rw [hl])
  have w3 : IntKind.wrap .i64 (l.fl + l.a4) = l.fh := by
    refine (w64_of (by omega) (by omega)).trans ?_
    first | rfl | (rw [hl])
  have w4 : IntKind.wrap .i64 (1 + yra) = l.ramp := by
    refine (w64_of (by omega) (by omega)).trans ?_
    first | rfl | (rw [hl])
  have w5 : IntKind.wrap .i64 (l.sh + coastR l.ramp 2000 l.sh 0) = l.rise := by
    refine (w64_of (by omega) (by omega)).trans ?_
    first | rfl | (rw [hl])
  have v1 : 2 ≤ l.rise ∧ l.rise ≤ 182 := by unfold Ln.rise; omega
  have w6 : IntKind.wrap .i64 (l.rise + l.b0) = l.level := by
    refine (w64_of (by omega) (by omega)).trans ?_
    first | rfl | (rw [hl])
  have v2 : 2 ≤ l.level ∧ l.level ≤ 189 := by unfold Ln.level; omega
  have w7 : IntKind.wrap .i64 (l.level + l.b1) = l.creep := by
    refine (w64_of (by omega) (by omega)).trans ?_
    first | rfl | (rw [hl])
  have v3 : 2 ≤ l.creep ∧ l.creep ≤ 196 := by unfold Ln.creep; omega
  have w8 : IntKind.wrap .i64 (l.star + 4) = l.star + 4 := by
    refine (w64_of (by omega) (by omega)).trans ?_
    first | rfl | (rw [hl])
  have w9 : IntKind.wrap .i64 (l.star + 4 + tickR l.ramp 2000 l.sh 0) = l.star + 4 + tickR l.ramp 2000 l.sh 0 := by
    refine (w64_of (by omega) (by omega)).trans ?_
    first | rfl | (rw [hl])
  have w10 : IntKind.wrap .i64 (l.leak * (l.star + 4 + tickR l.ramp 2000 l.sh 0)) = l.leak * (l.star + 4 + tickR l.ramp 2000 l.sh 0) := by
    refine (w64_of (by omega) (by omega)).trans ?_
    first | rfl | (rw [hl])
  have w11 : IntKind.wrap .i64 (l.creep + l.leak * (l.star + 4 + tickR l.ramp 2000 l.sh 0)) = l.creep + l.leak * (l.star + 4 + tickR l.ramp 2000 l.sh 0) := by
    refine (w64_of (by omega) (by omega)).trans ?_
    first | rfl | (rw [hl])
  have w12 : IntKind.wrap .i64 (l.fh + 1) = l.fh + 1 := by
    refine (w64_of (by omega) (by omega)).trans ?_
    first | rfl | (rw [hl])
  have w13 : IntKind.wrap .i64 ((l.fh + 1).tdiv 2) = (l.fh + 1).tdiv 2 := by
    refine (w64_of (by omega) (by omega)).trans ?_
    first | rfl | (rw [hl])
  have w14 : IntKind.wrap .i64 (max (l.creep + l.leak * (l.star + 4 + tickR l.ramp 2000 l.sh 0)) ((l.fh + 1).tdiv 2) + l.b2) = l.vane := by
    refine (w64_of (by omega) (by omega)).trans ?_
    first | rfl | (rw [hl])
  have v4 : 2 ≤ l.vane ∧ l.vane ≤ 500 := by unfold Ln.vane; omega
  have w15 : IntKind.wrap .i64 (l.vane + l.rise) = l.vane + l.rise := by
    refine (w64_of (by omega) (by omega)).trans ?_
    first | rfl | (rw [hl])
  have w16 : IntKind.wrap .i64 (l.vane + l.rise + l.b3) = l.half := by
    refine (w64_of (by omega) (by omega)).trans ?_
    first | rfl | (rw [hl])
  have v5 : 2 ≤ l.half ∧ l.half ≤ 710 := by unfold Ln.half; omega
  have w17 : IntKind.wrap .i64 (l.half + l.fh) = l.half + l.fh := by
    refine (w64_of (by omega) (by omega)).trans ?_
    first | rfl | (rw [hl])
  have w18 : IntKind.wrap .i64 (l.half + l.fh + coastR l.ramp 2000 l.fh 0) = l.half + l.fh + coastR l.ramp 2000 l.fh 0 := by
    refine (w64_of (by omega) (by omega)).trans ?_
    first | rfl | (rw [hl])
  have w19 : IntKind.wrap .i64 (l.half + l.fh + coastR l.ramp 2000 l.fh 0 + l.b4) = l.near := by
    refine (w64_of (by omega) (by omega)).trans ?_
    first | rfl | (rw [hl])
  have v6 : 2 ≤ l.near ∧ l.near ≤ 3000 := by unfold Ln.near; omega
  have w20 : IntKind.wrap .i64 (2 * l.near) = 2 * l.near := by
    refine (w64_of (by omega) (by omega)).trans ?_
    first | rfl | (rw [hl])
  have w21 : IntKind.wrap .i64 (2 * l.near + l.fh) = 2 * l.near + l.fh := by
    refine (w64_of (by omega) (by omega)).trans ?_
    first | rfl | (rw [hl])
  have w22 : IntKind.wrap .i64 (2 * l.near + l.fh + 1) = 2 * l.near + l.fh + 1 := by
    refine (w64_of (by omega) (by omega)).trans ?_
    first | rfl | (rw [hl])
  have w23 : IntKind.wrap .i64 (2 * l.near + l.fh + 1 + l.gap) = l.gp := by
    refine (w64_of (by omega) (by omega)).trans ?_
    first | rfl | (rw [hl])
  have v7 : 2 ≤ l.gp ∧ l.gp ≤ 7000 := by unfold Ln.gp; omega
  have w24 : IntKind.wrap .i64 (l.bounce + 1) = l.bounce + 1 := by
    refine (w64_of (by omega) (by omega)).trans ?_
    first | rfl | (rw [hl])
  have w25 : IntKind.wrap .i64 (l.bounce + 1 + l.lk) = l.bounce + 1 + l.lk := by
    refine (w64_of (by omega) (by omega)).trans ?_
    first | rfl | (rw [hl])
  have w26 : IntKind.wrap .i64 (1 + s.run) = l.run := by
    refine (w64_of (by omega) (by omega)).trans ?_
    first | rfl | (rw [hl])
  have w27 : IntKind.wrap .i64 (1 + s.within) = l.within := by
    refine (w64_of (by omega) (by omega)).trans ?_
    first | rfl | (rw [hl])
  have w28 : IntKind.wrap .i64 (1 + ypa) = l.patience := by
    refine (w64_of (by omega) (by omega)).trans ?_
    first | rfl | (rw [hl])
  have w29 : IntKind.wrap .i64 (1 + yss) = l.starts := by
    refine (w64_of (by omega) (by omega)).trans ?_
    first | rfl | (rw [hl])
  have w30 : IntKind.wrap .i64 (1 + ytr) = l.tries := by
    refine (w64_of (by omega) (by omega)).trans ?_
    first | rfl | (rw [hl])
  have w31 : IntKind.wrap .i64 (2 + yn) = (l.n : Int) := by
    refine (w64_of (by omega) (by omega)).trans ?_
    rw [hl]; simp only; omega
  refine ⟨l, ok, ⟨est.symm, by rw [hl]⟩, ?_⟩
  refine callV_ic hm (fn := Tryd.f5) rfl ic5_eq ic5_nm ic5_ok (by simp) ?_
  unfold Sm.enc Sm.cells
  repeat' first
    | simp -dsimp [ic5, ea2, fa2, ea3, fa3, ea4, fa4, elk, flk, est, fst, eb0, fb0, eb1, fb1, eb2, fb2, eb3, fb3, eb4, fb4, egap, fgap, ebo, fbo, elo, flo, en, fn, esl, fsl, eqs, fqs, eqf, fqf, era, fra, frun, fwi, fle, epa, fpa, ess, fss, etr, ftr, w0, w1, w2, w3, w4, w5, w6, w7, w8, w9, w10, w11, w12, w13, w14, w15, w16, w17, w18, w19, w20, w21, w22, w23, w24, w25, w26, w27, w28, w29, w30, w31]
    | (with_reducible refine ordI (by kernel_rfl) ?_)
    | (refine ⟨by omega, ?_⟩)
    | (with_reducible refine CallD.pure (ct_ref05_coast _ _) (by simp) ?_)
    | (with_reducible refine CallD.pure (ct_ref05_ticks _ _) (by simp) ?_)
    | (with_reducible refine (CallD.pure (ct_ref05_coast _ _) (by simp) ?_).callV)
    | (with_reducible refine (CallD.pure (ct_ref05_ticks _ _) (by simp) ?_).callV)
  refine Ti.loopW hm (fun k s' => ∃ (q : Nat), q + k = l.n ∧ ((q = 0 ∧ s' = { t := [(7, vi q), (1, .p 0 0), (2, .p 1 0), (5, .p 2 0)], d := [], h := [.cells 25 s.cells, .cells 31 zeroC, .cells 31 (cfgC l (.c (.slice none 0 0)) (.c (.slice none 0 0)))] })
    ∨ (0 < q ∧ s' = { t := [(7, vi q), (1, .p 0 0), (2, .p 1 0), (5, .p 2 0)], d := [], h := [.cells 25 s.cells, .cells 31 zeroC, .cells 31 (cfgC l (.sl 1 3 0 q) (.sl 1 4 0 q)), .cells 3 (ints (l.lvs q)), .cells 3 (ints (l.ops q))] }))) (k := l.n) ?_ ?_
  · exact Wk.sub [(7, vi (0 : Nat)), (1, .p 0 0), (2, .p 1 0), (5, .p 2 0)] (by simp) (Wk.now ⟨0, by omega, .inl ⟨rfl, rfl⟩⟩)
  rintro k s' ⟨q, hq, ⟨hz, rfl⟩ | ⟨hz, rfl⟩⟩
  · subst hz
    have hl0 : 0 < l.n := by have := ok.n; omega
    have wn0 : IntKind.wrap .i64 0 = 0 := by decide
    have wn1 : IntKind.wrap .i64 1 = 1 := by decide
    have bo := h.opens; unfold by16 at bo
    have fop : IntKind.wrap .i64 s.opens = s.opens := w64_of (by omega) (by omega)
    obtain ⟨y0, ey0, _, gy0, ky0⟩ := cv (x := s.opens) (n := 3) bo.1 (by omega) (by omega)
    have hop0 : l.op 0 = 1 + s.opens.tmod 3 := by rw [hl]; simp only [hopn]; simp
    have hop1 : IntKind.wrap .i64 (1 + s.opens.tmod 3) = 1 + s.opens.tmod 3 := w64_of (by omega) (by omega)
    simp -dsimp [Sm.cells, en, fn, w31, cfgC, hl0]
    repeat' first
      | simp -dsimp [Sm.cells, cfgC, hl0, wn0, fop, hop1, ea2, fa2, ea3, fa3, ea4, fa4, elk, flk, est, fst, eb0, fb0, eb1, fb1, eb2, fb2, eb3, fb3, eb4, fb4, egap, fgap, ebo, fbo, elo, flo, en, fn, esl, fsl, eqs, fqs, eqf, fqf, era, fra, frun, fwi, fle, epa, fpa, ess, fss, etr, ftr, w0, w1, w2, w3, w4, w5, w6, w7, w8, w9, w10, w11, w12, w13, w14, w15, w16, w17, w18, w19, w20, w21, w22, w23, w24, w25, w26, w27, w28, w29, w30, w31]
      | (with_reducible refine ordI (by kernel_rfl) ?_)
    exact ⟨k - 1, by omega, Wk.some [0, 1, 2, 4, 6] [.cells 25 s.cells, .cells 31 zeroC, .cells 31 (cfgC l (.sl 1 3 0 (0 + 1)) (.sl 1 4 0 (0 + 1))), .cells 3 (ints (l.lvs (0 + 1))), .cells 3 (ints (l.ops (0 + 1)))] [(7, vi (0 + 1 : Nat)), (1, .p 0 0), (2, .p 1 0), (5, .p 2 0)] rfl (by simp [lvs_succ, ops_succ, cfgC, zeroC, Sm.cells, Ln.lvs, Ln.ops, ints, rho, hop0]) (by simp) (by simp) (by simp [cfgC, zeroC, Sm.cells]) (by simp [rho, wn1]) (by simp) (Wk.now ⟨0 + 1, by omega, .inr ⟨by omega, rfl⟩⟩)⟩
  · have hn := ok.n
    have x1 : (q + 1) * 8 ≤ 140737488355328 := by omega
    have x2 : q + 1 ≤ 9223372036854775807 := by omega
    have x3 : (IntKind.wrap .i64 ((q : Int) + 1)) = ((q + 1 : Nat) : Int) := wq (q := q) (n := 7) (by omega) (by decide)
    have x4 : IntKind.wrap .i64 (2 * (q : Int)) = 2 * q := w64_of (by omega) (by omega)
    have m1 : (q : Int) * l.gp ≤ 6 * 7000 := Int.mul_le_mul (by omega) (by omega) (by omega) (by omega)
    have m2 : 0 ≤ (q : Int) * l.gp := Int.mul_nonneg (by omega) (by omega)
    have x5 : IntKind.wrap .i64 ((q : Int) * l.gp) = q * l.gp := w64_of (by omega) (by omega)
    simp -dsimp [Sm.cells, en, fn, w31, cfgC]
    refine brV.intro (fun hq2 => ?_) (fun hq2 => ?_)
    · have hq2 : q < l.n := by simpa using hq2
      have bo := opens_bd (n := min (2 * (q : Int)).toNat IntKind.u16.bits) h.opens
      obtain ⟨y0, ey0, _, gy0, ky0⟩ := cv (x := s.opens / 2 ^ min (2 * (q : Int)).toNat IntKind.u16.bits) (n := 3) bo.1 (by omega) (by omega)
      have x6 : IntKind.wrap .i64 (s.opens / 2 ^ min (2 * (q : Int)).toNat IntKind.u16.bits) = s.opens / 2 ^ min (2 * (q : Int)).toNat IntKind.u16.bits := w64_of (by omega) (by omega)
      have x7 : IntKind.wrap .i64 (1 + (s.opens / 2 ^ min (2 * (q : Int)).toNat IntKind.u16.bits).tmod 3) = l.op q := by
        refine (w64_of (by omega) (by omega)).trans ?_
        rw [hl]; simp only [hopn]
      have x8 : 0 ≤ 2 * (q : Int) := by omega
      repeat' first
        | simp -dsimp [Sm.cells, cfgC, x1, x2, x3, x4, x5, x6, x7, x8, ea2, fa2, ea3, fa3, ea4, fa4, elk, flk, est, fst, eb0, fb0, eb1, fb1, eb2, fb2, eb3, fb3, eb4, fb4, egap, fgap, ebo, fbo, elo, flo, en, fn, esl, fsl, eqs, fqs, eqf, fqf, era, fra, frun, fwi, fle, epa, fpa, ess, fss, etr, ftr, w0, w1, w2, w3, w4, w5, w6, w7, w8, w9, w10, w11, w12, w13, w14, w15, w16, w17, w18, w19, w20, w21, w22, w23, w24, w25, w26, w27, w28, w29, w30, w31]
        | (with_reducible refine ordI (by kernel_rfl) ?_)
      exact ⟨k - 1, by omega, Wk.some [0, 1, 2, 6, 8] [.cells 25 s.cells, .cells 31 zeroC, .cells 31 (cfgC l (.sl 1 3 0 (q + 1)) (.sl 1 4 0 (q + 1))), .cells 3 (ints (l.lvs (q + 1))), .cells 3 (ints (l.ops (q + 1)))] [(7, vi (q + 1 : Nat)), (1, .p 0 0), (2, .p 1 0), (5, .p 2 0)] rfl (by simp [lvs_snoc, ops_snoc, cfgC, zeroC, Sm.cells, rho]) (by simp) (by simp) (by simp [cfgC, zeroC, Sm.cells]) (by simp [rho]) (by simp) (Wk.now ⟨q + 1, by omega, .inr ⟨by omega, rfl⟩⟩)⟩
    · have hq3 : q = l.n := by simp at hq2; omega
      repeat' first
        | simp -dsimp [Sm.cells, cfgC, zeroC, ea2, fa2, ea3, fa3, ea4, fa4, elk, flk, est, fst, eb0, fb0, eb1, fb1, eb2, fb2, eb3, fb3, eb4, fb4, egap, fgap, ebo, fbo, elo, flo, en, fn, esl, fsl, eqs, fqs, eqf, fqf, era, fra, frun, fwi, fle, epa, fpa, ess, fss, etr, ftr, w0, w1, w2, w3, w4, w5, w6, w7, w8, w9, w10, w11, w12, w13, w14, w15, w16, w17, w18, w19, w20, w21, w22, w23, w24, w25, w26, w27, w28, w29, w30, w31]
        | (with_reducible refine ordI (by kernel_rfl) ?_)
      refine exitV.freeze 3 _ _ false rfl (by simp) ?_
      simp -dsimp [rows_lvs]
      refine exitV.freeze 4 _ _ false rfl (by simp) ?_
      simp -dsimp [rows_ops]
      refine exitV.cut (by simp) (by simp) (by simp) (by simp) ⟨?_, by simp⟩
      rw [hq3]
      simp [Ln.cfg, Cfg.cells]
theorem ct_Lift (s : Sm) (h : s.ok) : ∃ l : Ln, l.ok ∧ Ct Tryd.prog G0 5 [s.enc] [] l.cfg.enc [] :=
  let ⟨l, ok, _, c⟩ := ct_LiftX s h
  ⟨l, ok, c⟩
end Go.Proofs.YtdnigflmcmammaaDoor
