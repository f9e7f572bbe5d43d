/- Contracts of functions of the seat's program, and what follows of them: Pp. Conditions are in each statement. -/
import Derived.Test.YtdnigflmcmammaaDoorPi
import Derived.Test.YtdnigflmcmammaaDoorV5
set_option linter.unusedSimpArgs false
set_option linter.unusedVariables false
namespace Go.Proofs.YtdnigflmcmammaaDoor
open Go Go.Proofs Go.Vm

/-- A lift of a few small numbers. -/
structure Sm where
  landings : Int
  slow : Int
  fast : Int
  ramp : Int
  leak : Int
  m0 : Int
  m1 : Int
  m2 : Int
  m3 : Int
  m4 : Int
  gap : Int
  bounce : Int
  look : Int
  star : Int
  run : Int
  within : Int
  patience : Int
  starts : Int
  tries : Int
  opens : Int
def Sm.cells (s : Sm) : List V := [v8 s.landings, v8 s.slow, v8 s.fast, v8 s.ramp, v8 s.leak, v8 s.m0, v8 s.m1, v8 s.m2, v8 s.m3, v8 s.m4, v16 s.gap, v8 s.bounce, v8 s.look, v8 s.star, v16 s.run, v16 s.within, v16 s.patience, v8 s.starts, v8 s.tries, v16 s.opens]
abbrev Sm.enc (s : Sm) : V := .agg s.cells
def by8 (x : Int) : Prop := 0 ≤ x ∧ x ≤ 255
def by16 (x : Int) : Prop := 0 ≤ x ∧ x ≤ 65535
structure Sm.ok (s : Sm) : Prop where
  landings : by8 s.landings
  slow : by8 s.slow
  fast : by8 s.fast
  ramp : by8 s.ramp
  leak : by8 s.leak
  m0 : by8 s.m0
  m1 : by8 s.m1
  m2 : by8 s.m2
  m3 : by8 s.m3
  m4 : by8 s.m4
  gap : by16 s.gap
  bounce : by8 s.bounce
  look : by8 s.look
  star : by8 s.star
  run : by16 s.run
  within : by16 s.within
  patience : by16 s.patience
  starts : by8 s.starts
  tries : by8 s.tries
  opens : by16 s.opens
theorem cv {x n : Int} (h : 0 ≤ x) (hn : 0 < n) (hn2 : n ≤ 65536) : ∃ y, x.tmod n = y ∧ IntKind.wrap .i64 y = y ∧ 0 ≤ y ∧ y < n := by
  have h1 := Int.tmod_nonneg n h
  have h2 := Int.tmod_lt_of_pos x hn
  exact ⟨x.tmod n, rfl, w64_of (by omega) (by omega), h1, h2⟩
theorem cq {x n : Int} (h : by8 x) (hn : 0 < n) : ∃ y, x.tdiv n = y ∧ IntKind.wrap .u8 y = y ∧ 0 ≤ y ∧ y ≤ 255 := by
  have h1 := Int.tdiv_nonneg h.1 (Int.le_of_lt hn)
  have h2 : x.tdiv n ≤ x := by
    rw [Int.tdiv_eq_ediv_of_nonneg h.1]
    exact Int.ediv_le_self n h.1
  unfold by8 at h
  exact ⟨x.tdiv n, rfl, wu8_of (by omega) (by omega), h1, by omega⟩
theorem cw {x : Int} (h1 : -9223372036854775808 ≤ x) (h2 : x ≤ 9223372036854775807) : ∃ y, x = y ∧ IntKind.wrap .i64 x = y := ⟨x, rfl, w64_of h1 h2⟩
/-- What its small numbers tell. -/
structure Ln where
  n : Nat
  sl : Int
  a2 : Int
  a3 : Int
  a4 : Int
  ramp : Int
  leak : Int
  star : Int
  b0 : Int
  b1 : Int
  b2 : Int
  b3 : Int
  b4 : Int
  gap : Int
  bounce : Int
  lk : Int
  run : Int
  within : Int
  patience : Int
  starts : Int
  tries : Int
  op : Nat → Int
structure Ln.ok (l : Ln) : Prop where
  n : 2 ≤ l.n ∧ l.n ≤ 6
  sl : 2 ≤ l.sl ∧ l.sl ≤ 10
  a2 : 0 ≤ l.a2 ∧ l.a2 ≤ 3
  a3 : 0 ≤ l.a3 ∧ l.a3 ≤ 29
  a4 : 0 ≤ l.a4 ∧ l.a4 ≤ 3
  ramp : 1 ≤ l.ramp ∧ l.ramp ≤ 12
  leak : 0 ≤ l.leak ∧ l.leak < l.sl
  star : 0 ≤ l.star ∧ l.star ≤ 11
  b0 : 0 ≤ l.b0 ∧ l.b0 ≤ 7
  b1 : 0 ≤ l.b1 ∧ l.b1 ≤ 7
  b2 : 0 ≤ l.b2 ∧ l.b2 ≤ 19
  b3 : 0 ≤ l.b3 ∧ l.b3 ≤ 19
  b4 : 0 ≤ l.b4 ∧ l.b4 ≤ 19
  gap : 0 ≤ l.gap ∧ l.gap ≤ 199
  bounce : 0 ≤ l.bounce ∧ l.bounce ≤ 4
  lk : 0 ≤ l.lk ∧ l.lk ≤ 3
  run : 1 ≤ l.run ∧ l.run ≤ 65536
  within : 1 ≤ l.within ∧ l.within ≤ 65536
  patience : 1 ≤ l.patience ∧ l.patience ≤ 300
  starts : 1 ≤ l.starts ∧ l.starts ≤ 9
  tries : 1 ≤ l.tries ∧ l.tries ≤ 4
  op : ∀ k, 1 ≤ l.op k ∧ l.op k ≤ 3
def Ln.sh (l : Ln) : Int := l.sl + l.a2
def Ln.fl (l : Ln) : Int := l.sh + l.a3
def Ln.fh (l : Ln) : Int := l.fl + l.a4
def Ln.rise (l : Ln) : Int := l.sh + coastR l.ramp 2000 l.sh 0
def Ln.level (l : Ln) : Int := l.rise + l.b0
def Ln.creep (l : Ln) : Int := l.level + l.b1
def Ln.vane (l : Ln) : Int := max (l.creep + l.leak * (l.star + 4 + tickR l.ramp 2000 l.sh 0)) ((l.fh + 1).tdiv 2) + l.b2
def Ln.half (l : Ln) : Int := l.vane + l.rise + l.b3
def Ln.near (l : Ln) : Int := l.half + l.fh + coastR l.ramp 2000 l.fh 0 + l.b4
def Ln.gp (l : Ln) : Int := 2 * l.near + l.fh + 1 + l.gap
def Ln.lvs (l : Ln) (k : Nat) : List Int := (List.range k).map fun (i : Nat) => (i : Int) * l.gp
def Ln.ops (l : Ln) (k : Nat) : List Int := (List.range k).map l.op
def Ln.cfg (l : Ln) : Cfg := ⟨l.lvs l.n, l.ops l.n, l.half, l.vane, l.level, l.creep, l.near, l.fl, l.fh, l.sl, l.sh, l.leak, l.ramp, l.bounce, l.bounce + 1 + l.lk, l.star, l.run, l.starts, l.within, l.patience, l.tries⟩

theorem coast_small {b s : Int} (hb : 1 ≤ b) (hb2 : b ≤ 1000) (h0 : 0 ≤ s) (h1 : s ≤ 1000) : 0 ≤ coastR b 2000 s 0 ∧ coastR b 2000 s 0 ≤ s * s := by
  have r := coastR_eq hb hb2 2000 s 0 h0 h1 (by omega) (by omega) (by omega)
  have q := coastR_bd hb hb2 2000 s 0 h1 (by omega) (by omega)
  have t := tk_le hb h0
  refine ⟨q.1, ?_⟩
  rcases Int.lt_or_le 0 s with h | h
  · have p := tk_pos hb h
    unfold Dk at r
    have m1 : (Tk b s - 1) * s ≤ s * s := Int.mul_le_mul_of_nonneg_right (by omega) h0
    have m2 : 0 ≤ b * (Tk b s - 1) * Tk b s := Int.mul_nonneg (Int.mul_nonneg (by omega) (by omega)) (by omega)
    omega
  · have : s = 0 := by omega
    subst this
    simp [Dk, tk_zero hb] at r ⊢
    omega
/-- How great they are. -/
structure Ln.bd (l : Ln) : Prop where
  sh : 2 ≤ l.sh ∧ l.sh ≤ 13
  fl : l.sh ≤ l.fl ∧ l.fl ≤ 42
  fh : l.fl ≤ l.fh ∧ l.fh ≤ 45
  c1 : 0 ≤ coastR l.ramp 2000 l.sh 0 ∧ coastR l.ramp 2000 l.sh 0 ≤ 169
  c2 : 0 ≤ coastR l.ramp 2000 l.fh 0 ∧ coastR l.ramp 2000 l.fh 0 ≤ 2025
  tk : 1 ≤ tickR l.ramp 2000 l.sh 0 ∧ tickR l.ramp 2000 l.sh 0 ≤ 13
  lk : 0 ≤ l.leak * (l.star + 4 + tickR l.ramp 2000 l.sh 0) ∧ l.leak * (l.star + 4 + tickR l.ramp 2000 l.sh 0) ≤ 280
  td : l.fh ≤ 2 * (l.fh + 1).tdiv 2 ∧ (l.fh + 1).tdiv 2 ≤ 23
theorem Ln.bds {l : Ln} (h : l.ok) : l.bd := by
  have h1 := h.sl; have h2 := h.a2; have h3 := h.a3; have h4 := h.a4; have h5 := h.ramp; have h6 := h.leak; have h7 := h.star
  have s1 : 2 ≤ l.sh ∧ l.sh ≤ 13 := by unfold Ln.sh; omega
  have s2 : l.sh ≤ l.fl ∧ l.fl ≤ 42 := by unfold Ln.fl; omega
  have s3 : l.fl ≤ l.fh ∧ l.fh ≤ 45 := by unfold Ln.fh; omega
  have c1 := coast_small (b := l.ramp) (s := l.sh) (by omega) (by omega) (by omega) (by omega)
  have c2 := coast_small (b := l.ramp) (s := l.fh) (by omega) (by omega) (by omega) (by omega)
  have m1 : l.sh * l.sh ≤ 13 * 13 := Int.mul_le_mul (by omega) (by omega) (by omega) (by omega)
  have m2 : l.fh * l.fh ≤ 45 * 45 := Int.mul_le_mul (by omega) (by omega) (by omega) (by omega)
  have t := tickR_eq (b := l.ramp) (by omega) (by omega) 2000 l.sh 0 (by omega) (by omega) (by omega)
  have t1 := tk_le (b := l.ramp) (s := l.sh) (by omega) (by omega)
  have t2 := tk_pos (b := l.ramp) (s := l.sh) (by omega) (by omega)
  have k1 : 0 ≤ l.leak * (l.star + 4 + tickR l.ramp 2000 l.sh 0) := Int.mul_nonneg (by omega) (by omega)
  have k2 : l.leak * (l.star + 4 + tickR l.ramp 2000 l.sh 0) ≤ 10 * 28 := Int.mul_le_mul (by omega) (by omega) (by omega) (by omega)
  have d : (l.fh + 1).tdiv 2 = (l.fh + 1) / 2 := Int.tdiv_eq_ediv_of_nonneg (by omega)
  refine ⟨s1, s2, s3, by omega, by omega, by omega, by omega, by omega⟩
end Go.Proofs.YtdnigflmcmammaaDoor
