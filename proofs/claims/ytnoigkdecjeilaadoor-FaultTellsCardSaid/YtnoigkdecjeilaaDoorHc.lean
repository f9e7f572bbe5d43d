/- Contracts of functions of the seat's program, and what follows of them: Hc. Conditions are in each statement. -/
import Derived.Test.YtnoigkdecjeilaaDoorHb
set_option linter.unusedSimpArgs false
set_option linter.unusedVariables false
namespace Go.Proofs.YtnoigkdecjeilaaDoor
open Go Go.Proofs Go.Vm Go.Extern
set_option maxRecDepth 100000
variable {G : Addr → Option Value}

/-! ### Digits are written, two by two -/
def sm (p : Nat) : UInt8 := lit3.data.getD p 0
def u8of (x : Int) : UInt8 := UInt8.ofNat (IntKind.wrap .u8 x).toNat
@[simp] theorem byL_length (l : List UInt8) : (byL l).length = l.length := by simp [byL]
theorem byL_sm (l : List UInt8) (i p : Nat) : (byL l).set i (.c (.int .u8 (byteAt lit3 p))) = byL (l.set i (sm p)) := by simp [byL, List.map_set, sm, byteAt]
theorem byL_u8 (l : List UInt8) (i : Nat) (x : Int) : (byL l).set i (.c (.int .u8 (IntKind.wrap .u8 x))) = byL (l.set i (u8of x)) := by
  have h := w8_bound x
  have e : ((u8of x).toNat : Int) = IntKind.wrap .u8 x := by
    unfold u8of
    have : (UInt8.ofNat (IntKind.wrap .u8 x).toNat).toNat = (IntKind.wrap .u8 x).toNat % 256 := by simp
    rw [this]; omega
  simp [byL, List.map_set, e]
@[simp] theorem okL_byL (p : Nat → Prop) : ∀ l : List UInt8, okL p (byL l)
  | [] => trivial
  | x :: l => ⟨trivial, okL_byL p l⟩
@[simp] theorem renL_byL (ρ : Nat → Nat) : ∀ l : List UInt8, renL ρ (byL l) = byL l
  | [] => rfl
  | x :: l => by
    have := renL_byL ρ l
    simp [byL, renL] at this ⊢; exact this
def wr2 (l : List UInt8) (i j p q : Nat) : List UInt8 := (l.set i (sm q)).set j (sm p)
@[simp] theorem wr2_length (l : List UInt8) (i j p q : Nat) : (wr2 l i j p q).length = l.length := by simp [wr2]
/-- The last eight digits. -/
def st8 (nd u : Nat) (l : List UInt8) : List UInt8 :=
  wr2 (wr2 (wr2 (wr2 l (1 + (nd - 1)) (1 + (nd - 2)) (u % 100000000 % 10000 % 100 * 2) (u % 100000000 % 10000 % 100 * 2 + 1)) (1 + (nd - 3)) (1 + (nd - 4)) (u % 100000000 % 10000 / 100 * 2) (u % 100000000 % 10000 / 100 * 2 + 1))
    (1 + (nd - 5)) (1 + (nd - 6)) (u % 100000000 / 10000 % 100 * 2) (u % 100000000 / 10000 % 100 * 2 + 1)) (1 + (nd - 7)) (1 + (nd - 8)) (u % 100000000 / 10000 / 100 * 2) (u % 100000000 / 10000 / 100 * 2 + 1)
@[simp] theorem st8_length (nd u : Nat) (l : List UInt8) : (st8 nd u l).length = l.length := by simp [st8]
def st4 (nd x : Nat) (l : List UInt8) : List UInt8 :=
  wr2 (wr2 l (1 + (nd - 1)) (1 + (nd - 2)) (x % 10000 % 100 * 2) (x % 10000 % 100 * 2 + 1)) (1 + (nd - 3)) (1 + (nd - 4)) (x % 10000 / 100 * 2) (x % 10000 / 100 * 2 + 1)
@[simp] theorem st4_length (nd u : Nat) (l : List UInt8) : (st4 nd u l).length = l.length := by simp [st4]
def st2 (nd x : Nat) (l : List UInt8) : List UInt8 := wr2 l (1 + (nd - 1)) (1 + (nd - 2)) (x % 100 * 2) (x % 100 * 2 + 1)
@[simp] theorem st2_length (nd u : Nat) (l : List UInt8) : (st2 nd u l).length = l.length := by simp [st2]
def en1 (nd x : Nat) (l : List UInt8) : List UInt8 := if 0 < nd then l.set 1 (u8of (IntKind.wrap .u32 (48 + (x : Int)))) else l
def en2 (nd x : Nat) (l : List UInt8) : List UInt8 := if 2 ≤ nd then en1 (nd - 2) (x / 100) (st2 nd x l) else en1 nd x l
def en4 (nd x : Nat) (l : List UInt8) : List UInt8 := if 4 ≤ nd then en2 (nd - 4) (x / 10000) (st4 nd x l) else en2 nd x l
def en8 : Nat → Nat → Nat → List UInt8 → List UInt8
  | 0, nd, u, l => en4 nd (u % 4294967296) l
  | k + 1, nd, u, l => en8 k (nd - 8) (u / 100000000) (st8 nd u l)
theorem en1_length (nd x : Nat) (l : List UInt8) : (en1 nd x l).length = l.length := by unfold en1; split <;> simp
theorem en2_length (nd x : Nat) (l : List UInt8) : (en2 nd x l).length = l.length := by unfold en2; split <;> simp [en1_length]
theorem en4_length (nd x : Nat) (l : List UInt8) : (en4 nd x l).length = l.length := by unfold en4; split <;> simp [en2_length]
theorem en8_length : ∀ (k nd u : Nat) (l : List UInt8), (en8 k nd u l).length = l.length
  | 0, nd, u, l => en4_length ..
  | k + 1, nd, u, l => by simp [en8, en8_length k]
theorem wu32_mod (u : Nat) : IntKind.wrap .u32 (u : Int) = ((u % 4294967296 : Nat) : Int) := by
  simp only [IntKind.wrap, IntKind.signed, IntKind.bits]
  simp
theorem tm_n (a b : Nat) : ((a : Nat) : Int).tmod (b : Int) = ((a % b : Nat) : Int) := by rw [Int.tmod_eq_emod_of_nonneg (by omega)]; simp
theorem td_n (a b : Nat) : ((a : Nat) : Int).tdiv (b : Int) = ((a / b : Nat) : Int) := by rw [Int.tdiv_eq_ediv_of_nonneg (by omega)]; simp

set_option maxHeartbeats 16000000 in
theorem ct_formatBase10 (n u0 : Nat) (l0 : List UInt8) (hn : n ≤ 20) (hl0 : l0.length = 24) (hu0 : u0 < 18446744073709551616) :
    Ct Tryd.prog G 46 [.sl 1 0 1 n, vu u0] [.cells 103 (byL l0)] (.tup []) [.cells 103 (byL (en8 (n / 8) n u0 l0))] := by
  refine callV_ic hm (fn := Tryd.f46) rfl ic46_eq ic46_nm ic46_ok (by simp) ?_
  simp -dsimp [ic46]
  refine Ti.loopW hm (fun k s => ∃ (nd u : Nat) (l : List UInt8), nd / 8 = k ∧ nd ≤ n ∧ u < 18446744073709551616 ∧ l.length = 24 ∧ en8 k nd u l = en8 (n / 8) n u0 l0 ∧ s = { t := [(0, .sl 1 0 1 n), (1, vu u), (4, vi nd)], d := [], h := [.cells 103 (byL l)] }) (k := n / 8) ?_ ?_
  · exact Wk.sub [(0, .sl 1 0 1 n), (1, vu u0), (4, vi n)] (by simp) (Wk.now ⟨n, u0, l0, rfl, Nat.le_refl _, hu0, hl0, rfl, rfl⟩)
  rintro k s ⟨nd, u, l, hk, hnd, hu, hl, he, rfl⟩
  by_cases c8 : 8 ≤ nd
  · have c8' : (8 : Int) ≤ nd := by omega
    obtain ⟨x, d_x⟩ : ∃ z : Nat, z = u % 100000000 := ⟨_, rfl⟩
    obtain ⟨u1, d_u1⟩ : ∃ z : Nat, z = u / 100000000 := ⟨_, rfl⟩
    have tm_x : ((u : Nat) : Int).tmod 100000000 = (x : Int) := by rw [d_x]; exact tm_n u 100000000
    have td_u1 : ((u : Nat) : Int).tdiv 100000000 = (u1 : Int) := by rw [d_u1]; exact td_n u 100000000
    have x_lt : x < 100000000 := by omega
    have ww_x : IntKind.wrap .u32 (x : Int) = (x : Int) := w32_of (by omega) (by omega)
    have wu_u1 : IntKind.wrap .u64 (u1 : Int) = (u1 : Int) := wu_of (by omega) (by omega)
    obtain ⟨x32, d_x32⟩ : ∃ z : Nat, z = x / 10000 := ⟨_, rfl⟩
    obtain ⟨x10, d_x10⟩ : ∃ z : Nat, z = x % 10000 := ⟨_, rfl⟩
    have td_x32 : ((x : Nat) : Int).tdiv 10000 = (x32 : Int) := by rw [d_x32]; exact td_n x 10000
    have tm_x10 : ((x : Nat) : Int).tmod 10000 = (x10 : Int) := by rw [d_x10]; exact tm_n x 10000
    have ww_x32 : IntKind.wrap .u32 (x32 : Int) = (x32 : Int) := w32_of (by omega) (by omega)
    obtain ⟨h1, d_h1⟩ : ∃ z : Nat, z = x10 / 100 := ⟨_, rfl⟩
    obtain ⟨h0, d_h0⟩ : ∃ z : Nat, z = x10 % 100 := ⟨_, rfl⟩
    have td_h1 : ((x10 : Nat) : Int).tdiv 100 = (h1 : Int) := by rw [d_h1]; exact td_n x10 100
    have tm_h0 : ((x10 : Nat) : Int).tmod 100 = (h0 : Int) := by rw [d_h0]; exact tm_n x10 100
    have ww_h1 : IntKind.wrap .u32 (h1 : Int) = (h1 : Int) := w32_of (by omega) (by omega)
    obtain ⟨h3, d_h3⟩ : ∃ z : Nat, z = x32 / 100 := ⟨_, rfl⟩
    obtain ⟨h2, d_h2⟩ : ∃ z : Nat, z = x32 % 100 := ⟨_, rfl⟩
    have td_h3 : ((x32 : Nat) : Int).tdiv 100 = (h3 : Int) := by rw [d_h3]; exact td_n x32 100
    have tm_h2 : ((x32 : Nat) : Int).tmod 100 = (h2 : Int) := by rw [d_h2]; exact tm_n x32 100
    have ww_h3 : IntKind.wrap .u32 (h3 : Int) = (h3 : Int) := w32_of (by omega) (by omega)
    obtain ⟨p0, d_p0⟩ : ∃ z : Nat, z = h0 * 2 := ⟨_, rfl⟩
    obtain ⟨q0, d_q0⟩ : ∃ z : Nat, z = p0 + 1 := ⟨_, rfl⟩
    have wp_p0 : IntKind.wrap .u32 ((h0 : Int) * 2) = (p0 : Int) := by rw [w32_of (by omega) (by omega)]; omega
    have wp_q0 : IntKind.wrap .u32 ((p0 : Int) + 1) = (q0 : Int) := by rw [w32_of (by omega) (by omega)]; omega
    have lt_p0 : p0 < 200 := by omega
    have li_p0 : (p0 : Int) < 200 := by omega
    have lt_q0 : q0 < 200 := by omega
    have li_q0 : (q0 : Int) < 200 := by omega
    obtain ⟨p1, d_p1⟩ : ∃ z : Nat, z = h1 * 2 := ⟨_, rfl⟩
    obtain ⟨q1, d_q1⟩ : ∃ z : Nat, z = p1 + 1 := ⟨_, rfl⟩
    have wp_p1 : IntKind.wrap .u32 ((h1 : Int) * 2) = (p1 : Int) := by rw [w32_of (by omega) (by omega)]; omega
    have wp_q1 : IntKind.wrap .u32 ((p1 : Int) + 1) = (q1 : Int) := by rw [w32_of (by omega) (by omega)]; omega
    have lt_p1 : p1 < 200 := by omega
    have li_p1 : (p1 : Int) < 200 := by omega
    have lt_q1 : q1 < 200 := by omega
    have li_q1 : (q1 : Int) < 200 := by omega
    obtain ⟨p2, d_p2⟩ : ∃ z : Nat, z = h2 * 2 := ⟨_, rfl⟩
    obtain ⟨q2, d_q2⟩ : ∃ z : Nat, z = p2 + 1 := ⟨_, rfl⟩
    have wp_p2 : IntKind.wrap .u32 ((h2 : Int) * 2) = (p2 : Int) := by rw [w32_of (by omega) (by omega)]; omega
    have wp_q2 : IntKind.wrap .u32 ((p2 : Int) + 1) = (q2 : Int) := by rw [w32_of (by omega) (by omega)]; omega
    have lt_p2 : p2 < 200 := by omega
    have li_p2 : (p2 : Int) < 200 := by omega
    have lt_q2 : q2 < 200 := by omega
    have li_q2 : (q2 : Int) < 200 := by omega
    obtain ⟨p3, d_p3⟩ : ∃ z : Nat, z = h3 * 2 := ⟨_, rfl⟩
    obtain ⟨q3, d_q3⟩ : ∃ z : Nat, z = p3 + 1 := ⟨_, rfl⟩
    have wp_p3 : IntKind.wrap .u32 ((h3 : Int) * 2) = (p3 : Int) := by rw [w32_of (by omega) (by omega)]; omega
    have wp_q3 : IntKind.wrap .u32 ((p3 : Int) + 1) = (q3 : Int) := by rw [w32_of (by omega) (by omega)]; omega
    have lt_p3 : p3 < 200 := by omega
    have li_p3 : (p3 : Int) < 200 := by omega
    have lt_q3 : q3 < 200 := by omega
    have li_q3 : (q3 : Int) < 200 := by omega
    obtain ⟨m1, d_m1⟩ : ∃ z : Nat, z = nd - 1 := ⟨_, rfl⟩
    have wm_m1 : IntKind.wrap .i64 ((nd : Int) - 1) = (m1 : Int) := by rw [w64_of (by omega) (by omega)]; omega
    have ln_m1 : m1 < n := by omega
    have lm_m1 : (m1 : Int) < n := by omega
    have la_m1 : 1 + m1 < 24 := by omega
    have lb_m1 : 1 + m1 + 1 ≤ 24 := by omega
    obtain ⟨m2, d_m2⟩ : ∃ z : Nat, z = nd - 2 := ⟨_, rfl⟩
    have wm_m2 : IntKind.wrap .i64 ((nd : Int) - 2) = (m2 : Int) := by rw [w64_of (by omega) (by omega)]; omega
    have ln_m2 : m2 < n := by omega
    have lm_m2 : (m2 : Int) < n := by omega
    have la_m2 : 1 + m2 < 24 := by omega
    have lb_m2 : 1 + m2 + 1 ≤ 24 := by omega
    obtain ⟨m3, d_m3⟩ : ∃ z : Nat, z = nd - 3 := ⟨_, rfl⟩
    have wm_m3 : IntKind.wrap .i64 ((nd : Int) - 3) = (m3 : Int) := by rw [w64_of (by omega) (by omega)]; omega
    have ln_m3 : m3 < n := by omega
    have lm_m3 : (m3 : Int) < n := by omega
    have la_m3 : 1 + m3 < 24 := by omega
    have lb_m3 : 1 + m3 + 1 ≤ 24 := by omega
    obtain ⟨m4, d_m4⟩ : ∃ z : Nat, z = nd - 4 := ⟨_, rfl⟩
    have wm_m4 : IntKind.wrap .i64 ((nd : Int) - 4) = (m4 : Int) := by rw [w64_of (by omega) (by omega)]; omega
    have ln_m4 : m4 < n := by omega
    have lm_m4 : (m4 : Int) < n := by omega
    have la_m4 : 1 + m4 < 24 := by omega
    have lb_m4 : 1 + m4 + 1 ≤ 24 := by omega
    obtain ⟨m5, d_m5⟩ : ∃ z : Nat, z = nd - 5 := ⟨_, rfl⟩
    have wm_m5 : IntKind.wrap .i64 ((nd : Int) - 5) = (m5 : Int) := by rw [w64_of (by omega) (by omega)]; omega
    have ln_m5 : m5 < n := by omega
    have lm_m5 : (m5 : Int) < n := by omega
    have la_m5 : 1 + m5 < 24 := by omega
    have lb_m5 : 1 + m5 + 1 ≤ 24 := by omega
    obtain ⟨m6, d_m6⟩ : ∃ z : Nat, z = nd - 6 := ⟨_, rfl⟩
    have wm_m6 : IntKind.wrap .i64 ((nd : Int) - 6) = (m6 : Int) := by rw [w64_of (by omega) (by omega)]; omega
    have ln_m6 : m6 < n := by omega
    have lm_m6 : (m6 : Int) < n := by omega
    have la_m6 : 1 + m6 < 24 := by omega
    have lb_m6 : 1 + m6 + 1 ≤ 24 := by omega
    obtain ⟨m7, d_m7⟩ : ∃ z : Nat, z = nd - 7 := ⟨_, rfl⟩
    have wm_m7 : IntKind.wrap .i64 ((nd : Int) - 7) = (m7 : Int) := by rw [w64_of (by omega) (by omega)]; omega
    have ln_m7 : m7 < n := by omega
    have lm_m7 : (m7 : Int) < n := by omega
    have la_m7 : 1 + m7 < 24 := by omega
    have lb_m7 : 1 + m7 + 1 ≤ 24 := by omega
    obtain ⟨m8, d_m8⟩ : ∃ z : Nat, z = nd - 8 := ⟨_, rfl⟩
    have wm_m8 : IntKind.wrap .i64 ((nd : Int) - 8) = (m8 : Int) := by rw [w64_of (by omega) (by omega)]; omega
    have ln_m8 : m8 < n := by omega
    have lm_m8 : (m8 : Int) < n := by omega
    have la_m8 : 1 + m8 < 24 := by omega
    have lb_m8 : 1 + m8 + 1 ≤ 24 := by omega
    have hst : st8 nd u l = wr2 (wr2 (wr2 (wr2 l (1 + m1) (1 + m2) p0 q0) (1 + m3) (1 + m4) p1 q1) (1 + m5) (1 + m6) p2 q2) (1 + m7) (1 + m8) p3 q3 := by
      rw [d_q0, d_q1, d_q2, d_q3, d_p0, d_p1, d_p2, d_p3, d_h0, d_h1, d_h2, d_h3, d_x10, d_x32, d_x, d_m1, d_m2, d_m3, d_m4, d_m5, d_m6, d_m7, d_m8]; rfl
    obtain ⟨k', rfl⟩ : ∃ k', k = k' + 1 := ⟨k - 1, by omega⟩
    have he2 : en8 k' m8 u1 (st8 nd u l) = en8 (n / 8) n u0 l0 := by rw [← he, d_m8, d_u1]; rfl
    have hl2 : (st8 nd u l).length = 24 := by simp [hl]
    repeat' first
      | simp -dsimp [c8, c8', hl, byL_sm, tm_x, td_u1, ww_x, wu_u1, td_x32, tm_x10, ww_x32, td_h1, tm_h0, ww_h1, td_h3, tm_h2, ww_h3, wp_p0, wp_q0, lt_p0, li_p0, lt_q0, li_q0, wp_p1, wp_q1, lt_p1, li_p1, lt_q1, li_q1, wp_p2, wp_q2, lt_p2, li_p2, lt_q2, li_q2, wp_p3, wp_q3, lt_p3, li_p3, lt_q3, li_q3, wm_m1, ln_m1, lm_m1, la_m1, lb_m1, wm_m2, ln_m2, lm_m2, la_m2, lb_m2, wm_m3, ln_m3, lm_m3, la_m3, lb_m3, wm_m4, ln_m4, lm_m4, la_m4, lb_m4, wm_m5, ln_m5, lm_m5, la_m5, lb_m5, wm_m6, ln_m6, lm_m6, la_m6, lb_m6, wm_m7, ln_m7, lm_m7, la_m7, lb_m7, wm_m8, ln_m8, lm_m8, la_m8, lb_m8]
      | (with_reducible refine ordI (by kernel_rfl) ?_)
    exact ⟨k', by omega, Wk.sub [(0, .sl 1 0 1 n), (1, vu u1), (4, vi m8)] (by simp) (Wk.now ⟨m8, u1, st8 nd u l, by omega, by omega, by omega, hl2, he2, by rw [hst]; rfl⟩)⟩
  have hk0 : k = 0 := by omega
  subst hk0
  have c8' : ¬ (8 : Int) ≤ nd := by omega
  obtain ⟨x, d_x⟩ : ∃ z : Nat, z = u % 4294967296 := ⟨_, rfl⟩
  have w_x : IntKind.wrap .u32 (u : Int) = (x : Int) := by rw [d_x]; exact wu32_mod u
  have x_lt : x < 4294967296 := by omega
  by_cases c4 : 4 ≤ nd
  · have c4' : (4 : Int) ≤ nd := by omega
    obtain ⟨y, d_y⟩ : ∃ z : Nat, z = x % 10000 := ⟨_, rfl⟩
    obtain ⟨x1, d_x1⟩ : ∃ z : Nat, z = x / 10000 := ⟨_, rfl⟩
    have tm_y : ((x : Nat) : Int).tmod 10000 = (y : Int) := by rw [d_y]; exact tm_n x 10000
    have td_x1 : ((x : Nat) : Int).tdiv 10000 = (x1 : Int) := by rw [d_x1]; exact td_n x 10000
    have ww_x1 : IntKind.wrap .u32 (x1 : Int) = (x1 : Int) := w32_of (by omega) (by omega)
    obtain ⟨h1, d_h1⟩ : ∃ z : Nat, z = y / 100 := ⟨_, rfl⟩
    obtain ⟨h0, d_h0⟩ : ∃ z : Nat, z = y % 100 := ⟨_, rfl⟩
    have td_h1 : ((y : Nat) : Int).tdiv 100 = (h1 : Int) := by rw [d_h1]; exact td_n y 100
    have tm_h0 : ((y : Nat) : Int).tmod 100 = (h0 : Int) := by rw [d_h0]; exact tm_n y 100
    have ww_h1 : IntKind.wrap .u32 (h1 : Int) = (h1 : Int) := w32_of (by omega) (by omega)
    obtain ⟨p0, d_p0⟩ : ∃ z : Nat, z = h0 * 2 := ⟨_, rfl⟩
    obtain ⟨q0, d_q0⟩ : ∃ z : Nat, z = p0 + 1 := ⟨_, rfl⟩
    have wp_p0 : IntKind.wrap .u32 ((h0 : Int) * 2) = (p0 : Int) := by rw [w32_of (by omega) (by omega)]; omega
    have wp_q0 : IntKind.wrap .u32 ((p0 : Int) + 1) = (q0 : Int) := by rw [w32_of (by omega) (by omega)]; omega
    have lt_p0 : p0 < 200 := by omega
    have li_p0 : (p0 : Int) < 200 := by omega
    have lt_q0 : q0 < 200 := by omega
    have li_q0 : (q0 : Int) < 200 := by omega
    obtain ⟨p1, d_p1⟩ : ∃ z : Nat, z = h1 * 2 := ⟨_, rfl⟩
    obtain ⟨q1, d_q1⟩ : ∃ z : Nat, z = p1 + 1 := ⟨_, rfl⟩
    have wp_p1 : IntKind.wrap .u32 ((h1 : Int) * 2) = (p1 : Int) := by rw [w32_of (by omega) (by omega)]; omega
    have wp_q1 : IntKind.wrap .u32 ((p1 : Int) + 1) = (q1 : Int) := by rw [w32_of (by omega) (by omega)]; omega
    have lt_p1 : p1 < 200 := by omega
    have li_p1 : (p1 : Int) < 200 := by omega
    have lt_q1 : q1 < 200 := by omega
    have li_q1 : (q1 : Int) < 200 := by omega
    obtain ⟨m1, d_m1⟩ : ∃ z : Nat, z = nd - 1 := ⟨_, rfl⟩
    have wm_m1 : IntKind.wrap .i64 ((nd : Int) - 1) = (m1 : Int) := by rw [w64_of (by omega) (by omega)]; omega
    have ln_m1 : m1 < n := by omega
    have lm_m1 : (m1 : Int) < n := by omega
    have la_m1 : 1 + m1 < 24 := by omega
    have lb_m1 : 1 + m1 + 1 ≤ 24 := by omega
    obtain ⟨m2, d_m2⟩ : ∃ z : Nat, z = nd - 2 := ⟨_, rfl⟩
    have wm_m2 : IntKind.wrap .i64 ((nd : Int) - 2) = (m2 : Int) := by rw [w64_of (by omega) (by omega)]; omega
    have ln_m2 : m2 < n := by omega
    have lm_m2 : (m2 : Int) < n := by omega
    have la_m2 : 1 + m2 < 24 := by omega
    have lb_m2 : 1 + m2 + 1 ≤ 24 := by omega
    obtain ⟨m3, d_m3⟩ : ∃ z : Nat, z = nd - 3 := ⟨_, rfl⟩
    have wm_m3 : IntKind.wrap .i64 ((nd : Int) - 3) = (m3 : Int) := by rw [w64_of (by omega) (by omega)]; omega
    have ln_m3 : m3 < n := by omega
    have lm_m3 : (m3 : Int) < n := by omega
    have la_m3 : 1 + m3 < 24 := by omega
    have lb_m3 : 1 + m3 + 1 ≤ 24 := by omega
    obtain ⟨m4, d_m4⟩ : ∃ z : Nat, z = nd - 4 := ⟨_, rfl⟩
    have wm_m4 : IntKind.wrap .i64 ((nd : Int) - 4) = (m4 : Int) := by rw [w64_of (by omega) (by omega)]; omega
    have ln_m4 : m4 < n := by omega
    have lm_m4 : (m4 : Int) < n := by omega
    have la_m4 : 1 + m4 < 24 := by omega
    have lb_m4 : 1 + m4 + 1 ≤ 24 := by omega
    have hst4 : st4 nd x l = wr2 (wr2 l (1 + m1) (1 + m2) p0 q0) (1 + m3) (1 + m4) p1 q1 := by
      rw [d_q0, d_q1, d_p0, d_p1, d_h0, d_h1, d_y, d_m1, d_m2, d_m3, d_m4]; rfl
    by_cases c2 : 2 ≤ m4
    · have c2' : (2 : Int) ≤ m4 := by omega
      obtain ⟨g, d_g⟩ : ∃ z : Nat, z = x1 % 100 := ⟨_, rfl⟩
      obtain ⟨x2, d_x2⟩ : ∃ z : Nat, z = x1 / 100 := ⟨_, rfl⟩
      have tm_g : ((x1 : Nat) : Int).tmod 100 = (g : Int) := by rw [d_g]; exact tm_n x1 100
      have td_x2 : ((x1 : Nat) : Int).tdiv 100 = (x2 : Int) := by rw [d_x2]; exact td_n x1 100
      have ww_x2 : IntKind.wrap .u32 (x2 : Int) = (x2 : Int) := w32_of (by omega) (by omega)
      obtain ⟨r, d_r⟩ : ∃ z : Nat, z = g * 2 := ⟨_, rfl⟩
      obtain ⟨s, d_s⟩ : ∃ z : Nat, z = r + 1 := ⟨_, rfl⟩
      have wp_r : IntKind.wrap .u32 ((g : Int) * 2) = (r : Int) := by rw [w32_of (by omega) (by omega)]; omega
      have wp_s : IntKind.wrap .u32 ((r : Int) + 1) = (s : Int) := by rw [w32_of (by omega) (by omega)]; omega
      have lt_r : r < 200 := by omega
      have li_r : (r : Int) < 200 := by omega
      have lt_s : s < 200 := by omega
      have li_s : (s : Int) < 200 := by omega
      obtain ⟨n1, d_n1⟩ : ∃ z : Nat, z = m4 - 1 := ⟨_, rfl⟩
      have wm_n1 : IntKind.wrap .i64 ((m4 : Int) - 1) = (n1 : Int) := by rw [w64_of (by omega) (by omega)]; omega
      have ln_n1 : n1 < n := by omega
      have lm_n1 : (n1 : Int) < n := by omega
      have la_n1 : 1 + n1 < 24 := by omega
      have lb_n1 : 1 + n1 + 1 ≤ 24 := by omega
      obtain ⟨n2, d_n2⟩ : ∃ z : Nat, z = m4 - 2 := ⟨_, rfl⟩
      have wm_n2 : IntKind.wrap .i64 ((m4 : Int) - 2) = (n2 : Int) := by rw [w64_of (by omega) (by omega)]; omega
      have ln_n2 : n2 < n := by omega
      have lm_n2 : (n2 : Int) < n := by omega
      have la_n2 : 1 + n2 < 24 := by omega
      have lb_n2 : 1 + n2 + 1 ≤ 24 := by omega
      have hst2 : st2 m4 x1 (wr2 (wr2 l (1 + m1) (1 + m2) p0 q0) (1 + m3) (1 + m4) p1 q1) = wr2 (wr2 (wr2 l (1 + m1) (1 + m2) p0 q0) (1 + m3) (1 + m4) p1 q1) (1 + n1) (1 + n2) r s := by
        rw [d_s, d_r, d_g, d_n1, d_n2]; rfl
      by_cases c1 : 0 < n2
      · have c1' : (0 : Int) < n2 := by omega
        have n0 : 0 < n := by omega
        have n0' : (0 : Int) < n := by omega
        have hfin : en8 0 nd u l = ((wr2 (wr2 (wr2 l (1 + m1) (1 + m2) p0 q0) (1 + m3) (1 + m4) p1 q1) (1 + n1) (1 + n2) r s).set 1 (u8of (IntKind.wrap .u32 (48 + (x2 : Int))))) := by
          unfold en8 en4
          rw [← d_x, if_pos c4]
          rw [← d_m4, ← d_x1, hst4]
          unfold en2
          rw [if_pos c2]
          rw [← d_n2, ← d_x2, hst2]
          unfold en1
          rw [if_pos c1]
        repeat' first
          | simp -dsimp [c8, c8', c4, c4', c2, c2', c1, c1', w_x, hl, byL_sm, byL_u8, n0, n0', tm_y, td_x1, ww_x1, td_h1, tm_h0, ww_h1, wp_p0, wp_q0, lt_p0, li_p0, lt_q0, li_q0, wp_p1, wp_q1, lt_p1, li_p1, lt_q1, li_q1, wm_m1, ln_m1, lm_m1, la_m1, lb_m1, wm_m2, ln_m2, lm_m2, la_m2, lb_m2, wm_m3, ln_m3, lm_m3, la_m3, lb_m3, wm_m4, ln_m4, lm_m4, la_m4, lb_m4, tm_g, td_x2, ww_x2, wp_r, wp_s, lt_r, li_r, lt_s, li_s, wm_n1, ln_n1, lm_n1, la_n1, lb_n1, wm_n2, ln_n2, lm_n2, la_n2, lb_n2]
          | (with_reducible refine ordI (by kernel_rfl) ?_)
        exact exitV.cut (by simp) (by simp) (by simp) (by simp) ⟨rfl, by rw [← he, hfin]; rfl⟩
      · have c1' : ¬ (0 : Int) < n2 := by omega
        have hfin : en8 0 nd u l = (wr2 (wr2 (wr2 l (1 + m1) (1 + m2) p0 q0) (1 + m3) (1 + m4) p1 q1) (1 + n1) (1 + n2) r s) := by
          unfold en8 en4
          rw [← d_x, if_pos c4]
          rw [← d_m4, ← d_x1, hst4]
          unfold en2
          rw [if_pos c2]
          rw [← d_n2, ← d_x2, hst2]
          unfold en1
          rw [if_neg c1]
        repeat' first
          | simp -dsimp [c8, c8', c4, c4', c2, c2', c1, c1', w_x, hl, byL_sm, byL_u8, tm_y, td_x1, ww_x1, td_h1, tm_h0, ww_h1, wp_p0, wp_q0, lt_p0, li_p0, lt_q0, li_q0, wp_p1, wp_q1, lt_p1, li_p1, lt_q1, li_q1, wm_m1, ln_m1, lm_m1, la_m1, lb_m1, wm_m2, ln_m2, lm_m2, la_m2, lb_m2, wm_m3, ln_m3, lm_m3, la_m3, lb_m3, wm_m4, ln_m4, lm_m4, la_m4, lb_m4, tm_g, td_x2, ww_x2, wp_r, wp_s, lt_r, li_r, lt_s, li_s, wm_n1, ln_n1, lm_n1, la_n1, lb_n1, wm_n2, ln_n2, lm_n2, la_n2, lb_n2]
          | (with_reducible refine ordI (by kernel_rfl) ?_)
        exact exitV.cut (by simp) (by simp) (by simp) (by simp) ⟨rfl, by rw [← he, hfin]; rfl⟩
    · have c2' : ¬ (2 : Int) ≤ m4 := by omega
      by_cases c1 : 0 < m4
      · have c1' : (0 : Int) < m4 := by omega
        have n0 : 0 < n := by omega
        have n0' : (0 : Int) < n := by omega
        have hfin : en8 0 nd u l = ((wr2 (wr2 l (1 + m1) (1 + m2) p0 q0) (1 + m3) (1 + m4) p1 q1).set 1 (u8of (IntKind.wrap .u32 (48 + (x1 : Int))))) := by
          unfold en8 en4
          rw [← d_x, if_pos c4]
          rw [← d_m4, ← d_x1, hst4]
          unfold en2
          rw [if_neg c2]
          unfold en1
          rw [if_pos c1]
        repeat' first
          | simp -dsimp [c8, c8', c4, c4', c2, c2', c1, c1', w_x, hl, byL_sm, byL_u8, n0, n0', tm_y, td_x1, ww_x1, td_h1, tm_h0, ww_h1, wp_p0, wp_q0, lt_p0, li_p0, lt_q0, li_q0, wp_p1, wp_q1, lt_p1, li_p1, lt_q1, li_q1, wm_m1, ln_m1, lm_m1, la_m1, lb_m1, wm_m2, ln_m2, lm_m2, la_m2, lb_m2, wm_m3, ln_m3, lm_m3, la_m3, lb_m3, wm_m4, ln_m4, lm_m4, la_m4, lb_m4]
          | (with_reducible refine ordI (by kernel_rfl) ?_)
        exact exitV.cut (by simp) (by simp) (by simp) (by simp) ⟨rfl, by rw [← he, hfin]; rfl⟩
      · have c1' : ¬ (0 : Int) < m4 := by omega
        have hfin : en8 0 nd u l = (wr2 (wr2 l (1 + m1) (1 + m2) p0 q0) (1 + m3) (1 + m4) p1 q1) := by
          unfold en8 en4
          rw [← d_x, if_pos c4]
          rw [← d_m4, ← d_x1, hst4]
          unfold en2
          rw [if_neg c2]
          unfold en1
          rw [if_neg c1]
        repeat' first
          | simp -dsimp [c8, c8', c4, c4', c2, c2', c1, c1', w_x, hl, byL_sm, byL_u8, tm_y, td_x1, ww_x1, td_h1, tm_h0, ww_h1, wp_p0, wp_q0, lt_p0, li_p0, lt_q0, li_q0, wp_p1, wp_q1, lt_p1, li_p1, lt_q1, li_q1, wm_m1, ln_m1, lm_m1, la_m1, lb_m1, wm_m2, ln_m2, lm_m2, la_m2, lb_m2, wm_m3, ln_m3, lm_m3, la_m3, lb_m3, wm_m4, ln_m4, lm_m4, la_m4, lb_m4]
          | (with_reducible refine ordI (by kernel_rfl) ?_)
        exact exitV.cut (by simp) (by simp) (by simp) (by simp) ⟨rfl, by rw [← he, hfin]; rfl⟩
  · have c4' : ¬ (4 : Int) ≤ nd := by omega
    by_cases c2 : 2 ≤ nd
    · have c2' : (2 : Int) ≤ nd := by omega
      obtain ⟨g, d_g⟩ : ∃ z : Nat, z = x % 100 := ⟨_, rfl⟩
      obtain ⟨x2, d_x2⟩ : ∃ z : Nat, z = x / 100 := ⟨_, rfl⟩
      have tm_g : ((x : Nat) : Int).tmod 100 = (g : Int) := by rw [d_g]; exact tm_n x 100
      have td_x2 : ((x : Nat) : Int).tdiv 100 = (x2 : Int) := by rw [d_x2]; exact td_n x 100
      have ww_x2 : IntKind.wrap .u32 (x2 : Int) = (x2 : Int) := w32_of (by omega) (by omega)
      obtain ⟨r, d_r⟩ : ∃ z : Nat, z = g * 2 := ⟨_, rfl⟩
      obtain ⟨s, d_s⟩ : ∃ z : Nat, z = r + 1 := ⟨_, rfl⟩
      have wp_r : IntKind.wrap .u32 ((g : Int) * 2) = (r : Int) := by rw [w32_of (by omega) (by omega)]; omega
      have wp_s : IntKind.wrap .u32 ((r : Int) + 1) = (s : Int) := by rw [w32_of (by omega) (by omega)]; omega
      have lt_r : r < 200 := by omega
      have li_r : (r : Int) < 200 := by omega
      have lt_s : s < 200 := by omega
      have li_s : (s : Int) < 200 := by omega
      obtain ⟨n1, d_n1⟩ : ∃ z : Nat, z = nd - 1 := ⟨_, rfl⟩
      have wm_n1 : IntKind.wrap .i64 ((nd : Int) - 1) = (n1 : Int) := by rw [w64_of (by omega) (by omega)]; omega
      have ln_n1 : n1 < n := by omega
      have lm_n1 : (n1 : Int) < n := by omega
      have la_n1 : 1 + n1 < 24 := by omega
      have lb_n1 : 1 + n1 + 1 ≤ 24 := by omega
      obtain ⟨n2, d_n2⟩ : ∃ z : Nat, z = nd - 2 := ⟨_, rfl⟩
      have wm_n2 : IntKind.wrap .i64 ((nd : Int) - 2) = (n2 : Int) := by rw [w64_of (by omega) (by omega)]; omega
      have ln_n2 : n2 < n := by omega
      have lm_n2 : (n2 : Int) < n := by omega
      have la_n2 : 1 + n2 < 24 := by omega
      have lb_n2 : 1 + n2 + 1 ≤ 24 := by omega
      have hst2 : st2 nd x l = wr2 l (1 + n1) (1 + n2) r s := by
        rw [d_s, d_r, d_g, d_n1, d_n2]; rfl
      by_cases c1 : 0 < n2
      · have c1' : (0 : Int) < n2 := by omega
        have n0 : 0 < n := by omega
        have n0' : (0 : Int) < n := by omega
        have hfin : en8 0 nd u l = ((wr2 l (1 + n1) (1 + n2) r s).set 1 (u8of (IntKind.wrap .u32 (48 + (x2 : Int))))) := by
          unfold en8 en4
          rw [← d_x, if_neg c4]
          unfold en2
          rw [if_pos c2]
          rw [← d_n2, ← d_x2, hst2]
          unfold en1
          rw [if_pos c1]
        repeat' first
          | simp -dsimp [c8, c8', c4, c4', c2, c2', c1, c1', w_x, hl, byL_sm, byL_u8, n0, n0', tm_g, td_x2, ww_x2, wp_r, wp_s, lt_r, li_r, lt_s, li_s, wm_n1, ln_n1, lm_n1, la_n1, lb_n1, wm_n2, ln_n2, lm_n2, la_n2, lb_n2]
          | (with_reducible refine ordI (by kernel_rfl) ?_)
        exact exitV.cut (by simp) (by simp) (by simp) (by simp) ⟨rfl, by rw [← he, hfin]; rfl⟩
      · have c1' : ¬ (0 : Int) < n2 := by omega
        have hfin : en8 0 nd u l = (wr2 l (1 + n1) (1 + n2) r s) := by
          unfold en8 en4
          rw [← d_x, if_neg c4]
          unfold en2
          rw [if_pos c2]
          rw [← d_n2, ← d_x2, hst2]
          unfold en1
          rw [if_neg c1]
        repeat' first
          | simp -dsimp [c8, c8', c4, c4', c2, c2', c1, c1', w_x, hl, byL_sm, byL_u8, tm_g, td_x2, ww_x2, wp_r, wp_s, lt_r, li_r, lt_s, li_s, wm_n1, ln_n1, lm_n1, la_n1, lb_n1, wm_n2, ln_n2, lm_n2, la_n2, lb_n2]
          | (with_reducible refine ordI (by kernel_rfl) ?_)
        exact exitV.cut (by simp) (by simp) (by simp) (by simp) ⟨rfl, by rw [← he, hfin]; rfl⟩
    · have c2' : ¬ (2 : Int) ≤ nd := by omega
      by_cases c1 : 0 < nd
      · have c1' : (0 : Int) < nd := by omega
        have n0 : 0 < n := by omega
        have n0' : (0 : Int) < n := by omega
        have hfin : en8 0 nd u l = (l.set 1 (u8of (IntKind.wrap .u32 (48 + (x : Int))))) := by
          unfold en8 en4
          rw [← d_x, if_neg c4]
          unfold en2
          rw [if_neg c2]
          unfold en1
          rw [if_pos c1]
        repeat' first
          | simp -dsimp [c8, c8', c4, c4', c2, c2', c1, c1', w_x, hl, byL_sm, byL_u8, n0, n0']
          | (with_reducible refine ordI (by kernel_rfl) ?_)
        exact exitV.cut (by simp) (by simp) (by simp) (by simp) ⟨rfl, by rw [← he, hfin]; rfl⟩
      · have c1' : ¬ (0 : Int) < nd := by omega
        have hfin : en8 0 nd u l = l := by
          unfold en8 en4
          rw [← d_x, if_neg c4]
          unfold en2
          rw [if_neg c2]
          unfold en1
          rw [if_neg c1]
        repeat' first
          | simp -dsimp [c8, c8', c4, c4', c2, c2', c1, c1', w_x, hl, byL_sm, byL_u8]
          | (with_reducible refine ordI (by kernel_rfl) ?_)
        exact exitV.cut (by simp) (by simp) (by simp) (by simp) ⟨rfl, by rw [← he, hfin]; rfl⟩
end Go.Proofs.YtnoigkdecjeilaaDoor
