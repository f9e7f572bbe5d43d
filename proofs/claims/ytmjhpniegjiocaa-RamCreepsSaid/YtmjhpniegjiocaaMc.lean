/- Contracts of functions of the seat's program, and what follows of them: Mc. Conditions are in each statement. -/
import Derived.Test.YtmjhpniegjiocaaMh
set_option linter.unusedSimpArgs false
set_option linter.unusedVariables false
namespace Go.Proofs.Ytmjhpniegjiocaa
open Go Go.Proofs Go.Vm

/-- How far a speed goes on, halted. -/
def cst (b : Int) : Nat → Int → Int
  | 0, _ => 0
  | k + 1, s => if 0 < s then max (s - b) 0 + cst b k (max (s - b) 0) else 0
theorem cst_nn {b : Int} : ∀ (k : Nat) (s : Int), 0 ≤ cst b k s
  | 0, _ => by simp [cst]
  | k + 1, s => by
    unfold cst
    split
    · have := cst_nn (b := b) k (max (s - b) 0); omega
    · omega
theorem cst_mono {b : Int} : ∀ (k : Nat) {s t : Int}, s ≤ t → cst b k s ≤ cst b k t
  | 0, _, _, _ => by simp [cst]
  | k + 1, s, t, h => by
    have n := cst_nn (b := b) k (max (t - b) 0)
    have m := cst_mono (b := b) k (s := max (s - b) 0) (t := max (t - b) 0) (by omega)
    simp only [cst]
    split <;> split <;> omega
theorem coast_cst {b : Int} (hb : 1 ≤ b) (hb2 : b ≤ 1000) : ∀ (k : Nat) (s sum : Int), s ≤ 1000 → 0 ≤ sum → sum + k * 1000 ≤ 1000000000 → coastR b k s sum = sum + cst b k s
  | 0, s, sum, _, _, _ => by simp [coastR, cst]
  | k + 1, s, sum, h1, h2, h3 => by
    unfold coastR cst
    split
    · rename_i h
      rw [towR_down h h1 hb hb2]
      have e : w64 (sum + max (s - b) 0) = sum + max (s - b) 0 := w64_id (by omega) (by omega)
      rw [e, coast_cst hb hb2 k (max (s - b) 0) (sum + max (s - b) 0) (by omega) (by omega) (by omega)]
      omega
    · omega
/-- A car that creeps, or was told to halt. -/
def Crp (c : Cfg) (lv p sp : Int) : Prop := lv - c.half ≤ p ∧ 0 ≤ sp ∧ sp ≤ c.sh ∧ (p ≤ lv + c.vane ∨ ∃ k : Nat, sp ≤ k ∧ p + cst c.ramp k sp ≤ lv + c.half)
theorem creeps {c : Cfg} (g : Good c) {i : Nat} (hi : i < c.lv.length) {k : Car} {d : Drv} (hh : d.held = true) (hl : d.level = at0 c.lv i) (hpw : d.power = true)
    (hm : d.motion = if k.pos - at0 c.lv i ≤ c.vane ∧ at0 c.lv i - k.pos ≤ c.vane then 1 else 0) (h : Crp c (at0 c.lv i) k.pos k.speed) :
    Crp c (at0 c.lv i) (tick c k d).pos (tick c k d).speed ∧ (tick c k d).pos ≤ at0 c.lv i + c.half := by
  obtain ⟨h1, h2, h3, h4⟩ := h
  have k1 := g.leak1
  have b := clampR_bd (n := d.leak) (lo := 0) (hi := c.leak) k1
  have r1 := g.ramp1; have r2 := g.ramp2
  have s1 := g.sl; have s2 := g.sh; have s3 := g.fl; have s4 := g.fh; have s5 := g.fh2
  have lb := lv_bd g hi
  have m := mono_lv g (j := i) (k := c.lv.length - 1) (by omega) (by have := g.h2; omega)
  have n := nums_of g
  have n1 := n.lev; have n2 := n.cr; have n3 := n.va; have n4 := n.ha; have v3 := g.vane3
  have hf := g.half1
  rw [coast_cst r1 r2 2000 c.sh 0 (by omega) (by omega) (by omega)] at hf
  have ct := clampR_bd (n := d.flow) (lo := c.sl) (hi := c.sh) (by omega)
  have tg : targetR c d = if k.pos - at0 c.lv i ≤ c.vane ∧ at0 c.lv i - k.pos ≤ c.vane then clampR d.flow c.sl c.sh else 0 := by
    by_cases z : k.pos - at0 c.lv i ≤ c.vane ∧ at0 c.lv i - k.pos ≤ c.vane
    · have hm1 : d.motion = 1 := by rw [hm, if_pos z]
      unfold targetR
      rw [hpw, hm1, if_pos z]; simp
    · have hm1 : d.motion = 0 := by rw [hm, if_neg z]
      unfold targetR
      rw [hpw, hm1, if_neg z]; simp
  unfold tick
  rw [hh, hl, tg]
  dsimp only
  simp only [true_and]
  generalize clampR d.leak 0 c.leak = L at *
  generalize clampR d.flow c.sl c.sh = F at *
  generalize at0 c.lv i = lv at *
  generalize at0 c.lv (c.lv.length - 1) = T at *
  clear tg hm hl
  have vb : ∃ v, v = (if k.speed < (if k.pos - lv ≤ c.vane ∧ lv - k.pos ≤ c.vane then F else 0) then min (k.speed + c.ramp) (if k.pos - lv ≤ c.vane ∧ lv - k.pos ≤ c.vane then F else 0) else max (k.speed - c.ramp) (if k.pos - lv ≤ c.vane ∧ lv - k.pos ≤ c.vane then F else 0)) := ⟨_, rfl⟩
  obtain ⟨v, hv⟩ := vb
  rw [← hv]
  have hv0 : 0 ≤ v ∧ v ≤ c.sh := by
    rw [hv]; split <;> (split <;> omega)
  have key : k.pos + v ≤ lv + c.vane ∨ ∃ q : Nat, v ≤ q ∧ k.pos + v + cst c.ramp q v ≤ lv + c.half := by
    by_cases z : k.pos ≤ lv + c.vane
    · have mo := cst_mono (b := c.ramp) 2000 hv0.2
      exact .inr ⟨2000, by omega, by omega⟩
    · rcases h4 with h4 | ⟨q, q1, q2⟩
      · omega
      · have hz : ¬ (k.pos - lv ≤ c.vane ∧ lv - k.pos ≤ c.vane) := by omega
        rw [if_neg hz] at hv
        have hv' : v = max (k.speed - c.ramp) 0 := by rw [hv, if_neg (by omega)]
        cases q with
        | zero =>
          have e : v = 0 := by rw [hv']; omega
          exact .inr ⟨0, by omega, by rw [e]; simp only [cst] at q2 ⊢; omega⟩
        | succ q =>
          by_cases y : 0 < k.speed
          · simp only [cst, if_pos y, ← hv'] at q2
            exact .inr ⟨q, by omega, by omega⟩
          · have e : v = 0 := by rw [hv']; omega
            have e2 : k.speed = 0 := by omega
            rw [e2] at q2
            exact .inr ⟨q + 1, by omega, by rw [e]; omega⟩
  clear hv h4
  have nn : ∀ q : Nat, 0 ≤ cst c.ramp q v := fun q => cst_nn q v
  have up : k.pos + v ≤ lv + c.half := by
    rcases key with h | ⟨q, _, h⟩
    · omega
    · have := nn q; omega
  by_cases a1 : k.pos + v - L < lv - c.half
  · rw [if_pos a1]
    dsimp only
    rw [if_neg (by omega), if_neg (by omega)]
    refine ⟨⟨by dsimp only; omega, by dsimp only; omega, by dsimp only; omega, .inl (by dsimp only; omega)⟩, by dsimp only; omega⟩
  · rw [if_neg a1]
    dsimp only
    rw [if_neg (by omega), if_neg (by omega)]
    refine ⟨⟨by dsimp only; omega, hv0.1, hv0.2, ?_⟩, by dsimp only; omega⟩
    rcases key with h | ⟨q, h5, h6⟩
    · exact .inl (by dsimp only; omega)
    · exact .inr ⟨q, h5, by dsimp only; omega⟩

set_option maxHeartbeats 4000000 in
set_option maxRecDepth 100000 in
theorem law_RamCreeps (c : Cfg) (w off : Int) (l : List Int) (hb : c.lv.length < top) (ho : c.op.length < top) (hw1 : 0 ≤ w) (hw2 : w ≤ 255) (ho1 : -9223372036854775808 ≤ off) (ho2 : off ≤ 9223372036854775807) (hz : l.length < top) :
    CallV Try.prog G0 5 [c.enc, .c (.int .u8 w), vi off, .ro 1 (ints l)] [] fun v _ => v = .c (.bool true) := by
  refine callV_ic hm (fn := Try.f5) rfl ic5_eq ic5_nm ic5_ok (by simp) ?_
  cases hf : fineB c
  · repeat' first
      | simp -dsimp [ic5, hf]
      | (with_reducible refine (CallD.pure ct_law12_awake (by simp) ?_).callV)
      | (with_reducible refine (CallD.pure (ct_law12_fine _ ho) (by simp) ?_).callV)
      | exact exitV.now rfl
  by_cases h300 : 300 < (l.length : Int)
  · repeat' first
      | simp -dsimp [ic5, hf, h300]
      | (with_reducible refine (CallD.pure ct_law12_awake (by simp) ?_).callV)
      | (with_reducible refine (CallD.pure (ct_law12_fine _ ho) (by simp) ?_).callV)
      | exact exitV.now rfl
  have g := fineB_good hf
  have hp : 0 < c.lv.length := by have := g.h2; omega
  have hl0 : (c.lv.length : Int) ≠ 0 := by omega
  have hnil : c.lv ≠ [] := fun h => by rw [h] at hp; simp at hp
  obtain ⟨i, hil, hmod⟩ := which_mod g hw1
  have c1 : IntKind.wrap .i64 w = w := w64_of (by omega) (by omega)
  have c2 : IntKind.wrap .i64 (i : Int) = (i : Int) := w64_of (by omega) (by have := g.h16; omega)
  have n := nums_of g
  have n1 := n.lev; have n2 := n.cr; have n3 := n.va; have n4 := n.ha; have n5 := n.ne; have n6 := n.fh; have n7 := n.ne2
  have hlb := lv_bd g hil
  have v1 : IntKind.wrap .i64 (c.vane + 1) = c.vane + 1 := w64_of (by omega) (by omega)
  have v0 : c.vane + 1 ≠ 0 := by omega
  obtain ⟨d, hd⟩ : ∃ d, d = off.tmod (c.vane + 1) := ⟨_, rfl⟩
  have d1 : d < c.vane + 1 := by rw [hd]; exact Int.tmod_lt_of_pos _ (by omega)
  have d2 : -(c.vane + 1) < d := by rw [hd]; exact Int.lt_tmod_of_pos _ (by omega)
  have c3 : IntKind.wrap .i64 d = d := w64_of (by omega) (by omega)
  obtain ⟨lv, hl⟩ : ∃ lv, lv = at0 c.lv i := ⟨_, rfl⟩
  have w1 : IntKind.wrap .i64 (lv + d) = lv + d := w64_of (by omega) (by omega)
  simp -dsimp [ic5]
  repeat' first
    | simp -dsimp [hf, h300, hnil, c1, c2, c3, hmod, hl0, hil, ← hd, v0, v1, ← hl, w1]
    | (with_reducible refine (CallD.pure ct_law12_awake (by simp) ?_).callV)
    | (with_reducible refine (CallD.pure (ct_law12_fine _ ho) (by simp) ?_).callV)
    | (with_reducible refine ordI (by kernel_rfl) ?_)
  have hbig : at0 c.lv i ≤ at0 c.lv (c.lv.length - 1) := mono_lv g (by omega) (by omega)
  have hlast := lv_bd g (k := c.lv.length - 1) (by omega)
  have hbig : at0 c.lv i ≤ at0 c.lv (c.lv.length - 1) := mono_lv g (by omega) (by omega)
  have hlast := lv_bd g (k := c.lv.length - 1) (by omega)
  refine Ti.loopW hm (fun k s => ∃ (q : Nat) (p sp : Int), q + k = l.length ∧ Crp c lv p sp ∧ s = { t := [(46, vi q), (45, vi l.length), (44, .ro 1 (ints l)), (10, .p 1 0), (9, vi lv), (4, .p 0 0), (3, .ro 1 (ints l))], d := [], h := [.cells 26 c.cells, .cells 28 [vi p, vi sp]] }) (k := l.length) ?_ ?_
  · exact Wk.sub [(46, vi (0 : Nat)), (45, vi l.length), (44, .ro 1 (ints l)), (10, .p 1 0), (9, vi lv), (4, .p 0 0), (3, .ro 1 (ints l))] (by simp) (Wk.now ⟨0, lv + d, 0, by omega, ⟨by omega, by omega, by have := g.sl; have := g.sh; omega, .inl (by omega)⟩, rfl⟩)
  rintro k s ⟨q, p, sp, hq, hcr, rfl⟩
  simp -dsimp
  refine brV.intro (fun hlt => ?_) (fun hlt => ?_)
  · have hlt : q < l.length := by simpa using hlt
    have hw := wq hlt hz
    obtain ⟨M, hM⟩ : ∃ M : Int, M = if p - lv ≤ c.vane ∧ lv - p ≤ c.vane then 1 else 0 := ⟨_, rfl⟩
    obtain ⟨D, hD⟩ : ∃ D : Drv, D = ⟨M, true, at0 l q, 0, true, lv⟩ := ⟨_, rfl⟩
    have sN := ct_ref12_Near ⟨p, sp⟩ D
    have sS := ct_ram_Step c ⟨p, sp⟩ D hb hp
    have hlb' : 0 ≤ lv ∧ lv ≤ 1000000 := by rw [hl]; exact hlb
    have pin : lv - c.half ≤ p ∧ p ≤ lv + c.half := by
      obtain ⟨u1, u2, u3, u4⟩ := hcr
      refine ⟨u1, ?_⟩
      rcases u4 with u | ⟨kk, _, u⟩
      · omega
      · have := cst_nn (b := c.ramp) kk sp; omega
    have w3 : IntKind.wrap .i64 (p - lv) = p - lv := w64_of (by omega) (by omega)
    have w4 : IntKind.wrap .i64 (lv - p) = lv - p := w64_of (by omega) (by omega)
    clear hl0 hd hmod c1 c2 c3
    cases hn : near12 ⟨p, sp⟩ D
    · rw [hn] at sN
      rw [hD] at sN
      simp only [Drv.enc, Drv.cells, Car.enc] at sN
      by_cases m1 : p - lv ≤ c.vane
      · by_cases m2 : lv - p ≤ c.vane
        · rw [if_pos ⟨m1, m2⟩] at hM
          subst hM
          repeat' first
            | simp -dsimp [hlt, w3, w4, m1, m2]
            | (with_reducible refine (CallD.pure sN (by simp) ?_).callV)
            | exact exitV.now rfl
        · rw [if_neg (fun h => m2 h.2)] at hM
          subst hM
          repeat' first
            | simp -dsimp [hlt, w3, w4, m1, m2]
            | (with_reducible refine (CallD.pure sN (by simp) ?_).callV)
            | exact exitV.now rfl
      · rw [if_neg (fun h => m1 h.1)] at hM
        subst hM
        repeat' first
          | simp -dsimp [hlt, w3, w4, m1]
          | (with_reducible refine (CallD.pure sN (by simp) ?_).callV)
          | exact exitV.now rfl
    have hk := near12_bd hn
    have hDl : D.level = lv := by rw [hD]
    obtain ⟨e1, _⟩ := step_eq g (k := ⟨p, sp⟩) (d := D) (by omega) (by omega) (by omega) (by omega) (by omega) (by omega)
    rw [hl] at hcr hM
    obtain ⟨f1, f2⟩ := creeps g hil (k := ⟨p, sp⟩) (d := D) (by rw [hD]) (by rw [hDl, hl]) (by rw [hD]) (by rw [hD]; exact hM) hcr
    rw [← hl] at hcr hM f1 f2
    rw [e1] at sS
    rw [hn] at sN
    generalize tick c ⟨p, sp⟩ D = nx at *
    have f3 := f1.1
    clear hDl e1 hk hn
    rw [hD] at sN sS
    simp only [Drv.enc, Drv.cells, Car.enc] at sN sS
    have w5 : IntKind.wrap .i64 (nx.pos - lv) = nx.pos - lv := w64_of (by omega) (by omega)
    have w6 : IntKind.wrap .i64 (lv - nx.pos) = lv - nx.pos := w64_of (by omega) (by omega)
    have f4 : ¬ c.half < nx.pos - lv := by omega
    have f5 : ¬ c.half < lv - nx.pos := by omega
    clear hl hD
    by_cases m1 : p - lv ≤ c.vane
    · by_cases m2 : lv - p ≤ c.vane
      · rw [if_pos ⟨m1, m2⟩] at hM
        subst hM
        repeat' first
          | simp -dsimp [hlt, w3, w4, w5, w6, f4, f5, m1, m2, hw]
          | (with_reducible refine (CallD.pure sN (by simp) ?_).callV)
          | (with_reducible refine (CallD.pure sS (by simp) ?_).callV)
        exact ⟨k - 1, by omega, Wk.sub [(46, vi (q + 1 : Nat)), (45, vi l.length), (44, .ro 1 (ints l)), (10, .p 1 0), (9, vi lv), (4, .p 0 0), (3, .ro 1 (ints l))] (by simp) (Wk.cut 2 (by simp) (by simp) (by simp) (by simp) (by simp) (by simp) (Wk.now ⟨q + 1, nx.pos, nx.speed, by omega, f1, rfl⟩))⟩
      · rw [if_neg (fun h => m2 h.2)] at hM
        subst hM
        repeat' first
          | simp -dsimp [hlt, w3, w4, w5, w6, f4, f5, m1, m2, hw]
          | (with_reducible refine (CallD.pure sN (by simp) ?_).callV)
          | (with_reducible refine (CallD.pure sS (by simp) ?_).callV)
        exact ⟨k - 1, by omega, Wk.sub [(46, vi (q + 1 : Nat)), (45, vi l.length), (44, .ro 1 (ints l)), (10, .p 1 0), (9, vi lv), (4, .p 0 0), (3, .ro 1 (ints l))] (by simp) (Wk.cut 2 (by simp) (by simp) (by simp) (by simp) (by simp) (by simp) (Wk.now ⟨q + 1, nx.pos, nx.speed, by omega, f1, rfl⟩))⟩
    · rw [if_neg (fun h => m1 h.1)] at hM
      subst hM
      repeat' first
        | simp -dsimp [hlt, w3, w4, w5, w6, f4, f5, m1, hw]
        | (with_reducible refine (CallD.pure sN (by simp) ?_).callV)
        | (with_reducible refine (CallD.pure sS (by simp) ?_).callV)
      exact ⟨k - 1, by omega, Wk.sub [(46, vi (q + 1 : Nat)), (45, vi l.length), (44, .ro 1 (ints l)), (10, .p 1 0), (9, vi lv), (4, .p 0 0), (3, .ro 1 (ints l))] (by simp) (Wk.cut 2 (by simp) (by simp) (by simp) (by simp) (by simp) (by simp) (Wk.now ⟨q + 1, nx.pos, nx.speed, by omega, f1, rfl⟩))⟩
  · have : q = l.length := by simp at hlt; omega
    subst this
    simp -dsimp
    exact exitV.now rfl

end Go.Proofs.Ytmjhpniegjiocaa
