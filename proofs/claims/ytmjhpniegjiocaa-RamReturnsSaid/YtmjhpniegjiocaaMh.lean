/- Contracts of functions of the seat's program, and what follows of them: Mh. Conditions are in each statement. -/
import Derived.Test.YtmjhpniegjiocaaMs
set_option linter.unusedSimpArgs false
set_option linter.unusedVariables false
namespace Go.Proofs.Ytmjhpniegjiocaa
open Go Go.Proofs Go.Vm

def d0 : Drv := ⟨0, false, 0, 0, false, 0⟩
def drvs (l : List Drv) : List V := l.map fun d => d.enc
@[simp] theorem drvs_length (l : List Drv) : (drvs l).length = l.length := by simp [drvs]
def atD (l : List Drv) (k : Nat) : Drv := l.getD k d0
@[simp] theorem drvs_get (l : List Drv) (k : Nat) (h : k < (drvs l).length) : (drvs l)[k] = (atD l k).enc := by
  have : k < l.length := by simpa using h
  simp [drvs, atD, List.getD, this]
@[simp] theorem okL_drvs (p : Nat → Prop) (l : List Drv) : okL p (drvs l) := by
  induction l with
  | nil => trivial
  | cons x l ih => exact ⟨by simp, ih⟩
@[simp] theorem renL_drvs (ρ : Nat → Nat) (l : List Drv) : renL ρ (drvs l) = drvs l := by
  induction l with
  | nil => rfl
  | cons x l ih => simp [drvs, renL] at ih ⊢; exact ih

/-- What is said of a landing that is chosen by a byte. -/
theorem which_mod {c : Cfg} (g : Good c) {w : Int} (h1 : 0 ≤ w) : ∃ i : Nat, i < c.lv.length ∧ w.tmod (c.lv.length : Int) = (i : Int) := by
  have hp := g.h2
  refine ⟨w.toNat % c.lv.length, Nat.mod_lt _ (by omega), ?_⟩
  rw [Int.tmod_eq_emod_of_nonneg h1, Int.natCast_emod, Int.toNat_of_nonneg h1]

theorem target_up {c : Cfg} (g : Good c) (d : Drv) (h3 : d.motion ≠ 3) (h4 : d.motion ≠ 4) : 0 ≤ targetR c d := by
  have s1 := g.sl; have s2 := g.sh; have s3 := g.fl; have s4 := g.fh; have s5 := g.fh2
  have a := clampR_bd (n := d.flow) (lo := c.sl) (hi := c.sh) (by omega)
  have b := clampR_bd (n := d.flow) (lo := c.fl) (hi := c.fh) (by omega)
  unfold targetR
  simp only [beq_iff_eq]
  split
  · omega
  · split
    · omega
    · split
      · omega
      · first | omega | (rw [if_neg h3, if_neg h4]; omega)
theorem held {c : Cfg} (g : Good c) {i : Nat} (hi : i < c.lv.length) {k : Car} {d : Drv} (hh : d.held = true) (hl : d.level = at0 c.lv i) (p1 : at0 c.lv i - c.half ≤ k.pos) (p2 : k.pos ≤ at0 c.lv (c.lv.length - 1) + c.half) :
    at0 c.lv i - c.half ≤ (tick c k d).pos ∧ (tick c k d).pos ≤ at0 c.lv (c.lv.length - 1) + c.half ∧ (0 ≤ k.speed → d.motion ≠ 3 → d.motion ≠ 4 → k.pos - (tick c k d).pos ≤ c.leak) := by
  have k1 := g.leak1
  have b := clampR_bd (n := d.leak) (lo := 0) (hi := c.leak) k1
  have r1 := g.ramp1
  have lb := lv_bd g hi
  have m := mono_lv g (j := i) (k := c.lv.length - 1) (by omega) (by have := g.h2; omega)
  have n := nums_of g
  have n1 := n.lev; have n2 := n.cr; have n3 := n.va; have n4 := n.ha
  have tu := target_up g d
  unfold tick
  rw [hh, hl]
  dsimp only
  have vb : ∃ v, v = (if k.speed < targetR c d then min (k.speed + c.ramp) (targetR c d) else max (k.speed - c.ramp) (targetR c d)) ∧ (0 ≤ k.speed → 0 ≤ targetR c d → 0 ≤ v) := by
    refine ⟨_, rfl, ?_⟩; intro h1 h2; split <;> omega
  obtain ⟨v, hv, v1⟩ := vb
  rw [← hv]
  generalize clampR d.leak 0 c.leak = L at *
  generalize at0 c.lv i = lv at *
  generalize at0 c.lv (c.lv.length - 1) = hi' at *
  simp only [true_and]
  by_cases h1 : k.pos + v - L < lv - c.half
  · rw [if_pos h1]
    dsimp only
    rw [if_neg (by omega), if_neg (by omega)]
    dsimp only
    exact ⟨by omega, by omega, fun _ _ _ => by omega⟩
  · rw [if_neg h1]
    dsimp only
    rw [if_neg (by omega)]
    split
    · dsimp only
      refine ⟨by omega, by omega, fun _ _ _ => by omega⟩
    · dsimp only
      refine ⟨by omega, by omega, fun a b c => ?_⟩
      have := v1 a (tu b c)
      omega
@[simp] theorem putV_drv (a b c e f h : V) (d : Drv) : putV [a, b, c, e, f, h] 0 d.cells = d.cells := putV_all rfl

set_option maxHeartbeats 4000000 in
set_option maxRecDepth 100000 in
theorem law_RamHeld (c : Cfg) (w off : Int) (l : List Drv) (hb : c.lv.length < top) (ho : c.op.length < top) (hw1 : 0 ≤ w) (hw2 : w ≤ 255) (ho1 : -9223372036854775808 ≤ off) (ho2 : off ≤ 9223372036854775807) (hz : l.length < top) :
    CallV Try.prog G0 4 [c.enc, .c (.int .u8 w), vi off, .ro 6 (drvs l)] [] fun v _ => v = .c (.bool true) := by
  refine callV_ic hm (fn := Try.f4) rfl ic4_eq ic4_nm ic4_ok (by simp) ?_
  cases hf : fineB c
  · repeat' first
      | simp -dsimp [ic4, hf]
      | (with_reducible refine (CallD.pure ct_law12_awake (by simp) ?_).callV)
      | (with_reducible refine (CallD.pure (ct_law12_fine _ ho) (by simp) ?_).callV)
      | exact exitV.now rfl
  by_cases h300 : 300 < (l.length : Int)
  · repeat' first
      | simp -dsimp [ic4, hf, h300]
      | (with_reducible refine (CallD.pure ct_law12_awake (by simp) ?_).callV)
      | (with_reducible refine (CallD.pure (ct_law12_fine _ ho) (by simp) ?_).callV)
      | exact exitV.now rfl
  have g := fineB_good hf
  have hp : 0 < c.lv.length := by have := g.h2; omega
  have hl0 : (c.lv.length : Int) ≠ 0 := by omega
  have hnil : c.lv ≠ [] := fun h => by rw [h] at hp; simp at hp
  obtain ⟨i, hil, hmod⟩ := which_mod g hw1
  have c1 : IntKind.wrap .i64 w = w := w64_of (by omega) (by omega)
  have c2 : IntKind.wrap .i64 (i : Int) = (i : Int) := w64_of (by omega) (by have := g.h16; omega)
  have n := nums_of g
  have n1 := n.lev; have n2 := n.cr; have n3 := n.va; have n4 := n.ha; have n5 := n.ne; have n6 := n.fh; have n7 := n.ne2
  have hlb := lv_bd g hil
  have v1 : IntKind.wrap .i64 (c.half + 1) = c.half + 1 := w64_of (by omega) (by omega)
  have v0 : c.half + 1 ≠ 0 := by omega
  obtain ⟨d, hd⟩ : ∃ d, d = off.tmod (c.half + 1) := ⟨_, rfl⟩
  have d1 : d < c.half + 1 := by rw [hd]; exact Int.tmod_lt_of_pos _ (by omega)
  have d2 : -(c.half + 1) < d := by rw [hd]; exact Int.lt_tmod_of_pos _ (by omega)
  have c3 : IntKind.wrap .i64 d = d := w64_of (by omega) (by omega)
  obtain ⟨lv, hl⟩ : ∃ lv, lv = at0 c.lv i := ⟨_, rfl⟩
  have w1 : IntKind.wrap .i64 (lv - d) = lv - d := w64_of (by omega) (by omega)
  have w2 : IntKind.wrap .i64 (lv - c.half) = lv - c.half := w64_of (by omega) (by omega)
  simp -dsimp [ic4]
  repeat' first
    | simp -dsimp [hf, h300, hnil, c1, c2, c3, hmod, hl0, hil, ← hd, v0, v1, ← hl, w1, w2]
    | (with_reducible refine (CallD.pure ct_law12_awake (by simp) ?_).callV)
    | (with_reducible refine (CallD.pure (ct_law12_fine _ ho) (by simp) ?_).callV)
    | (with_reducible refine ordI (by kernel_rfl) ?_)
  have hbig : at0 c.lv i ≤ at0 c.lv (c.lv.length - 1) := mono_lv g (by omega) (by omega)
  have hlast := lv_bd g (k := c.lv.length - 1) (by omega)
  refine Ti.loopW hm (fun k s => ∃ (q : Nat) (p sp : Int), q + k = l.length ∧ lv - c.half ≤ p ∧ p ≤ at0 c.lv (c.lv.length - 1) + c.half ∧ s = { t := [(48, vi q), (47, vi l.length), (46, .ro 6 (drvs l)), (10, .p 1 0), (9, vi lv), (4, .p 0 0), (3, .ro 6 (drvs l))], d := [], h := [.cells 26 c.cells, .cells 28 [vi p, vi sp]] }) (k := l.length) ?_ ?_
  · exact Wk.sub [(48, vi (0 : Nat)), (47, vi l.length), (46, .ro 6 (drvs l)), (10, .p 1 0), (9, vi lv), (4, .p 0 0), (3, .ro 6 (drvs l))] (by simp) (Wk.now ⟨0, lv - d, 0, by omega, by omega, by omega, rfl⟩)
  rintro k s ⟨q, p, sp, hq, hp1, hp2, rfl⟩
  simp -dsimp
  refine brV.intro (fun hlt => ?_) (fun hlt => ?_)
  · have hlt : q < l.length := by simpa using hlt
    have hw := wq hlt hz
    have sN := ct_ref12_Near ⟨p, sp⟩ (atD l q)
    have sS := ct_ram_Step c ⟨p, sp⟩ ⟨(atD l q).motion, (atD l q).power, (atD l q).flow, (atD l q).leak, true, lv⟩ hb hp
    simp only [Drv.enc, Drv.cells, Car.enc] at sN sS
    cases hn : near12 ⟨p, sp⟩ (atD l q)
    · repeat' first
        | simp -dsimp [hlt, hn, Drv.enc, Drv.cells]
        | (with_reducible refine (CallD.pure sN (by simp) ?_).callV)
        | exact exitV.now rfl
    have hk := near12_bd hn
    obtain ⟨e1, _⟩ := step_eq g (k := ⟨p, sp⟩) (d := ⟨(atD l q).motion, (atD l q).power, (atD l q).flow, (atD l q).leak, true, lv⟩) (by omega) (by omega) (by omega) (by omega) (by show _ ≤ lv; omega) (by show lv ≤ _; omega)
    obtain ⟨f1, f2, f3⟩ := held g hil (k := ⟨p, sp⟩) (d := ⟨(atD l q).motion, (atD l q).power, (atD l q).flow, (atD l q).leak, true, lv⟩) rfl hl (by show _ ≤ p; omega) (by show p ≤ _; omega)
    rw [e1] at sS
    generalize tick c ⟨p, sp⟩ ⟨(atD l q).motion, (atD l q).power, (atD l q).flow, (atD l q).leak, true, lv⟩ = nx at *
    dsimp only at f1 f2 f3
    rw [← hl] at f1 hbig
    have hlb' : 0 ≤ lv ∧ lv ≤ 1000000 := by rw [hl]; exact hlb
    clear hl hd hmod c1 c2 c3
    have w3 : IntKind.wrap .i64 (p - nx.pos) = p - nx.pos := w64_of (by omega) (by omega)
    have f4 : ¬ nx.pos < lv - c.half := by omega
    repeat' first
      | simp -dsimp [hlt, hn, hw, w2, w3, f4, Drv.enc, Drv.cells, *]
      | with_reducible refine brV.intro (fun h => ?_) (fun h => ?_)
      | (with_reducible refine (CallD.pure sN (by simp) ?_).callV)
      | (with_reducible refine (CallD.pure sS (by simp) ?_).callV)
      | (with_reducible refine ordI (by kernel_rfl) ?_)
    all_goals first
      | exact exitV.now rfl
      | (exfalso; simp only [decide_eq_true_eq, bne_iff_ne] at *; have := f3 (by assumption) (by assumption) (by assumption); omega)
      | exact ⟨k - 1, by omega, Wk.sub [(48, vi (q + 1 : Nat)), (47, vi l.length), (46, .ro 6 (drvs l)), (10, .p 1 0), (9, vi lv), (4, .p 0 0), (3, .ro 6 (drvs l))] (by simp) (Wk.cut 2 (by simp) (by simp) (by simp) (by simp) (by simp) (by simp) (Wk.now ⟨q + 1, nx.pos, nx.speed, by omega, by omega, by omega, rfl⟩))⟩
  · have : q = l.length := by simp at hlt; omega
    subst this
    simp -dsimp
    exact exitV.now rfl

end Go.Proofs.Ytmjhpniegjiocaa
