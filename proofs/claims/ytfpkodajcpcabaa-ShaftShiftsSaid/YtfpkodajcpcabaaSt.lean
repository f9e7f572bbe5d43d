/- Contracts of functions of the seat's program, and what follows of them: St. Conditions are in each statement. -/
import Derived.Test.YtfpkodajcpcabaaKp
import Derived.Test.YtfpkodajcpcabaaV4
set_option linter.unusedSimpArgs false
set_option linter.unusedVariables false
namespace Go.Proofs.Ytfpkodajcpcabaa
open Go Go.Proofs Go.Vm

/-- A lift's cells but for the first one. -/
def cellsL (x : V) (c : Cfg) : List V := x :: c.cells.drop 1
@[simp] theorem set_cells (c : Cfg) (x : V) : c.cells.set 0 x = cellsL x c := rfl
@[simp] theorem set_cellsL (c : Cfg) (x y : V) : (cellsL x c).set 0 y = cellsL y c := rfl
@[simp] theorem cellsL_length (c : Cfg) (x : V) : (cellsL x c).length = 21 := rfl
@[simp] theorem cellsL_take (c : Cfg) (x : V) : (cellsL x c).take 21 = cellsL x c := rfl
@[simp] theorem cellsL_0 (c : Cfg) (x : V) : (cellsL x c)[0]? = some x := rfl
theorem cellsL_ro (c : Cfg) (l : List Int) : cellsL (.ro 1 (ints l)) c = ({ c with lv := l } : Cfg).cells := rfl
@[simp] theorem frzL_ints (i : Nat) (cs : List V) (g : Bool) (l : List Int) : frzL i cs g (ints l) = ints l := by
  induction l with
  | nil => rfl
  | cons x l ih => simp [ints, frzL, V.frz] at ih ⊢; exact ih
@[simp] theorem fitsL_ints (i n : Nat) (g : Bool) (l : List Int) : fitsL i n g (ints l) := by
  induction l with
  | nil => trivial
  | cons x l ih => exact ⟨trivial, ih⟩
theorem frzL_cellsL (i : Nat) (cs : List V) (g : Bool) (x : V) (c : Cfg) : frzL i cs g (cellsL x c) = cellsL (x.frz i cs g) c := by
  simp [cellsL, Cfg.cells, frzL, V.frz]
theorem fitsL_cellsL (i n : Nat) (g : Bool) (x : V) (c : Cfg) (h : x.fits i n g) : fitsL i n g (cellsL x c) := by
  simp [cellsL, Cfg.cells, fitsL, V.fits, h]
@[simp] theorem okL_cellsL (p : Nat → Prop) (x : V) (c : Cfg) (h : x.ok p) : okL p (cellsL x c) := by
  simp [cellsL, Cfg.cells, h]
theorem rows_ints : ∀ (l : List Int), rows false 1 l.length (ints l) = ints l
  | [] => rfl
  | x :: l => by
    have := rows_ints l
    simp [ints, rows] at this ⊢; exact this

/-- Levels upside down, the first ones. -/
def mir (lv : List Int) (q : Nat) : List Int := (List.range q).map fun k => at0 lv (lv.length - 1) - at0 lv (lv.length - 1 - k)
@[simp] theorem mir_length (lv : List Int) (q : Nat) : (mir lv q).length = q := by simp [mir]
theorem mir_succ (lv : List Int) (q : Nat) : mir lv (q + 1) = mir lv q ++ [at0 lv (lv.length - 1) - at0 lv (lv.length - 1 - q)] := by simp [mir, List.range_succ]
theorem mir_at {lv : List Int} {q k : Nat} (h : k < q) : at0 (mir lv q) k = at0 lv (lv.length - 1) - at0 lv (lv.length - 1 - k) := by
  simp [at0, mir, List.getD, h]
def mirC (c : Cfg) : Cfg := { c with lv := mir c.lv c.lv.length }

theorem mirC_at {c : Cfg} {k : Nat} (h : k < c.lv.length) : at0 (mirC c).lv k = at0 c.lv (c.lv.length - 1) - at0 c.lv (c.lv.length - 1 - k) := mir_at h
theorem mirC_len (c : Cfg) : (mirC c).lv.length = c.lv.length := by simp [mirC]
theorem shifts {c : Cfg} (g : Good c) (gC : Good (mirC c)) {x : Int} (h1 : -2147483648 ≤ x) (h2 : x ≤ 2147483648) :
    ∃ (b : Bool) (n m : Int) (F H : Fr), zoneR c x = (n, b) ∧ zoneR (mirC c) (at0 c.lv (c.lv.length - 1) - x) = (m, b) ∧ 0 ≤ m ∧ m ≤ 16 ∧ (b = true → n = (c.lv.length - 1 : Nat) - m) ∧
      senseR c x = F ∧ senseR (mirC c) (at0 c.lv (c.lv.length - 1) - x) = H ∧ F.z = H.z ∧ F.near = H.near ∧ F.top = H.bot ∧ F.bot = H.top := by
  have g2 := g.h2; have g16 := g.h16
  have lT := lv_bd g (k := c.lv.length - 1) (by omega)
  have z0 := g.zero
  obtain ⟨T, hT⟩ : ∃ T, T = at0 c.lv (c.lv.length - 1) := ⟨_, rfl⟩
  have hl := mirC_len c
  have at' : ∀ k, k < c.lv.length → at0 (mirC c).lv k = T - at0 c.lv (c.lv.length - 1 - k) := fun k hk => by rw [hT]; exact mirC_at hk
  rw [← hT] at lT ⊢
  obtain ⟨n1, n2, _⟩ := nearR_min g (x := x) (by omega) (by omega) c.lv.length (by omega) (Nat.le_refl _)
  obtain ⟨m1, m2, _⟩ := nearR_min gC (x := T - x) (by omega) (by omega) (mirC c).lv.length (by omega) (Nat.le_refl _)
  have f1 := farR_ab g (x := x) (by omega) (by omega) n1
  have f2 := farR_ab gC (x := T - x) (by omega) (by omega) m1
  have is := fun i hi => nearR_is g (x := x) (by omega) (by omega) (i := i) hi
  generalize hn : nearR c.lv x c.lv.length = n at *
  generalize hm : nearR (mirC c).lv (T - x) (mirC c).lv.length = m at *
  rw [hl] at m1 m2
  have a1 := n2 (c.lv.length - 1 - m) (by omega)
  have a2 := m2 (c.lv.length - 1 - n) (by omega)
  have b1 := at' m m1
  have b2 := at' (c.lv.length - 1 - n) (by omega)
  rw [show c.lv.length - 1 - (c.lv.length - 1 - n) = n by omega] at b2
  have b3 := at' 0 (by omega)
  rw [show c.lv.length - 1 - 0 = c.lv.length - 1 by omega, ← hT] at b3
  have b4 := at' (c.lv.length - 1) (by omega)
  rw [show c.lv.length - 1 - (c.lv.length - 1) = 0 by omega, z0] at b4
  have is' := is (c.lv.length - 1 - m) (by omega)
  clear is
  have eq : ab x (at0 c.lv n) = ab (T - x) (at0 (mirC c).lv m) ∧ ab x (at0 c.lv (c.lv.length - 1 - m)) = ab (T - x) (at0 (mirC c).lv m) := by
    rw [b2] at a2
    rw [b1] at a2 ⊢
    clear is' f1 f2
    unfold ab at *
    omega
  have nm := nums_of g
  have k1 := nm.lev; have k2 := nm.cr; have k3 := nm.va; have k4 := nm.ha; have k5 := nm.ne; have k6 := nm.ne2
  have eh : (mirC c).half = c.half := rfl
  have ev : (mirC c).vane = c.vane := rfl
  have en : (mirC c).near = c.near := rfl
  refine ⟨decide (ab (T - x) (at0 (mirC c).lv m) ≤ c.half), (zoneR c x).1, (zoneR (mirC c) (T - x)).1, senseR c x, senseR (mirC c) (T - x), ?_, ?_, ?_, ?_, ?_, rfl, rfl, ?_, ?_, ?_, ?_⟩
  · simp only [zoneR, hn, f1, eq.1]
    by_cases hh : c.half < ab (T - x) (at0 (mirC c).lv m)
    · simp [hh]; try omega
    · simp [hh]; try omega
  · simp only [zoneR, hm, f2, eh]
    by_cases hh : c.half < ab (T - x) (at0 (mirC c).lv m)
    · simp [hh]; try omega
    · simp [hh]; try omega
  · simp only [zoneR, hm]; split <;> simp
  · simp only [zoneR, hm]; split
    · simp
    · dsimp only; omega
  · intro hh
    have hh := of_decide_eq_true hh
    have e := is' (by rw [eq.2]; omega)
    simp only [zoneR, hn, hm, f1, f2, eq.1, eh]
    rw [if_neg (by simp; omega), if_neg (by simp; omega)]
    dsimp only
    omega
  · simp only [senseR, hn, hm, f1, f2, eq.1, ev]
  · simp only [senseR, hn, hm, f1, f2, eq.1, en]
  · simp only [senseR, hl, b3, en, hn, hm, ← hT]
    rw [w64_id (by omega) (by omega), w64_id (by omega) (by omega), Bool.eq_iff_iff]
    simp; omega
  · simp only [senseR, hl, b4, z0, en, hn, hm]
    rw [w64_id (by omega) (by omega), w64_id (by omega) (by omega), Bool.eq_iff_iff]
    simp; try omega

set_option maxHeartbeats 4000000 in
set_option maxRecDepth 100000 in
theorem law_ShaftShifts (c : Cfg) (x : Int) (hb : c.lv.length < top) (ho : c.op.length < top) : CallV Try.prog G0 7 [c.enc, vi x] [] fun v _ => v = .c (.bool true) := by
  refine callV_ic hm (fn := Try.f7) rfl ic7_eq ic7_nm ic7_ok (by simp) ?_
  cases hf : fineB c x
  · repeat' first
      | simp -dsimp [ic7, hf]
      | (with_reducible refine (CallD.pure ct_law06_awake (by simp) ?_).callV)
      | (with_reducible refine (CallD.pure (ct_law06_fine _ _ ho) (by simp) ?_).callV)
      | exact exitV.now rfl
  obtain ⟨g, hx1, hx2⟩ := fineB_good hf
  have h2 := g.h2
  have h16 := g.h16
  have hp : 0 < c.lv.length := by omega
  have hnil : c.lv ≠ [] := fun h => by rw [h] at hp; simp at hp
  have hlast := lv_bd g (k := c.lv.length - 1) (by omega)
  have hw0 : IntKind.wrap .i64 ((c.lv.length : Int) - 1) = ((c.lv.length - 1 : Nat) : Int) := by
    rw [w64_of (by omega) (by omega)]; omega
  have hl2 : c.lv.length - 1 < c.lv.length := by omega
  simp -dsimp [ic7]
  repeat' first
    | simp -dsimp [hf, hnil, hw0, hl2]
    | (with_reducible refine (CallD.pure ct_law06_awake (by simp) ?_).callV)
    | (with_reducible refine (CallD.pure (ct_law06_fine _ _ ho) (by simp) ?_).callV)
    | (with_reducible refine ordI (by kernel_rfl) ?_)
  refine Ti.loopW hm (fun kk s => ∃ (q : Nat) (hx : List Blk) (y : V), q + kk = c.lv.length ∧
    ((q = 0 ∧ hx = [] ∧ y = .c (.slice none 0 0)) ∨ (0 < q ∧ 0 < kk ∧ ∃ j, y = .sl 1 (j + 2) 0 q ∧ hx[j]? = some (.cells 3 (ints (mir c.lv q)))) ∨ (kk = 0 ∧ y = .ro 1 (ints (mir c.lv c.lv.length)) ∧ hx = [])) ∧
    s = { t := [(36, vi q), (35, vi c.lv.length), (6, .p 1 0), (5, vi (at0 c.lv (c.lv.length - 1))), (2, .p 0 0), (1, vi x)], d := [], h := [.cells 26 c.cells, .cells 26 (cellsL y c)] ++ hx }) (k := c.lv.length) ?_ ?_
  · exact Wk.sub [(36, vi (0 : Nat)), (35, vi c.lv.length), (6, .p 1 0), (5, vi (at0 c.lv (c.lv.length - 1))), (2, .p 0 0), (1, vi x)] (by simp) (Wk.now ⟨0, [], .c (.slice none 0 0), by omega, .inl ⟨rfl, rfl, rfl⟩, rfl⟩)
  rintro kk s ⟨q, hx, y, hq, hcase, rfl⟩
  simp -dsimp
  refine brV.intro (fun hlt => ?_) (fun hlt => ?_)
  · have hlt : q < c.lv.length := by simpa using hlt
    have hw := wq hlt hb
    have w1 : IntKind.wrap .i64 (((c.lv.length - 1 : Nat) : Int) - (q : Int)) = ((c.lv.length - 1 - q : Nat) : Int) := by
      rw [w64_of (by omega) (by omega)]; omega
    have hl3 : c.lv.length - 1 - q < c.lv.length := by omega
    have hlq := lv_bd g hl3
    have w2 : IntKind.wrap .i64 (at0 c.lv (c.lv.length - 1) - at0 c.lv (c.lv.length - 1 - q)) = at0 c.lv (c.lv.length - 1) - at0 c.lv (c.lv.length - 1 - q) := w64_of (by omega) (by omega)
    have hs := mir_succ c.lv q
    have y1 : (q + 1) * 8 ≤ 140737488355328 := by omega
    have y2 : q + 1 ≤ 9223372036854775807 := by omega
    rcases hcase with ⟨rfl, rfl, rfl⟩ | ⟨hq0, hk0, j, rfl, hj⟩ | ⟨hk0, _⟩
    · have w1' : IntKind.wrap .i64 ((c.lv.length - 1 : Nat) : Int) = ((c.lv.length - 1 : Nat) : Int) := w64_of (by omega) (by omega)
      have w0 : IntKind.wrap .i64 0 = 0 := w64_of (by omega) (by omega)
      have w00 : IntKind.wrap .i64 1 = 1 := w64_of (by omega) (by omega)
      repeat' first
        | simp -dsimp [hlt, hw0, hl2, hnil, w1', w0, w00]
        | (with_reducible refine ordI (by kernel_rfl) ?_)
      refine ⟨kk - 1, by omega, Wk.sub [(36, vi (1 : Nat)), (35, vi c.lv.length), (6, .p 1 0), (5, vi (at0 c.lv (c.lv.length - 1))), (2, .p 0 0), (1, vi x)] (by simp [w00]) (Wk.now ⟨1, [_, _], .sl 1 (1 + 2) 0 1, by omega, .inr (.inl ⟨by omega, by omega, 1, rfl, ?_⟩), rfl⟩)⟩
      rw [hs]
      simp [mir, ints]
    · have hjl := (List.getElem?_eq_some_iff.1 hj).1
      have hj2 : (hx ++ [Blk.cells 3 [vi (at0 c.lv (c.lv.length - 1) - at0 c.lv (c.lv.length - 1 - q))]])[j]? = some (.cells 3 (ints (mir c.lv q))) := by rw [List.getElem?_append_left hjl]; exact hj
      repeat' first
        | simp -dsimp [hlt, hw, hw0, hl2, hnil, w1, hl3, w2, hj, hj2, y1, y2]
        | (with_reducible refine ordI (by kernel_rfl) ?_)
      refine ⟨by omega, ordI (by kernel_rfl) ?_⟩
      by_cases hl4 : q + 1 < c.lv.length
      · refine ⟨kk - 1, by omega, Wk.sub [(36, vi ((q + 1 : Nat) : Int)), (35, vi c.lv.length), (6, .p 1 0), (5, vi (at0 c.lv (c.lv.length - 1))), (2, .p 0 0), (1, vi x)] (by simp) (Wk.now ⟨q + 1, (hx ++ [Blk.cells 3 [vi (at0 c.lv (c.lv.length - 1) - at0 c.lv (c.lv.length - 1 - q))]]).set j .gone ++ [.cells 3 (ints (mir c.lv q) ++ [vi (at0 c.lv (c.lv.length - 1) - at0 c.lv (c.lv.length - 1 - q))])], .sl 1 ((hx.length + 1) + 2) 0 (q + 1), by omega, .inr (.inl ⟨by omega, by omega, hx.length + 1, rfl, ?_⟩), rfl⟩)⟩
        rw [hs]
        simp [ints]
      · have he : q + 1 = c.lv.length := by omega
        refine ⟨kk - 1, by omega, Wk.sub [(36, vi ((q + 1 : Nat) : Int)), (35, vi c.lv.length), (6, .p 1 0), (5, vi (at0 c.lv (c.lv.length - 1))), (2, .p 0 0), (1, vi x)] (by simp) (Wk.freezeAt (hx.length + 3) 1 3 26 (ints (mir c.lv q) ++ [vi (at0 c.lv (c.lv.length - 1) - at0 c.lv (c.lv.length - 1 - q))]) (cellsL (.sl 1 (hx.length + 3) 0 (q + 1)) c) false (by omega) ?_ rfl (fitsL_cellsL _ _ _ _ _ ?_) ?_)⟩
        · simp
        · intro _
          exact ⟨fun _ => rfl, by simp [ints]⟩
        · have hz : rows false 1 (q + 1) (ints (mir c.lv q) ++ [vi (at0 c.lv (c.lv.length - 1) - at0 c.lv (c.lv.length - 1 - q))]) = ints (mir c.lv c.lv.length) := by
            have h5 := rows_ints (mir c.lv (q + 1))
            rw [mir_length] at h5
            have h6 : ints (mir c.lv q) ++ [vi (at0 c.lv (c.lv.length - 1) - at0 c.lv (c.lv.length - 1 - q))] = ints (mir c.lv (q + 1)) := by
              rw [hs]
              simp [ints]
            rw [h6, h5, he]
          rw [frzL_cellsL]
          simp only [V.frz, if_true, List.drop_zero, hz]
          exact Wk.cut 2 (by simp) (by simp) (by simp) (by simp [cellsL_ro]) (by simp) (by simp) (Wk.now ⟨q + 1, [], .ro 1 (ints (mir c.lv c.lv.length)), by omega, .inr (.inr ⟨by omega, rfl, rfl⟩), by simp⟩)
    · omega
  · have hge : q = c.lv.length := by
      have : ¬ q < c.lv.length := by simpa using hlt
      omega
    have hx3 : kk = 0 ∧ y = .ro 1 (ints (mir c.lv c.lv.length)) ∧ hx = [] := by
      rcases hcase with ⟨h, _⟩ | ⟨_, h, _⟩ | h
      · omega
      · omega
      · exact h
    obtain ⟨rfl, rfl, rfl⟩ := hx3
    rw [cellsL_ro]
    clear hlt hcase hq
    have hTs := fun gC => shifts g gC hx1 hx2
    obtain ⟨C, hC⟩ : ∃ C : Cfg, C = mirC c := ⟨_, rfl⟩
    rw [show ({ c with lv := mir c.lv c.lv.length } : Cfg) = C from hC.symm]
    have hlC : C.lv.length = c.lv.length := by rw [hC]; simp [mirC]
    have hbC : C.lv.length < top := by rw [hlC]; exact hb
    have hoC : C.op.length < top := by rw [hC]; exact ho
    have hpC : 0 < C.lv.length := by rw [hlC]; exact hp
    obtain ⟨T, hT⟩ : ∃ T : Int, T = at0 c.lv (c.lv.length - 1) := ⟨_, rfl⟩
    rw [← hC, ← hT] at hTs
    rw [← hT] at hlast ⊢
    have w1 : IntKind.wrap .i64 (T - x) = T - x := w64_of (by omega) (by omega)
    have sW := ct_ref05_Wrong C hoC
    have sN := ct_ref01_Near (T - x)
    cases hwr : wrongR C with
    | cons a l =>
      rw [hwr] at sW
      repeat' first
        | simp -dsimp [w1]
        | (with_reducible refine (CallD.pure sW (by simp) ?_).callV)
        | (with_reducible refine (CallD.pure sN (by simp) ?_).callV)
        | (with_reducible refine ordI (by kernel_rfl) ?_)
        | exact exitV.now rfl
    | nil =>
      rw [hwr] at sW
      cases hnr : near31 (T - x)
      · rw [hnr] at sN
        repeat' first
          | simp -dsimp [w1]
          | (with_reducible refine (CallD.pure sW (by simp) ?_).callV)
          | (with_reducible refine (CallD.pure sN (by simp) ?_).callV)
          | (with_reducible refine ordI (by kernel_rfl) ?_)
          | exact exitV.now rfl
      rw [hnr] at sN
      obtain ⟨b, n, m, F, H, z1, z2, z3, z4, z5, z6, z7, z8, z9, z10, z11⟩ := hTs (good_of hwr)
      have s1 := ct_shaft_Zone c x hb
      have s2 := ct_shaft_Zone C (T - x) hbC
      have s3 := ct_shaft_Sense c x hb hp
      have s4 := ct_shaft_Sense C (T - x) hbC hpC
      rw [zone_eq x hp, z1] at s1
      rw [zone_eq (T - x) hpC, z2] at s2
      rw [sense_eq x hp, z6] at s3
      rw [sense_eq (T - x) hpC, z7] at s4
      clear z1 z2 z6 z7 hTs
      obtain ⟨Fz, Fn, Fd, Fl, Fh, Fne, Ft, Fb⟩ := F
      obtain ⟨Hz, Hn, Hd, Hl, Hh, Hne, Ht, Hb⟩ := H
      dsimp only at z8 z9 z10 z11
      subst z8 z9 z10 z11
      simp only [Fr.enc, Fr.cells] at s3 s4
      have w3 : IntKind.wrap .i64 (((c.lv.length - 1 : Nat) : Int) - m) = ((c.lv.length - 1 : Nat) : Int) - m := w64_of (by omega) (by omega)
      cases b
      · repeat' first
          | simp -dsimp [w1, hw0, w3]
          | (with_reducible refine (CallD.pure sW (by simp) ?_).callV)
          | (with_reducible refine (CallD.pure sN (by simp) ?_).callV)
          | (with_reducible refine (CallD.pure s1 (by simp) ?_).callV)
          | (with_reducible refine (CallD.pure s2 (by simp) ?_).callV)
          | (with_reducible refine CallD.pure s3 (by simp) ?_)
          | (with_reducible refine CallD.pure s4 (by simp) ?_)
          | (with_reducible refine ordI (by kernel_rfl) ?_)
          | exact exitV.now rfl
      · have z5 := z5 rfl
        subst z5
        repeat' first
          | simp -dsimp [w1, hw0, w3]
          | (with_reducible refine (CallD.pure sW (by simp) ?_).callV)
          | (with_reducible refine (CallD.pure sN (by simp) ?_).callV)
          | (with_reducible refine (CallD.pure s1 (by simp) ?_).callV)
          | (with_reducible refine (CallD.pure s2 (by simp) ?_).callV)
          | (with_reducible refine CallD.pure s3 (by simp) ?_)
          | (with_reducible refine CallD.pure s4 (by simp) ?_)
          | (with_reducible refine ordI (by kernel_rfl) ?_)
          | exact exitV.now rfl

end Go.Proofs.Ytfpkodajcpcabaa
