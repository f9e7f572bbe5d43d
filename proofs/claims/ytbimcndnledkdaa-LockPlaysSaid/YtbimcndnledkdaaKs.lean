/- Contracts of functions of the seat's program, and what follows of them: Ks. Conditions are in each statement. -/
import Derived.Test.YtbimcndnledkdaaKl
set_option linter.unusedSimpArgs false
set_option linter.unusedVariables false
namespace Go.Proofs.Ytbimcndnledkdaa
open Go Go.Proofs Go.Vm

def farR (pos level : Int) : Int := max (w64 (pos - level)) (w64 (level - pos))
theorem ct_ref06_far (x y : Int) : Ct Try.prog G0 32 [vi x, vi y] [] (vi (farR x y)) [] := by
  refine callV_ic hm (fn := Try.f32) rfl ic32_eq ic32_nm ic32_ok (by simp) ?_
  simp -dsimp [ic32]
  exact exitV.cut (by simp) (by simp) (by simp) (by simp) (by simp [farR])

def nearR (lv : List Int) (pos : Int) (q : Nat) : Nat := (List.range q).foldl (fun best k => if farR pos (at0 lv k) < farR pos (at0 lv best) then k else best) 0
theorem nearR_succ (lv : List Int) (pos : Int) (q : Nat) : nearR lv pos (q + 1) = if farR pos (at0 lv q) < farR pos (at0 lv (nearR lv pos q)) then q else nearR lv pos q := by
  unfold nearR
  rw [List.range_succ, List.foldl_append]
  rfl
theorem nearR_le (lv : List Int) (pos : Int) (q : Nat) : nearR lv pos q ≤ q := by
  induction q with
  | zero => simp [nearR]
  | succ q ih => rw [nearR_succ]; split <;> omega


theorem ct_ref06_Nearest (c : Cfg) (x : Int) (hb : c.lv.length < top) : Ct Try.prog G0 31 [c.enc, vi x] [] (vi (nearR c.lv x c.lv.length)) [] := by
  refine callV_ic hm (fn := Try.f31) rfl ic31_eq ic31_nm ic31_ok (by simp) ?_
  simp -dsimp [ic31]
  refine Ti.loopW hm (fun k s => ∃ q, q + k = c.lv.length ∧ s = { t := [(10, vi q), (9, vi c.lv.length), (5, vi (nearR c.lv x q)), (1, vi x), (2, .p 0 0)], d := [], h := [.cells 26 c.cells] }) (k := c.lv.length) ?_ ?_
  · refine Wk.sub [(10, vi 0), (9, vi c.lv.length), (5, vi 0), (1, vi x), (2, .p 0 0)] ?_ (Wk.now ⟨0, ?_, ?_⟩) <;> simp [nearR]
  rintro k s ⟨q, hq, rfl⟩
  simp -dsimp
  refine brV.intro (fun h => ?_) (fun h => ?_)
  · have hl : q < c.lv.length := by simpa using h
    have hle := nearR_le c.lv x q
    have hl2 : nearR c.lv x q < c.lv.length := by omega
    have hw := wq hl hb
    have hs := nearR_succ c.lv x q
    simp -dsimp [hl, hl2]
    refine CallD.pure (ct_ref06_far _ _) (by simp) ?_
    simp -dsimp [hl, hl2]
    refine CallD.pure (ct_ref06_far _ _) (by simp) ?_
    simp -dsimp [hl, hl2]
    refine ⟨by kernel_rfl, brV.intro (fun h => ?_) (fun h => ?_)⟩
    all_goals
      simp only [decide_eq_true_eq, decide_eq_false_iff_not] at h
      simp -dsimp [hw]
      refine ⟨k - 1, by omega, Wk.sub [(10, vi (q + 1 : Nat)), (9, vi c.lv.length), (5, vi (nearR c.lv x (q + 1))), (1, vi x), (2, .p 0 0)] ?_ (Wk.now ⟨q + 1, by omega, rfl⟩)⟩
      simp [hs, h]
  · have hl : q = c.lv.length := by simp at h; omega
    subst hl
    simp -dsimp
    exact exitV.cut (by simp) (by simp) (by simp) (by simp) (by simp)
def far (x : Int) : Int := max x (w64 (-x))
theorem ct_shaft_far (x : Int) : Ct Try.prog G0 40 [vi x] [] (vi (far x)) [] := by
  refine callV_ic hm (fn := Try.f40) rfl ic40_eq ic40_nm ic40_ok (by simp) ?_
  simp -dsimp [ic40]
  exact exitV.cut (by simp) (by simp) (by simp) (by simp) (by simp [far])

theorem ct_shaft_each (c : Cfg) (x : Int) : Ct Try.prog G0 43 [c.enc, vi x] [] (.fn (.func 44) [] [.p 0 0, .p 1 0]) [.cells 26 c.cells, .cells 3 [vi x]] := by
  refine callV_ic hm (fn := Try.f43) rfl ic43_eq ic43_nm ic43_ok (by simp) ?_
  simp -dsimp [ic43]
  refine exitV.now ?_
  exact ⟨rfl, rfl⟩

theorem ct_shaft_each1 {c : Cfg} {x : Int} {a b L : Nat} {h : List Blk} (I : Nat → List Blk → Prop) (J : List Blk → Prop) {K : V → List Blk → Prop} (hb : c.lv.length < top)
    (hI : ∀ k h', I k h' → h'[a]? = some (.cells 26 c.cells) ∧ h'[b]? = some (.cells 3 [vi x]))
    (hy : ∀ k h', I k h' → k < c.lv.length → YieldV Try.prog G0 L [vi k, vi (w64 (x - at0 c.lv k))] h' fun v h' => (v = vb true ∧ I (k + 1) h') ∨ (v = vb false ∧ J h'))
    (h0 : I 0 h) (hK : ∀ h', I c.lv.length h' ∨ J h' → K (.tup []) h') : CallV Try.prog G0 44 [.yl L, .p a 0, .p b 0] h K := by
  refine callV_ic hm (fn := Try.f44) rfl ic44_eq ic44_nm ic44_ok (by simp) ?_
  simp -dsimp [ic44, (hI 0 h h0).1]
  refine Ti.loopW hm (fun k s => ∃ q h', q + k = c.lv.length ∧ I q h' ∧ s = { t := [(9, vi q), (8, vi c.lv.length), (7, .ro 1 (ints c.lv)), (0, .yl L), (1, .p a 0), (2, .p b 0)], d := [], h := h' }) (k := c.lv.length) ?_ ?_
  · refine Wk.sub [(9, vi 0), (8, vi c.lv.length), (7, .ro 1 (ints c.lv)), (0, .yl L), (1, .p a 0), (2, .p b 0)] ?_ (Wk.now ⟨0, h, ?_, h0, ?_⟩) <;> simp
  rintro k s ⟨q, h', hq, hIq, rfl⟩
  simp -dsimp
  refine brV.intro (fun h => ?_) (fun h => ?_)
  · have hl : q < c.lv.length := by simpa using h
    have hw := wq hl hb
    simp -dsimp [hl, (hI q h' hIq).2]
    refine YieldV.mono (hy q h' hIq hl) ?_
    rintro v h2 (⟨rfl, hI2⟩ | ⟨rfl, hJ2⟩)
    · simp -dsimp [hw]
      refine ⟨k - 1, by omega, Wk.sub [(9, vi (q + 1 : Nat)), (8, vi c.lv.length), (7, .ro 1 (ints c.lv)), (0, .yl L), (1, .p a 0), (2, .p b 0)] ?_ (Wk.now ⟨q + 1, h2, by omega, hI2, rfl⟩)⟩
      simp
    · simp -dsimp
      refine exitV.now (hK _ (.inr hJ2))
  · have hl : q = c.lv.length := by simp at h; omega
    subst hl
    simp -dsimp
    exact exitV.now (hK _ (.inl hIq))

structure Nr where
  at' : Int
  above : Int
  first : Bool
def near1 (lv : List Int) (x : Int) (n : Nr) (k : Nat) : Nr := if n.first = true ∨ far (w64 (x - at0 lv k)) < far n.above then ⟨k, w64 (x - at0 lv k), false⟩ else n
def near (lv : List Int) (x : Int) (q : Nat) : Nr := (List.range q).foldl (near1 lv x) ⟨0, 0, true⟩
theorem near_succ (lv : List Int) (x : Int) (q : Nat) : near lv x (q + 1) = near1 lv x (near lv x q) q := by
  unfold near
  rw [List.range_succ, List.foldl_append]
  rfl

theorem ct_shaft_nearest (c : Cfg) (x : Int) (hb : c.lv.length < top) : Ct Try.prog G0 39 [c.enc, vi x] [] (.tup [vi (near c.lv x c.lv.length).at', vi (near c.lv x c.lv.length).above]) [] := by
  refine callV_ic hm (fn := Try.f39) rfl ic39_eq ic39_nm ic39_ok (by simp) ?_
  simp -dsimp [ic39]
  refine (CallD.fresh (ct_shaft_each _ _) (by simp) ?_).callV
  simp -dsimp
  refine Ti.rangeE [(4, .p 1 0), (5, .p 2 0), (6, .p 3 0)] rfl (by simp) ?_
  intro ca cb env ha hcb ka kb he
  simp -dsimp
  refine ct_shaft_each1 (x := x) (fun q h' => h' = [.cells 26 c.cells, .cells 3 [vi (near c.lv x q).at'], .cells 3 [vi (near c.lv x q).above], .cells 4 [vb (near c.lv x q).first], .cells 26 c.cells, .cells 3 [vi x], .deferred true, .loop .ready none env 26 #[12, 13] ca cb]) (fun _ => False) hb ?_ ?_ ?_ ?_
  · rintro k h' rfl
    simp
  · rintro k h' rfl hk
    have hs := near_succ c.lv x k
    refine YieldV.ofIC hm ha hcb ka kb rfl rfl [(4, .p 1 0), (5, .p 2 0), (6, .p 3 0)] he (by simp) ?_
    simp -dsimp
    refine ⟨_, _, _, _, _, _, ⟨rfl, rfl, rfl, rfl, rfl, rfl⟩, ?_⟩
    refine brV.intro (fun h => ?_) (fun h => ?_)
    · simp -dsimp [h]
      refine ⟨rfl, _, _, _, _, _, _, _, ⟨rfl, rfl, rfl, rfl, rfl, rfl, rfl⟩, exitV.now (.inl ⟨rfl, ?_⟩)⟩
      simp [hs, near1, h]
    · simp -dsimp [h]
      refine CallD.pure (ct_shaft_far _) (by simp) ?_
      simp -dsimp [h]
      refine CallD.pure (ct_shaft_far _) (by simp) ?_
      simp -dsimp [h]
      refine ⟨by kernel_rfl, brV.intro (fun h' => ?_) (fun h' => ?_)⟩
      · simp -dsimp
        refine ⟨_, _, _, _, _, _, _, ⟨rfl, rfl, rfl, rfl, rfl, rfl, rfl⟩, exitV.now (.inl ⟨rfl, ?_⟩)⟩
        simp only [decide_eq_true_eq] at h'
        simp [hs, near1, h, h']
      · simp -dsimp
        refine ⟨_, _, _, _, _, _, _, ⟨rfl, rfl, rfl, rfl, rfl, rfl, rfl⟩, exitV.now (.inl ⟨rfl, ?_⟩)⟩
        simp only [decide_eq_false_iff_not] at h'
        simp [hs, near1, h, h']
  · simp [near]
  · rintro h' (rfl | h')
    · simp -dsimp [jumpQ]
      refine ⟨_, _, _, _, _, _, _, ⟨rfl, rfl, rfl, rfl, rfl, rfl, rfl⟩, by simp, ?_⟩
      simp -dsimp [jumpQ]
      refine ⟨rfl, exitV.cut (by simp) (by simp) (by simp) (by simp) (by simp)⟩
    · exact h'.elim

/-- What vanes tell. -/
structure Fr where
  z : Bool
  n : Int
  deep : Bool
  low : Bool
  high : Bool
  near : Bool
  top : Bool
  bot : Bool
def Fr.cells (f : Fr) : List V := [vb f.z, vb f.z, vi f.n, vb f.deep, vb f.low, vb f.high, vb f.near, vb f.top, vb f.bot, vb false, vb false, vb false, vb false, vb false, vb false, vb false, vb false, vb false, vb false, vb false, vb false, vb false, vb false, vi 0, vi 0]
abbrev Fr.enc (f : Fr) : V := .agg f.cells

def zoneR (c : Cfg) (x : Int) : Int × Bool :=
  if decide (c.half < farR x (at0 c.lv (nearR c.lv x c.lv.length))) = true then (0, false) else (nearR c.lv x c.lv.length, true)
theorem nearR_lt (lv : List Int) (pos : Int) (h : 0 < lv.length) : nearR lv pos lv.length < lv.length := by
  obtain ⟨n, hn⟩ : ∃ n, lv.length = n + 1 := ⟨lv.length - 1, by omega⟩
  rw [hn, nearR_succ]
  have := nearR_le lv pos n
  split <;> omega
theorem ct_ref06_Zone (c : Cfg) (x : Int) (hb : c.lv.length < top) (hp : 0 < c.lv.length) : Ct Try.prog G0 19 [c.enc, vi x] [] (.tup [vi (zoneR c x).1, vb (zoneR c x).2]) [] := by
  have hl := nearR_lt c.lv x hp
  refine callV_ic hm (fn := Try.f19) rfl ic19_eq ic19_nm ic19_ok (by simp) ?_
  simp -dsimp [ic19]
  repeat' first
    | simp -dsimp [*]
    | with_reducible refine brV.intro (fun h => ?_) (fun h => ?_)
    | (with_reducible refine exitV.cut (by simp) (by simp) (by simp) (by simp) ⟨?_, by simp⟩)
    | (with_reducible refine (CallD.pure (ct_ref06_Nearest _ _ hb) (by simp) ?_).callV)
    | (with_reducible refine (CallD.pure (ct_ref06_far _ _) (by simp) ?_).callV)
    | (with_reducible refine CallD.pure (ct_ref06_far _ _) (by simp) ?_)
    | (with_reducible refine ordI (by kernel_rfl) ?_)
  all_goals (simp only [zoneR, *]; simp)

def senseR (c : Cfg) (x : Int) : Fr :=
  let n := nearR c.lv x c.lv.length
  let d := w64 (x - at0 c.lv n)
  let z := decide (farR x (at0 c.lv n) ≤ c.vane)
  { z := z, n := if z = true then (n : Int) else 0, deep := z && decide (d < w64 (-c.creep)), low := z && decide (d < 0), high := z && decide (c.level < d), near := decide (farR x (at0 c.lv n) ≤ c.near),
    top := decide (w64 (at0 c.lv (c.lv.length - 1) - c.near) ≤ x), bot := decide (x ≤ w64 (at0 c.lv 0 + c.near)) }
def zone (c : Cfg) (x : Int) : Int × Bool :=
  if decide (c.half < far (near c.lv x c.lv.length).above) = true then (0, false) else ((near c.lv x c.lv.length).at', true)
theorem ct_shaft_Zone (c : Cfg) (x : Int) (hb : c.lv.length < top) : Ct Try.prog G0 24 [c.enc, vi x] [] (.tup [vi (zone c x).1, vb (zone c x).2]) [] := by
  refine callV_ic hm (fn := Try.f24) rfl ic24_eq ic24_nm ic24_ok (by simp) ?_
  simp -dsimp [ic24]
  repeat' first
    | simp -dsimp [*]
    | with_reducible refine brV.intro (fun h => ?_) (fun h => ?_)
    | (with_reducible refine exitV.cut (by simp) (by simp) (by simp) (by simp) ⟨?_, by simp⟩)
    | (with_reducible refine (CallD.pure (ct_shaft_nearest _ _ hb) (by simp) ?_).callV)
    | (with_reducible refine (CallD.pure (ct_shaft_far _) (by simp) ?_).callV)
    | (with_reducible refine CallD.pure (ct_shaft_far _) (by simp) ?_)
    | (with_reducible refine ordI (by kernel_rfl) ?_)
  all_goals (simp only [zone, *]; simp)

def sense (c : Cfg) (x : Int) : Fr :=
  let a := (near c.lv x c.lv.length).above
  let z := !decide (c.vane < far a)
  { z := z, n := if z = true then (near c.lv x c.lv.length).at' else 0, deep := z && decide (a < w64 (-c.creep)), low := z && decide (a < 0), high := z && decide (c.level < a), near := decide (far a ≤ c.near),
    top := decide (w64 (at0 c.lv (c.lv.length - 1) - c.near) ≤ x), bot := decide (x ≤ w64 (at0 c.lv 0 + c.near)) }
end Go.Proofs.Ytbimcndnledkdaa
