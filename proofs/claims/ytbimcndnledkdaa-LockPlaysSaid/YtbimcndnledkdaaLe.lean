/- Contracts of functions of the seat's program, and what follows of them: Le. Conditions are in each statement. -/
import Derived.Test.YtbimcndnledkdaaLd
set_option linter.unusedSimpArgs false
set_option linter.unusedVariables false
namespace Go.Proofs.Ytbimcndnledkdaa
open Go Go.Proofs Go.Vm

/-- A tick: where the car is, the cams, what somebody does. -/
structure Tk where
  pos : Int
  c0 : Bool
  c1 : Bool
  hd : List Hd
def tkL (l : List Tk) : List V := l.map fun t => .agg [vi t.pos, vb t.c0, vb t.c1, .ro 3 (hdL t.hd)]
@[simp] theorem tkL_length (l : List Tk) : (tkL l).length = l.length := by simp [tkL]
@[simp] theorem tkL_get (l : List Tk) (k : Nat) (h : k < (tkL l).length) : (tkL l)[k] = .agg [vi (l[k]'(by simpa using h)).pos, vb (l[k]'(by simpa using h)).c0, vb (l[k]'(by simpa using h)).c1, .ro 3 (hdL (l[k]'(by simpa using h)).hd)] := by simp [tkL]
@[simp] theorem okL_tkL (p : Nat → Prop) : ∀ l : List Tk, okL p (tkL l)
  | [] => trivial
  | t :: l => ⟨⟨trivial, trivial, trivial, okL_hdL p t.hd, trivial⟩, okL_tkL p l⟩
@[simp] theorem renL_tkL (ρ : Nat → Nat) : ∀ l : List Tk, renL ρ (tkL l) = tkL l
  | [] => rfl
  | t :: l => by
    have := renL_tkL ρ l
    simp only [tkL, List.map_cons, renL, V.ren, renL_hdL] at this ⊢
    rw [this]
def tkOk (t : Tk) : Bool := decide (t.hd.length ≤ 20) && near31 t.pos
def fewB (l : List Tk) : Bool := decide (l.length ≤ 60) && (List.range l.length).all fun k => match l[k]? with | some t => tkOk t | none => true
theorem fewB_of {l : List Tk} (h : fewB l = true) : l.length ≤ 60 ∧ ∀ t ∈ l, t.hd.length ≤ 20 ∧ -2147483648 ≤ t.pos ∧ t.pos ≤ 2147483648 := by
  unfold fewB at h
  simp only [Bool.and_eq_true, decide_eq_true_eq, List.all_eq_true, List.mem_range] at h
  refine ⟨h.1, fun t ht => ?_⟩
  obtain ⟨k, hk, rfl⟩ := List.getElem_of_mem ht
  have := h.2 k hk
  rw [List.getElem?_eq_getElem hk] at this
  simp only [tkOk, near31, Bool.and_eq_true, decide_eq_true_eq] at this
  omega
set_option maxHeartbeats 4000000 in
theorem ct_few (l : List Tk) (hl : l.length < top) (hh : ∀ t ∈ l, t.hd.length < top) : ∃ b, (b = true → fewB l = true) ∧ Ct Try.prog G0 10 [.ro 4 (tkL l)] [] (vb b) [] := by
  by_cases hall : ∀ t ∈ l, tkOk t = true
  · refine ⟨decide (l.length ≤ 60), fun h => ?_, ?_⟩
    · unfold fewB; rw [h, Bool.true_and]
      exact all_true fun j hj => by rw [List.getElem?_eq_getElem hj]; exact hall _ (List.getElem_mem hj)
    · skip
      refine callV_ic hm (fn := Try.f10) rfl ic10_eq ic10_nm ic10_ok (by simp) ?_
      simp -dsimp [ic10]
      refine Ti.loopW hm (fun k s => ∃ q : Nat, q + k = l.length ∧ s = { t := [(6, vi q), (5, vi l.length), (0, .ro 4 (tkL l))], d := [], h := [] }) (k := l.length) ?_ ?_
      · exact Wk.sub [(6, vi (0 : Nat)), (5, vi l.length), (0, .ro 4 (tkL l))] (by simp) (Wk.now ⟨0, by omega, rfl⟩)
      rintro k s ⟨q, hq, rfl⟩
      simp -dsimp
      (with_reducible refine brV.intro (fun h => ?_) (fun h => ?_))
      · have hlt : q < l.length := by simp at h; omega
        have w1 := wq hlt hl
        obtain ⟨x, hx⟩ : ∃ x, x = l[q] := ⟨_, rfl⟩
        have hok := hall l[q] (List.getElem_mem hlt)
        rw [← hx] at hok
        simp only [tkOk, Bool.and_eq_true, decide_eq_true_eq] at hok
        have g1 : ¬ (20 : Int) < (x.hd.length : Nat) := by omega
        have sN := ct_ref01_Near x.pos
        rw [hok.2] at sN
        simp -dsimp [h, hlt, ← hx, g1]
        (with_reducible refine (CallD.pure (sN) (by simp) ?_).callV)
        simp -dsimp [w1]
        exact ⟨k - 1, by omega, Wk.sub [(6, vi (q + 1 : Nat)), (5, vi l.length), (0, .ro 4 (tkL l))] (by simp) (Wk.now ⟨q + 1, by omega, rfl⟩)⟩
      · simp -dsimp
        exact exitV.cut (by simp) (by simp) (by simp) (by simp) ⟨by simp; omega, by simp⟩
  · refine ⟨false, ⟨fun h => (by cases h), ?_⟩⟩
    refine callV_ic hm (fn := Try.f10) rfl ic10_eq ic10_nm ic10_ok (by simp) ?_
    simp -dsimp [ic10]
    refine Ti.loopW hm (fun k s => ∃ q : Nat, q + k = l.length ∧ (∀ t ∈ l.take q, tkOk t = true) ∧ s = { t := [(6, vi q), (5, vi l.length), (0, .ro 4 (tkL l))], d := [], h := [] }) (k := l.length) ?_ ?_
    · exact Wk.sub [(6, vi (0 : Nat)), (5, vi l.length), (0, .ro 4 (tkL l))] (by simp) (Wk.now ⟨0, by omega, by simp, rfl⟩)
    rintro k s ⟨q, hq, ha, rfl⟩
    simp -dsimp
    (with_reducible refine brV.intro (fun h => ?_) (fun h => ?_))
    · have hlt : q < l.length := by simp at h; omega
      have w1 := wq hlt hl
      have hs := take_snoc hlt
      obtain ⟨x, hx⟩ : ∃ x, x = l[q] := ⟨_, rfl⟩
      rw [← hx] at hs
      have sN := ct_ref01_Near x.pos
      by_cases g1 : (20 : Int) < (x.hd.length : Nat)
      · simp -dsimp [h, hlt, ← hx, g1]
        exact exitV.cut (by simp) (by simp) (by simp) (by simp) ⟨rfl, by simp⟩
      · simp -dsimp [h, hlt, ← hx, g1]
        (with_reducible refine (CallD.pure (sN) (by simp) ?_).callV)
        cases hn : near31 x.pos
        · simp -dsimp
          exact exitV.cut (by simp) (by simp) (by simp) (by simp) ⟨rfl, by simp⟩
        · simp -dsimp [w1]
          refine ⟨k - 1, by omega, Wk.sub [(6, vi (q + 1 : Nat)), (5, vi l.length), (0, .ro 4 (tkL l))] (by simp) (Wk.now ⟨q + 1, by omega, ?_, rfl⟩)⟩
          intro t ht
          rw [hs] at ht
          rcases List.mem_append.1 ht with ht | ht
          · exact ha t ht
          · simp at ht; subst ht
            simp [tkOk, hn]; omega
    · have hge : q = l.length := by simp at h; omega
      subst hge
      rw [List.take_length] at ha
      exact absurd ha hall

@[simp] theorem fitsL_cells (i n : Nat) (g : Bool) (c : Cfg) : fitsL i n g c.cells := by simp [Cfg.cells]
@[simp] theorem frzL_cells (i : Nat) (cs : List V) (g : Bool) (c : Cfg) : frzL i cs g c.cells = c.cells := by simp [Cfg.cells]
theorem good0 : wrongR cfg0 = [] := by decide +kernel
def gEx : Nat → Bool := fun k => decide (k < 2)
theorem zone0 : zone cfg0 0 = (0, true) := by decide +kernel
theorem lkL_congr {g h : Nat → Bool} (e : (List.range 64).map g = (List.range 64).map h) : lkL g = lkL h := by
  unfold lkL
  have : ∀ f : Nat → Bool, (List.range 64).map (fun k => vb (f k)) = ((List.range 64).map f).map fun b => vb b := fun f => by rw [List.map_map]; rfl
  rw [this, this, e]
theorem st1 : lkL (stepL cfg0 0 true false [⟨0, 0, 1⟩] fun _ => false) = lkL gEx := lkL_congr (by decide +kernel)
theorem st2 : lkL (stepL cfg0 0 false false [⟨0, 0, 2⟩] gEx) = lkL fun _ => false := lkL_congr (by decide +kernel)
theorem h1 : heldR gEx = some 0 := by decide +kernel
theorem h2 : heldR (fun _ => false) = none := by decide +kernel
theorem s1 : shutR gEx = false := by decide +kernel
theorem s2 : shutR (fun _ => false) = true := by decide +kernel
theorem lkZ_eq : List.map V.c (Array.replicate 64 (Value.bool false)).toList = lkL fun _ => false := by kernel_rfl
set_option maxHeartbeats 4000000 in
set_option maxRecDepth 100000 in
theorem ct_law14_awake : Ct Try.prog G0 8 [] [] (vb true) [] := by
  have a1 := ct_Step cfg0 0 true false [⟨0, 0, 1⟩] (fun _ => false) (by decide) (by decide)
  have a2 := ct_Step cfg0 0 false false [⟨0, 0, 2⟩] gEx (by decide) (by decide)
  rw [lkV, lkV, st1] at a1
  rw [lkV, lkV, st2] at a2
  have b1 := ct_Held gEx
  have b2 := ct_Locked gEx
  have b3 := ct_Shut gEx
  have b4 := ct_Locked (fun _ => false)
  have b5 := ct_Shut (fun _ => false)
  rw [h1] at b1 b2
  rw [h2] at b4
  rw [s1] at b3
  rw [s2] at b5
  refine callV_ic hm (fn := Try.f8) rfl ic8_eq ic8_nm ic8_ok (by simp) ?_
  simp -dsimp [ic8]
  refine (CallD.pure ct_Lift0 (by simp [small0]) ?_).callV
  have eh1 : ([.agg [vi 0, vi 0, vi 1]] : List V) = hdL [⟨0, 0, 1⟩] := rfl
  have eh2 : ([.agg [vi 0, vi 0, vi 2]] : List V) = hdL [⟨0, 0, 2⟩] := rfl
  simp -dsimp [fold64]
  refine ⟨_, _, _, ⟨rfl, rfl, rfl⟩, ?_⟩
  simp -dsimp
  refine CallV.freeze 2 52 [vi 0, vi 0, vi 1] true (by simp) (by simp) ?_
  simp -dsimp [eh1]
  refine (CallD.pure a1 (by simp) ?_).callV
  simp -dsimp
  (with_reducible refine (CallD.pure (b1) (by simp) ?_).callV)
  simp -dsimp
  refine CallV.freeze 3 52 [vi 0, vi 0, vi 2] true (by simp) (by simp) ?_
  simp -dsimp [eh2]
  refine (CallD.pure a2 (by simp) ?_).callV
  have row := lkL_row gEx (n := 0) (by omega)
  simp only [Nat.zero_mul, Nat.zero_add, List.drop_zero] at row
  have t2 : (lkL gEx).take 2 = [vb true, vb true] := by kernel_rfl
  repeat' first
    | simp -dsimp [fold64, t2]
    | (with_reducible refine (CallD.pure (b2) (by simp) ?_).callV)
    | (with_reducible refine (CallD.pure (b3) (by simp) ?_).callV)
    | (with_reducible refine (CallD.pure (b4) (by simp) ?_).callV)
    | (with_reducible refine (CallD.pure (b5) (by simp) ?_).callV)
  exact exitV.cut (by simp) (by simp) (by simp) (by simp) ⟨by simp, by simp⟩
end Go.Proofs.Ytbimcndnledkdaa
