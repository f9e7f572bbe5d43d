/- Contracts of functions of the seat's program, and what follows of them: Lb. Conditions are in each statement. -/
import Derived.Test.YtbimcndnledkdaaLa
set_option linter.unusedSimpArgs false
set_option linter.unusedVariables false
namespace Go.Proofs.Ytbimcndnledkdaa
open Go Go.Proofs Go.Vm

/-- Where the car reaches: the landing, whether it is in a zone, the cams. -/
structure Rc where
  z : Int
  is : Bool
  c0 : Bool
  c1 : Bool
def Rc.at (r : Rc) (n s : Nat) : Bool := r.is && ((n : Int) == r.z) && (if s = 0 then r.c0 else r.c1)
theorem ct_reaches (r : Rc) (n s : Nat) (hs : s < 2) : Ct Try.prog G0 25 [vi n, vi s, .p 0 0, .p 1 0, .p 2 0] [.cells 4 [vb r.is], .cells 3 [vi r.z], .cells 36 [vb r.c0, vb r.c1]]
    (vb (r.at n s)) ([.cells 4 [vb r.is], .cells 3 [vi r.z], .cells 36 [vb r.c0, vb r.c1]] ++ []) := by
  refine callV_ic hm (fn := Try.f25) rfl ic25_eq ic25_nm ic25_ok (by simp) ?_
  simp -dsimp [ic25]
  cases h1 : r.is
  · simp -dsimp
    exact exitV.cut (by simp) (by simp) (by simp) (by simp) ⟨by simp [Rc.at, h1], by simp⟩
  · simp -dsimp
    by_cases h2 : (n : Int) = r.z
    · have hs' : s = 0 ∨ s = 1 := by omega
      rcases hs' with rfl | rfl
      · simp -dsimp [beq_t h2]
        exact exitV.cut (by simp) (by simp) (by simp) (by simp) ⟨by simp [Rc.at, h1, h2], by simp⟩
      · simp -dsimp [beq_t h2]
        exact exitV.cut (by simp) (by simp) (by simp) (by simp) ⟨by simp [Rc.at, h1, h2], by simp⟩
    · simp -dsimp [beq_f h2]
      exact exitV.cut (by simp) (by simp) (by simp) (by simp) ⟨by simp [Rc.at, h1, h2], by simp⟩

/-- What somebody does. -/
structure Hd where
  n : Int
  s : Int
  w : Int
def hdL (l : List Hd) : List V := l.map fun h => .agg [vi h.n, vi h.s, vi h.w]
@[simp] theorem hdL_length (l : List Hd) : (hdL l).length = l.length := by simp [hdL]
@[simp] theorem hdL_get (l : List Hd) (k : Nat) (h : k < (hdL l).length) : (hdL l)[k] = .agg [vi (l[k]'(by simpa using h)).n, vi (l[k]'(by simpa using h)).s, vi (l[k]'(by simpa using h)).w] := by simp [hdL]
@[simp] theorem okL_hdL (p : Nat → Prop) : ∀ l : List Hd, okL p (hdL l)
  | [] => trivial
  | _ :: l => ⟨⟨trivial, trivial, trivial, trivial⟩, okL_hdL p l⟩
@[simp] theorem renL_hdL (ρ : Nat → Nat) : ∀ l : List Hd, renL ρ (hdL l) = hdL l
  | [] => rfl
  | h :: l => by
    have := renL_hdL ρ l
    simp only [hdL, List.map_cons, renL, V.ren] at this ⊢
    rw [this]
theorem take_snoc {α : Type} {l : List α} {q : Nat} (h : q < l.length) : l.take (q + 1) = l.take q ++ [l[q]] := by rw [List.take_add_one, List.getElem?_eq_getElem h]; rfl

def p1 (c : Cfg) (r : Rc) (g : Nat → Bool) (m : Nat) : Nat → Bool := if thereB c (m / 2 : Nat) (m % 2 : Nat) = true then upd1 g (2 * m) (g (2 * m) || r.at (m / 2) (m % 2)) else g
def p3 (c : Cfg) (r : Rc) (g : Nat → Bool) (m : Nat) : Nat → Bool := if thereB c (m / 2 : Nat) (m % 2 : Nat) = true then upd1 g (2 * m) (g (2 * m) && (g (2 * m + 1) || r.at (m / 2) (m % 2))) else g
def p2 (c : Cfg) (g : Nat → Bool) (h : Hd) : Nat → Bool :=
  if thereB c h.n h.s = true then
    (let k := (2 * h.n + h.s).toNat
     if h.w = 1 then upd1 g (2 * k + 1) (g (2 * k + 1) || g (2 * k)) else if h.w = 2 then upd1 g (2 * k + 1) false else g)
  else g
def ph1 (c : Cfg) (r : Rc) (g : Nat → Bool) (q : Nat) : Nat → Bool := (List.range q).foldl (p1 c r) g
def ph3 (c : Cfg) (r : Rc) (g : Nat → Bool) (q : Nat) : Nat → Bool := (List.range q).foldl (p3 c r) g
def ph2 (c : Cfg) (g : Nat → Bool) (l : List Hd) : Nat → Bool := l.foldl (p2 c) g
def rcOf (c : Cfg) (pos : Int) (c0 c1 : Bool) : Rc := ⟨(zone c pos).1, (zone c pos).2, c0, c1⟩
def stepL (c : Cfg) (pos : Int) (c0 c1 : Bool) (l : List Hd) (g : Nat → Bool) : Nat → Bool := ph3 c (rcOf c pos c0 c1) (ph2 c (ph1 c (rcOf c pos c0 c1) g 32) l) 32
theorem ph1_succ (c : Cfg) (r : Rc) (g : Nat → Bool) (q : Nat) : ph1 c r g (q + 1) = p1 c r (ph1 c r g q) q := by simp [ph1, List.range_succ]
theorem ph3_succ (c : Cfg) (r : Rc) (g : Nat → Bool) (q : Nat) : ph3 c r g (q + 1) = p3 c r (ph3 c r g q) q := by simp [ph3, List.range_succ]

/-- What is at hand in the middle of a step. -/
def hpS (c : Cfg) (r : Rc) (g : Nat → Bool) : List Blk := [.cells 35 (lkL g), .cells 26 c.cells, .cells 36 [vb r.c0, vb r.c1], .cells 35 (lkL fun _ => false), .cells 3 [vi r.z], .cells 4 [vb r.is],
  .cells 62 [.fn (.func 25) [] [.p 5 0, .p 4 0, .p 2 0]], .cells 26 c.cells]
set_option maxHeartbeats 4000000 in
set_option maxRecDepth 100000 in
theorem ct_Step (c : Cfg) (pos : Int) (c0 c1 : Bool) (l : List Hd) (g : Nat → Bool) (hb : c.lv.length < top) (hl : l.length < top) :
    Ct Try.prog G0 11 [lkV g, c.enc, vi pos, .agg [vb c0, vb c1], .ro 3 (hdL l)] [] (lkV (stepL c pos c0 c1 l g)) [] := by
  have sZ := ct_shaft_Zone c pos hb
  obtain ⟨z, is, hz⟩ : ∃ z is, zone c pos = (z, is) := ⟨_, _, rfl⟩
  rw [hz] at sZ
  have er : rcOf c pos c0 c1 = ⟨z, is, c0, c1⟩ := by simp [rcOf, hz]
  obtain ⟨r, hr⟩ : ∃ r : Rc, r = ⟨z, is, c0, c1⟩ := ⟨_, rfl⟩
  refine callV_ic hm (fn := Try.f11) rfl ic11_eq ic11_nm ic11_ok (by simp) ?_
  simp -dsimp [ic11]
  (with_reducible refine (CallD.pure (sZ) (by simp) ?_).callV)
  simp -dsimp
  refine (CallD.fresh (ct_gates c) (by simp) ?_).callV
  simp -dsimp
  refine Ti.rangeE [(5, .p 0 0), (6, .p 1 0), (8, .p 2 0), (10, .p 3 0), (11, .p 4 0), (12, .p 5 0), (13, .p 6 0), (4, .ro 3 (hdL l))] rfl (by simp) ?_
  intro ca cb env ha hcb ka kb he
  simp -dsimp
  refine ct_gates1 (c := c) (fun m h' => h' = hpS c r (ph1 c r g m) ++ [.deferred true, .loop .ready none env 121 #[30, 31] ca cb]) ?_ ?_ ?_ ?_ ?_
  · rintro k h' rfl
    simp [hpS]
  · rintro n s h' hn hs rfl ht
    have sR := ct_reaches r n s hs
    refine YieldV.ofIC hm ha hcb ka kb rfl rfl [(5, .p 0 0), (6, .p 1 0), (8, .p 2 0), (10, .p 3 0), (11, .p 4 0), (12, .p 5 0), (13, .p 6 0), (4, .ro 3 (hdL l))] he (by simp) ?_
    have hn' : (n : Int) < 16 := by omega
    have hs' : (s : Int) < 2 := by omega
    have hix : n * 4 + s * 2 < 64 := by omega
    obtain ⟨G, hG⟩ : ∃ G, G = ph1 c r g (2 * n + s) := ⟨_, rfl⟩
    have hsucc : ph1 c r g (2 * n + s + 1) = upd1 G (n * 4 + s * 2) (G (n * 4 + s * 2) || r.at n s) := by
      have e1 : (2 * n + s) / 2 = n := by omega
      have e2 : (2 * n + s) % 2 = s := by omega
      have e3 : 2 * (2 * n + s) = n * 4 + s * 2 := by omega
      rw [ph1_succ, ← hG]
      simp only [p1, e1, e2, e3]
      rw [if_pos ht]
    rw [hsucc, ← hG]
    have e0 := lkL_at G hix
    simp -dsimp [hpS, hn', hs', e0]
    refine ⟨_, _, _, _, _, _, ⟨rfl, rfl, rfl, rfl, rfl, rfl⟩, ?_⟩
    cases hc : G (n * 4 + s * 2)
    · simp -dsimp [hpS, hn', hs', e0, hix]
      refine CallD.many [5, 4, 2] [] sR (by simp) (by simp) (by simp) (by simp) (by simp) (by simp) (by simp) (by simp [rho]) ?_
      simp -dsimp [rho, hn', hs', hix, hc]
      refine ⟨by omega, ?_⟩
      (with_reducible refine ordI (by kernel_rfl) ?_)
      refine ⟨_, _, _, _, _, _, _, ⟨rfl, rfl, rfl, rfl, rfl, rfl, rfl⟩, exitV.now ⟨rfl, by simp [hpS]⟩⟩
    · simp -dsimp [hpS, hn', hs', e0, hix, hc]
      refine ⟨by omega, ?_⟩
      (with_reducible refine ordI (by kernel_rfl) ?_)
      refine ⟨_, _, _, _, _, _, _, ⟨rfl, rfl, rfl, rfl, rfl, rfl, rfl⟩, exitV.now ⟨rfl, by simp [hpS]⟩⟩
  · rintro n s h' hn hs rfl ht
    have e1 : (2 * n + s) / 2 = n := by omega
    have e2 : (2 * n + s) % 2 = s := by omega
    rw [ph1_succ]
    simp only [p1, e1, e2]
    rw [if_neg (by simp [ht])]
  · rw [hr]; simp [hpS, ph1]; kernel_rfl
  rintro h' rfl
  obtain ⟨G1, hG1⟩ : ∃ G, G = ph1 c r g 32 := ⟨_, rfl⟩
  rw [← hG1]
  simp -dsimp [hpS, jumpQ]
  refine ⟨_, _, _, _, _, _, _, ⟨rfl, rfl, rfl, rfl, rfl, rfl, rfl⟩, by simp, ?_⟩
  simp -dsimp [jumpQ]
  clear sZ ha hcb ka kb he
  refine Ti.loopW hm (fun k s => ∃ q : Nat, q + k = l.length ∧ s = { t := [(51, vi q), (50, vi l.length), (49, .ro 3 (hdL l)), (5, .p 0 0), (6, .p 1 0), (10, .p 3 0), (13, .p 6 0)], d := [8], h := hpS c r (ph2 c G1 (l.take q)) ++ [.deferred true] }) (k := l.length) ?_ ?_
  · refine Wk.cut 9 (by simp) (by simp) (by simp) (by simp) (by simp) (by simp) ?_
    exact Wk.sub [(51, vi (0 : Nat)), (50, vi l.length), (49, .ro 3 (hdL l)), (5, .p 0 0), (6, .p 1 0), (10, .p 3 0), (13, .p 6 0)] (by simp) (Wk.now ⟨0, by omega, by simp [hpS, ph2]⟩)
  · rintro k s ⟨q, hq, rfl⟩
    obtain ⟨G, hG⟩ : ∃ G, G = ph2 c G1 (l.take q) := ⟨_, rfl⟩
    rw [← hG]
    simp -dsimp [hpS]
    (with_reducible refine brV.intro (fun h => ?_) (fun h => ?_))
    · have hlt : q < l.length := by simp at h; omega
      have w1 := wq hlt hl
      have ex : l[q]? = some l[q] := List.getElem?_eq_getElem hlt
      have hs2 : ph2 c G1 (l.take (q + 1)) = p2 c G l[q] := by
        rw [hG, ph2, ph2, take_snoc hlt, List.foldl_append]; rfl
      obtain ⟨x, hx⟩ : ∃ x, x = l[q] := ⟨_, rfl⟩
      rw [← hx] at hs2 ex
      have sT := ct_there c x.n x.s
      have fin : ∀ G' : Nat → Bool, G' = p2 c G x → ∃ k', k' < k ∧ Wk G0 121 0 { t := [(51, vi (q + 1 : Nat)), (50, vi l.length), (49, .ro 3 (hdL l)), (5, .p 0 0), (6, .p 1 0), (10, .p 3 0), (13, .p 6 0)], d := [8], h := hpS c r G' ++ [.deferred true] }
          (fun s => ∃ q : Nat, q + k' = l.length ∧ s = { t := [(51, vi q), (50, vi l.length), (49, .ro 3 (hdL l)), (5, .p 0 0), (6, .p 1 0), (10, .p 3 0), (13, .p 6 0)], d := [8], h := hpS c r (ph2 c G1 (l.take q)) ++ [.deferred true] }) := by
        rintro _ rfl
        exact ⟨k - 1, by omega, Wk.now ⟨q + 1, by omega, by rw [hs2]⟩⟩
      clear hs2 hG
      simp -dsimp [h, hlt, ← hx]
      (with_reducible refine (CallD.pure (sT) (by simp) ?_).callV)
      cases ht : thereB c x.n x.s
      · simp -dsimp [w1]
        obtain ⟨k', hk', hwk⟩ := fin G (by simp [p2, ht])
        exact ⟨k', hk', Wk.sub _ (by simp) (Wk.cut 9 (by simp) (by simp) (by simp) (by simp) (by simp) (by simp) hwk)⟩
      · have hr4 : 0 ≤ x.n ∧ x.n < 16 ∧ 0 ≤ x.s ∧ x.s < 2 := by
          unfold thereB at ht
          simp only [Bool.and_eq_true, decide_eq_true_eq] at ht
          omega
        obtain ⟨n, s, w, hn, hs, rfl⟩ : ∃ (n s : Nat) (w : Int), n < 16 ∧ s < 2 ∧ x = ⟨n, s, w⟩ := ⟨x.n.toNat, x.s.toNat, x.w, by omega, by omega, by cases x; simp at hr4 ⊢; omega⟩
        have hn' : (n : Int) < 16 := by omega
        have hs' : (s : Int) < 2 := by omega
        have hix : n * 4 + s * 2 < 64 := by omega
        have hix1 : n * 4 + s * 2 + 1 < 64 := by omega
        have e0 := lkL_at G hix
        have e1 := lkL_at G hix1
        have ek : (2 * (n : Int) + s).toNat = 2 * n + s := by omega
        have e3 : 2 * (2 * n + s) = n * 4 + s * 2 := by omega
        have hp2 : p2 c G ⟨n, s, w⟩ = if w = 1 then upd1 G (n * 4 + s * 2 + 1) (G (n * 4 + s * 2 + 1) || G (n * 4 + s * 2)) else if w = 2 then upd1 G (n * 4 + s * 2 + 1) false else G := by
          simp only [p2]; rw [if_pos ht]; simp only [ek, e3]
        rw [hp2] at fin
        clear hp2 hx
        simp -dsimp [hn', hs', hix]
        (with_reducible refine ordI (by kernel_rfl) ?_)
        by_cases c1 : w = 1
        · subst c1
          rw [if_pos rfl] at fin
          simp -dsimp [e1]
          cases hc : G (n * 4 + s * 2 + 1)
          · simp -dsimp [e0, hix, hix1, w1, hc]
            rw [hc] at fin
            obtain ⟨k', hk', hwk⟩ := fin _ rfl
            exact ⟨by omega, k', hk', Wk.sub _ (by simp) (Wk.cut 9 (by simp) (by simp) (by simp) (by simp) (by simp) (by simp) hwk)⟩
          · simp -dsimp [e0, hix, hix1, w1, hc]
            rw [hc] at fin
            obtain ⟨k', hk', hwk⟩ := fin _ rfl
            exact ⟨by omega, k', hk', Wk.sub _ (by simp) (Wk.cut 9 (by simp) (by simp) (by simp) (by simp) (by simp) (by simp) hwk)⟩
        · rw [if_neg c1] at fin
          by_cases c2 : w = 2
          · subst c2
            rw [if_pos rfl] at fin
            simp -dsimp [hix1, w1]
            obtain ⟨k', hk', hwk⟩ := fin _ rfl
            exact ⟨by omega, k', hk', Wk.sub _ (by simp) (Wk.cut 9 (by simp) (by simp) (by simp) (by simp) (by simp) (by simp) hwk)⟩
          · rw [if_neg c2] at fin
            simp -dsimp [beq_f c1, beq_f c2, w1]
            obtain ⟨k', hk', hwk⟩ := fin _ rfl
            exact ⟨k', hk', Wk.sub _ (by simp) (Wk.cut 9 (by simp) (by simp) (by simp) (by simp) (by simp) (by simp) hwk)⟩
    · have hge : q = l.length := by simp at h; omega
      subst hge
      rw [List.take_length] at hG
      clear h hq
      simp -dsimp
      refine (CallD.fresh (ct_gates c) (by simp) ?_).callV
      simp -dsimp
      refine Ti.rangeE [(5, .p 0 0), (10, .p 3 0), (13, .p 6 0)] rfl (by simp) ?_
      intro ca cb env ha hcb ka kb he
      simp -dsimp
      refine ct_gates1 (c := c) (fun m h' => h' = hpS c r (ph3 c r G m) ++ [.deferred true, .cells 26 c.cells, .deferred true, .loop .ready none env 121 #[93, 94] ca cb]) ?_ ?_ ?_ ?_ ?_
      · rintro k h' rfl
        simp [hpS]
      · rintro n s h' hn hs rfl ht
        have sR := ct_reaches r n s hs
        refine YieldV.ofIC hm ha hcb ka kb rfl rfl [(5, .p 0 0), (10, .p 3 0), (13, .p 6 0)] he (by simp) ?_
        have hn' : (n : Int) < 16 := by omega
        have hs' : (s : Int) < 2 := by omega
        have hix : n * 4 + s * 2 < 64 := by omega
        have hix1 : n * 4 + s * 2 + 1 < 64 := by omega
        obtain ⟨H, hH⟩ : ∃ H, H = ph3 c r G (2 * n + s) := ⟨_, rfl⟩
        have hsucc : ph3 c r G (2 * n + s + 1) = upd1 H (n * 4 + s * 2) (H (n * 4 + s * 2) && (H (n * 4 + s * 2 + 1) || r.at n s)) := by
          have e1 : (2 * n + s) / 2 = n := by omega
          have e2 : (2 * n + s) % 2 = s := by omega
          have e3 : 2 * (2 * n + s) = n * 4 + s * 2 := by omega
          rw [ph3_succ, ← hH]
          simp only [p3, e1, e2, e3]
          rw [if_pos ht]
        rw [hsucc, ← hH]
        have e0 := lkL_at H hix
        have e1 := lkL_at H hix1
        simp -dsimp [hpS, hn', hs', e0]
        refine ⟨_, _, _, _, _, _, ⟨rfl, rfl, rfl, rfl, rfl, rfl⟩, ?_⟩
        cases hc : H (n * 4 + s * 2)
        · simp -dsimp [hpS, hn', hs', e0, e1, hix, hix1]
          refine ⟨by omega, ?_⟩
          (with_reducible refine ordI (by kernel_rfl) ?_)
          refine ⟨_, _, _, _, _, _, _, ⟨rfl, rfl, rfl, rfl, rfl, rfl, rfl⟩, exitV.now ⟨rfl, by simp [hpS]⟩⟩
        · simp -dsimp [hpS, hn', hs', e0, e1, hix, hix1]
          cases hd : H (n * 4 + s * 2 + 1)
          · simp -dsimp [hpS, hn', hs', e0, e1, hix, hix1, hc, hd]
            refine CallD.many [5, 4, 2] [] sR (by simp) (by simp) (by simp) (by simp) (by simp) (by simp) (by simp) (by simp [rho]) ?_
            simp -dsimp [rho, hn', hs', hix, hix1, hc, hd]
            refine ⟨by omega, ?_⟩
            (with_reducible refine ordI (by kernel_rfl) ?_)
            refine ⟨_, _, _, _, _, _, _, ⟨rfl, rfl, rfl, rfl, rfl, rfl, rfl⟩, exitV.now ⟨rfl, by simp [hpS]⟩⟩
          · simp -dsimp [hpS, hn', hs', e0, e1, hix, hix1, hc, hd]
            refine ⟨by omega, ?_⟩
            (with_reducible refine ordI (by kernel_rfl) ?_)
            refine ⟨_, _, _, _, _, _, _, ⟨rfl, rfl, rfl, rfl, rfl, rfl, rfl⟩, exitV.now ⟨rfl, by simp [hpS]⟩⟩
      · rintro n s h' hn hs rfl ht
        have e1 : (2 * n + s) / 2 = n := by omega
        have e2 : (2 * n + s) % 2 = s := by omega
        rw [ph3_succ]
        simp only [p3, e1, e2]
        rw [if_neg (by simp [ht])]
      · simp [hpS, ph3]
      rintro h' rfl
      simp -dsimp [hpS, jumpQ]
      refine ⟨_, _, _, _, _, _, _, ⟨rfl, rfl, rfl, rfl, rfl, rfl, rfl⟩, by simp, ?_⟩
      simp -dsimp [jumpQ]
      exact exitV.cut (by simp) (by simp) (by simp) (by simp) ⟨by rw [hG, hG1, stepL, er, ← hr], by simp⟩
end Go.Proofs.Ytbimcndnledkdaa
