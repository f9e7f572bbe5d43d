/- Contracts of functions of the seat's program, and what follows of them: Ln. Conditions are in each statement. -/
import Derived.Test.YtbimcndnledkdaaLm
set_option linter.unusedSimpArgs false
set_option linter.unusedVariables false
namespace Go.Proofs.Ytbimcndnledkdaa
open Go Go.Proofs Go.Vm

def notG (m : Nat) (h : Hd) : Bool := !ofG m h
theorem ofG_ne {m m0 : Nat} {h : Hd} (hm : m ≠ m0) (h0 : ofG m0 h = true) : ofG m h = false := by
  rw [Bool.eq_false_iff]
  intro h1
  simp only [ofG, Bool.and_eq_true, decide_eq_true_eq] at h0 h1
  omega
theorem foldl_less {m m0 : Nat} (hm : m ≠ m0) {F : Bool} : ∀ (l : List Hd) (o : Bool), (l.filter (notG m0)).foldl (opn m F) o = l.foldl (opn m F) o
  | [], _ => rfl
  | h :: l, o => by
    cases h0 : ofG m0 h
    · rw [List.filter_cons, if_pos (by simp [notG, h0])]
      simp only [List.foldl_cons]
      exact foldl_less hm l _
    · rw [List.filter_cons, if_neg (by simp [notG, h0])]
      have e : opn m F o h = o := by unfold opn; rw [ofG_ne hm h0]; simp
      simp only [List.foldl_cons, e]
      exact foldl_less hm l o
theorem foldl_none {m0 : Nat} {F : Bool} : ∀ (l : List Hd) (o : Bool), (l.filter (notG m0)).foldl (opn m0 F) o = o
  | [], _ => rfl
  | h :: l, o => by
    cases h0 : ofG m0 h
    · rw [List.filter_cons, if_pos (by simp [notG, h0])]
      have e : opn m0 F o h = o := by unfold opn; rw [h0]; simp
      simp only [List.foldl_cons, e]
      exact foldl_none l o
    · rw [List.filter_cons, if_neg (by simp [notG, h0])]
      exact foldl_none l o
/-- Alike but at one gate, which was never opened there. -/
structure Ap (m0 : Nat) (g g' : Nat → Bool) : Prop where
  same : ∀ m, m < 32 → m ≠ m0 → g' (2 * m) = g (2 * m) ∧ g' (2 * m + 1) = g (2 * m + 1)
  shut : g' (2 * m0 + 1) = false
theorem Ap.step {c : Cfg} {m0 : Nat} {g g' : Nat → Bool} (h : Ap m0 g g') (h0 : m0 < 32) (pos : Int) (c0 c1 : Bool) (l : List Hd) :
    Ap m0 (stepL c pos c0 c1 l g) (stepL c pos c0 c1 (l.filter (notG m0)) g') := by
  refine ⟨fun m hm hne => ?_, ?_⟩
  · obtain ⟨e1, e2⟩ := h.same m hm hne
    rw [step_free c pos c0 c1 _ g' hm, step_free c pos c0 c1 l g hm, step_open c pos c0 c1 _ g' hm, step_open c pos c0 c1 l g hm, e1, e2]
    unfold newO
    rw [foldl_less hne]
    exact ⟨rfl, rfl⟩
  · rw [step_open c pos c0 c1 _ g' h0]
    unfold newO
    rw [foldl_none, h.shut]
    simp
theorem Ap.end {m0 : Nat} {g g' : Nat → Bool} (h : Ap m0 g g') (h0 : m0 < 32) : lkL (upd1 (upd1 g' (2 * m0) (g (2 * m0))) (2 * m0 + 1) (g (2 * m0 + 1))) = lkL g := by
  refine lkL_ext fun m hm => ?_
  simp only [upd1]
  by_cases e : m = m0
  · subst e
    rw [if_neg (by omega), if_pos rfl, if_pos rfl]
    exact ⟨rfl, rfl⟩
  · rw [if_neg (by omega), if_neg (by omega), if_neg (by omega), if_neg (by omega)]
    exact h.same m hm e
theorem lkL_pair (g : Nat → Bool) {k : Nat} (h : k + 1 < 64) : ((lkL g).drop k).take 2 = [vb (g k), vb (g (k + 1))] := by
  apply List.ext_getElem
  · simp; omega
  · intro j h1 h2
    have hj : j < 2 := by simpa using h2
    have : j = 0 ∨ j = 1 := by omega
    rcases this with rfl | rfl <;> simp
theorem hdC_one (x : Hd) : [vi x.n, vi x.s, vi x.w] = hdC [x] := rfl
theorem wu8 {x : Int} (h1 : 0 ≤ x) (h2 : x ≤ 255) : IntKind.wrap .u8 x = x := by
  simp only [IntKind.wrap, IntKind.signed, IntKind.bits]
  simp; omega
theorem filter_take {l : List Hd} {q : Nat} (h : q < l.length) (p : Hd → Bool) : (l.take (q + 1)).filter p = if p l[q] = true then (l.take q).filter p ++ [l[q]] else (l.take q).filter p := by
  rw [take_snoc h, List.filter_append]
  by_cases hp : p l[q] = true <;> simp [hp]
set_option maxHeartbeats 8000000 in
set_option maxRecDepth 100000 in
theorem law_LockApart (c : Cfg) (l : List Tk) (a b' : Int) (hb : c.lv.length < top) (ho : c.op.length < top) (hl : l.length < top) (hh : ∀ t ∈ l, t.hd.length < top) (a1 : 0 ≤ a) (a2 : a ≤ 255) (b1 : 0 ≤ b') (b2 : b' ≤ 255) :
    CallV Try.prog G0 6 [c.enc, .ro 4 (tkL l), .c (.int .u8 a), .c (.int .u8 b')] [] fun v _ => v = .c (.bool true) := by
  obtain ⟨b, hb1, sW⟩ := ct_few l hl hh
  have sF := ct_law14_fine c ho
  obtain ⟨n, hn0⟩ : ∃ n : Nat, (n : Int) = a % 16 := ⟨(a % 16).toNat, by omega⟩
  obtain ⟨s, hs0⟩ : ∃ n : Nat, (n : Int) = b' % 2 := ⟨(b' % 2).toNat, by omega⟩
  have hn : n < 16 := by omega
  have hs : s < 2 := by omega
  have x1 : a.tmod 16 = n := by rw [Int.tmod_eq_emod_of_nonneg (by omega)]; exact hn0.symm
  have x2 : b'.tmod 2 = s := by rw [Int.tmod_eq_emod_of_nonneg (by omega)]; exact hs0.symm
  have x3 : IntKind.wrap .u8 (n : Int) = n := wu8 (by omega) (by omega)
  have x4 : IntKind.wrap .u8 (s : Int) = s := wu8 (by omega) (by omega)
  have x5 : IntKind.wrap .i64 (n : Int) = n := w64_of (by omega) (by omega)
  have x6 : IntKind.wrap .i64 (s : Int) = s := w64_of (by omega) (by omega)
  clear hn0 hs0
  refine callV_ic hm (fn := Try.f6) rfl ic6_eq ic6_nm ic6_ok (by simp) ?_
  simp -dsimp [ic6]
  (with_reducible refine (CallD.pure (ct_law14_awake) (by simp) ?_).callV)
  simp -dsimp
  (with_reducible refine (CallD.pure (sF) (by simp) ?_).callV)
  cases hf : fineB c
  · simp -dsimp
    (with_reducible refine (CallD.pure (ct_law14_awake) (by simp) ?_).callV)
    simp -dsimp
    exact exitV.now rfl
  simp -dsimp
  (with_reducible refine (CallD.pure (sW) (by simp) ?_).callV)
  cases b
  · simp -dsimp
    (with_reducible refine (CallD.pure (ct_law14_awake) (by simp) ?_).callV)
    simp -dsimp
    exact exitV.now rfl
  have hfew := fewB_of (hb1 rfl)
  clear sW sF hb1 hf
  obtain ⟨m0, hm0⟩ : ∃ m0, m0 = 2 * n + s := ⟨_, rfl⟩
  have m1 : m0 / 2 = n := by omega
  have m2 : m0 % 2 = s := by omega
  have m3 : m0 < 32 := by omega
  simp -dsimp [fold64, x1, x2, x3, x4, x5, x6]
  refine Ti.loopW hm (fun k st => ∃ (q : Nat) (g g' : Nat → Bool), q + k = l.length ∧ Ap m0 g g' ∧ st = { t := [(38, vi q), (37, vi l.length), (1, .ro 4 (tkL l)), (4, .p 0 0), (9, vi n), (10, vi s), (11, .p 1 0), (12, .p 2 0)], d := [], h := [.cells 26 c.cells, .cells 35 (lkL g), .cells 35 (lkL g')] }) (k := l.length) ?_ ?_
  · exact Wk.sub [(38, vi (0 : Nat)), (37, vi l.length), (1, .ro 4 (tkL l)), (4, .p 0 0), (9, vi n), (10, vi s), (11, .p 1 0), (12, .p 2 0)] (by simp) (Wk.now ⟨0, _, _, by omega, ⟨fun _ _ _ => ⟨rfl, rfl⟩, rfl⟩, rfl⟩)
  rintro k st ⟨q, g, g', hq, hA, rfl⟩
  simp -dsimp
  (with_reducible refine brV.intro (fun h => ?_) (fun h => ?_))
  · have hlt : q < l.length := by simp at h; omega
    have w1 := wq hlt hl
    obtain ⟨x, hx⟩ : ∃ x, x = l[q] := ⟨_, rfl⟩
    have hxm := hfew.2 l[q] (List.getElem_mem hlt)
    rw [← hx] at hxm
    simp -dsimp [h, hlt, ← hx]
    refine Ti.loopW hm (fun k2 st => ∃ (j : Nat), j + k2 = x.hd.length ∧ st = { t := [(48, vi j), (47, vi x.hd.length), (15, .sl 3 4 0 ((x.hd.take j).filter (notG m0)).length), (14, .p 3 0), (38, vi q), (37, vi l.length), (1, .ro 4 (tkL l)), (4, .p 0 0), (9, vi n), (10, vi s), (11, .p 1 0), (12, .p 2 0)], d := [], h := [.cells 26 c.cells, .cells 35 (lkL g), .cells 35 (lkL g'), .cells 39 [vi x.pos, vb x.c0, vb x.c1, .ro 3 (hdL x.hd)], .cells 52 (hdC ((x.hd.take j).filter (notG m0)))] }) (k := x.hd.length) ?_ ?_
    · refine Wk.sub [(48, vi (0 : Nat)), (47, vi x.hd.length), (15, .c (.slice none 0 0)), (14, .p 3 0), (38, vi q), (37, vi l.length), (1, .ro 4 (tkL l)), (4, .p 0 0), (9, vi n), (10, vi s), (11, .p 1 0), (12, .p 2 0)] (by simp) ?_
      exact Wk.nil 15 3 52 (by simp) (Wk.sub [(48, vi (0 : Nat)), (47, vi x.hd.length), (15, .sl 3 4 0 0), (14, .p 3 0), (38, vi q), (37, vi l.length), (1, .ro 4 (tkL l)), (4, .p 0 0), (9, vi n), (10, vi s), (11, .p 1 0), (12, .p 2 0)] (by simp) (Wk.now ⟨0, by omega, rfl⟩))
    rintro k2 st ⟨j, hj2, rfl⟩
    obtain ⟨f, hf⟩ : ∃ f, f = (x.hd.take j).filter (notG m0) := ⟨_, rfl⟩
    rw [← hf]
    simp -dsimp
    (with_reducible refine brV.intro (fun hj1 => ?_) (fun hj1 => ?_))
    · have hj : j < x.hd.length := by simp at hj1; omega
      have w3 := wq hj (by unfold top; omega)
      have hfl : f.length ≤ 20 := by
        rw [hf]; exact Nat.le_trans (List.length_filter_le ..) (by simp; omega)
      have y1 : (f.length + 1) * 24 ≤ 140737488355328 := by omega
      have y2 : f.length + 1 ≤ 9223372036854775807 := by omega
      have hby : Try.prog.bytesOf 52 = 24 := by kernel_rfl
      have hs3 := filter_take hj (notG m0)
      rw [← hf] at hs3
      obtain ⟨u, hu⟩ : ∃ u, u = x.hd[j] := ⟨_, rfl⟩
      rw [← hu] at hs3
      have fin : ∀ f', (x.hd.take (j + 1)).filter (notG m0) = f' → ∃ k', k' < k2 ∧ Wk G0 115 0 { t := [(48, vi (j + 1 : Nat)), (47, vi x.hd.length), (15, .sl 3 4 0 f'.length), (14, .p 3 0), (38, vi q), (37, vi l.length), (1, .ro 4 (tkL l)), (4, .p 0 0), (9, vi n), (10, vi s), (11, .p 1 0), (12, .p 2 0)], d := [], h := [.cells 26 c.cells, .cells 35 (lkL g), .cells 35 (lkL g'), .cells 39 [vi x.pos, vb x.c0, vb x.c1, .ro 3 (hdL x.hd)], .cells 52 (hdC f')] }
          (fun st => ∃ (j : Nat), j + k' = x.hd.length ∧ st = { t := [(48, vi j), (47, vi x.hd.length), (15, .sl 3 4 0 ((x.hd.take j).filter (notG m0)).length), (14, .p 3 0), (38, vi q), (37, vi l.length), (1, .ro 4 (tkL l)), (4, .p 0 0), (9, vi n), (10, vi s), (11, .p 1 0), (12, .p 2 0)], d := [], h := [.cells 26 c.cells, .cells 35 (lkL g), .cells 35 (lkL g'), .cells 39 [vi x.pos, vb x.c0, vb x.c1, .ro 3 (hdL x.hd)], .cells 52 (hdC ((x.hd.take j).filter (notG m0)))] }) := by
        rintro _ rfl
        exact ⟨k2 - 1, by omega, Wk.now ⟨j + 1, by omega, rfl⟩⟩
      have hadd : hdC f ++ [vi u.n, vi u.s, vi u.w] = hdC (f ++ [u]) := (hdC_app f u).symm
      clear hf
      by_cases g1 : u.n = n
      · by_cases g2 : u.s = s
        · have hnG : notG m0 u = false := by simp [notG, ofG, m1, m2, g1, g2]
          rw [hnG] at hs3
          simp -dsimp [hj1, hj, ← hu, bne_f g1, bne_f g2, w3]
          obtain ⟨k', hk', hwk⟩ := fin f (by rw [hs3]; simp)
          exact ⟨k', hk', Wk.sub _ (by simp) hwk⟩
        · have hnG : notG m0 u = true := by simp [notG, ofG, m1, m2, g2]
          rw [hnG, if_pos rfl] at hs3
          simp -dsimp [hj1, hj, ← hu, bne_f g1, bne_t g2, w3, hby, y1, y2, hadd]
          obtain ⟨k', hk', hwk⟩ := fin _ hs3
          refine ⟨by kernel_rfl, by decide, k', hk', Wk.some [0, 1, 2, 3, 6] _ _ rfl (by simp [hadd]) (by simp) (by simp) (by simp) (by simp [rho, w3]) (by simp) hwk⟩
      · have hnG : notG m0 u = true := by simp [notG, ofG, m1, m2, g1]
        rw [hnG, if_pos rfl] at hs3
        simp -dsimp [hj1, hj, ← hu, bne_t g1, w3, hby, y1, y2, hadd]
        obtain ⟨k', hk', hwk⟩ := fin _ hs3
        refine ⟨by kernel_rfl, by decide, k', hk', Wk.some [0, 1, 2, 3, 6] _ _ rfl (by simp [hadd]) (by simp) (by simp) (by simp) (by simp [rho, w3]) (by simp) hwk⟩
    · have hj : j = x.hd.length := by simp at hj1; omega
      subst hj
      rw [List.take_length] at hf
      have hfl : f.length ≤ 20 := by
        rw [hf]; exact Nat.le_trans (List.length_filter_le ..) (by omega)
      have sHd := ct_hands x.hd (by omega)
      have sS1 := ct_Step c x.pos x.c0 x.c1 x.hd g hb (by unfold top; omega)
      have sS2 := ct_Step c x.pos x.c0 x.c1 f g' hb (by unfold top; omega)
      have hA2 := hA.step (c := c) m3 x.pos x.c0 x.c1 x.hd
      rw [← hf] at hA2
      simp -dsimp
      (with_reducible refine (CallD.pure (sHd) (by simp) ?_))
      simp -dsimp
      (with_reducible refine (CallD.pure (sS1) (by simp) ?_))
      simp -dsimp
      (with_reducible refine ordI (by kernel_rfl) ?_)
      refine CallV.freeze 4 52 (hdC f) true (by simp) (by simp) ?_
      simp -dsimp
      refine (CallD.pure sS2 (by simp) ?_).callV
      simp -dsimp [w1]
      exact ⟨k - 1, by omega, Wk.sub [(38, vi (q + 1 : Nat)), (37, vi l.length), (1, .ro 4 (tkL l)), (4, .p 0 0), (9, vi n), (10, vi s), (11, .p 1 0), (12, .p 2 0)] (by simp) (Wk.cut 3 (by simp) (by simp) (by simp) (by simp) (by simp) (by simp) (Wk.now ⟨q + 1, _, _, by omega, hA2, rfl⟩))⟩
  · have hn' : (n : Int) < 16 := by omega
    have hs' : (s : Int) < 2 := by omega
    have hix : n * 4 + s * 2 < 64 := by omega
    have hix1 : n * 4 + s * 2 + 1 < 64 := by omega
    have e1 := lkL_at g' hix1
    have e3 : n * 4 + s * 2 = 2 * m0 := by omega
    have sh : g' (n * 4 + s * 2 + 1) = false := by rw [e3]; exact hA.shut
    rw [sh] at e1
    have pr := lkL_pair g hix1
    have en := hA.end m3
    rw [← e3] at en
    have eV := eqVs_lk g
    simp -dsimp [hn', hs', hix, hix1, e1, sh]
    refine ⟨by omega, by omega, by omega, ?_⟩
    (with_reducible refine ordI (by kernel_rfl) ?_)
    simp -dsimp [pr, en, eV]
    exact exitV.now rfl
end Go.Proofs.Ytbimcndnledkdaa
