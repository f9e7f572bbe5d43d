/- Contracts of functions of the seat's program, and what follows of them: Lo. Conditions are in each statement. -/
import Derived.Test.YtbimcndnledkdaaLn
set_option linter.unusedSimpArgs false
set_option linter.unusedVariables false
namespace Go.Proofs.Ytbimcndnledkdaa
open Go Go.Proofs Go.Vm

theorem open_bit : ∀ o : Fin 4, 1 ≤ o.val → ∀ s : Fin 2, (bits .and .i64 ((o.val : Int) / 2 ^ s.val) 1 == 1) = ((((o.val : Int).tdiv ((s.val : Int) + 1)).tmod 2) == 1) := by decide +kernel
set_option maxRecDepth 100000 in
theorem ct_There {c : Cfg} (g : Good c) {n s : Nat} (hn : n < 16) (hs : s < 2) : Ct Try.prog G0 28 [c.enc, vi n, vi s] [] (vb (thereB c n s)) [] := by
  have h1 : ¬ (n : Int) < 0 := by omega
  have h2 : ¬ (s : Int) < 0 := by omega
  have h3 : ¬ (1 : Int) < s := by omega
  have h3' : ¬ (1 : Nat) < s := by omega
  have h4 := g.h16
  have h5 := g.hop
  by_cases hlt : n < c.lv.length
  · have hlt2 : n < c.op.length := by omega
    have k1 : ¬ c.lv.length ≤ n := by omega
    have k2 : ¬ c.op.length ≤ n := by omega
    have e1 := ints_at hlt2
    have ho := g.op1 n hlt2
    obtain ⟨o, hoo⟩ : ∃ o, o = at0 c.op n := ⟨_, rfl⟩
    rw [← hoo] at e1 ho
    have hb := open_bit ⟨o.toNat, by omega⟩ (by simp; omega) ⟨s, hs⟩
    simp only [Int.toNat_of_nonneg (show 0 ≤ o by omega)] at hb
    have ht : thereB c n s = (((o.tdiv ((s : Int) + 1)).tmod 2) == 1) := by
      rw [← hb]
      unfold thereB
      rw [← show at0 c.op (n : Int).toNat = at0 c.op n from by rw [Int.toNat_natCast]] at hoo
      have q1 : (0 : Int) ≤ n := by omega
      have q2 : (n : Int) < min (c.lv.length : Int) (min (c.op.length : Int) 16) := by omega
      have q3 : (0 : Int) ≤ s := by omega
      have q4 : (s : Int) < 2 := by omega
      simp [q2, q4, hoo]
    have hsc : s = 0 ∨ s = 1 := by omega
    have hoc : o = 1 ∨ o = 2 ∨ o = 3 := by omega
    rw [ht]
    clear ht hb
    have w1 : IntKind.wrap .i64 1 = 1 := w64_of (by omega) (by omega)
    have w2 : IntKind.wrap .i64 2 = 2 := w64_of (by omega) (by omega)
    have w0 : IntKind.wrap .i64 0 = 0 := w64_of (by omega) (by omega)
    have w3 : IntKind.wrap .i64 3 = 3 := w64_of (by omega) (by omega)
    refine callV_ic hm (fn := Try.f28) rfl ic28_eq ic28_nm ic28_ok (by simp) ?_
    simp -dsimp [ic28]
    rcases hsc with rfl | rfl <;> rcases hoc with rfl | rfl | rfl
    all_goals
      simp -dsimp [h1, h2, h3, k1, k2, hlt, hlt2, e1, ← hoo, w1, w2, w0, w3]
      exact exitV.cut (by simp) (by simp) (by simp) (by simp) ⟨by simp, by simp⟩
  · have k1 : c.lv.length ≤ n := by omega
    have ht : thereB c n s = false := by
      unfold thereB
      have q2 : ¬ (n : Int) < min (c.lv.length : Int) (min (c.op.length : Int) 16) := by omega
      simp [q2]
    rw [ht]
    refine callV_ic hm (fn := Try.f28) rfl ic28_eq ic28_nm ic28_ok (by simp) ?_
    simp -dsimp [ic28]
    simp -dsimp [h1, k1]
    exact exitV.cut (by simp) (by simp) (by simp) (by simp) ⟨by simp, by simp⟩
theorem ct_Reaches {c : Cfg} (g : Good c) (pos : Int) (c0 c1 : Bool) {n s : Nat} (hs : s < 2) (hb : c.lv.length < top) :
    Ct Try.prog G0 30 [c.enc, vi pos, .agg [vb c0, vb c1], vi n, vi s] [] (vb ((rcOf c pos c0 c1).at n s)) [] := by
  have hp : 0 < c.lv.length := by have := g.h2; omega
  have sZ := ct_ref06_Zone c pos hb hp
  rw [← zone_eq pos hp] at sZ
  obtain ⟨z, is, hz⟩ : ∃ z is, zone c pos = (z, is) := ⟨_, _, rfl⟩
  rw [hz] at sZ
  have er : rcOf c pos c0 c1 = ⟨z, is, c0, c1⟩ := by simp [rcOf, hz]
  rw [er]
  refine callV_ic hm (fn := Try.f30) rfl ic30_eq ic30_nm ic30_ok (by simp) ?_
  simp -dsimp [ic30]
  (with_reducible refine (CallD.pure (sZ) (by simp) ?_).callV)
  cases is
  · simp -dsimp
    exact exitV.cut (by simp) (by simp) (by simp) (by simp) ⟨by simp [Rc.at], by simp⟩
  · simp -dsimp
    by_cases h2 : z = (n : Int)
    · have hs' : s = 0 ∨ s = 1 := by omega
      rcases hs' with rfl | rfl
      · simp -dsimp [beq_t h2]
        exact exitV.cut (by simp) (by simp) (by simp) (by simp) ⟨by simp [Rc.at, h2], by simp⟩
      · simp -dsimp [beq_t h2]
        exact exitV.cut (by simp) (by simp) (by simp) (by simp) ⟨by simp [Rc.at, h2], by simp⟩
    · have h3 : ¬ (n : Int) = z := fun h => h2 h.symm
      simp -dsimp [beq_f h2]
      exact exitV.cut (by simp) (by simp) (by simp) (by simp) ⟨by simp [Rc.at, h3], by simp⟩
set_option maxHeartbeats 4000000 in
set_option maxRecDepth 100000 in
theorem ct_rStep (F O R : Bool) {m n s' : Nat} (e1 : m / 2 = n) (e2 : m % 2 = s') (l : List Hd) (hl : l.length < top) : Ct Try.prog G0 29 [.agg [vb F, vb O], vb R, vi n, vi s', .ro 3 (hdL l)] []
    (.agg [vb (newF F R && (newO m F R O l || R)), vb (newO m F R O l)]) [] := by
  refine callV_ic hm (fn := Try.f29) rfl ic29_eq ic29_nm ic29_ok (by simp) ?_
  simp -dsimp [ic29]
  cases R
  case false =>
    simp -dsimp
    refine Ti.loopW hm (fun k s => ∃ q : Nat, q + k = l.length ∧ s = { t := [(15, vi l.length), (16, vi q), (5, .p 0 0), (10, .p 1 0), (1, vb false), (2, vi n), (3, vi s'), (4, .ro 3 (hdL l))], d := [], h := [.cells 32 [vb (newF F false), vb ((l.take q).foldl (opn m (newF F false)) O)], .cells 32 [vb false, vb false]] }) (k := l.length) ?_ ?_
    · exact Wk.sub [(15, vi l.length), (16, vi (0 : Nat)), (5, .p 0 0), (10, .p 1 0), (1, vb false), (2, vi n), (3, vi s'), (4, .ro 3 (hdL l))] (by simp) (Wk.now ⟨0, by omega, by simp [newF]⟩)
    rintro k s ⟨q, hq, rfl⟩
    obtain ⟨F1, hF1⟩ : ∃ F1, F1 = newF F false := ⟨_, rfl⟩
    rw [← hF1]
    obtain ⟨o, ho⟩ : ∃ o, o = (l.take q).foldl (opn m F1) O := ⟨_, rfl⟩
    rw [← ho]
    simp -dsimp
    (with_reducible refine brV.intro (fun h => ?_) (fun h => ?_))
    · have hlt : q < l.length := by simp at h; omega
      have w1 := wq hlt hl
      obtain ⟨x, hx⟩ : ∃ x, x = l[q] := ⟨_, rfl⟩
      have hs2 : (l.take (q + 1)).foldl (opn m F1) O = opn m F1 o x := by
        rw [take_snoc hlt, List.foldl_append, ← ho, ← hx]; rfl
      have fin : ∀ o', opn m F1 o x = o' → ∃ k', k' < k ∧ Wk G0 63 0 { t := [(15, vi l.length), (16, vi (q + 1 : Nat)), (5, .p 0 0), (10, .p 1 0), (1, vb false), (2, vi n), (3, vi s'), (4, .ro 3 (hdL l))], d := [], h := [.cells 32 [vb F1, vb o'], .cells 32 [vb false, vb false]] }
          (fun s => ∃ q : Nat, q + k' = l.length ∧ s = { t := [(15, vi l.length), (16, vi q), (5, .p 0 0), (10, .p 1 0), (1, vb false), (2, vi n), (3, vi s'), (4, .ro 3 (hdL l))], d := [], h := [.cells 32 [vb F1, vb ((l.take q).foldl (opn m F1) O)], .cells 32 [vb false, vb false]] }) := by
        rintro _ rfl
        exact ⟨k - 1, by omega, Wk.now ⟨q + 1, by omega, by rw [hs2]⟩⟩
      clear hs2 ho hF1
      unfold opn at fin
      by_cases g1 : x.n = n
      · by_cases g2 : x.s = s'
        · rw [if_pos (by simp [ofG, g1, g2, e1, e2])] at fin
          by_cases c1 : x.w = 1
          · rw [if_pos c1] at fin
            cases F1
            · simp -dsimp [h, hlt, ← hx, bne_f g1, bne_f g2, c1, w1]
              obtain ⟨k', hk', hwk⟩ := fin o (by simp)
              exact ⟨k', hk', Wk.sub _ (by simp) hwk⟩
            · simp -dsimp [h, hlt, ← hx, bne_f g1, bne_f g2, c1, w1]
              obtain ⟨k', hk', hwk⟩ := fin true (by simp)
              exact ⟨k', hk', Wk.sub _ (by simp) hwk⟩
          · rw [if_neg c1] at fin
            by_cases c2 : x.w = 2
            · rw [if_pos c2] at fin
              simp -dsimp [h, hlt, ← hx, bne_f g1, bne_f g2, c2, w1]
              obtain ⟨k', hk', hwk⟩ := fin false rfl
              exact ⟨k', hk', Wk.sub _ (by simp) hwk⟩
            · rw [if_neg c2] at fin
              simp -dsimp [h, hlt, ← hx, bne_f g1, bne_f g2, beq_f c1, beq_f c2, w1]
              obtain ⟨k', hk', hwk⟩ := fin o rfl
              exact ⟨k', hk', Wk.sub _ (by simp) hwk⟩
        · rw [if_neg (by simp only [ofG, Bool.and_eq_true, decide_eq_true_eq]; rw [e1, e2]; exact fun h => g2 h.2)] at fin
          simp -dsimp [h, hlt, ← hx, bne_f g1, bne_t g2, w1]
          obtain ⟨k', hk', hwk⟩ := fin o rfl
          exact ⟨k', hk', Wk.sub _ (by simp) hwk⟩
      · rw [if_neg (by simp only [ofG, Bool.and_eq_true, decide_eq_true_eq]; rw [e1, e2]; exact fun h => g1 h.1)] at fin
        simp -dsimp [h, hlt, ← hx, bne_t g1, w1]
        obtain ⟨k', hk', hwk⟩ := fin o rfl
        exact ⟨k', hk', Wk.sub _ (by simp) hwk⟩
    · have hge : q = l.length := by simp at h; omega
      subst hge
      have hq0 : k = 0 := by omega
      rw [List.take_length] at ho
      have hO : newO m F false O l = o := by unfold newO; rw [← hF1, ← ho]
      rw [hO]
      clear ho hO
      cases o
      all_goals
        simp -dsimp [h]
        exact exitV.cut (by simp) (by simp) (by simp) (by simp) ⟨by simp, by simp⟩
  case true =>
    simp -dsimp
    refine Ti.loopW hm (fun k s => ∃ q : Nat, q + k = l.length ∧ s = { t := [(15, vi l.length), (16, vi q), (5, .p 0 0), (10, .p 1 0), (1, vb true), (2, vi n), (3, vi s'), (4, .ro 3 (hdL l))], d := [], h := [.cells 32 [vb (newF F true), vb ((l.take q).foldl (opn m (newF F true)) O)], .cells 32 [vb false, vb false]] }) (k := l.length) ?_ ?_
    · exact Wk.sub [(15, vi l.length), (16, vi (0 : Nat)), (5, .p 0 0), (10, .p 1 0), (1, vb true), (2, vi n), (3, vi s'), (4, .ro 3 (hdL l))] (by simp) (Wk.now ⟨0, by omega, by simp [newF]⟩)
    rintro k s ⟨q, hq, rfl⟩
    obtain ⟨F1, hF1⟩ : ∃ F1, F1 = newF F true := ⟨_, rfl⟩
    rw [← hF1]
    obtain ⟨o, ho⟩ : ∃ o, o = (l.take q).foldl (opn m F1) O := ⟨_, rfl⟩
    rw [← ho]
    simp -dsimp
    (with_reducible refine brV.intro (fun h => ?_) (fun h => ?_))
    · have hlt : q < l.length := by simp at h; omega
      have w1 := wq hlt hl
      obtain ⟨x, hx⟩ : ∃ x, x = l[q] := ⟨_, rfl⟩
      have hs2 : (l.take (q + 1)).foldl (opn m F1) O = opn m F1 o x := by
        rw [take_snoc hlt, List.foldl_append, ← ho, ← hx]; rfl
      have fin : ∀ o', opn m F1 o x = o' → ∃ k', k' < k ∧ Wk G0 63 0 { t := [(15, vi l.length), (16, vi (q + 1 : Nat)), (5, .p 0 0), (10, .p 1 0), (1, vb true), (2, vi n), (3, vi s'), (4, .ro 3 (hdL l))], d := [], h := [.cells 32 [vb F1, vb o'], .cells 32 [vb false, vb false]] }
          (fun s => ∃ q : Nat, q + k' = l.length ∧ s = { t := [(15, vi l.length), (16, vi q), (5, .p 0 0), (10, .p 1 0), (1, vb true), (2, vi n), (3, vi s'), (4, .ro 3 (hdL l))], d := [], h := [.cells 32 [vb F1, vb ((l.take q).foldl (opn m F1) O)], .cells 32 [vb false, vb false]] }) := by
        rintro _ rfl
        exact ⟨k - 1, by omega, Wk.now ⟨q + 1, by omega, by rw [hs2]⟩⟩
      clear hs2 ho hF1
      unfold opn at fin
      by_cases g1 : x.n = n
      · by_cases g2 : x.s = s'
        · rw [if_pos (by simp [ofG, g1, g2, e1, e2])] at fin
          by_cases c1 : x.w = 1
          · rw [if_pos c1] at fin
            cases F1
            · simp -dsimp [h, hlt, ← hx, bne_f g1, bne_f g2, c1, w1]
              obtain ⟨k', hk', hwk⟩ := fin o (by simp)
              exact ⟨k', hk', Wk.sub _ (by simp) hwk⟩
            · simp -dsimp [h, hlt, ← hx, bne_f g1, bne_f g2, c1, w1]
              obtain ⟨k', hk', hwk⟩ := fin true (by simp)
              exact ⟨k', hk', Wk.sub _ (by simp) hwk⟩
          · rw [if_neg c1] at fin
            by_cases c2 : x.w = 2
            · rw [if_pos c2] at fin
              simp -dsimp [h, hlt, ← hx, bne_f g1, bne_f g2, c2, w1]
              obtain ⟨k', hk', hwk⟩ := fin false rfl
              exact ⟨k', hk', Wk.sub _ (by simp) hwk⟩
            · rw [if_neg c2] at fin
              simp -dsimp [h, hlt, ← hx, bne_f g1, bne_f g2, beq_f c1, beq_f c2, w1]
              obtain ⟨k', hk', hwk⟩ := fin o rfl
              exact ⟨k', hk', Wk.sub _ (by simp) hwk⟩
        · rw [if_neg (by simp only [ofG, Bool.and_eq_true, decide_eq_true_eq]; rw [e1, e2]; exact fun h => g2 h.2)] at fin
          simp -dsimp [h, hlt, ← hx, bne_f g1, bne_t g2, w1]
          obtain ⟨k', hk', hwk⟩ := fin o rfl
          exact ⟨k', hk', Wk.sub _ (by simp) hwk⟩
      · rw [if_neg (by simp only [ofG, Bool.and_eq_true, decide_eq_true_eq]; rw [e1, e2]; exact fun h => g1 h.1)] at fin
        simp -dsimp [h, hlt, ← hx, bne_t g1, w1]
        obtain ⟨k', hk', hwk⟩ := fin o rfl
        exact ⟨k', hk', Wk.sub _ (by simp) hwk⟩
    · have hge : q = l.length := by simp at h; omega
      subst hge
      have hq0 : k = 0 := by omega
      rw [List.take_length] at ho
      have hO : newO m F true O l = o := by unfold newO; rw [← hF1, ← ho]
      rw [hO]
      clear ho hO
      cases o
      all_goals
        simp -dsimp [h]
        exact exitV.cut (by simp) (by simp) (by simp) (by simp) ⟨by simp, by simp⟩
end Go.Proofs.Ytbimcndnledkdaa
