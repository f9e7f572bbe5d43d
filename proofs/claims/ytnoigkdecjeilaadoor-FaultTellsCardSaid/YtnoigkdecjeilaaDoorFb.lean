/- Contracts of functions of the seat's program, and what follows of them: Fb. Conditions are in each statement. -/
import Derived.Test.YtnoigkdecjeilaaDoorFa
set_option linter.unusedSimpArgs false
set_option linter.unusedVariables false
namespace Go.Proofs.YtnoigkdecjeilaaDoor
open Go Go.Proofs Go.Vm Go.Extern
set_option maxRecDepth 100000

abbrev tgt (k : Int) : V := .iface 65 (.agg [vi k, vi 0])

/-- errors.is, for a fault of a kind. -/
theorem ct_isE (e : Er) (k : Int) : Ct Tryd.prog G0 38 [e.v, tgt k, vb true] [] (vb (e.leaf.1 == k)) [] := by
  refine callV_ic hm (fn := Tryd.f38) rfl ic38_eq ic38_nm ic38_ok (by simp) ?_
  simp -dsimp [ic38]
  refine Ti.loopW hm (fun j s => ∃ e' : Er, e'.deep = j ∧ e'.leaf = e.leaf ∧ s = { t := [(0, e'.v), (1, tgt k), (2, vb true)], d := [], h := [] }) (k := e.deep) ?_ ?_
  · exact Wk.sub [(0, e.v), (1, tgt k), (2, vb true)] (by simp) (Wk.now ⟨e, rfl, rfl, rfl⟩)
  rintro j s ⟨e', hj, hl, rfl⟩
  cases e' with
  | s kk tt =>
    have hk : e.leaf.1 = kk := by rw [← hl]; rfl
    have fin : Ct Tryd.prog G0 73 [.agg [vi kk, vi tt], tgt k] [] (vb (k == kk)) [] := ct_singleIs kk tt (Er.s k 0)
    rw [hk]
    by_cases c : kk = k
    · subst c
      by_cases c2 : tt = 0
      · subst c2
        repeat' first
          | simp -dsimp [Er.v]
          | (with_reducible refine ordI (by kernel_rfl) ?_)
        exact exitV.cut (by simp) (by simp) (by simp) (by simp) ⟨by simp, by simp⟩
      · have c3 : (tt == 0) = false := by simpa using c2
        repeat' first
          | simp -dsimp [Er.v, c2, c3]
          | (with_reducible refine ordI (by kernel_rfl) ?_)
        refine ⟨_, _, mIs _, ?_⟩
        repeat' first
          | simp -dsimp
          | (with_reducible refine (CallD.pure (fin) (by simp) ?_).callV)
          | (with_reducible refine ordI (by kernel_rfl) ?_)
        exact exitV.cut (by simp) (by simp) (by simp) (by simp) ⟨by simp, by simp⟩
    · have c' : ¬ k = kk := fun h => c h.symm
      have cb : (k == kk) = false := by simpa using c'
      have cb' : (kk == k) = false := by simpa using c
      rw [cb] at fin
      repeat' first
        | simp -dsimp [Er.v, c, cb, cb']
        | (with_reducible refine ordI (by kernel_rfl) ?_)
      refine ⟨_, _, mIs _, ?_⟩
      repeat' first
        | simp -dsimp
        | (with_reducible refine (CallD.pure (fin) (by simp) ?_).callV)
        | (with_reducible refine ordI (by kernel_rfl) ?_)
      exact exitV.cut (by simp) (by simp) (by simp) (by simp) ⟨by simp [cb'], by simp⟩
  | f ww ee =>
    have hd : ee.deep < j := by simp only [Er.deep] at hj; omega
    have hl' : ee.leaf = e.leaf := hl
    obtain ⟨t', v', hv⟩ : ∃ t v, ee.v = .iface t v := by cases ee <;> exact ⟨_, _, rfl⟩
    have fin := ct_Unwrap ww ee
    have hw : Wk G0 54 0 { t := [(0, ee.v), (1, tgt k), (2, vb true)], d := [], h := [] } (fun s => ∃ e' : Er, e'.deep = ee.deep ∧ e'.leaf = e.leaf ∧ s = { t := [(0, e'.v), (1, tgt k), (2, vb true)], d := [], h := [] }) := Wk.now ⟨ee, rfl, hl', rfl⟩
    repeat' first
      | simp -dsimp [Er.v]
      | (with_reducible refine ordI (by kernel_rfl) ?_)
    refine ⟨_, _, mUnwrap _, ?_⟩
    simp -dsimp
    refine (CallD.pure fin (by simp) ?_).callV
    rw [hv] at hw ⊢
    repeat' first
      | simp -dsimp
      | (with_reducible refine ordI (by kernel_rfl) ?_)
    exact ⟨ee.deep, hd, Wk.sub [(0, .iface t' v'), (1, tgt k), (2, vb true)] (by simp) hw⟩
theorem ct_IsE (e : Er) (k : Int) : Ct Tryd.prog G0 30 [e.v, tgt k] [] (vb (e.leaf.1 == k)) [] := by
  have fin := ct_isE e k
  obtain ⟨t', v', hv⟩ : ∃ t v, e.v = .iface t v := by cases e <;> exact ⟨_, _, rfl⟩
  have hok : ∀ q : Nat → Prop, (V.iface t' v').ok q := fun q => by rw [← hv]; simp
  have hok' : ∀ q : Nat → Prop, v'.ok q := fun q => by have := hok q; simpa using this
  rw [hv] at fin ⊢
  refine callV_ic hm (fn := Tryd.f30) rfl ic30_eq ic30_nm ic30_ok (by simp) ?_
  simp -dsimp [ic30]
  refine typeOfS ?_
  simp -dsimp
  refine ⟨_, _, mComparable _, ?_⟩
  simp -dsimp
  refine comparableE coS ?_
  repeat' first
    | simp -dsimp
    | (with_reducible refine (CallD.pure fin (by simp [hok']) ?_).callV)
    | (with_reducible refine ordI (by kernel_rfl) ?_)
  exact exitV.cut (by simp) (by simp) (by simp) (by simp) ⟨rfl, by simp⟩
theorem ct_IsNo (k : Int) : Ct Tryd.prog G0 30 [.c .nilIface, tgt k] [] (vb false) [] := by
  refine callV_ic hm (fn := Tryd.f30) rfl ic30_eq ic30_nm ic30_ok (by simp) ?_
  simp -dsimp [ic30]
  repeat' first
    | simp -dsimp
    | (with_reducible refine ordI (by kernel_rfl) ?_)
  exact exitV.cut (by simp) (by simp) (by simp) (by simp) ⟨rfl, by simp⟩
theorem ct_fault_Is (e : Er) (k : Int) : Ct Tryd.prog G0 14 [e.v, vi k] [] (vb (e.leaf.1 == k)) [] := by
  have fin := ct_IsE e k
  obtain ⟨t', v', hv⟩ : ∃ t v, e.v = .iface t v := by cases e <;> exact ⟨_, _, rfl⟩
  have hok : ∀ q : Nat → Prop, (V.iface t' v').ok q := fun q => by rw [← hv]; simp
  have hok' : ∀ q : Nat → Prop, v'.ok q := fun q => by have := hok q; simpa using this
  rw [hv] at fin ⊢
  refine callV_ic hm (fn := Tryd.f14) rfl ic14_eq ic14_nm ic14_ok (by simp) ?_
  simp -dsimp [ic14]
  repeat' first
    | simp -dsimp
    | (with_reducible refine (CallD.pure fin (by simp [hok']) ?_).callV)
    | (with_reducible refine ordI (by kernel_rfl) ?_)
  exact exitV.cut (by simp) (by simp) (by simp) (by simp) ⟨rfl, by simp⟩
theorem ct_fault_IsNo (k : Int) : Ct Tryd.prog G0 14 [.c .nilIface, vi k] [] (vb false) [] := by
  have fin := ct_IsNo k
  refine callV_ic hm (fn := Tryd.f14) rfl ic14_eq ic14_nm ic14_ok (by simp) ?_
  simp -dsimp [ic14]
  repeat' first
    | simp -dsimp
    | (with_reducible refine (CallD.pure (fin) (by simp) ?_).callV)
    | (with_reducible refine ordI (by kernel_rfl) ?_)
  exact exitV.cut (by simp) (by simp) (by simp) (by simp) ⟨rfl, by simp⟩
end Go.Proofs.YtnoigkdecjeilaaDoor
