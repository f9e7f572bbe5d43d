/- Contracts of functions of the seat's program, and what follows of them: Fr. Conditions are in each statement. -/
import Derived.Test.YtnoigkdecjeilaaDoorFq
set_option linter.unusedSimpArgs false
set_option linter.unusedVariables false
namespace Go.Proofs.YtnoigkdecjeilaaDoor
open Go Go.Proofs Go.Vm Go.Extern
set_option maxRecDepth 100000

structure Op2 where
  d : Int
  k : Int
  t : Int
  p : List (List UInt8)
def Op2.enc (o : Op2) : V := .agg [vi o.d, vi o.k, vi o.t, .ro 1 (strs o.p)]
def op2L (l : List Op2) : List V := l.map Op2.enc
@[simp] theorem op2L_length (l : List Op2) : (op2L l).length = l.length := by simp [op2L]
@[simp] theorem op2L_get (l : List Op2) (k : Nat) (h : k < (op2L l).length) : (op2L l)[k] = .agg [vi (l[k]'(by simpa using h)).d, vi (l[k]'(by simpa using h)).k, vi (l[k]'(by simpa using h)).t, .ro 1 (strs (l[k]'(by simpa using h)).p)] := by simp [op2L, Op2.enc]
@[simp] theorem okL_op2L (p : Nat → Prop) : ∀ l : List Op2, okL p (op2L l)
  | [] => trivial
  | t :: l => ⟨⟨trivial, trivial, trivial, okL_strs p t.p, trivial⟩, okL_op2L p l⟩
@[simp] theorem renL_op2L (ρ : Nat → Nat) : ∀ l : List Op2, renL ρ (op2L l) = op2L l
  | [] => rfl
  | t :: l => by
    have := renL_op2L ρ l
    simp [op2L, Op2.enc, renL] at this ⊢; exact this
/-- From where a fault is told, the outermost place first. -/
def pthV (p : List (List UInt8)) : V := if p = [] then .c (.slice none 0 0) else .ro 1 (strs p.reverse)
@[simp] theorem pthV_ok (p : List (List UInt8)) (q : Nat → Prop) : (pthV p).ok q := by unfold pthV; split <;> simp
@[simp] theorem pthV_ren (p : List (List UInt8)) (ρ : Nat → Nat) : (pthV p).ren ρ = pthV p := by unfold pthV; split <;> simp
@[simp] theorem pthV_one (p : List (List UInt8)) : (pthV p).one = true := by unfold pthV; split <;> rfl
@[simp] theorem pthV_fills (p : List (List UInt8)) : (pthV p).fills = true := by unfold pthV; split <;> rfl
@[simp] theorem pthV_cells (p : List (List UInt8)) : (pthV p).cells = [pthV p] := by unfold pthV; split <;> rfl
theorem clear2_less (l : List Flt) (k : Int) : decide ((clear2 l k).length < l.length) = has2 l k := by
  rw [Bool.eq_iff_iff, decide_eq_true_iff]
  unfold clear2 has2
  rw [List.length_filter_lt_length_iff_exists, List.any_eq_true]
  constructor
  · rintro ⟨x, hx, h⟩
    exact ⟨x, hx, by simpa using h⟩
  · rintro ⟨x, hx, h⟩
    exact ⟨x, hx, by simpa using h⟩
theorem allF_len12 {L : List Flt} (h : okLt L) : (allF L).length ≤ 12 := by
  have := List.length_filter_le (fun f : Flt => f.kind != 0) L
  have h1 := h.1
  unfold allF; omega
theorem ct_AddK {L : List Flt} (h : okLt L) {k t : Int} (c : canP k = true) : Ct Tryd.prog G0 24 [.ro 2 (flts (allF L)), .agg [vi k, vi (mid t)]] [] (.tup [.ro 2 (flts (allF (addL L ⟨k, mid t⟩))), vb (!hasL L k)]) [] := by
  have a := ct_ref_Add (allF L) ⟨k, mid t⟩ (by have := allF_len12 h; omega)
  simp only at a
  rw [has2_allF h] at a
  cases hh : hasL L k
  · rw [hh] at a
    rw [if_neg (by simp), insF_allF h c hh] at a
    exact a
  · rw [hh] at a
    rw [if_pos rfl] at a
    rw [show addL L ⟨k, mid t⟩ = L from addL_same hh]
    exact a
theorem ct_ClearK {L : List Flt} (h : okLt L) (k : Int) : Ct Tryd.prog G0 26 [.ro 2 (flts (allF L)), vi k] [] (.tup [.ro 2 (flts (allF (clearL L k))), vb (hasL L k)]) [] := by
  have a := ct_ref_Clear (allF L) k (by have := allF_len12 h; omega)
  rw [clear2_less, has2_allF h, clear2_allF h] at a
  exact a
theorem ct_HasK {L : List Flt} (h : okLt L) (k : Int) : Ct Tryd.prog G0 25 [.ro 2 (flts (allF L)), vi k] [] (vb (hasL L k)) [] := by
  have a := ct_ref_Has (allF L) k (by have := allF_len12 h; unfold top; omega)
  rwa [has2_allF h] at a
@[simp] theorem okE (F : List Flt) (p : Nat → Prop) : (errV F).ok p := by cases F <;> simp [errV]
@[simp] theorem renE (F : List Flt) (ρ : Nat → Nat) : (errV F).ren ρ = errV F := by cases F <;> simp [errV]
theorem ct_OfE {L : List Flt} (h : okLt L) (m : midLt L) : Ct Tryd.prog G0 13 [errV (allF L)] [] (.tup [.agg [vi (atF (allF L) 0).kind, vi (atF (allF L) 0).tick], vb (decide (0 < (allF L).length))]) [] := by
  cases e : allF L with
  | nil => exact ct_Of0
  | cons f F =>
    have a := ct_Of (Er.s f.kind (mid f.tick))
    simp only [Er.leaf] at a
    rw [midLt_all h.1 m (f := f) (by rw [e]; exact List.mem_cons_self ..)] at a
    simp only [errV]
    rw [midLt_all h.1 m (f := f) (by rw [e]; exact List.mem_cons_self ..)]
    exact a
set_option maxHeartbeats 8000000 in
theorem law_FaultLatch (l : List Op2) (hb : l.length < top) (hp : ∀ o ∈ l, o.p.length < top) : CallV Tryd.prog G0 6 [.ro 4 (op2L l)] [] fun v _ => v = .c (.bool true) := by
  refine callV_ic hm (fn := Tryd.f6) rfl ic6_eq ic6_nm ic6_ok (by simp) ?_
  by_cases z1 : 60 < (l.length : Int)
  · repeat' first
      | simp -dsimp [ic6, z1]
      | (with_reducible refine (CallD.pure (ct_law02_awake) (by simp) ?_).callV)
      | exact exitV.now rfl
  have z1' : ¬ 60 < l.length := by omega
  repeat' first
    | simp -dsimp [ic6, z1, z1']
    | (with_reducible refine (CallD.pure (ct_law02_awake) (by simp) ?_).callV)
    | (with_reducible refine ordI (by kernel_rfl) ?_)
  refine Ti.loopW hm (fun k s => ∃ (q : Nat) (L : List Flt), q + k = l.length ∧ okLt L ∧ midLt L ∧ s = { t := [(20, vi q), (19, vi l.length), (0, .ro 4 (op2L l)), (3, .p 0 0), (4, .ro 2 (flts (allF L)))], d := [], h := [.cells 47 (fltC L)] }) (k := l.length) ?_ ?_
  · refine Wk.roNil 4 2 (by simp) ?_
    exact Wk.sub [(20, vi (0 : Nat)), (19, vi l.length), (0, .ro 4 (op2L l)), (3, .p 0 0), (4, .ro 2 (flts (allF Z12)))] (by simp [show allF Z12 = [] from rfl, flts]) (Wk.now ⟨0, Z12, by omega, okLt_zero, midLt_zero, rfl⟩)
  rintro k s ⟨q, L, hq, hL, mL, rfl⟩
  simp -dsimp
  refine brV.intro (fun hlt => ?_) (fun hlt => ?_)
  rotate_left
  · simp -dsimp
    exact exitV.now rfl
  have hlt : q < l.length := by simpa using hlt
  have hlt2 : q < (op2L l).length := by simpa using hlt
  have hw := wq hlt hb
  have hpq := hp l[q] (List.getElem_mem hlt)
  generalize ho : l[q] = o at *
  have few := ct_few o.p hpq
  cases hf : fewB o.p
  · rw [hf] at few
    repeat' first
      | simp -dsimp [hlt, hlt2, ho]
      | (with_reducible refine (CallD.pure (few) (by simp) ?_).callV)
      | (with_reducible refine ordI (by kernel_rfl) ?_)
    exact exitV.now rfl
  rw [hf] at few
  have hp8 : o.p.length ≤ 8 := by
    unfold fewB at hf
    simp only [Bool.and_eq_true, decide_eq_true_eq] at hf
    exact hf.2
  repeat' first
    | simp -dsimp [hlt, hlt2, ho]
    | (with_reducible refine (CallD.pure (few) (by simp) ?_).callV)
    | (with_reducible refine ordI (by kernel_rfl) ?_)
  by_cases d0 : o.d = 0
  · cases c : canP o.k
    · have mk := ct_MakeNo o.k o.t o.p c
      have md := ct_madeNo o.k o.t o.p hpq c
      have ad := ct_AddNo L hL.1
      repeat' first
        | simp -dsimp [hlt, hlt2, ho, d0]
        | (with_reducible refine (CallD.pure (mk) (by simp) ?_))
        | (with_reducible refine ordI (by kernel_rfl) ?_)
      repeat' first
        | simp -dsimp [hlt, hlt2, ho, d0]
        | (with_reducible refine (CallD.pure (md) (by simp) ?_))
        | (with_reducible refine ordI (by kernel_rfl) ?_)
      refine (CallD.look (i := 0) ad (by simp) rfl (by simp) (by simp) (by simp) ?_)
      repeat' first
        | simp -dsimp [hL]
        | (with_reducible refine ordI (by kernel_rfl) ?_)
      have er := ct_Err L hL.1 (okLt_can hL)
      have al := ct_All L hL.1
      have of := ct_OfE hL mL
      have sm := ct_Same2 (allF L) (allF L) (by have := allF_len12 hL; unfold top; omega)
      simp only [decide_true] at sm
      generalize hF : allF L = F at *
      have okE := okE F
      have renE := renE F
      generalize errV F = E at *
      refine (CallD.look (i := 0) er (by simp) rfl (by simp) (by simp [okE]) (by simp) ?_).callV
      repeat' first
        | simp -dsimp [okE, renE]
        | (with_reducible refine (CallD.pure of (by simp [okE]) ?_).callV)
        | (with_reducible refine ordI (by kernel_rfl) ?_)
      refine (CallD.look (i := 0) al (by simp) rfl (by simp) (by simp) (by simp) ?_)
      by_cases z : 0 < F.length
      · have z' : 0 < (F.length : Int) := by omega
        repeat' first
          | simp -dsimp [z, z']
          | (with_reducible refine (CallD.pure (sm) (by simp) ?_))
          | (with_reducible refine ordI (by kernel_rfl) ?_)
        exact ⟨k - 1, by omega, Wk.some [0] [.cells 47 (fltC L)] [(20, vi (q + 1 : Nat)), (19, vi l.length), (0, .ro 4 (op2L l)), (3, .p 0 0), (4, .ro 2 (flts F))] rfl (by simp) (by simp) (by simp) (by simp) (by simp [rho, hw]) (by simp)
          (Wk.now ⟨q + 1, L, by omega, hL, mL, by rw [hF]⟩)⟩
      · have z' : ¬ 0 < (F.length : Int) := by omega
        repeat' first
          | simp -dsimp [z, z']
          | (with_reducible refine (CallD.pure (sm) (by simp) ?_))
          | (with_reducible refine ordI (by kernel_rfl) ?_)
        exact ⟨k - 1, by omega, Wk.some [0] [.cells 47 (fltC L)] [(20, vi (q + 1 : Nat)), (19, vi l.length), (0, .ro 4 (op2L l)), (3, .p 0 0), (4, .ro 2 (flts F))] rfl (by simp) (by simp) (by simp) (by simp) (by simp [rho, hw]) (by simp)
          (Wk.now ⟨q + 1, L, by omega, hL, mL, by rw [hF]⟩)⟩
    · have mk := ct_Make o.k o.t o.p (by omega) c
      have md := ct_made o.k o.t o.p hpq c
      have ra := ct_AddK hL (t := o.t) c
      have ad := ct_Add L hL.1 (wrapE o.p (.s o.k (mid o.t))) (by rw [wrapE_leaf]; exact c)
      rw [wrapE_leaf] at ad
      simp only [Er.leaf] at ad
      have hL2 : okLt (addL L ⟨o.k, mid o.t⟩) := okLt_add hL c
      have mL2 : midLt (addL L ⟨o.k, mid o.t⟩) := midLt_add hL.1 mL (mid_mid o.t)
      generalize hX : (wrapE o.p (.s o.k (mid o.t))).v = X at *
      have okX : ∀ p : Nat → Prop, X.ok p := fun p => by rw [← hX]; simp
      have renX : ∀ ρ : Nat → Nat, X.ren ρ = X := fun ρ => by rw [← hX]; simp
      change Ct Tryd.prog G0 12 [vi o.k, vi o.t, .ro 1 (strs o.p)] [] (.agg [vb true, vi o.k, vi (mid o.t), pthV o.p]) [] at mk
      generalize hY : pthV o.p = Y at *
      have okY : ∀ p : Nat → Prop, Y.ok p := fun p => by rw [← hY]; simp
      have renY : ∀ ρ : Nat → Nat, Y.ren ρ = Y := fun ρ => by rw [← hY]; simp
      have oneY : Y.one = true := by rw [← hY]; simp
      have fillsY : Y.fills = true := by rw [← hY]; simp
      have cellsY : Y.cells = [Y] := by rw [← hY]; simp
      generalize addL L ⟨o.k, mid o.t⟩ = L2 at *
      generalize hasL L o.k = b at *
      repeat' first
        | simp -dsimp [hlt, hlt2, ho, d0, okX, renX, okY, renY, oneY, fillsY, cellsY]
        | (with_reducible refine (CallD.pure (mk) (by simp) ?_))
        | (with_reducible refine (CallD.pure (ra) (by simp) ?_).callV)
        | (with_reducible refine ordI (by kernel_rfl) ?_)
      repeat' first
        | simp -dsimp [hlt, hlt2, ho, d0, okX, renX, okY, renY]
        | (with_reducible refine (CallD.pure (md) (by simp) ?_))
        | (with_reducible refine ordI (by kernel_rfl) ?_)
      refine (CallD.touch (i := 0) ad (by simp [okX]) rfl (by simp [okX]) (by simp [okX]) (by simp [renX]) ?_)
      repeat' first
        | simp -dsimp [hL]
        | (with_reducible refine ordI (by kernel_rfl) ?_)
      have er := ct_Err L2 hL2.1 (okLt_can hL2)
      have al := ct_All L2 hL2.1
      have of := ct_OfE hL2 mL2
      have sm := ct_Same2 (allF L2) (allF L2) (by have := allF_len12 hL2; unfold top; omega)
      simp only [decide_true] at sm
      generalize hF : allF L2 = F at *
      have okE := okE F
      have renE := renE F
      generalize errV F = E at *
      refine (CallD.look (i := 0) er (by simp) rfl (by simp) (by simp [okE]) (by simp) ?_).callV
      repeat' first
        | simp -dsimp [okE, renE]
        | (with_reducible refine (CallD.pure of (by simp [okE]) ?_).callV)
        | (with_reducible refine ordI (by kernel_rfl) ?_)
      refine (CallD.look (i := 0) al (by simp) rfl (by simp) (by simp) (by simp) ?_)
      by_cases z : 0 < F.length
      · have z' : 0 < (F.length : Int) := by omega
        repeat' first
          | simp -dsimp [z, z']
          | (with_reducible refine (CallD.pure (sm) (by simp) ?_))
          | (with_reducible refine ordI (by kernel_rfl) ?_)
        exact ⟨k - 1, by omega, Wk.some [0] [.cells 47 (fltC L2)] [(20, vi (q + 1 : Nat)), (19, vi l.length), (0, .ro 4 (op2L l)), (3, .p 0 0), (4, .ro 2 (flts F))] rfl (by simp) (by simp) (by simp) (by simp) (by simp [rho, hw]) (by simp)
          (Wk.now ⟨q + 1, L2, by omega, hL2, mL2, by rw [hF]⟩)⟩
      · have z' : ¬ 0 < (F.length : Int) := by omega
        repeat' first
          | simp -dsimp [z, z']
          | (with_reducible refine (CallD.pure (sm) (by simp) ?_))
          | (with_reducible refine ordI (by kernel_rfl) ?_)
        exact ⟨k - 1, by omega, Wk.some [0] [.cells 47 (fltC L2)] [(20, vi (q + 1 : Nat)), (19, vi l.length), (0, .ro 4 (op2L l)), (3, .p 0 0), (4, .ro 2 (flts F))] rfl (by simp) (by simp) (by simp) (by simp) (by simp [rho, hw]) (by simp)
          (Wk.now ⟨q + 1, L2, by omega, hL2, mL2, by rw [hF]⟩)⟩
  by_cases d1 : o.d = 1
  · have h1 := ct_Has L hL.1 o.k
    have h2 := ct_HasK hL o.k
    repeat' first
      | simp -dsimp [hlt, hlt2, ho, d0, d1]
      | (with_reducible refine ordI (by kernel_rfl) ?_)
    refine (CallD.look (i := 0) h1 (by simp) rfl (by simp) (by simp) (by simp) ?_)
    repeat' first
      | simp -dsimp [hlt, hlt2, ho, d1]
      | (with_reducible refine (CallD.pure (h2) (by simp) ?_))
      | (with_reducible refine ordI (by kernel_rfl) ?_)
    have er := ct_Err L hL.1 (okLt_can hL)
    have al := ct_All L hL.1
    have of := ct_OfE hL mL
    have sm := ct_Same2 (allF L) (allF L) (by have := allF_len12 hL; unfold top; omega)
    simp only [decide_true] at sm
    generalize hF : allF L = F at *
    have okE := okE F
    have renE := renE F
    generalize errV F = E at *
    refine (CallD.look (i := 0) er (by simp) rfl (by simp) (by simp [okE]) (by simp) ?_).callV
    repeat' first
      | simp -dsimp [okE, renE]
      | (with_reducible refine (CallD.pure of (by simp [okE]) ?_).callV)
      | (with_reducible refine ordI (by kernel_rfl) ?_)
    refine (CallD.look (i := 0) al (by simp) rfl (by simp) (by simp) (by simp) ?_)
    by_cases z : 0 < F.length
    · have z' : 0 < (F.length : Int) := by omega
      repeat' first
        | simp -dsimp [z, z']
        | (with_reducible refine (CallD.pure (sm) (by simp) ?_))
        | (with_reducible refine ordI (by kernel_rfl) ?_)
      exact ⟨k - 1, by omega, Wk.some [0] [.cells 47 (fltC L)] [(20, vi (q + 1 : Nat)), (19, vi l.length), (0, .ro 4 (op2L l)), (3, .p 0 0), (4, .ro 2 (flts F))] rfl (by simp) (by simp) (by simp) (by simp) (by simp [rho, hw]) (by simp)
        (Wk.now ⟨q + 1, L, by omega, hL, mL, by rw [hF]⟩)⟩
    · have z' : ¬ 0 < (F.length : Int) := by omega
      repeat' first
        | simp -dsimp [z, z']
        | (with_reducible refine (CallD.pure (sm) (by simp) ?_))
        | (with_reducible refine ordI (by kernel_rfl) ?_)
      exact ⟨k - 1, by omega, Wk.some [0] [.cells 47 (fltC L)] [(20, vi (q + 1 : Nat)), (19, vi l.length), (0, .ro 4 (op2L l)), (3, .p 0 0), (4, .ro 2 (flts F))] rfl (by simp) (by simp) (by simp) (by simp) (by simp [rho, hw]) (by simp)
        (Wk.now ⟨q + 1, L, by omega, hL, mL, by rw [hF]⟩)⟩
  · have e0 : (o.d == 0) = false := by simpa using d0
    have e1 : (o.d == 1) = false := by simpa using d1
    have h1 := ct_ClearK hL o.k
    have h2 := ct_Clear L hL.1 o.k
    have hL2 : okLt (clearL L o.k) := okLt_clear hL o.k
    have mL2 : midLt (clearL L o.k) := midLt_clear hL.1 mL o.k
    generalize clearL L o.k = L2 at *
    generalize hasL L o.k = b at *
    repeat' first
      | simp -dsimp [hlt, hlt2, ho, e0, e1]
      | (with_reducible refine (CallD.pure (h1) (by simp) ?_).callV)
      | (with_reducible refine ordI (by kernel_rfl) ?_)
    refine (CallD.touch (i := 0) h2 (by simp) rfl (by simp) (by simp) (by simp) ?_).callV
    repeat' first
      | simp -dsimp [hlt, hlt2, ho, e1]
      | (with_reducible refine ordI (by kernel_rfl) ?_)
    have er := ct_Err L2 hL2.1 (okLt_can hL2)
    have al := ct_All L2 hL2.1
    have of := ct_OfE hL2 mL2
    have sm := ct_Same2 (allF L2) (allF L2) (by have := allF_len12 hL2; unfold top; omega)
    simp only [decide_true] at sm
    generalize hF : allF L2 = F at *
    have okE := okE F
    have renE := renE F
    generalize errV F = E at *
    refine (CallD.look (i := 0) er (by simp) rfl (by simp) (by simp [okE]) (by simp) ?_).callV
    repeat' first
      | simp -dsimp [okE, renE]
      | (with_reducible refine (CallD.pure of (by simp [okE]) ?_).callV)
      | (with_reducible refine ordI (by kernel_rfl) ?_)
    refine (CallD.look (i := 0) al (by simp) rfl (by simp) (by simp) (by simp) ?_)
    by_cases z : 0 < F.length
    · have z' : 0 < (F.length : Int) := by omega
      repeat' first
        | simp -dsimp [z, z']
        | (with_reducible refine (CallD.pure (sm) (by simp) ?_))
        | (with_reducible refine ordI (by kernel_rfl) ?_)
      exact ⟨k - 1, by omega, Wk.some [0] [.cells 47 (fltC L2)] [(20, vi (q + 1 : Nat)), (19, vi l.length), (0, .ro 4 (op2L l)), (3, .p 0 0), (4, .ro 2 (flts F))] rfl (by simp) (by simp) (by simp) (by simp) (by simp [rho, hw]) (by simp)
        (Wk.now ⟨q + 1, L2, by omega, hL2, mL2, by rw [hF]⟩)⟩
    · have z' : ¬ 0 < (F.length : Int) := by omega
      repeat' first
        | simp -dsimp [z, z']
        | (with_reducible refine (CallD.pure (sm) (by simp) ?_))
        | (with_reducible refine ordI (by kernel_rfl) ?_)
      exact ⟨k - 1, by omega, Wk.some [0] [.cells 47 (fltC L2)] [(20, vi (q + 1 : Nat)), (19, vi l.length), (0, .ro 4 (op2L l)), (3, .p 0 0), (4, .ro 2 (flts F))] rfl (by simp) (by simp) (by simp) (by simp) (by simp [rho, hw]) (by simp)
        (Wk.now ⟨q + 1, L2, by omega, hL2, mL2, by rw [hF]⟩)⟩
end Go.Proofs.YtnoigkdecjeilaaDoor
