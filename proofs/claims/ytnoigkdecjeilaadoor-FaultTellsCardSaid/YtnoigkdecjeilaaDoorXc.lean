/- Contracts of functions of the seat's program, and what follows of them: Xc. Conditions are in each statement. -/
import Derived.Test.YtnoigkdecjeilaaDoorXb
set_option linter.unusedSimpArgs false
set_option linter.unusedVariables false
namespace Go.Proofs.YtnoigkdecjeilaaDoor
open Go Go.Proofs Go.Vm Go.Extern

set_option maxRecDepth 100000 in
/-- errors.as, for what is told from somewhere. -/
theorem ct_asF (ww : List UInt8) (ee : Er) (a b : V) : Ct Tryd.prog G0 36 [(Er.f ww ee).v, .iface 71 (.p 0 0), rvV 71 1 150, rtyp 70] [.cells 70 [a, b], .cells 71 [.p 0 0]] (vb true)
    [.cells 70 [vs ww, ee.v], .cells 71 [.p 0 0]] := by
  refine callV_ic hm (fn := Tryd.f36) rfl ic36_eq ic36_nm ic36_ok (by simp) ?_
  simp -dsimp [ic36]
  refine Ti.unroll hm 1 ?_
  simp -dsimp [Er.v]
  refine typeOfF ?_
  simp -dsimp
  refine ⟨_, _, mAssignable _, ?_⟩
  simp -dsimp
  refine assignE asFF ?_
  repeat' first
    | simp -dsimp
    | (with_reducible refine ordI (by kernel_rfl) ?_)
  refine ext_elemV xElem (n := 150) ptPF (by decide) (by simp) elPF mkFA rfl rfl ?_
  repeat' first
    | simp -dsimp
    | (with_reducible refine ordI (by kernel_rfl) ?_)
  refine ext_valueOf xValueOf rfl rfl mkF ?_
  repeat' first
    | simp -dsimp
    | (with_reducible refine ordI (by kernel_rfl) ?_)
  refine ext_set xSet (n1 := 409) (n2 := 153) ptF1 ptF2 (by decide) daF (by simp) (by simp) rfl rfl (by simp) ?_
  repeat' first
    | simp -dsimp
    | (with_reducible refine ordI (by kernel_rfl) ?_)
  exact exitV.cut (by simp) (by simp) (by simp) (by simp) ⟨rfl, by simp⟩
set_option maxRecDepth 100000 in
theorem ct_asF0 (kk tt : Int) (a b : V) (ha : a.ok (fun _ => False)) (hb : b.ok (fun _ => False)) : Ct Tryd.prog G0 36 [(Er.s kk tt).v, .iface 71 (.p 0 0), rvV 71 1 150, rtyp 70] [.cells 70 [a, b], .cells 71 [.p 0 0]] (vb false)
    [.cells 70 [a, b], .cells 71 [.p 0 0]] := by
  have oka : ∀ p : Nat → Prop, a.ok p := fun p => V.ok_mono (fun _ h => h.elim) ha
  have okb : ∀ p : Nat → Prop, b.ok p := fun p => V.ok_mono (fun _ h => h.elim) hb
  refine callV_ic hm (fn := Tryd.f36) rfl ic36_eq ic36_nm ic36_ok (by simp) ?_
  simp -dsimp [ic36]
  refine Ti.unroll hm 1 ?_
  simp -dsimp [Er.v]
  refine typeOfS ?_
  simp -dsimp
  refine ⟨_, _, mAssignable _, ?_⟩
  simp -dsimp
  refine assignE asSF ?_
  repeat' first
    | simp -dsimp
    | (with_reducible refine ordI (by kernel_rfl) ?_)
  exact exitV.cut (by simp) (by simp) (by simp [oka, okb]) (by simp) ⟨rfl, by simp⟩
/-! ### errors.As -/
theorem cn_rvV {e : En} {t i n : Nat} {x : Value} (h : Cn e (rvV t i n) x) : ∃ a, x = .agg #[hnd t, .pointer (some a), .int .u64 (n : Int)] := by
  obtain ⟨b, s, _, rfl⟩ := cn_rv h
  exact ⟨_, rfl⟩
theorem typeV {t i n : Nat} {h : List Blk} {K : V → List Blk → Prop} (hr : ∀ a w, (ReflectliteValue.methodAny (ReflectliteValue.valueError "reflectlite.Value.Type" 0) (fun t _ _ _ => ReflectliteType.toType t) #[.agg #[hnd t, .pointer (some a), .int .u64 (n : Int)]]).run Tryd.prog w = .ok (.iface 89 (.agg #[hnd t])) w)
    (k : K (rtyp t) h) : ExtC Tryd.prog G0 34 [rvV t i n] h K :=
  ExtC.val xType _ (fun e xs w hx => by
    simp only [CnL] at hx
    obtain ⟨y, _, rfl, hy, rfl⟩ := hx
    obtain ⟨a, rfl⟩ := cn_rvV hy
    exact ⟨_, hr a w, rtyp_cn e _⟩) k
theorem kindV {t : Nat} {n : Int} {h : List Blk} {K : V → List Blk → Prop} (hr : ∀ w, ((ReflectliteType.abiMethod fun t => do pure (Value.int .u8 (← Rtype.kind t))) #[hnd t]).run Tryd.prog w = .ok (.int .u8 n) w) (k : K (.c (.int .u8 n)) h) :
    ExtC Tryd.prog G0 69 [.c (hnd t)] h K :=
  ExtC.val xKind _ (fun e xs w hx => by
    rw [cn_c1 hx]
    exact ⟨_, hr w, by simp [Cn]⟩) k
theorem elemT {t u : Nat} {h : List Blk} {K : V → List Blk → Prop} (hr : ∀ w, (ReflectliteType.method ReflectliteType.elem #[.agg #[hnd t]]).run Tryd.prog w = .ok (.iface 89 (.agg #[hnd u])) w) (k : K (rtyp u) h) :
    ExtC Tryd.prog G0 82 [.agg [.c (hnd t)]] h K :=
  ExtC.val xRElem _ (fun e xs w hx => by
    simp only [CnL] at hx
    obtain ⟨y, _, rfl, hy, rfl⟩ := hx
    rw [cn_agg1 hy]
    exact ⟨_, hr w, rtyp_cn e _⟩) k
theorem implT {t : Nat} {h : List Blk} {K : V → List Blk → Prop} (hr : ∀ w, (ReflectliteType.relation "Implements" ReflectliteType.implements_ #[.agg #[hnd t], .iface 89 (.agg #[hnd 27])]).run Tryd.prog w = .ok (.bool true) w) (k : K (vb true) h) :
    ExtC Tryd.prog G0 83 [.agg [.c (hnd t)], .c (.iface 89 (.agg #[hnd 27]))] h K :=
  ExtC.val xImpl _ (fun e xs w hx => by
    simp only [CnL] at hx
    obtain ⟨y, _, rfl, hy, z, _, rfl, hz, rfl⟩ := hx
    simp only [Cn] at hz
    subst hz
    rw [cn_agg1 hy]
    exact ⟨_, hr w, by simp [Cn]⟩) k
theorem tvPS (a : Addr) (w : World) : (ReflectliteValue.methodAny (ReflectliteValue.valueError "reflectlite.Value.Type" 0) (fun t _ _ _ => ReflectliteType.toType t) #[.agg #[hnd 67, .pointer (some a), .int .u64 (150 : Nat)]]).run Tryd.prog w = .ok (.iface 89 (.agg #[hnd 67])) w := by kernel_rfl
theorem kdPS (w : World) : ((ReflectliteType.abiMethod fun t => do pure (Value.int .u8 (← Rtype.kind t))) #[hnd 67]).run Tryd.prog w = .ok (.int .u8 22) w := by kernel_rfl
theorem kdS (w : World) : ((ReflectliteType.abiMethod fun t => do pure (Value.int .u8 (← Rtype.kind t))) #[hnd 65]).run Tryd.prog w = .ok (.int .u8 25) w := by kernel_rfl
theorem etPS (w : World) : (ReflectliteType.method ReflectliteType.elem #[.agg #[hnd 67]]).run Tryd.prog w = .ok (.iface 89 (.agg #[hnd 65])) w := by kernel_rfl
theorem imS (w : World) : (ReflectliteType.relation "Implements" ReflectliteType.implements_ #[.agg #[hnd 65], .iface 89 (.agg #[hnd 27])]).run Tryd.prog w = .ok (.bool true) w := by kernel_rfl
theorem tvPF (a : Addr) (w : World) : (ReflectliteValue.methodAny (ReflectliteValue.valueError "reflectlite.Value.Type" 0) (fun t _ _ _ => ReflectliteType.toType t) #[.agg #[hnd 71, .pointer (some a), .int .u64 (150 : Nat)]]).run Tryd.prog w = .ok (.iface 89 (.agg #[hnd 71])) w := by kernel_rfl
theorem kdPF (w : World) : ((ReflectliteType.abiMethod fun t => do pure (Value.int .u8 (← Rtype.kind t))) #[hnd 71]).run Tryd.prog w = .ok (.int .u8 22) w := by kernel_rfl
theorem kdF (w : World) : ((ReflectliteType.abiMethod fun t => do pure (Value.int .u8 (← Rtype.kind t))) #[hnd 70]).run Tryd.prog w = .ok (.int .u8 25) w := by kernel_rfl
theorem etPF (w : World) : (ReflectliteType.method ReflectliteType.elem #[.agg #[hnd 71]]).run Tryd.prog w = .ok (.iface 89 (.agg #[hnd 70])) w := by kernel_rfl
theorem imF (w : World) : (ReflectliteType.relation "Implements" ReflectliteType.implements_ #[.agg #[hnd 70], .iface 89 (.agg #[hnd 27])]).run Tryd.prog w = .ok (.bool true) w := by kernel_rfl
set_option maxRecDepth 100000 in
theorem ct_AsS (e : Er) (a b : V) (ha : a.ok (fun _ => False)) (hb : b.ok (fun _ => False)) : Ct Tryd.prog G0 29 [e.v, .iface 67 (.p 0 0)] [.cells 65 [a, b]] (vb true) [.cells 65 [vi e.leaf.1, vi e.leaf.2]] := by
  have oka : ∀ p : Nat → Prop, a.ok p := fun p => V.ok_mono (fun _ h => h.elim) ha
  have okb : ∀ p : Nat → Prop, b.ok p := fun p => V.ok_mono (fun _ h => h.elim) hb
  have rena : ∀ ρ : Nat → Nat, a.ren ρ = a := fun ρ => V.ren_same (p := fun _ => False) (fun _ h => h.elim) ha
  have renb : ∀ ρ : Nat → Nat, b.ren ρ = b := fun ρ => V.ren_same (p := fun _ => False) (fun _ h => h.elim) hb
  have fin := ct_asS e a b
  obtain ⟨t', v', hv⟩ : ∃ t v, (e.v) = .iface t v := by cases e <;> exact ⟨_, _, rfl⟩
  have hok : (V.iface t' v').ok (fun i => i < 2) := by rw [← hv]; simp
  have hren : ∀ ρ : Nat → Nat, (V.iface t' v').ren ρ = V.iface t' v' := fun ρ => by rw [← hv]; simp
  rw [hv] at fin ⊢
  refine callV_ic hm (fn := Tryd.f29) rfl ic29_eq ic29_nm ic29_ok (by simp) ?_
  simp -dsimp [ic29]
  refine ext_valueOf xValueOf rfl rfl mkPS ?_
  simp -dsimp
  refine typeV (n := 150) tvPS ?_
  simp -dsimp
  refine ⟨_, _, mKind _, ?_⟩
  simp -dsimp
  refine kindV kdPS ?_
  simp -dsimp
  refine ext_isNil xIsNil (n := 150) ptPS (by decide) (by simp) rfl ?_
  simp -dsimp
  refine ⟨_, _, mElem _, ?_⟩
  simp -dsimp
  refine elemT etPS ?_
  simp -dsimp
  refine ⟨_, _, mKind _, ?_⟩
  simp -dsimp
  refine kindV kdS ?_
  simp -dsimp [G0]
  refine ⟨_, _, mImpl _, ?_⟩
  simp -dsimp
  refine implT imS ?_
  simp -dsimp
  refine (CallD.many (bs' := [.cells 65 [vi e.leaf.1, vi e.leaf.2], .cells 67 [.p 0 0]]) (nw := []) [0, 1] [0] fin (by simp [rho, rena, renb]) (by simp) (by simp) (by simp) (by simp) (by simp [oka, okb]) (by simp at hok ⊢; exact hok) (by have := hren (rho [0, 1] 3); simp at this; simp [rho, this]) ?_).callV
  simp -dsimp
  exact exitV.cut (by simp) (by simp) (by simp []) (by simp) ⟨rfl, by simp⟩
set_option maxRecDepth 100000 in
theorem ct_AsF (ww : List UInt8) (ee : Er) (a b : V) (ha : a.ok (fun _ => False)) (hb : b.ok (fun _ => False)) : Ct Tryd.prog G0 29 [(Er.f ww ee).v, .iface 71 (.p 0 0)] [.cells 70 [a, b]] (vb true) [.cells 70 [vs ww, ee.v]] := by
  have oka : ∀ p : Nat → Prop, a.ok p := fun p => V.ok_mono (fun _ h => h.elim) ha
  have okb : ∀ p : Nat → Prop, b.ok p := fun p => V.ok_mono (fun _ h => h.elim) hb
  have rena : ∀ ρ : Nat → Nat, a.ren ρ = a := fun ρ => V.ren_same (p := fun _ => False) (fun _ h => h.elim) ha
  have renb : ∀ ρ : Nat → Nat, b.ren ρ = b := fun ρ => V.ren_same (p := fun _ => False) (fun _ h => h.elim) hb
  have fin := ct_asF ww ee a b
  obtain ⟨t', v', hv⟩ : ∃ t v, ((Er.f ww ee).v) = .iface t v := by exact ⟨_, _, rfl⟩
  have hok : (V.iface t' v').ok (fun i => i < 2) := by rw [← hv]; simp
  have hren : ∀ ρ : Nat → Nat, (V.iface t' v').ren ρ = V.iface t' v' := fun ρ => by rw [← hv]; simp
  rw [hv] at fin ⊢
  refine callV_ic hm (fn := Tryd.f29) rfl ic29_eq ic29_nm ic29_ok (by simp) ?_
  simp -dsimp [ic29]
  refine ext_valueOf xValueOf rfl rfl mkPF ?_
  simp -dsimp
  refine typeV (n := 150) tvPF ?_
  simp -dsimp
  refine ⟨_, _, mKind _, ?_⟩
  simp -dsimp
  refine kindV kdPF ?_
  simp -dsimp
  refine ext_isNil xIsNil (n := 150) ptPF (by decide) (by simp) rfl ?_
  simp -dsimp
  refine ⟨_, _, mElem _, ?_⟩
  simp -dsimp
  refine elemT etPF ?_
  simp -dsimp
  refine ⟨_, _, mKind _, ?_⟩
  simp -dsimp
  refine kindV kdF ?_
  simp -dsimp [G0]
  refine ⟨_, _, mImpl _, ?_⟩
  simp -dsimp
  refine implT imF ?_
  simp -dsimp
  refine (CallD.many (bs' := [.cells 70 [vs ww, ee.v], .cells 71 [.p 0 0]]) (nw := []) [0, 1] [0] fin (by simp [rho, rena, renb]) (by simp) (by simp) (by simp) (by simp) (by simp [oka, okb]) (by simp at hok ⊢; exact hok) (by have := hren (rho [0, 1] 3); simp at this; simp [rho, this]) ?_).callV
  simp -dsimp
  exact exitV.cut (by simp) (by simp) (by simp []) (by simp) ⟨rfl, by simp⟩
set_option maxRecDepth 100000 in
theorem ct_AsF0 (kk tt : Int) (a b : V) (ha : a.ok (fun _ => False)) (hb : b.ok (fun _ => False)) : Ct Tryd.prog G0 29 [(Er.s kk tt).v, .iface 71 (.p 0 0)] [.cells 70 [a, b]] (vb false) [.cells 70 [a, b]] := by
  have oka : ∀ p : Nat → Prop, a.ok p := fun p => V.ok_mono (fun _ h => h.elim) ha
  have okb : ∀ p : Nat → Prop, b.ok p := fun p => V.ok_mono (fun _ h => h.elim) hb
  have rena : ∀ ρ : Nat → Nat, a.ren ρ = a := fun ρ => V.ren_same (p := fun _ => False) (fun _ h => h.elim) ha
  have renb : ∀ ρ : Nat → Nat, b.ren ρ = b := fun ρ => V.ren_same (p := fun _ => False) (fun _ h => h.elim) hb
  have fin := ct_asF0 kk tt a b ha hb
  obtain ⟨t', v', hv⟩ : ∃ t v, ((Er.s kk tt).v) = .iface t v := by exact ⟨_, _, rfl⟩
  have hok : (V.iface t' v').ok (fun i => i < 2) := by rw [← hv]; simp
  have hren : ∀ ρ : Nat → Nat, (V.iface t' v').ren ρ = V.iface t' v' := fun ρ => by rw [← hv]; simp
  rw [hv] at fin ⊢
  refine callV_ic hm (fn := Tryd.f29) rfl ic29_eq ic29_nm ic29_ok (by simp) ?_
  simp -dsimp [ic29]
  refine ext_valueOf xValueOf rfl rfl mkPF ?_
  simp -dsimp
  refine typeV (n := 150) tvPF ?_
  simp -dsimp
  refine ⟨_, _, mKind _, ?_⟩
  simp -dsimp
  refine kindV kdPF ?_
  simp -dsimp
  refine ext_isNil xIsNil (n := 150) ptPF (by decide) (by simp) rfl ?_
  simp -dsimp
  refine ⟨_, _, mElem _, ?_⟩
  simp -dsimp
  refine elemT etPF ?_
  simp -dsimp
  refine ⟨_, _, mKind _, ?_⟩
  simp -dsimp
  refine kindV kdF ?_
  simp -dsimp [G0]
  refine ⟨_, _, mImpl _, ?_⟩
  simp -dsimp
  refine implT imF ?_
  simp -dsimp
  refine (CallD.many (bs' := [.cells 70 [a, b], .cells 71 [.p 0 0]]) (nw := []) [0, 1] [0] fin (by simp [rho, rena, renb]) (by simp) (by simp) (by simp) (by simp) (by simp [oka, okb]) (by simp at hok ⊢; exact hok) (by have := hren (rho [0, 1] 3); simp at this; simp [rho, this]) ?_).callV
  simp -dsimp
  exact exitV.cut (by simp) (by simp) (by simp [oka, okb, rena, renb]) (by simp) ⟨rfl, by simp [rena, renb]⟩
/-- errors.As of nil. -/
theorem ct_As0 (t : TypeId) (b : Blk) (hb : b.ok (· < 1)) (hd : b.dm = true) : Ct Tryd.prog G0 29 [.c .nilIface, .iface t (.p 0 0)] [b] (vb false) [b] := by
  refine callV_ic hm (fn := Tryd.f29) rfl ic29_eq ic29_nm ic29_ok (by simp) ?_
  simp -dsimp [ic29]
  exact exitV.now ⟨rfl, rfl⟩
set_option maxRecDepth 100000 in
theorem ct_Of (e : Er) : Ct Tryd.prog G0 13 [e.v] [] (.tup [.agg [vi e.leaf.1, vi e.leaf.2], vb true]) [] := by
  have f := ct_AsS e (vi 0) (vi 0) (by simp) (by simp)
  refine callV_ic hm (fn := Tryd.f13) rfl ic13_eq ic13_nm ic13_ok (by simp) ?_
  simp -dsimp [ic13]
  generalize hx : e.v = x at *
  have hok : ∀ p : Nat → Prop, x.ok p := fun p => by rw [← hx]; simp
  have hren : ∀ ρ : Nat → Nat, x.ren ρ = x := fun ρ => by rw [← hx]; simp
  repeat' first
    | simp -dsimp
    | (with_reducible refine ordI (by kernel_rfl) ?_)
  refine (CallD.touch (i := 1) f (by simp) rfl (by simp) (by simp [hok]) (by simp [hren]) ?_).callV
  repeat' first
    | simp -dsimp
    | (with_reducible refine ordI (by kernel_rfl) ?_)
  exact exitV.cut (by simp) (by simp) (by simp) (by simp) ⟨rfl, by simp⟩
set_option maxRecDepth 100000 in
theorem ct_Of0 : Ct Tryd.prog G0 13 [.c .nilIface] [] (.tup [.agg [vi 0, vi 0], vb false]) [] := by
  have f := ct_As0 67 (.cells 65 [vi 0, vi 0]) (by simp) rfl
  refine callV_ic hm (fn := Tryd.f13) rfl ic13_eq ic13_nm ic13_ok (by simp) ?_
  simp -dsimp [ic13]
  refine (CallD.touch (i := 1) f (by simp) rfl (by simp) (by simp) (by simp) ?_).callV
  repeat' first
    | simp -dsimp
    | (with_reducible refine ordI (by kernel_rfl) ?_)
  exact exitV.cut (by simp) (by simp) (by simp) (by simp) ⟨rfl, by simp⟩
/-- From where it was told. -/
def Er.path : Er → List (List UInt8)
  | .s _ _ => []
  | .f w e => w :: e.path
def strs (l : List (List UInt8)) : List V := l.map vs
@[simp] theorem strs_length (l : List (List UInt8)) : (strs l).length = l.length := by simp [strs]
@[simp] theorem okL_strs (p : Nat → Prop) (l : List (List UInt8)) : okL p (strs l) := by
  induction l with
  | nil => trivial
  | cons x l ih => exact ⟨trivial, ih⟩
@[simp] theorem renL_strs (ρ : Nat → Nat) (l : List (List UInt8)) : renL ρ (strs l) = strs l := by
  induction l with
  | nil => rfl
  | cons x l ih => simp [strs, renL] at ih ⊢; exact ih
theorem strs_app (a b : List (List UInt8)) : strs (a ++ b) = strs a ++ strs b := by simp [strs]
theorem rows_strs : ∀ (l : List (List UInt8)), rows false 1 l.length (strs l) = strs l
  | [] => rfl
  | x :: l => by
    have := rows_strs l
    simp [strs, rows] at this ⊢; exact this
theorem Er.path_len : ∀ e : Er, e.path.length = e.deep
  | .s _ _ => rfl
  | .f w e => by simp [Er.path, Er.deep, Er.path_len e]
end Go.Proofs.YtnoigkdecjeilaaDoor
