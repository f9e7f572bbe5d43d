/- A walk of the model's code on logical values, with its proofs: part 3. No condition. -/
import Derived.Test.YtnoigkdecjeilaaDoorV2
import Derived.ReadAgain
import Derived.Deep.Slices
import Derived.OpenShut
import Derived.ProofKit
import Derived.Handed
set_option linter.unusedSimpArgs false
set_option linter.unusedVariables false
namespace Go.Vm
open Go Go.RowKit
variable {P : Program} {G : Addr → Option Value} {F F' : Nat → Prop} {w w' : World} {φ φ1 : Nat → Option (Nat × Nat)} {h : List Blk} {r : Option Nat} {n m : Nat} {s : St}

/-! ### Seen otherwise -/

/-- The same frame and world bear another state, too. -/
def Wk (G : Addr → Option Value) (n m : Nat) (s : St) (X : St → Prop) [KTag X] : Prop :=
  ∀ (F : Nat → Prop) (w : World) (φ : Nat → Option (Nat × Nat)) (a : Act) (e0 : En), At G F w φ n s a → Base m e0 (en F w φ s.h) → ∃ s2 φ2, X s2 ∧ At G F w φ2 n s2 a ∧ Base m e0 (en F w φ2 s2.h)

variable {X : St → Prop} {Q : Exit → St → Prop}

theorem T.wk {c : Code} (h : Wk G n m s X) (k : ∀ s2, X s2 → T P G r n m c s2 Q) : T P G r n m c s Q := by
  intro F w φ a e0 rp hr ra hb
  obtain ⟨s2, φ2, hx, ra2, hb2⟩ := h F w φ a e0 ra hb
  exact k s2 hx F w φ2 a e0 rp hr ra2 hb2

theorem Ti.wk {ic : IC} (h : Wk G n m s X) (k : ∀ s2, X s2 → Ti P G r n m ic s2 Q) : Ti P G r n m ic s Q := fun c h1 h2 => T.wk h fun s2 hx => k s2 hx c h1 h2

theorem Wk.now (h : X s) : Wk G n m s X := fun _ _ φ _ _ ra hb => ⟨s, φ, h, ra, hb⟩

theorem Wk.env (t2 : List (Nat × V)) (ht : ∀ k v, get t2 k = some v → get s.t k = some v) (k : Wk G n m { s with t := t2 } X) : Wk G n m s X :=
  fun F w φ a e0 ra hb => k F w φ a e0 ⟨ra.heap, fun d v hv => ra.env d v (ht d v hv), ra.defs, ra.dlt, ra.size⟩ hb

theorem Wk.gone (i : Nat) {k0 : Blk} (hi : s.h[i]? = some k0) (hd : k0.dm = true) (k : Wk G n m { s with h := s.h.set i .gone } X) : Wk G n m s X := by
  intro F w φ a e0 ra hb
  obtain ⟨r1, e1, _⟩ := set_gone ra.heap hi hd
  exact k F w φ a e0 (ra.heap' r1 e1) (hb.ext e1)

/-- All values of an environment. -/
def allT (p : V → Prop) : List (Nat × V) → Prop
  | [] => True
  | (_, v) :: t => p v ∧ allT p t

theorem allT_get {p : V → Prop} : ∀ {t : List (Nat × V)} {k : Nat} {v : V}, allT p t → get t k = some v → p v
  | [], k, v, _, h => by simp [get] at h
  | (d, u) :: t, k, v, hp, h => by
    simp only [allT] at hp
    simp only [get] at h
    split at h
    · cases h; exact hp.1
    · exact allT_get hp.2 h

theorem Wk.cut (p : Nat) (hm : m ≤ p) (hl : p ≤ s.h.length) (dm : ∀ k ∈ s.h.take p, k.dm = true) (cl : ∀ k ∈ s.h.take p, k.ok (· < p)) (ht : allT (fun v => v.ok (· < p)) s.t) (hd : ∀ i ∈ s.d, i < p)
    (k : Wk G n m { s with h := s.h.take p } X) : Wk G n m s X := by
  intro F w φ a e0 ra hb
  have hlen : (s.h.take p).length = p := by simp; omega
  have im : ∀ (i : Nat) (k : Blk), (s.h.take p)[i]? = some k → k.dm = true → s.h[i]? = some (k.ren fun i => i) := by
    intro i k hk _
    rw [Blk.ren_same (p := fun _ => True) (fun _ _ => rfl) (Blk.ok_mono (fun _ _ => trivial) (cl k (List.mem_of_getElem? hk)))]
    rw [List.getElem?_take] at hk
    split at hk
    · exact hk
    · cases hk
  have dom : ∀ i, i < p → (en F w φ (s.h.take p)).dom i := fun i hi => ⟨(s.h.take p)[i]'(by omega), List.getElem?_eq_getElem (by omega), dm _ (List.getElem_mem _)⟩
  have ow : ∀ b, owned φ (s.h.take p) b → owned φ s.h b := by
    rintro b ⟨i, q, k, hk, hl, hf⟩
    rw [List.getElem?_take] at hk
    split at hk
    · exact ⟨i, q, k, hk, hl, hf⟩
    · cases hk
  obtain ⟨r', un⟩ := RH.un (F' := F) (ρ := fun i => i) ra.heap im (fun i k hk => Blk.ok_mono dom (cl k (List.mem_of_getElem? hk))) (fun _ _ _ _ e => e) (fun _ h => h) (fun _ h => .inl h)
    (fun b hb ho => (ra.heap.flt b hb).2 (ow b ho))
  refine k F w φ a e0 ⟨r', ?_, ra.defs, fun i hi => dom i (hd i hi), ra.size⟩ ?_
  · intro d v hv
    obtain ⟨x, hx, hc⟩ := ra.env d v hv
    exact ⟨x, hx, Cn.un un (V.ok_mono dom (allT_get ht hv)) (by rw [V.ren_id]; exact hc)⟩
  · refine ⟨?_, hb.2⟩
    have e := hb.1
    exact ⟨e.sub, fun i hi => dom i (Nat.lt_of_lt_of_le (hb.2 i hi) hm), e.agree, e.frame, fun b hs hm ho => e.mine b hs hm (ow b ho), fun b hs hm ho => e.own b hs hm (ho.imp (ow b) id), e.shape, e.size, e.os, e.tape, e.output⟩

def frzT (i : Nat) (cs : List V) (g : Bool) : List (Nat × V) → List (Nat × V)
  | [] => []
  | (k, v) :: t => (k, v.frz i cs g) :: frzT i cs g t

theorem get_frzT (i : Nat) (cs : List V) (g : Bool) : ∀ (t : List (Nat × V)) (k : Nat), get (frzT i cs g t) k = (get t k).map (V.frz i cs g)
  | [], k => rfl
  | (d, v) :: t, k => by
    simp only [frzT, get]
    by_cases h : k = d
    · simp [h]
    · simp [h, get_frzT i cs g t k]

/-- A block is read alone from here on. -/
theorem Wk.freeze (i : Nat) (t : TypeId) (cs : List V) (g : Bool) (hi : s.h[i]? = some (.cells t cs)) (hf : allT (fun v => v.fits i cs.length g) s.t) (k : Wk G n m { s with t := frzT i cs g s.t, h := s.h.set i .gone } X) : Wk G n m s X := by
  intro F w φ a e0 ra hb
  have c := cold_of ra.heap hi
  refine k F w φ a e0 ⟨(set_gone ra.heap hi rfl).1, ?_, ra.defs, fun i hi => c.ext.dom i (ra.dlt i hi), ra.size⟩ (hb.ext c.ext)
  intro d v hv
  rw [get_frzT] at hv
  cases hg : get s.t d with
  | none => simp [hg] at hv
  | some u =>
    simp [hg] at hv; subst hv
    obtain ⟨x, hx, hc⟩ := ra.env d u hg
    exact ⟨x, hx, Cn.frz c (allT_get hf hg) hc⟩

/-- A slice that is nil, seen as one of a block that has no cells. -/
theorem Wk.nil (d : Nat) (z : Nat) (t : TypeId) (hd : get s.t d = some (.c (.slice none 0 0))) (k : Wk G n m { s with t := (d, .sl z s.h.length 0 0) :: s.t, h := s.h ++ [.cells t []] } X) : Wk G n m s X := by
  intro F w φ a e0 ra hb
  let φ1 := upd φ s.h.length none
  have own : ∀ b, owned φ1 (s.h ++ [.cells t []]) b → owned φ s.h b := by
    rintro b ⟨i, q, k, hk, hl, hf⟩
    rcases Nat.lt_or_ge i s.h.length with hi | hi
    · rw [List.getElem?_append_left hi] at hk
      rw [show φ1 i = φ i from upd_other (by omega)] at hf
      exact ⟨i, q, k, hk, hl, hf⟩
    · have : i = s.h.length := by
        have := (List.getElem?_eq_some_iff.1 hk).1
        simp at this; omega
      subst this
      rw [show φ1 s.h.length = none from upd_same ..] at hf; cases hf
  have old : ∀ {i : Nat} {k : Blk}, s.h[i]? = some k → (s.h ++ [Blk.cells t []])[i]? = some k := fun hk => by
    rw [List.getElem?_append_left (List.getElem?_eq_some_iff.1 hk).1]; exact hk
  have ext : Ext (en F w φ s.h) (en F w φ1 (s.h ++ [.cells t []])) :=
    ⟨fun _ h => .inl h, fun i hi => dom_push hi, fun i hi => upd_other (dom_ne hi), fun _ _ _ => rfl, fun b _ hm ho => hm (own b ho), fun b _ hm ho => hm (ho.imp (own b) id), fun _ _ => rfl, Nat.le_refl _, rfl, rfl, rfl⟩
  have split : ∀ {i : Nat} {k : Blk}, (s.h ++ [Blk.cells t []])[i]? = some k → (i = s.h.length ∧ k = .cells t []) ∨ (i ≠ s.h.length ∧ s.h[i]? = some k) := by
    intro i k hk
    rcases Nat.lt_or_ge i s.h.length with hi | hi
    · rw [List.getElem?_append_left hi] at hk; exact .inr ⟨by omega, hk⟩
    · have : i = s.h.length := by
        have := (List.getElem?_eq_some_iff.1 hk).1
        simp at this; omega
      subst this; simp at hk; exact .inl ⟨rfl, hk.symm⟩
  have r1 : RH G F w φ1 (s.h ++ [.cells t []]) := by
    refine ⟨?_, ?_, ?_, ?_, ?_⟩
    · intro i k hk
      rcases split hk with ⟨rfl, rfl⟩ | ⟨hi, hk⟩
      · exact .inl ⟨upd_same .., rfl⟩
      · by_cases hdk : k.dm = true
        · exact RepB.keep ext ⟨k, hk, hdk⟩ (fun _ _ _ => rfl) (ra.heap.rep i k hk)
        · cases k <;> simp [Blk.dm] at hdk; trivial
    · intro i j b q q' k k' hk hl hk' hl' hf hf'
      rcases split hk with ⟨rfl, rfl⟩ | ⟨hi, hk⟩
      · rw [show φ1 s.h.length = none from upd_same ..] at hf; cases hf
      · rcases split hk' with ⟨rfl, rfl⟩ | ⟨hj, hk'⟩
        · rw [show φ1 s.h.length = none from upd_same ..] at hf'; cases hf'
        · rw [show φ1 i = φ i from upd_other hi] at hf
          rw [show φ1 j = φ j from upd_other hj] at hf'
          exact ra.heap.inj i j b q q' k k' hk hl hk' hl' hf hf'
    · intro i k b q hk hl hf
      rcases split hk with ⟨rfl, rfl⟩ | ⟨hi, hk⟩
      · rw [show φ1 s.h.length = none from upd_same ..] at hf; cases hf
      · rw [show φ1 i = φ i from upd_other hi] at hf
        exact ra.heap.lt i k b q hk hl hf
    · intro a x ha
      obtain ⟨k1, k2, k3, k4⟩ := ra.heap.glob a x ha
      exact ⟨k1, k2, fun ho => k3 (own _ ho), k4⟩
    · intro b hb
      exact ⟨(ra.heap.flt b hb).1, fun ho => (ra.heap.flt b hb).2 (own _ ho)⟩
  have ra1 := ra.heap' r1 ext
  refine k F w φ1 a e0 ⟨r1, ?_, ra1.defs, ra1.dlt, ra.size⟩ (hb.ext ext)
  intro q v hv
  simp only [get] at hv
  split at hv
  · cases hv
    obtain ⟨x, hx, hc⟩ := ra.env d _ hd
    simp only [Cn] at hc; subst hc
    subst_vars
    exact ⟨_, hx, by simp only [Cn]; exact ⟨⟨.cells t [], by simp, rfl⟩, .inl ⟨upd_same .., trivial, trivial⟩⟩⟩
  · exact ra1.env q v hv

/-- Each of these is there. -/
def subT : List (Nat × V) → List (Nat × V) → Prop
  | [], _ => True
  | (k, v) :: t2, t => get t k = some v ∧ subT t2 t

theorem subT_get : ∀ {t2 t : List (Nat × V)}, subT t2 t → ∀ k v, get t2 k = some v → get t k = some v
  | [], _, _, k, v, h => by simp [get] at h
  | (d, u) :: t2, t, hs, k, v, h => by
    simp only [subT] at hs
    simp only [get] at h
    split at h
    · cases h; subst_vars; exact hs.1
    · exact subT_get hs.2 k v h

theorem Wk.sub (t2 : List (Nat × V)) (ht : subT t2 s.t) (k : Wk G n m { s with t := t2 } X) : Wk G n m s X := Wk.env t2 (subT_get ht) k

/-- A loop, by what can be seen at its head. -/
theorem Ti.loopW (hm : P.follows .mixedOrders = true) {b : IC} (I : Nat → St → Prop) {k : Nat} (h0 : Wk G n m s (I k))
    (round : ∀ k s, I k s → vc P G r n m b s (thenQ (fun s' => ∃ k', k' < k ∧ Wk G n m s' (I k')) Q)) : Ti P G r n m (.loop b) s Q := by
  intro c hc hk
  cases c <;> simp only [comp] at hc <;> try (cases hc; done)
  · split at hc <;> cases hc
  · rename_i b'
    cases hc
    exact T.loop (fun k s => Wk G n m s (I k)) h0 fun k s hI => T.wk hI fun s2 hx => vc_sound hm hk (round k s2 hx)

theorem fills_agg (cs : List V) : (V.agg cs).fills = true := rfl
theorem fills_c (x : Value) : (V.c x).fills = x.oneCell' := rfl
theorem fills_p (i o : Nat) : (V.p i o).fills = true := rfl
theorem fills_sl (z i o k : Nat) : (V.sl z i o k).fills = true := rfl
theorem fills_ro (z : Nat) (xs : List V) : (V.ro z xs).fills = true := rfl
theorem fills_fn (f : Fn) (a b : List V) : (V.fn f a b).fills = true := rfl
theorem fills_iface (t : TypeId) (v : V) : (V.iface t v).fills = true := rfl
theorem fills_rp (v : V) : (V.rp v).fills = true := rfl
theorem fills_yl (l : Nat) : (V.yl l).fills = true := rfl
theorem one_c (x : Value) : (V.c x).one = x.oneCell' := rfl
theorem cells_agg (cs : List V) : (V.agg cs).cells = cs := rfl
theorem cells_c (x : Value) : (V.c x).cells = [V.c x] := rfl
theorem cells_p (i o : Nat) : (V.p i o).cells = [.p i o] := rfl
theorem cells_sl (z i o k : Nat) : (V.sl z i o k).cells = [.sl z i o k] := rfl
theorem cells_ro (z : Nat) (xs : List V) : (V.ro z xs).cells = [.ro z xs] := rfl
theorem cells_fn (f : Fn) (a b : List V) : (V.fn f a b).cells = [.fn f a b] := rfl
theorem cells_iface (t : TypeId) (v : V) : (V.iface t v).cells = [.iface t v] := rfl
theorem cells_rp (v : V) : (V.rp v).cells = [.rp v] := rfl

attribute [simp] fills_agg fills_c fills_p fills_sl fills_ro fills_fn fills_iface fills_rp fills_yl one_c cells_agg cells_c cells_p cells_sl cells_ro cells_fn cells_iface cells_rp
attribute [simp] stepV convS sliceS invV taV stepD opV ev evs evParts bnd_some St.put putT Eff.val Eff.heap callOp callV oneV leaveQ leaveD resV builtinV minmaxB foldI nt unV ofV env0 NV.at Value.oneCell'
  lenB lenV loadV storeV joinV fieldAddrV fieldV partAtV indexAddrV indexV buildV buildSliceV sliceOpV slicesV sliceV boundV makeSliceV srcV binV ifEqV intV strV sameV bo isCst convV effOk wrOf heapOf blkOf putV fillV parT roundQ jumpQ
  V.ok okL Blk.ok V.ren renL Blk.ren V.frz frzL V.fits fitsL rows Blk.dm allT frzT subT Bool.not_eq_true

end Go.Vm

namespace Go.Vm
open Go Go.RowKit Go.ChangeShapes Go.WideShapes

def aggB (P : Program) (t : TypeId) : Bool := match P.underlying t with
  | some (.struct _) => true
  | some (.array _ _) => true
  | _ => false

def packV (g : Bool) (ys : List V) : V := if g then .agg ys else ys.headD (.c undef)

def ShpL (S : TypeId → List V → Prop) : List TypeId → List V → Prop
  | [], us => us = []
  | t :: ts, us => ∃ a b, us = a ++ b ∧ S t a ∧ ShpL S ts b

/-- What cells of a type may be. -/
def Shp (P : Program) : Nat → TypeId → List V → Prop
  | 0, _, _ => False
  | n + 1, t, us => match P.underlying t with
    | some .bool => ∃ b, us = [.c (.bool b)]
    | some (.int k) => ∃ x, us = [.c (.int k x)] ∧ (Lit.int k x).wf = true
    | some .string => ∃ s, us = [.c (.string s)] ∧ s.size ≤ maxLen
    | some (.slice e) => ∃ xs, us = [.ro (P.cellsOf e) xs] ∧ xs.length ≤ maxLen ∧ ∀ x ∈ xs, ∃ ys, Shp P n e ys ∧ x = packV (aggB P e) ys
    | some (.struct fs) => ShpL (Shp P n) (fs.toList.map (·.type)) us
    | some (.array m e) => ShpL (Shp P n) (List.replicate m e) us
    | _ => False

def plainT (P : Program) : Nat → TypeId → Bool
  | 0, _ => false
  | n + 1, t => match P.underlying t with
    | some .bool => true
    | some (.int _) => true
    | some .string => true
    | some (.slice e) => plainT P n e
    | some (.struct fs) => fs.toList.all fun f => plainT P n f.type
    | some (.array _ e) => plainT P n e
    | _ => false

section
variable {H : Type} {enc : TypeId × Value → H} {P : Program} {w : World} {φ : Nat → Option (Nat × Nat)}

abbrev e0 (w : World) (φ : Nat → Option (Nat × Nat)) : En := en (fun _ => False) w φ []

theorem not_own (b : Nat) : ¬ (e0 w φ).own b := by
  rintro (⟨i, s, k, hk, _⟩ | h)
  · simp at hk
  · exact h

def Ones' (w : World) (φ : Nat → Option (Nat × Nat)) (us : List V) (cs : List Value) : Prop := CnL (e0 w φ) us cs ∧ ∀ x ∈ cs, x.oneCell' = true

theorem CnL.app {e : En} : ∀ {as bs : List V} {xs ys : List Value}, CnL e as xs → CnL e bs ys → CnL e (as ++ bs) (xs ++ ys)
  | [], bs, xs, ys, h, k => by simp only [CnL] at h; subst h; simpa using k
  | a :: as, bs, xs, ys, h, k => by
    simp only [CnL] at h
    obtain ⟨x, xs', rfl, hx, hl⟩ := h
    simp only [List.cons_append, CnL]
    exact ⟨x, _, rfl, hx, CnL.app hl k⟩

theorem tile (S : TypeId → List V → Prop) (sz : TypeId → Nat) : ∀ (ts : List TypeId) (cs : List Value), cs.length = (ts.map sz).sum →
    (∀ (j : Nat) (t : TypeId), ts[j]? = some t → ∃ us, S t us ∧ Ones' w φ us ((cs.drop ((ts.take j).map sz).sum).take (sz t))) → ∃ us, ShpL S ts us ∧ Ones' w φ us cs
  | [], cs, hl, _ => by
    have : cs = [] := by simpa using hl
    subst this
    exact ⟨[], rfl, by simp [CnL], by simp⟩
  | t :: ts, cs, hl, hp => by
    obtain ⟨u, hu, h1, h2⟩ := hp 0 t rfl
    simp only [List.take_zero, List.map_nil, List.sum_nil, List.drop_zero] at h1 h2
    simp only [List.map_cons, List.sum_cons] at hl
    obtain ⟨us, hs, k1, k2⟩ := tile S sz ts (cs.drop (sz t)) (by simp; omega) (fun j t' hj => by
      obtain ⟨us, hs, k⟩ := hp (j + 1) t' (by simpa using hj)
      refine ⟨us, hs, ?_⟩
      simpa [List.drop_drop] using k)
    refine ⟨u ++ us, ⟨u, us, rfl, hu, hs⟩, ?_, ?_⟩
    · have := CnL.app h1 k1
      rwa [List.take_append_drop] at this
    · intro x hx
      rw [← List.take_append_drop (sz t) cs] at hx
      rcases List.mem_append.1 hx with hx | hx
      · exact h2 x hx
      · exact k2 x hx

theorem shp_of {T : TypeId → Prop} (K : Kids P T) (hz : ∀ t e, T t → P.underlying t = some (.slice e) → 0 < P.cellsOf e) : ∀ (n : Nat) (t : TypeId), T t → plainT P n t = true → ∀ (fuel : Nat) (cs : List Value) (x : DataW H × List MemPlace),
    DataW.trod enc P w 0 (fun _ => true) true fuel t cs = some x → ∃ us, Shp P n t us ∧ Ones' w φ us cs ∧ (aggB P t = false → ∃ u y, us = [u] ∧ cs = [y])
  | 0, t, _, hp, _, _, _, _ => by simp [plainT] at hp
  | n + 1, t, hT, hp, fuel, cs, x, hx => by
    simp only [plainT] at hp
    simp only [Shp, aggB]
    split at hp
    · rename_i ht
      obtain ⟨b, rfl, _⟩ := DataW.trod_bool ht hx
      rw [ht]
      exact ⟨[.c (.bool b)], ⟨b, rfl⟩, ⟨by simp [CnL, Cn], by simp [Value.oneCell']⟩, fun _ => ⟨_, _, rfl, rfl⟩⟩
    · rename_i k ht
      obtain ⟨z, rfl, _, hw⟩ := DataW.trod_int ht hx
      rw [ht]
      exact ⟨[.c (.int k z)], ⟨z, rfl, hw⟩, ⟨by simp [CnL, Cn], by simp [Value.oneCell']⟩, fun _ => ⟨_, _, rfl, rfl⟩⟩
    · rename_i ht
      obtain ⟨s, rfl, _, hw⟩ := DataW.trod_string ht hx
      rw [ht]
      exact ⟨[.c (.string s)], ⟨s, rfl, hw⟩, ⟨by simp [CnL, Cn], by simp [Value.oneCell']⟩, fun _ => ⟨_, _, rfl, rfl⟩⟩
    · rename_i e ht
      rw [ht]
      rcases Go.Deep.open_slice ht hx with ⟨rfl, _⟩ | ⟨a, len, cap, m, n', D, Pl, rfl, _, hl, hm, hmm, _, hi⟩
      · refine ⟨[.ro (P.cellsOf e) []], ⟨[], rfl, by simp, by simp⟩, ⟨?_, by simp [Value.oneCell']⟩, fun _ => ⟨_, _, rfl, rfl⟩⟩
        simp only [CnL]
        exact ⟨_, [], rfl, by simp only [Cn]; exact ⟨none, 0, rfl, by simp, .inl trivial⟩, rfl⟩
      · simp only [if_true] at hmm
        subst hmm
        have hTe := K.slice hT ht
        have hpos := hz t e hT ht
        -- each element
        have el : ∀ i, i < len → ∃ v y, (∃ ys, Shp P n e ys ∧ v = packV (aggB P e) ys) ∧ Cn (e0 w φ) v y ∧ y.cells.size = P.cellsOf e ∧ ∀ j, j < P.cellsOf e → w.cell? ((a.add (i * P.cellsOf e)).add j) = y.cells[j]? := by
          intro i hil
          obtain ⟨cs', hc, ht'⟩ := hi i (by omega)
          obtain ⟨_, hcl, hat⟩ := World.cells?_some hc
          obtain ⟨ys, hs, ⟨hcn, hone⟩, h1⟩ := shp_of K hz n e hTe hp n' cs' _ ht'
          cases hg : aggB P e with
          | true =>
            refine ⟨.agg ys, .agg cs'.toArray, ⟨ys, hs, by simp [packV]⟩, ?_, by simp [Value.cells, hcl], fun j hj => by rw [hat j hj]; simp [Value.cells]⟩
            simp only [Cn]
            exact ⟨cs'.toArray, rfl, by simpa using hcn, by simpa using hone⟩
          | false =>
            obtain ⟨u, y, rfl, rfl⟩ := h1 hg
            simp only [CnL] at hcn
            obtain ⟨x', xs', he, hcn, hx'⟩ := hcn
            cases he
            have ho := hone y (by simp)
            refine ⟨u, y, ⟨[u], hs, by simp [packV]⟩, hcn, ?_, fun j hj => ?_⟩
            · rw [cells_one ho]; simpa using hcl
            · rw [hat j hj, cells_one ho]; simp [← List.getElem?_toArray]
        by_cases h0 : len = 0
        · subst h0
          refine ⟨[.ro (P.cellsOf e) []], ⟨[], rfl, by simp, by simp⟩, ⟨?_, by simp [Value.oneCell']⟩, fun _ => ⟨_, _, rfl, rfl⟩⟩
          simp only [CnL]
          exact ⟨_, [], rfl, by simp only [Cn]; exact ⟨some a, _, rfl, by simp, .inl trivial⟩, rfl⟩
        · obtain ⟨b, off, spot⟩ := a
          have hsp : spot = none ∧ b < w.heap.size := by
            obtain ⟨v, y, _, _, hy, hat⟩ := el 0 (by omega)
            have := hat 0 hpos
            have hyz : y.cells[0]? = some y.cells[0] := by simp
            rw [hyz] at this
            have this' : w.cell? ⟨b, off, spot⟩ = some y.cells[0] := by simpa [Addr.add] using this
            refine ⟨by simpa using World.cell?_spot this', ?_⟩
            unfold World.cell? at this'
            rcases Nat.lt_or_ge b w.heap.size with h | h
            · exact h
            · simp [Array.getElem?_eq_none h] at this'
          obtain ⟨rfl, hb⟩ := hsp
          have rows : ∀ (k : Nat) (q : Nat), q + k = len → ∃ xs, xs.length = k ∧ (∀ v ∈ xs, ∃ ys, Shp P n e ys ∧ v = packV (aggB P e) ys) ∧ CnRow (e0 w φ) (P.cellsOf e) b (off + q * P.cellsOf e) xs := by
            intro k
            induction k with
            | zero => intro q _; exact ⟨[], rfl, by simp, by simp [CnRow]⟩
            | succ k ih =>
              intro q hq
              obtain ⟨v, y, hs, hcn, hy, hat⟩ := el q (by omega)
              obtain ⟨xs, h1, h2, h3⟩ := ih (q + 1) (by omega)
              refine ⟨v :: xs, by simp [h1], ?_, ?_⟩
              · intro u hu
                rcases List.mem_cons.1 hu with rfl | hu
                · exact hs
                · exact h2 u hu
              · simp only [CnRow]
                refine ⟨⟨y, hcn, hy, fun j hj => ?_⟩, ?_⟩
                · rw [← hat j hj]
                  show w.cell? _ = w.cell? _
                  rw [add_plain, add_plain]
                · rw [show off + q * P.cellsOf e + P.cellsOf e = off + (q + 1) * P.cellsOf e by rw [Nat.add_mul]; omega]; exact h3
          obtain ⟨xs, h1, h2, h3⟩ := rows len 0 (by omega)
          subst h1
          refine ⟨[.ro (P.cellsOf e) xs], ⟨xs, rfl, by omega, h2⟩, ⟨?_, by simp [Value.oneCell']⟩, fun _ => ⟨_, _, rfl, rfl⟩⟩
          simp only [CnL]
          refine ⟨_, [], rfl, ?_, rfl⟩
          simp only [Cn]
          exact ⟨some ⟨b, off, none⟩, _, rfl, hl, .inr ⟨b, off, rfl, hb, not_own b, by simpa using h3⟩⟩
    · rename_i fs ht
      rw [ht]
      obtain ⟨xs, m, rfl, _, hcl, _, hf⟩ := DataW.trod_struct ht hx
      obtain ⟨hkt, hsum, hoff⟩ := K.struct hT ht
      obtain ⟨us, h1, h2⟩ := tile (w := w) (φ := φ) (Shp P n) (fun t => P.cellsOf t) (fs.toList.map (·.type)) cs (by rw [hcl, hsum]; simp [List.map_map, Function.comp_def]) (by
        intro j t' hj
        simp only [List.getElem?_map, Option.map_eq_some_iff] at hj
        obtain ⟨f, hfj, rfl⟩ := hj
        have hfj' : fs[j]? = some f := by simpa using hfj
        have hpc := hf j f hfj'
        have hmem : f ∈ fs.toList := List.mem_of_getElem? hfj
        have hpf : plainT P n f.type = true := by simpa using (List.all_eq_true.1 hp) f hmem
        have hjx : ∃ y, xs[j]? = some y := by
          cases hxj : xs[j]? with
          | some y => exact ⟨y, rfl⟩
          | none =>
            have := List.getElem?_eq_none_iff.1 hxj
            have := (Array.getElem?_eq_some_iff.1 hfj').1
            omega
        obtain ⟨y, hy⟩ := hjx
        rw [hy] at hpc
        obtain ⟨us, hs, ho, _⟩ := shp_of K hz n f.type (hkt f hmem) hpf _ _ _ hpc
        refine ⟨us, hs, ?_⟩
        rw [hoff j f hfj] at ho
        simpa [List.map_take, List.map_map, Function.comp_def] using ho)
      exact ⟨us, h1, h2, by simp⟩
    · rename_i m e ht
      rw [ht]
      obtain ⟨xs, m', rfl, _, hcl, hxl, hf⟩ := DataW.trod_array ht hx
      obtain ⟨hTe, hsz⟩ := K.array hT ht
      obtain ⟨us, h1, h2⟩ := tile (w := w) (φ := φ) (Shp P n) (fun t => P.cellsOf t) (List.replicate m e) cs (by rw [hcl, hsz]; simp) (by
        intro j t' hj
        rw [List.getElem?_replicate] at hj
        split at hj
        · rename_i hjm
          cases hj
          have hpc := hf j hjm
          rw [List.getElem?_eq_getElem (by omega)] at hpc
          obtain ⟨us, hs, ho, _⟩ := shp_of K hz n e hTe hp _ _ _ hpc
          refine ⟨us, hs, ?_⟩
          have : ((List.take j (List.replicate m e)).map fun t => P.cellsOf t).sum = j * P.cellsOf e := by
            simp [List.take_replicate, Nat.min_eq_left (Nat.le_of_lt hjm)]
          rw [this]; exact ho
        · cases hj)
      exact ⟨us, h1, h2, by simp⟩
    · cases hp
  termination_by n => n
end
end Go.Vm

namespace Go.Vm
open Go Go.RowKit Go.ChangeShapes Go.WideShapes

/-- What arguments of these types may be. -/
def ShpA (P : Program) (n : Nat) : List TypeId → List V → Prop
  | [], vs => vs = []
  | t :: ts, vs => ∃ us rest, vs = packV (aggB P t) us :: rest ∧ Shp P n t us ∧ ShpA P n ts rest

section
variable {H : Type} {enc : TypeId × Value → H} {P : Program} {w : World} {φ : Nat → Option (Nat × Nat)}

theorem shpA_of {T : TypeId → Prop} (K : Kids P T) (hz : ∀ t e, T t → P.underlying t = some (.slice e) → 0 < P.cellsOf e) (n : Nat) : ∀ (ts : List TypeId) (vs : List Value) (ds : List (DataW H)) (ps : List MemPlace), (∀ t ∈ ts, T t) → (∀ t ∈ ts, plainT P n t = true) →
    (∀ (j : Nat) t v, ts[j]? = some t → vs[j]? = some v → Value.okWide P w .any 0 t v) → DataW.TrodAll enc P w 0 (fun _ => true) true ts vs ds ps → ∃ us, ShpA P n ts us ∧ CnL (e0 w φ) us vs
  | [], [], [], _, _, _, _, _ => ⟨[], rfl, by simp [CnL]⟩
  | t :: ts, v :: vs, d :: ds, ps, hT, hp, hok, ⟨p, q, ⟨fuel, h1⟩, h2, _⟩ => by
    obtain ⟨us, k1, ⟨k2, k3⟩, k4⟩ := shp_of (φ := φ) K hz n t (hT t (by simp)) (hp t (by simp)) fuel _ _ h1
    obtain ⟨rest, r1, r2⟩ := shpA_of K hz n ts vs ds q (fun t ht => hT t (List.mem_cons_of_mem _ ht)) (fun t ht => hp t (List.mem_cons_of_mem _ ht)) (fun j t v hj hv => hok (j + 1) t v (by simpa using hj) (by simpa using hv)) h2
    refine ⟨packV (aggB P t) us :: rest, ⟨us, rest, rfl, k1, r1⟩, ?_⟩
    simp only [CnL]
    refine ⟨v, vs, rfl, ?_, r2⟩
    have ho := hok 0 t v rfl rfl
    unfold Value.okWide at ho
    cases hg : aggB P t with
    | true =>
      have : ∃ cs, v = .agg cs := by
        unfold aggB at hg
        split at hg
        · rename_i h; rw [h] at ho; obtain ⟨cs, hv, _⟩ := ho; exact ⟨cs, hv⟩
        · rename_i h; rw [h] at ho; obtain ⟨cs, hv, _⟩ := ho; exact ⟨cs, hv⟩
        · cases hg
      obtain ⟨cs, rfl⟩ := this
      simp only [packV, if_true, Cn]
      exact ⟨cs, rfl, by simpa [Value.cells] using k2, by simpa [Value.cells] using k3⟩
    | false =>
      obtain ⟨u, y, rfl, hy⟩ := k4 hg
      rw [hy] at k2 k3
      simp only [CnL] at k2
      obtain ⟨y', ys', he, hc, _⟩ := k2
      cases he
      have hvy : v = y := by
        cases v with
        | agg cs =>
          exfalso
          unfold aggB at hg
          split at ho
          · rename_i h; rw [h] at hg; cases hg
          · rename_i h; rw [h] at hg; cases hg
          · unfold Cell.okWide at ho
            split at ho <;> try (rename_i h; cases h; done)
            all_goals first | (exfalso; simp_all; done) | skip
            unfold Cell.ok at ho
            split at ho <;> simp_all
        | _ => simpa [Value.cells] using hy
      subst hvy
      simpa [packV] using hc
  | [], [], _ :: _, _, _, _, _, h => h.elim
  | [], _ :: _, _, _, _, _, _, h => h.elim
  | _ :: _, [], _, _, _, _, _, h => h.elim
  | _ :: _, _ :: _, [], _, _, _, _, h => h.elim

theorem rh_nil : RH (fun _ => none) (fun _ => False) w φ [] where
  rep i k h := by simp at h
  inj i j b s s' k k' h := by simp at h
  lt i k b s h := by simp at h
  glob a x h := by simp at h
  flt b h := h.elim

theorem same_of_ext {w' : World} {φ' : Nat → Option (Nat × Nat)} {h' : List Blk} (he : Ext (e0 w φ) (en (fun _ => False) w' φ' h')) {b : Nat} (hb : b < w.heap.size) : w'.heap[b]? = w.heap[b]? :=
  he.frame b hb fun hm => by
    have : ¬ (e0 w φ).own b := not_own b
    exact this (.inl hm)

theorem sameAt_of {w' : World} {p : MemPlace} (h : w'.heap[p.block]? = w.heap[p.block]?) : w.sameAt w' p := by
  cases p with
  | cell b o => simp only [World.sameAt, World.cell?, MemPlace.block] at h ⊢; rw [h]
  | map b => exact h

theorem trodAll_carry {w' : World} : ∀ {ts : List TypeId} {vs : List Value} {ds : List (DataW H)} {ps : List MemPlace} {base : Nat} {sp : Nat → Bool} {hd : Bool}, DataW.TrodAll enc P w base sp hd ts vs ds ps → (∀ p ∈ ps, w.sameAt w' p) → DataW.TrodAll enc P w' base sp hd ts vs ds ps
  | [], [], [], _, _, _, _, h, _ => h
  | _ :: _, _ :: _, _ :: _, _, _, _, _, ⟨p, q, ⟨fuel, h1⟩, h2, e⟩, hs => ⟨p, q, ⟨fuel, DataW.trod_carry _ _ _ _ h1 fun x hx => hs x (by rw [e]; exact List.mem_append_left _ hx)⟩, trodAll_carry h2 (fun x hx => hs x (by rw [e]; exact List.mem_append_right _ hx)), e⟩
  | [], [], _ :: _, _, _, _, _, h, _ => h.elim
  | [], _ :: _, _, _, _, _, _, h, _ => h.elim
  | _ :: _, [], _, _, _, _, _, h, _ => h.elim
  | _ :: _, _ :: _, [], _, _, _, _, h, _ => h.elim

theorem keptBut_of {w' : World} (hb : ∀ b, b < w.heap.size → w'.heap[b]? = w.heap[b]?) (ho : w'.os = w.os) (hp : w'.output = w.output) : w.keptBut w' (fun _ => False) := by
  refine ⟨ho, hp, fun i hi => ?_⟩
  rw [hb i hi]
  have := (World.keptBut_refl w (fun _ => False)).2.2 i hi
  exact this

theorem trodAll_length : ∀ {ts : List TypeId} {vs : List Value} {ds : List (DataW H)} {ps : List MemPlace} {base : Nat} {sp : Nat → Bool} {hd : Bool}, DataW.TrodAll enc P w base sp hd ts vs ds ps → ds.length = ts.length
  | [], [], [], _, _, _, _, _ => rfl
  | _ :: _, _ :: _, _ :: _, _, _, _, _, ⟨_, _, _, h2, _⟩ => by simp [trodAll_length h2]
  | [], [], _ :: _, _, _, _, _, h => h.elim
  | [], _ :: _, _, _, _, _, _, h => h.elim
  | _ :: _, [], _, _, _, _, _, h => h.elim
  | _ :: _, _ :: _, [], _, _, _, _, h => h.elim
end

/-- A LAW: it answers true, whatever comes in. -/
theorem law_lifted {H : Type} {enc : TypeId × Value → H} {C : Checked} {os : Os} {f : FuncId} {fn : Func} {s : ChangeSpec} {conds : List PathCond} {apart fresh handsOn again : Bool} {T : TypeId → Prop} {n : Nat} {tb : TypeId}
    (own : ownKnob C.prog.godebug = none) (started : os.Started) (noInit : C.prog.inits.idxOf? f = none) (hfn : C.prog.funcs[f]? = some fn)
    (witness : ∃ (w : World) (tape : Tape) (i : Input), w.os = os ∧ (w.forCall tape i).Shaped C.prog ∧ i.vars = [] ∧ Input.okWide C.prog (w.forCall tape i) .any w.heap.size f i ∧
      s.pre6 enc C.prog fn conds apart (w.forCall tape i).memory i.args ∧ ({} : Assume).holds C.prog (lone (Frame.enter C.prog f i.args .normal) [] (w.forCall tape i)))
    (hv : s.vars = []) (hsp : ∀ ds : List (DataW H), ds.length = fn.params.toList.length → s.fn H ds = { results := [.lit (.bool true)], args := ds })
    (hres : fn.resultTypes = #[tb]) (htb : C.prog.underlying tb = some .bool) (K : Kids C.prog T) (hz : ∀ t e, T t → C.prog.underlying t = some (.slice e) → 0 < C.prog.cellsOf e)
    (hT : ∀ t ∈ fn.params.toList, T t) (hp : ∀ t ∈ fn.params.toList, plainT C.prog n t = true)
    (law : ∀ us, ShpA C.prog n fn.params.toList us → CallV C.prog (fun _ => none) f us [] fun v _ => v = .c (.bool true)) :
    ReturnsInHanded {} C os f .any (s.pre6 enc C.prog fn conds apart) (s.post enc C.prog fn apart fresh handsOn again) := by
  refine returnsInHanded_of_change own started noInit hfn witness ?_
  intro W base args ds gs before hval hW _ _
  have hW0 := hW
  obtain ⟨p, q, hA, hV, rfl, hfz, hnd⟩ := hW
  rw [hv] at hV
  obtain ⟨rfl, rfl⟩ := trodVars_none hV
  simp only [List.append_nil] at hW0 hfz hnd
  obtain ⟨us, hs, hc⟩ := shpA_of (φ := fun _ => none) K hz n _ _ _ _ hT hp (fun j t v hj hvj => Value.okWide_any_base (hval j t v (by simpa using hj) (by simpa using hvj))) hA
  have hcall := (law us hs).2 (fun _ => False) W (fun _ => none) args.toList rh_nil hc
  simp only [Array.toArray_toList] at hcall
  refine (hcall.calls (room_FW none)).mono ?_
  rintro e W' ⟨y, φ', v, h', rfl, rfl, hcn, _, he⟩
  simp only [Cn] at hcn
  subst hcn
  refine ⟨_, rfl, ?_⟩
  have hsame : ∀ b, b < W.heap.size → W'.heap[b]? = W.heap[b]? := fun b hb => same_of_ext he hb
  have hlt : ∀ x ∈ p, x.block < W.heap.size := fun x hx => hW0.lt x hx
  have hargs : ∀ sp : Nat → Bool, (∀ x ∈ p, sp x.block = true) → DataW.TrodAll enc C.prog W' 0 sp true fn.params.toList args.toList ds p := fun sp hsp' =>
    trodAll_carry (DataW.TrodAll.respare K hz hT hA hsp') fun x hx => sameAt_of (hsame _ (hlt x hx))
  have hl := trodAll_length hA
  have hleft : s.fn H (ds ++ []) = { results := [.lit (.bool true)], args := ds } := by rw [List.append_nil]; exact hsp ds hl
  have hR : ∀ (b : Nat) (sp : Nat → Bool) (hd : Bool), DataW.TrodAll enc C.prog W' b sp hd fn.resultTypes.toList ((Value.bool true).resultList fn.resultTypes.size) [.lit (.bool true)] [] := by
    intro b sp hd
    rw [hres]
    exact trodAll_cons_mk (shut_bool htb true) rfl
  have hold : ∀ x ∈ p, (fun b => decide (b < W.heap.size)) x.block = true := fun x hx => by simpa using hlt x hx
  refine ⟨ds, [], p, [], p, [], hW0, ?_, ?_, ?_, World.keptBut_mono (fun _ h => h.elim) (keptBut_of hsame he.os he.output), fun _ => ⟨?_, ?_⟩⟩
  · rw [hleft]; exact hR _ _ _
  · rw [hleft]; exact hargs _ hold
  · rw [hleft, hv]; rfl
  · exact ok_one hres rfl (okWide_bool_mk htb true)
  · refine ⟨_, [], ([] ++ p) ++ [], ⟨[] ++ p, [], trodAll_append (hargs _ (fun _ _ => rfl)) (hR _ _ _), ?_, by simp, ?_, ?_⟩, ?_⟩
    · rw [hv]; rfl
    · intro b off hpb
      have hpb' : MemPlace.cell b off ∈ p := by simpa using hpb
      have := hfz b off hpb'
      rw [← this]
      simp only [World.frozen?]
      rw [hsame b (hlt _ hpb')]
    · intro ha; simpa using hnd ha
    · intro x hx _; simpa using hx
end Go.Vm

namespace Go.Vm
theorem notRfl {α : Sort _} {a b : α} (h : a = b) : a = b := h.symm.symm
open Go Go.RowKit
variable {P : Program} {G : Addr → Option Value} {r : Option Nat} {n m : Nat}


@[simp] theorem get_nil (k : Nat) : get [] k = none := notRfl rfl
@[simp] theorem get_cons (d : Nat) (v : V) (t : List (Nat × V)) (k : Nat) : get ((d, v) :: t) k = if k = d then some v else get t k := notRfl rfl
@[simp] theorem vcOps_nil (s : St) (K : St → Prop) : vcOps P G [] s K = K s := notRfl rfl
/-- A continuation, entered on its own. -/
def Kc (F : V → List Blk → Prop) [KTag F] (v : V) (h : List Blk) : Prop := F v h
@[simp] theorem Kc_eq (F : V → List Blk → Prop) (v : V) (h : List Blk) : Kc F v h = F v h := notRfl rfl
def Kd (F : V → List Blk → List Nat → List Nat → Prop) [KTag F] (v : V) (h : List Blk) (rd wr : List Nat) : Prop := F v h rd wr
@[simp] theorem Kd_eq (F : V → List Blk → List Nat → List Nat → Prop) (v : V) (h : List Blk) (rd wr : List Nat) : Kd F v h rd wr = F v h rd wr := notRfl rfl
def guardM (o : Option V) (want : Bool) (yes no : Prop) [KTag yes] [KTag no] : Prop :=
  match o with
  | some (.c (.bool b)) => brV (b == want) yes no
  | some (.c (.tuple _)) => no
  | _ => False
@[simp] theorem guardM_bool (b want : Bool) (yes no : Prop) : guardM (some (.c (.bool b))) want yes no = brV (b == want) yes no := notRfl rfl
@[simp] theorem guardM_tuple (x : Array Value) (want : Bool) (yes no : Prop) : guardM (some (.c (.tuple x))) want yes no = no := notRfl rfl
@[simp] theorem guardM_undef (want : Bool) (yes no : Prop) : guardM (some (.c undef)) want yes no = no := notRfl rfl
@[simp] theorem guardV_none (s : St) (yes no : Prop) : guardV none s yes no = yes := notRfl rfl
@[simp] theorem guardV_nn (b : Bool) (s : St) (yes no : Prop) : guardV (some (none, b)) s yes no = no := notRfl rfl
@[simp] theorem guardV_some (d : Nat) (want : Bool) (s : St) (yes no : Prop) : guardV (some (some d, want)) s yes no = guardM (get s.t d) want yes no := notRfl rfl
@[simp] theorem thenQ_normal (K : St → Prop) (Q : Exit → St → Prop) (s : St) : thenQ K Q .normal s = K s := notRfl rfl
@[simp] theorem thenQ_exit (K : St → Prop) (Q : Exit → St → Prop) (id : Nat) (s : St) : thenQ K Q (.exit id) s = Q (.exit id) s := notRfl rfl
@[simp] theorem thenQ_ret (K : St → Prop) (Q : Exit → St → Prop) (s : St) : thenQ K Q .ret s = Q .ret s := notRfl rfl
@[simp] theorem thenQ_goto (K : St → Prop) (Q : Exit → St → Prop) (l : Nat) (s : St) : thenQ K Q (.goto l) s = Q (.goto l) s := notRfl rfl
@[simp] theorem blockQ_normal (id : Nat) (Q : Exit → St → Prop) (s : St) : blockQ id Q .normal s = Q .normal s := notRfl rfl
@[simp] theorem blockQ_ret (id : Nat) (Q : Exit → St → Prop) (s : St) : blockQ id Q .ret s = Q .ret s := notRfl rfl
@[simp] theorem blockQ_goto (id l : Nat) (Q : Exit → St → Prop) (s : St) : blockQ id Q (.goto l) s = Q (.goto l) s := notRfl rfl
@[simp] theorem blockQ_exit (id id' : Nat) (Q : Exit → St → Prop) (s : St) : blockQ id Q (.exit id') s = if id' = id then Q .normal s else Q (.exit id') s := notRfl rfl
@[simp] theorem vcOps_cons (o : RO) (os : List RO) (s : St) (K : St → Prop) : vcOps P G (o :: os) s K = guardV o.guard s (stepV P G o.op s (Kc fun v h' => vcOps P G os (s.put o.dst v h') K)) (vcOps P G os (s.put o.dst (.c undef) s.h) K) := notRfl rfl
@[simp] theorem vcD_nil (s : St) (tr : List Tr) (K : List Tr → St → Prop) : vcD P G [] s tr K = K tr s := notRfl rfl
@[simp] theorem vcD_cons (o : RO) (os : List RO) (s : St) (tr : List Tr) (K : List Tr → St → Prop) : vcD P G (o :: os) s tr K = guardV o.guard s (stepD P G o.op s (Kd fun v h' rd wr => vcD P G os (s.put o.dst v h') (tr ++ [(rd, wr, s.h.length, h'.length)]) K))
      (vcD P G os (s.put o.dst (.c undef) s.h) (tr ++ [([], [], s.h.length, s.h.length)]) K) := notRfl rfl
@[simp] theorem vc_skip (s : St) (Q : Exit → St → Prop) : vc P G r n m .skip s Q = Q .normal s := notRfl rfl
@[simp] theorem vc_ops (l : List RO) (s : St) (Q : Exit → St → Prop) : vc P G r n m (.ops l) s Q = vcOps P G l s (Q .normal) := notRfl rfl
@[simp] theorem vc_opsD (l : List RO) (s : St) (Q : Exit → St → Prop) : vc P G r n m (.opsD l) s Q = vcD P G l s [] fun tr s' => ordOk l tr = true ∧ Q .normal s' := notRfl rfl
@[simp] theorem vc_seq (a b : IC) (s : St) (Q : Exit → St → Prop) : vc P G r n m (.seq a b) s Q = vc P G r n m a s (thenQ (fun s' => vc P G r n m b s' Q) Q) := notRfl rfl
@[simp] theorem vc_cond (c : Operand) (a b : IC) (s : St) (Q : Exit → St → Prop) : vc P G r n m (.cond c a b) s Q = bnd (ev s c) fun v => match v with
    | .c (.bool t) => brV t (vc P G r n m a s Q) (vc P G r n m b s Q)
    | _ => False := notRfl rfl
@[simp] theorem vc_block (id : Nat) (b : IC) (s : St) (Q : Exit → St → Prop) : vc P G r n m (.block id b) s Q = vc P G r n m b s (blockQ id Q) := notRfl rfl
@[simp] theorem vc_loop (b : IC) (s : St) (Q : Exit → St → Prop) : vc P G r n m (.loop b) s Q = Ti P G r n m (.loop b) s Q := notRfl rfl
@[simp] theorem vc_range (g : Operand) (ps : Array Tmp) (a b : IC) (s : St) (Q : Exit → St → Prop) : vc P G r n m (.range g ps a b) s Q = Ti P G r n m (.range g ps a b) s Q := notRfl rfl
@[simp] theorem vc_exit (id : Nat) (s : St) (Q : Exit → St → Prop) : vc P G r n m (.exit id) s Q = Q (.exit id) s := notRfl rfl
@[simp] theorem vc_scope (b : IC) (s : St) (Q : Exit → St → Prop) : vc P G r n m (.scope b) s Q = Ti P G r n m (.scope b) s Q := notRfl rfl
@[simp] theorem vc_label (l : Nat) (s : St) (Q : Exit → St → Prop) : vc P G r n m (.label l) s Q = Q .normal s := notRfl rfl
@[simp] theorem vc_goto (l : Nat) (s : St) (Q : Exit → St → Prop) : vc P G r n m (.goto l) s Q = Q (.goto l) s := notRfl rfl
@[simp] theorem vc_ret (s : St) (Q : Exit → St → Prop) : vc P G r n m .ret s Q = Q .ret s := notRfl rfl

@[simp] theorem appendV_eq (t t2 : TypeId) (h : List Blk) (dst src : V) (K : Eff → Prop) : appendV P t t2 h dst src K = bnd (telem P t) fun q => (q.1 = none ∧ q.2.2 ≠ 0 ∧ tslice P t2 = true) ∧ bnd (tzero P q.2.1) fun z => z.cells.size = q.2.2 ∧ bnd (srcV h q.2.2 src) fun ms =>
    match dst with
    | .c (.slice none 0 0) => (ms.1 * P.bytesOf q.2.1 ≤ 140737488355328 ∧ ms.1 ≤ 9223372036854775807) ∧ K (.nw (.sl q.2.2 ms.1) (.cells q.2.1 ms.2))
    | .sl z' i o k => z' = q.2.2 ∧ atC h[i]? fun t' cs => (t' = q.2.1 ∧ o + k * z' = cs.length ∧ ((k + ms.1) * P.bytesOf q.2.1 ≤ 140737488355328 ∧ k + ms.1 ≤ 9223372036854775807)) ∧
        K (.mv i (.sl z' (k + ms.1)) (.cells q.2.1 (cs.drop o ++ ms.2)))
    | _ => False := by
  apply propext
  unfold appendV bnd
  constructor
  · rintro ⟨q, h1, h2, h3, h4, z, h5, h6, ms, h7, h8⟩
    refine ⟨q, h1, ⟨h2, h3, h4⟩, z, h5, h6, ms, h7, ?_⟩
    split at h8
    · exact h8
    · obtain ⟨h0, cs, k1, k2, k3, k4⟩ := h8
      exact ⟨h0, _, cs, k1, ⟨rfl, k2, k3⟩, k4⟩
    · exact h8.elim
  · rintro ⟨q, h1, ⟨h2, h3, h4⟩, z, h5, h6, ms, h7, h8⟩
    refine ⟨q, h1, h2, h3, h4, z, h5, h6, ms, h7, ?_⟩
    split at h8
    · exact h8
    · obtain ⟨h0, t', cs, k1, ⟨rfl, k2, k3⟩, k4⟩ := h8
      exact ⟨h0, cs, k1, k2, k3, k4⟩
    · exact h8.elim
end Go.Vm

namespace Go.Vm
open Go Go.RowKit
variable {P : Program} {G : Addr → Option Value} {h : List Blk}

/-- A call of yield, walked. -/
theorem YieldV.ofIC (hm : P.follows .mixedOrders = true) {L : Nat} {as : List V} {K : V → List Blk → Prop} {pend : Option Code} {env : Nat → Option V} {n : Nat} {ps : Array Tmp} {assign body : Code} {ia ib : IC} (ha : comp assign = ia) (hb : comp body = ib) (ka : okC n assign = true) (kb : okC n body = true)
    (hL : h[L]? = some (.loop .ready pend env n ps assign body))
    (hl : as.length = ps.size) (te : List (Nat × V)) (hte : ∀ k v, get te k = some v → env k = some v) (hps : ∀ p ∈ ps.toList, p < n)
    (ht : vc P G (some L) n h.length ia { t := parT ps.toList as te, d := [], h } (thenQ (fun s1 => ∃ p2 env2 n2 ps2 a2 b2, s1.h[L]? = some (.loop .ready p2 env2 n2 ps2 a2 b2) ∧
      vc P G (some L) n h.length ib { s1 with h := s1.h.set L (.loop .busy p2 env2 n2 ps2 a2 b2) } (roundQ G L h.length K)) (fun _ _ => False))) : YieldV P G L as h K := by
  subst ha hb
  refine YieldV.of hL hl te hte hps ((vc_sound hm ka ht).mono ?_)
  intro e s k
  cases e with
  | normal =>
    obtain ⟨p2, env2, n2, ps2, a2, b2, h1, h2⟩ := k
    exact ⟨p2, env2, n2, ps2, a2, b2, h1, vc_sound hm kb h2⟩
  | exit id => exact k
  | goto l => exact k
  | ret => exact k
  | panic ch => exact k
  | outgrown => exact k
end Go.Vm
namespace Go.Vm
open Go Go.RowKit
variable {P : Program} {G : Addr → Option Value} {h : List Blk}

theorem Ti.rangeE {n m : Nat} {s : St} {Q : Exit → St → Prop} {g : Operand} {ps : Array Tmp} {ia ib : IC} {f : FuncId} {a b : List V} (te : List (Nat × V)) (hg : ev s g = some (.fn (.func f) a b)) (hte : subT te s.t)
    (hc : ∀ ca cb env, comp ca = ia → comp cb = ib → okC n ca = true → okC n cb = true → (∀ k v, get te k = some v → env k = some v) →
      CallV P G f (a ++ [.yl (s.h.length + 1)] ++ b) (s.h ++ [.deferred true] ++ [.loop .ready none env n ps ca cb]) fun _ h2 => ∃ st pend env n' ps' a' b', h2[s.h.length + 1]? = some (.loop st pend env n' ps' a' b') ∧ st ≠ .busy ∧
      jumpQ Q { t := s.t, d := s.h.length :: s.d, h := h2.set (s.h.length + 1) (.loop .exhausted pend env n' ps' a' b') } pend) : Ti P G none n m (.range g ps ia ib) s Q :=
  Ti.range hg fun ca cb ha hb ka kb => hc ca cb (get s.t) ha hb ka kb (subT_get hte)
end Go.Vm
namespace Go.Vm
open Go Go.RowKit
variable {P : Program} {G : Addr → Option Value} {r : Option Nat} {n m : Nat}

/-- A loop, round by round. -/
def unr (P : Program) (G : Addr → Option Value) (r : Option Nat) (n m : Nat) (b : IC) (Q : Exit → St → Prop) [KTag Q] : Nat → St → Prop
  | 0, _ => False
  | k + 1, s => vc P G r n m b s (thenQ (unr P G r n m b Q k) Q)
@[simp] theorem unr_succ (b : IC) (Q : Exit → St → Prop) (k : Nat) (s : St) : unr P G r n m b Q (k + 1) s = vc P G r n m b s (thenQ (fun s' => unr P G r n m b Q k s') Q) := notRfl rfl

theorem Ti.unroll (hm : P.follows .mixedOrders = true) {b : IC} {s : St} {Q : Exit → St → Prop} (k : Nat) (h : unr P G r n m b Q k s) : Ti P G r n m (.loop b) s Q := by
  intro c hc hk
  cases c <;> simp only [comp] at hc <;> try (cases hc; done)
  · split at hc <;> cases hc
  · rename_i b'
    cases hc
    refine T.loop (fun k s => unr P G r n m (comp b') Q k s) h fun k s hI => ?_
    cases k with
    | zero => exact hI.elim
    | succ k =>
      have hI' : vc P G r n m (comp b') s (thenQ (unr P G r n m (comp b') Q k) Q) := hI
      have hk' : okC n b' = true := hk
      exact (vc_sound hm hk' hI').mono (thenQ_mono fun s' h' => ⟨k, by omega, h'⟩)
end Go.Vm
