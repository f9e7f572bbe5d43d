/- A walk of the model's code on logical values, with its proofs: part 6. No condition. -/
import Derived.Test.YtnoigkdecjeilaaDoorV5
import Derived.Laws.Externs
set_option linter.unusedSimpArgs false
set_option linter.unusedVariables false
namespace Go.Vm
open Go Go.RowKit
variable {P : Program} {G : Addr → Option Value} {h : List Blk} {m : Nat} {v : V} {K : V → List Blk → Prop}
/-- Some blocks alone are handed back, the first ones as they are numbered. -/
theorem exitV.some (is : List Nat) (small : List Blk) (v2 : V) (hv : v = v2.ren (rho is 0)) (hm : m ≤ is.length) (h0 : ∀ i, i < m → rho is 0 i = i) (him : imL h (rho is 0) is small) (nd : is.Nodup)
    (dm : ∀ k ∈ small, k.dm = true) (cl : ∀ k ∈ small, k.ok (· < small.length)) (ok : v2.ok (· < small.length)) (k : K v2 small) : exitV G m h v K := by
  have hl := imL_len him
  refine exitV.drop small (rho is 0) v2 hv (by omega) h0 ?_ ?_ dm cl ok k
  · intro i j hi hj e
    simp only [rho, List.getElem?_eq_getElem (show i < is.length by omega), List.getElem?_eq_getElem (show j < is.length by omega)] at e
    exact idx_inj nd (List.getElem?_eq_getElem (by omega)) (by rw [List.getElem?_eq_getElem (by omega), e])
  · intro i b hb
    have hi := (List.getElem?_eq_some_iff.1 hb).1
    have := imL_at him (k := i) (i := is[i]'(by omega)) (b := b) (List.getElem?_eq_getElem (by omega)) hb
    rw [this.symm]
    simp [rho, List.getElem?_eq_getElem (show i < is.length by omega)]
/-- The same, with a result that knows no blocks. -/
theorem exitV.some' (is : List Nat) (small : List Blk) (hf : v.ok (fun _ => False)) (hm : m ≤ is.length) (h0 : ∀ i, i < m → rho is 0 i = i) (him : imL h (rho is 0) is small) (nd : is.Nodup)
    (dm : ∀ k ∈ small, k.dm = true) (cl : ∀ k ∈ small, k.ok (· < small.length)) (k : K v small) : exitV G m h v K :=
  exitV.some is small v (V.ren_same (p := fun _ => False) (fun _ h => h.elim) hf).symm hm h0 him nd dm cl (V.ok_mono (fun _ h => h.elim) hf) k
end Go.Vm
namespace Go.Vm
open Go Go.RowKit
variable {G : Addr → Option Value} {h : List Blk} {m : Nat} {v : V} {K : V → List Blk → Prop}
/-- What is handed back, seen otherwise. -/
theorem exitV.see (v' : V) (hw : ∀ (e : En) (y : Value), Cn e v y → Cn e v' y) (k : exitV G m h v' K) : exitV G m h v K :=
  fun F w φ y e0 r hc hb => k F w φ y e0 r (hw _ _ hc) hb
theorem renT_same {ρ : Nat → Nat} {p : Nat → Prop} {env : Nat → Option V} (he : okT p env) (hp : ∀ i, p i → ρ i = i) : renT ρ env = env := by
  funext k
  simp only [renT]
  cases h : env k with
  | none => rfl
  | some v => simp [V.ren_same hp (he k v h)]
theorem okT_mono {p q : Nat → Prop} {env : Nat → Option V} (he : okT p env) (hp : ∀ i, p i → q i) : okT q env := fun k v h => V.ok_mono hp (he k v h)
theorem okT_get {p : Nat → Prop} {t : List (Nat × V)} (ht : allT (fun v => v.ok p) t) : okT p (get t) := fun _ _ h => allT_get ht h
end Go.Vm

namespace Go.Vm
open Go Go.RowKit
variable {P : Program} {G : Addr → Option Value}
/-- A block is lent: it is read alone in a call that hands back a plain value. -/
theorem Ct.lend {f : FuncId} {as : List V} {t : TypeId} {cs : List V} {g : Bool} {x : Value} (hf : fitsL 0 cs.length g as) (ok : okL (fun _ => False) (frzL 0 cs g as)) (c : Ct P G f (frzL 0 cs g as) [] (.c x) []) :
    Ct P G f as [.cells t cs] (.c x) [.cells t cs] := by
  refine ⟨c.1, fun F w φ xs r hx => ?_⟩
  have cold := cold_of r (i := 0) rfl
  have hx' := CnL.frz cold hf hx
  have c2 : CallV P G f (frzL 0 cs g as) [.gone] (fun v h' => v = .c x ∧ h' = [.gone]) := (CallD.pure c ok ⟨rfl, rfl⟩).callV
  refine (c2.2 F w φ xs (set_gone r (i := 0) rfl rfl).1 hx').mono ?_
  rintro e w' ⟨y, φ1, v, h', rfl, ⟨rfl, rfl⟩, h1, h2, h3⟩
  have nobody : ∀ b, ¬ owned φ [.gone] b := by
    rintro b ⟨i, s, k, hk, hl, _⟩
    match i, hk with
    | 0, hk => simp at hk; subst hk; cases hl
  have same : ∀ b, b < w.heap.size → w'.heap[b]? = w.heap[b]? := fun b hb => h3.frame b hb (nobody b)
  have E : Ext (en F w φ [.cells t cs]) (en F w' φ [.cells t cs]) :=
    ⟨fun _ h => .inl h, fun _ h => h, fun _ _ => rfl, fun b hb _ => same b hb, fun _ _ h => h, fun _ _ h => h, h3.shape, h3.size, h3.os, h3.tape, h3.output⟩
  refine ⟨y, φ, .c x, [.cells t cs], rfl, ⟨rfl, rfl⟩, h1, ⟨?_, r.inj, ?_, ?_, ?_⟩, E⟩
  · intro i k hk
    match i, hk with
    | 0, hk =>
      simp at hk; subst hk
      exact RepB.keep E ⟨_, rfl, rfl⟩ (fun b s hb => same b (r.lt 0 _ b s rfl rfl hb)) (r.rep 0 _ rfl)
  · intro i k b s hk hl hb
    exact Nat.lt_of_lt_of_le (r.lt i k b s hk hl hb) h3.size
  · intro a z ha
    obtain ⟨k1, k2, k3, k4⟩ := h2.glob a z ha
    obtain ⟨j1, j2, j3, j4⟩ := r.glob a z ha
    exact ⟨k1, k2, j3, j4⟩
  · intro b hb
    exact ⟨(h2.flt b hb).1, (r.flt b hb).2⟩
end Go.Vm

namespace Go.Vm
open Go Go.RowKit Go.Extern
variable {P : Program} {G : Addr → Option Value} {h : List Blk} {K : V → List Blk → Prop}
/-- A function without a body does what the library's entry does. -/
def Xt (P : Program) (f : FuncId) (e : Array Value → Sem Value) : Prop := ∀ args w, (callFunc f args).run P w = ((e args).run P w).andThen fun v w' => .ok (.value v) w'
theorem ExtC.of {f : FuncId} {e : Array Value → Sem Value} {as : List V} (hx : Xt P f e)
    (k : ∀ F w φ xs, RH G F w φ h → CnL (en F w φ h) as xs → ∃ y w' φ' v h', (e xs.toArray).run P w = .ok y w' ∧ K v h' ∧ Cn (en F w' φ' h') v y ∧ RH G F w' φ' h' ∧ Ext (en F w φ h) (en F w' φ' h')) : ExtC P G f as h K := by
  intro F w φ xs r hc
  obtain ⟨y, w', φ', v, h', hrun, rest⟩ := k F w φ xs r hc
  exact ⟨y, w', φ', v, h', by rw [hx, hrun]; rfl, rest⟩
/-- One that answers with a plain value, and changes nothing. -/
theorem ExtC.val {f : FuncId} {e : Array Value → Sem Value} {as : List V} (hx : Xt P f e) (v : V) (hr : ∀ (en : En) (xs : List Value) (w : World), CnL en as xs → ∃ y, (e xs.toArray).run P w = .ok y w ∧ Cn en v y) (k : K v h) : ExtC P G f as h K :=
  ExtC.of hx fun F w φ xs r hc => let ⟨y, h1, h2⟩ := hr _ xs w hc; ⟨y, w, φ, v, h, h1, k, h2, r, ext_refl⟩
theorem run_loadVar1 {t : TypeId} {a : Addr} {x : Value} {w : World} (hg : tagg P t = some false) (hc : w.cell? a = some x) : (loadVar t a).run P w = .ok x w := by simp [loadVar, run_isAgg hg, hc]
/-- The Value of what is behind an interface. -/
theorem ext_valueOf {f : FuncId} (hx : Xt P f (fun args => ReflectliteValue.unpack (args.getD 0 (.tuple #[])))) {t : TypeId} {v : V} {hd : Value} {n : Int} (hv : v.fills = true) (ho : hd.oneCell' = true)
    (hmk : ∀ a w, (ReflectliteValue.mk t a 0).run P w = .ok (.agg #[hd, .pointer (some a), .int .u64 n]) w) (k : K (.agg [.c hd, .p h.length 0, .c (.int .u64 n)]) (h ++ [.cells t v.cells])) : ExtC P G f [.iface t v] h K := by
  refine ExtC.of hx fun F w φ xs r hc => ?_
  simp only [CnL] at hc
  obtain ⟨x, _, rfl, hc, rfl⟩ := hc
  simp only [Cn] at hc
  obtain ⟨u, rfl, hc⟩ := hc
  obtain ⟨hl, hall⟩ := cn_cells hc hv
  refine ⟨.agg #[hd, .pointer (some ⟨w.heap.size, 0, none⟩), .int .u64 n], w.alloc (.cells u.cells t), upd φ h.length (some (w.heap.size, 0)), _, _, ?_, k, ?_, rh_alloc r t v.cells u.cells hl (fun z hz => hall z (by simpa using hz)), ext_alloc _ _⟩
  · show (ReflectliteValue.unpack (.iface t u)).run P w = _
    simp only [ReflectliteValue.unpack, newVar, newRow, Sem.run_bind]
    simp [hmk]
  · simp only [Cn, CnL]
    refine ⟨_, rfl, ⟨_, _, rfl, rfl, _, _, rfl, ⟨⟨.cells t v.cells, by simp, rfl⟩, _, _, by simp [en], rfl⟩, _, _, rfl, rfl, rfl⟩, ?_⟩
    intro z hz
    simp at hz
    rcases hz with rfl | rfl | rfl
    · exact ho
    · rfl
    · rfl
theorem rlm (z : Sem Value) (f : TypeId → Addr → Nat → Nat → Sem Value) (v : Value) :
    ReflectliteValue.method z f #[v] = (do match ← ReflectliteValue.parts v with | none => z | some (t, a, fl) => f t a fl (fl % 32)) := rfl
/-- What a Value's logical form tells of it. -/
theorem cn_rv {e : En} {hd : Value} {i o : Nat} {n : Int} {x : Value} (hc : Cn e (.agg [.c hd, .p i o, .c (.int .u64 n)]) x) : ∃ b s, e.φ i = some (b, s) ∧ x = .agg #[hd, .pointer (some ⟨b, s + o, none⟩), .int .u64 n] := by
  simp only [Cn, CnL] at hc
  obtain ⟨ys, rfl, ⟨_, _, h1, rfl, _, _, rfl, ⟨_, b, s, hb, rfl⟩, _, _, rfl, rfl, rfl⟩, _⟩ := hc
  refine ⟨b, s, hb, ?_⟩
  congr 1
  exact Array.ext' h1
theorem cell_at {F : Nat → Prop} {w : World} {φ : Nat → Option (Nat × Nat)} (r : RH G F w φ h) {i b s k : Nat} {t : TypeId} {cs : List V} {v : V} (hb : h[i]? = some (.cells t cs)) (hf : φ i = some (b, s)) (hv : cs[k]? = some v) :
    ∃ x, w.cell? ⟨b, s + k, none⟩ = some x ∧ Cn (en F w φ h) v x := by
  obtain ⟨arr, harr, hc⟩ := cells_of r hb hf
  obtain ⟨x, hx, _, hcn⟩ := hc k v hv
  exact ⟨x, by simp [World.cell?, harr, hx], hcn⟩
/-- (Value).IsNil of a pointer that isn't nil. -/
theorem ext_isNil {f : FuncId} {z : Sem Value} (hx : Xt P f (ReflectliteValue.method z ReflectliteValue.isNil)) {t : TypeId} {hd : Value} {n j i o : Nat} {t1 : TypeId} {cs : List V}
    (hparts : ∀ a w, (ReflectliteValue.parts (.agg #[hd, .pointer (some a), .int .u64 (n : Int)])).run P w = .ok (some (t, a, n)) w) (hn : n % 32 = 22) (hg : tagg P t = some false)
    (hj : h[j]? = some (.cells t1 (.p i o :: cs))) (k : K (.c (.bool false)) h) : ExtC P G f [.agg [.c hd, .p j 0, .c (.int .u64 (n : Int))]] h K := by
  refine ExtC.of hx fun F w φ xs r hc => ?_
  simp only [CnL] at hc
  obtain ⟨x, _, rfl, hc, rfl⟩ := hc
  obtain ⟨b, s, hb, rfl⟩ := cn_rv hc
  obtain ⟨y, hy, hcy⟩ := cell_at r hj hb (k := 0) rfl
  simp only [Cn] at hcy
  obtain ⟨_, b', s', _, rfl⟩ := hcy
  refine ⟨.bool false, w, φ, _, h, ?_, k, by simp [Cn], r, ext_refl⟩
  show (ReflectliteValue.method z ReflectliteValue.isNil #[_]).run P w = _
  rw [rlm]
  simp only [Sem.run_bind, hparts, Result.andThen]
  have hl := run_loadVar1 (P := P) hg hy
  simp only [Nat.add_zero] at hl
  simp [ReflectliteValue.isNil, hn, hl]
/-- (Value).Elem of a pointer that isn't nil. -/
theorem ext_elemV {f : FuncId} {z : Sem Value} (hx : Xt P f (ReflectliteValue.method z ReflectliteValue.elem)) {t e : TypeId} {hd hd2 : Value} {n j i o : Nat} {n2 : Int} {t1 : TypeId} {cs : List V}
    (hparts : ∀ a w, (ReflectliteValue.parts (.agg #[hd, .pointer (some a), .int .u64 (n : Int)])).run P w = .ok (some (t, a, n)) w) (hn : n % 32 = 22) (hg : tagg P t = some false)
    (he : ∀ w, (Rtype.elem? t).run P w = .ok (some e) w) (hmk : ∀ a w, (ReflectliteValue.mk e a ReflectliteValue.flagAddr).run P w = .ok (.agg #[hd2, .pointer (some a), .int .u64 n2]) w) (ho : hd2.oneCell' = true)
    (hj : h[j]? = some (.cells t1 (.p i o :: cs))) (k : K (.agg [.c hd2, .p i o, .c (.int .u64 n2)]) h) : ExtC P G f [.agg [.c hd, .p j 0, .c (.int .u64 (n : Int))]] h K := by
  refine ExtC.of hx fun F w φ xs r hc => ?_
  simp only [CnL] at hc
  obtain ⟨x, _, rfl, hc, rfl⟩ := hc
  obtain ⟨b, s, hb, rfl⟩ := cn_rv hc
  obtain ⟨y, hy, hcy⟩ := cell_at r hj hb (k := 0) rfl
  have hcy' := hcy
  simp only [Cn] at hcy
  obtain ⟨hdom, b', s', hb', rfl⟩ := hcy
  refine ⟨.agg #[hd2, .pointer (some ⟨b', s' + o, none⟩), .int .u64 n2], w, φ, _, h, ?_, k, ?_, r, ext_refl⟩
  · show (ReflectliteValue.method z ReflectliteValue.elem #[_]).run P w = _
    rw [rlm]
    simp only [Sem.run_bind, hparts, Result.andThen]
    have hl := run_loadVar1 (P := P) hg hy
    simp only [Nat.add_zero] at hl
    simp [ReflectliteValue.elem, hn, hl, he, hmk]
  · simp only [Cn, CnL]
    refine ⟨_, rfl, ⟨_, _, rfl, rfl, _, _, rfl, ⟨hdom, _, _, hb', rfl⟩, _, _, rfl, rfl, rfl⟩, ?_⟩
    intro z hz
    simp at hz
    rcases hz with rfl | rfl | rfl
    · exact ho
    · rfl
    · rfl
theorem rls (v x : Value) : ReflectliteValue.set #[v, x] = (do
    let (some (dst, a, fl), some (src, b, _)) := (← ReflectliteValue.parts v, ← ReflectliteValue.parts x)
      | unsupported (.noEntry "extern/(internal/reflectlite.Value).Set.zeroValue")
    if fl / ReflectliteValue.flagAddr % 2 == 0 then unsupported (.noEntry "extern/(internal/reflectlite.Value).Set.unaddressable")
    let val ← loadVar src b
    if ← Rtype.directlyAssignable dst src then storeVar dst a val
    else if ← Rtype.implements dst src then
      if (← Rtype.kind src) == 20 then
        match val with
        | .nilIface => unsupported (.noEntry "extern/reflectlite: a nil value of one interface type handed on as a value of another")
        | _ => storeVar dst a val
      else storeVar dst a (.iface src val)
    else panicString ("reflectlite.Set: value of type " ++ (← Rtype.spelt src) ++ " is not assignable to type " ++ (← Rtype.spelt dst))
    pure (.tuple #[])) := rfl
/-- (Value).Set: a variable of ours gets what a Value holds. -/
theorem ext_set {f : FuncId} (hx : Xt P f ReflectliteValue.set) {t : TypeId} {hd : Value} {n1 n2 i j : Nat} {t1 t2 : TypeId} {cs cs2 : List V}
    (hp1 : ∀ a w, (ReflectliteValue.parts (.agg #[hd, .pointer (some a), .int .u64 (n1 : Int)])).run P w = .ok (some (t, a, n1)) w)
    (hp2 : ∀ a w, (ReflectliteValue.parts (.agg #[hd, .pointer (some a), .int .u64 (n2 : Int)])).run P w = .ok (some (t, a, n2)) w)
    (hfl : n1 / 256 % 2 = 1) (hd1 : ∀ w, (Rtype.directlyAssignable t t).run P w = .ok true w) (hg : tagg P t = some true) (hz : tsz P t = some cs2.length)
    (hi : h[i]? = some (.cells t1 cs)) (hj : h[j]? = some (.cells t2 cs2)) (hl : cs2.length = cs.length) (k : K (.tup []) (h.set i (.cells t1 (putV cs 0 cs2)))) :
    ExtC P G f [.agg [.c hd, .p i 0, .c (.int .u64 (n1 : Int))], .agg [.c hd, .p j 0, .c (.int .u64 (n2 : Int))]] h K := by
  refine ExtC.of hx fun F w φ xs r hc => ?_
  simp only [CnL] at hc
  obtain ⟨x, _, rfl, hc1, y, _, rfl, hc2, rfl⟩ := hc
  obtain ⟨b, s, hb, rfl⟩ := cn_rv hc1
  obtain ⟨b', s', hb', rfl⟩ := cn_rv hc2
  have hb : φ i = some (b, s) := hb
  have hb' : φ j = some (b', s') := hb'
  have hci : Cn (en F w φ h) (.p i 0) (.pointer (some ⟨b, s + 0, none⟩)) := by simp only [Cn]; exact ⟨⟨_, hi, rfl⟩, b, s, hb, rfl⟩
  have hcj : Cn (en F w φ h) (.p j 0) (.pointer (some ⟨b', s' + 0, none⟩)) := by simp only [Cn]; exact ⟨⟨_, hj, rfl⟩, b', s', hb', rfl⟩
  obtain ⟨val, w1, φ1, e1, hr1, he1, hv1, hrh1, hext1⟩ := ok_load (P := P) (t := t) (K := fun e => e = .q (.agg cs2)) r hcj ⟨t2, cs2, hj, true, hg, cs2.length, hz, Nat.le_refl _, by simp⟩
  subst he1
  have hext1' : Ext (en F w φ h) (en F w1 φ1 h) := hext1
  obtain ⟨w2, φ2, e2, hr2, he2, _, hrh2, hext2⟩ := ok_store (P := P) (t := t) (K := fun e => e = .st i (.cells t1 (putV cs 0 cs2))) hrh1 (hci.ext hext1') hv1
    ⟨rfl, by simpa [V.cells] using hz, t1, cs, hi, by simp [V.cells, hl], by simp [V.cells]⟩
  subst he2
  refine ⟨.tuple #[], w2, φ2, _, _, ?_, k, by simp only [Cn, CnL]; exact ⟨#[], rfl, rfl⟩, hrh2, hext1.trans hext2⟩
  have l1 : (loadVar t ⟨b', s' + 0, none⟩).run P w = .ok val w1 := by simpa [Instr.loadAt, Instr.sureAddr] using hr1
  have l2 : (storeVar t ⟨b, s + 0, none⟩ val).run P w1 = .ok () w2 := by simpa [Instr.storeAt, Instr.sureAddr] using hr2
  simp only [Nat.add_zero] at l1 l2
  show (ReflectliteValue.set #[_, _]).run P w = _
  rw [rls]
  simp only [Sem.run_bind, hp1, hp2, Result.andThen]
  simp [ReflectliteValue.flagAddr, hfl, l1, hd1, l2]
end Go.Vm

namespace Go.Vm
open Go Go.RowKit Go.ChangeShapes Go.WideShapes
theorem rh_nilG {G : Addr → Option Value} {w : World} {φ : Nat → Option (Nat × Nat)} (hG : ∀ a x, G a = some x → w.cell? a = some x) : RH G (fun _ => False) w φ [] where
  rep i k h := by simp at h
  inj i j b s s' k k' h := by simp at h
  lt i k b s h := by simp at h
  glob a x h := by
    have hc := hG a x h
    refine ⟨hc, ?_, ?_, fun h => h.elim⟩
    · unfold World.cell? at hc
      rcases Nat.lt_or_ge a.block w.heap.size with h' | h'
      · exact h'
      · simp [Array.getElem?_eq_none h'] at hc
    · rintro ⟨i, s, k, hk, _, _⟩
      simp at hk
  flt b h := h.elim

/-- A LAW, where something holds of the world: some cells are known. -/
theorem law_liftedX {H : Type} {enc : TypeId × Value → H} {C : Checked} {os : Os} {f : FuncId} {fn : Func} {s : ChangeSpec} {conds : List PathCond} {apart fresh handsOn again : Bool} {T : TypeId → Prop} {n : Nat} {tb : TypeId} {X : World → Array Value → Prop} {G : Addr → Option Value}
    (hX : ∀ (w w' : World) (args : Array Value), w.heap = w'.heap → X w args → X w' args) (hG : ∀ w args, X w args → ∀ a x, G a = some x → w.cell? a = some x)
    (own : ownKnob C.prog.godebug = none) (started : os.Started) (noInit : C.prog.inits.idxOf? f = none) (hfn : C.prog.funcs[f]? = some fn)
    (witness : ∃ (w : World) (tape : Tape) (i : Input), w.os = os ∧ (w.forCall tape i).Shaped C.prog ∧ i.vars = [] ∧ Input.okWide C.prog (w.forCall tape i) .any w.heap.size f i ∧
      ((s.pre enc C.prog fn conds apart (w.forCall tape i).memory i.args ∧ X (w.forCall tape i).memory i.args) ∧ sizedMet enc C.prog fn (OpenSpec.ofChange s) apart (w.forCall tape i).memory i.args) ∧ ({} : Assume).holds C.prog (lone (Frame.enter C.prog f i.args .normal) [] (w.forCall tape i)))
    (hv : s.vars = []) (hsp : ∀ ds : List (DataW H), ds.length = fn.params.toList.length → s.fn H ds = { results := [.lit (.bool true)], args := ds })
    (hres : fn.resultTypes = #[tb]) (htb : C.prog.underlying tb = some .bool) (K : Kids C.prog T) (hz : ∀ t e, T t → C.prog.underlying t = some (.slice e) → 0 < C.prog.cellsOf e)
    (hT : ∀ t ∈ fn.params.toList, T t) (hp : ∀ t ∈ fn.params.toList, plainT C.prog n t = true)
    (law : ∀ us, ShpA C.prog n fn.params.toList us → CallV C.prog G f us [] fun v _ => v = .c (.bool true)) :
    ReturnsInHanded {} C os f .any (fun w args => (s.pre enc C.prog fn conds apart w args ∧ X w args) ∧ sizedMet enc C.prog fn (OpenSpec.ofChange s) apart w args) (s.post enc C.prog fn apart fresh handsOn again) := by
  refine returnsInHanded_of_change_and hX own started noInit hfn witness ?_
  intro W base args ds gs before hval hW _ _ hXW _
  have hW0 := hW
  obtain ⟨p, q, hA, hV, rfl, hfz, hnd⟩ := hW
  rw [hv] at hV
  obtain ⟨rfl, rfl⟩ := trodVars_none hV
  simp only [List.append_nil] at hW0 hfz hnd
  obtain ⟨us, hs, hc⟩ := shpA_of (φ := fun _ => none) K hz n _ _ _ _ hT hp (fun j t v hj hvj => Value.okWide_any_base (hval j t v (by simpa using hj) (by simpa using hvj))) hA
  have hcall := (law us hs).2 (fun _ => False) W (fun _ => none) args.toList (rh_nilG (hG W args hXW)) hc
  simp only [Array.toArray_toList] at hcall
  refine (hcall.calls (room_FW none)).mono ?_
  rintro e W' ⟨y, φ', v, h', rfl, rfl, hcn, _, he⟩
  simp only [Cn] at hcn
  subst hcn
  refine ⟨_, rfl, ?_⟩
  have hsame : ∀ b, b < W.heap.size → W'.heap[b]? = W.heap[b]? := fun b hb => same_of_ext he hb
  have hlt : ∀ x ∈ p, x.block < W.heap.size := fun x hx => hW0.lt x hx
  have hargs : ∀ sp : Nat → Bool, (∀ x ∈ p, sp x.block = true) → DataW.TrodAll enc C.prog W' 0 sp true fn.params.toList args.toList ds p := fun sp hsp' =>
    trodAll_carry (DataW.TrodAll.respare K hz hT hA hsp') fun x hx => sameAt_of (hsame _ (hlt x hx))
  have hl := trodAll_length hA
  have hleft : s.fn H (ds ++ []) = { results := [.lit (.bool true)], args := ds } := by rw [List.append_nil]; exact hsp ds hl
  have hR : ∀ (b : Nat) (sp : Nat → Bool) (hd : Bool), DataW.TrodAll enc C.prog W' b sp hd fn.resultTypes.toList ((Value.bool true).resultList fn.resultTypes.size) [.lit (.bool true)] [] := by
    intro b sp hd
    rw [hres]
    exact trodAll_cons_mk (shut_bool htb true) rfl
  have hold : ∀ x ∈ p, (fun b => decide (b < W.heap.size)) x.block = true := fun x hx => by simpa using hlt x hx
  refine ⟨ds, [], p, [], p, [], hW0, ?_, ?_, ?_, World.keptBut_mono (fun _ h => h.elim) (keptBut_of hsame he.os he.output), fun _ => ⟨?_, ?_⟩⟩
  · rw [hleft]; exact hR _ _ _
  · rw [hleft]; exact hargs _ hold
  · rw [hleft, hv]; rfl
  · exact ok_one hres rfl (okWide_bool_mk htb true)
  · refine ⟨_, [], ([] ++ p) ++ [], ⟨[] ++ p, [], trodAll_append (hargs _ (fun _ _ => rfl)) (hR _ _ _), ?_, by simp, ?_, ?_⟩, ?_⟩
    · rw [hv]; rfl
    · intro b off hpb
      have hpb' : MemPlace.cell b off ∈ p := by simpa using hpb
      have := hfz b off hpb'
      rw [← this]
      simp only [World.frozen?]
      rw [hsame b (hlt _ hpb')]
    · intro ha; simpa using hnd ha
    · intro x hx _; simpa using hx
end Go.Vm
