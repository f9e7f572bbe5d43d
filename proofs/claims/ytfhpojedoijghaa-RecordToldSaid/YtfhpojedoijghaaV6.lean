/- A walk of the model's code on logical values, with its proofs: part 6. No condition. -/
import Derived.Test.YtfhpojedoijghaaV5
set_option linter.unusedSimpArgs false
set_option linter.unusedVariables false
namespace Go.Vm
open Go Go.RowKit
variable {P : Program} {G : Addr → Option Value} {h : List Blk} {m : Nat} {v : V} {K : V → List Blk → Prop}
/-- Some blocks alone are handed back, the first ones as they are numbered. -/
theorem exitV.some (is : List Nat) (small : List Blk) (v2 : V) (hv : v = v2.ren (rho is 0)) (hm : m ≤ is.length) (h0 : ∀ i, i < m → rho is 0 i = i) (him : imL h (rho is 0) is small) (nd : is.Nodup)
    (dm : ∀ k ∈ small, k.dm = true) (cl : ∀ k ∈ small, k.ok (· < small.length)) (ok : v2.ok (· < small.length)) (k : K v2 small) : exitV G m h v K := by
  have hl := imL_len him
  refine exitV.drop small (rho is 0) v2 hv (by omega) h0 ?_ ?_ dm cl ok k
  · intro i j hi hj e
    simp only [rho, List.getElem?_eq_getElem (show i < is.length by omega), List.getElem?_eq_getElem (show j < is.length by omega)] at e
    exact idx_inj nd (List.getElem?_eq_getElem (by omega)) (by rw [List.getElem?_eq_getElem (by omega), e])
  · intro i b hb
    have hi := (List.getElem?_eq_some_iff.1 hb).1
    have := imL_at him (k := i) (i := is[i]'(by omega)) (b := b) (List.getElem?_eq_getElem (by omega)) hb
    rw [this.symm]
    simp [rho, List.getElem?_eq_getElem (show i < is.length by omega)]
/-- The same, with a result that knows no blocks. -/
theorem exitV.some' (is : List Nat) (small : List Blk) (hf : v.ok (fun _ => False)) (hm : m ≤ is.length) (h0 : ∀ i, i < m → rho is 0 i = i) (him : imL h (rho is 0) is small) (nd : is.Nodup)
    (dm : ∀ k ∈ small, k.dm = true) (cl : ∀ k ∈ small, k.ok (· < small.length)) (k : K v small) : exitV G m h v K :=
  exitV.some is small v (V.ren_same (p := fun _ => False) (fun _ h => h.elim) hf).symm hm h0 him nd dm cl (V.ok_mono (fun _ h => h.elim) hf) k
end Go.Vm
namespace Go.Vm
open Go Go.RowKit
variable {G : Addr → Option Value} {h : List Blk} {m : Nat} {v : V} {K : V → List Blk → Prop}
/-- What is handed back, seen otherwise. -/
theorem exitV.see (v' : V) (hw : ∀ (e : En) (y : Value), Cn e v y → Cn e v' y) (k : exitV G m h v' K) : exitV G m h v K :=
  fun F w φ y e0 r hc hb => k F w φ y e0 r (hw _ _ hc) hb
theorem renT_same {ρ : Nat → Nat} {p : Nat → Prop} {env : Nat → Option V} (he : okT p env) (hp : ∀ i, p i → ρ i = i) : renT ρ env = env := by
  funext k
  simp only [renT]
  cases h : env k with
  | none => rfl
  | some v => simp [V.ren_same hp (he k v h)]
theorem okT_mono {p q : Nat → Prop} {env : Nat → Option V} (he : okT p env) (hp : ∀ i, p i → q i) : okT q env := fun k v h => V.ok_mono hp (he k v h)
theorem okT_get {p : Nat → Prop} {t : List (Nat × V)} (ht : allT (fun v => v.ok p) t) : okT p (get t) := fun _ _ h => allT_get ht h
end Go.Vm

namespace Go.Vm
open Go Go.RowKit
variable {P : Program} {G : Addr → Option Value}
/-- A block is lent: it is read alone in a call that hands back a plain value. -/
theorem Ct.lend {f : FuncId} {as : List V} {t : TypeId} {cs : List V} {g : Bool} {x : Value} (hf : fitsL 0 cs.length g as) (ok : okL (fun _ => False) (frzL 0 cs g as)) (c : Ct P G f (frzL 0 cs g as) [] (.c x) []) :
    Ct P G f as [.cells t cs] (.c x) [.cells t cs] := by
  refine ⟨c.1, fun F w φ xs r hx => ?_⟩
  have cold := cold_of r (i := 0) rfl
  have hx' := CnL.frz cold hf hx
  have c2 : CallV P G f (frzL 0 cs g as) [.gone] (fun v h' => v = .c x ∧ h' = [.gone]) := (CallD.pure c ok ⟨rfl, rfl⟩).callV
  refine (c2.2 F w φ xs (set_gone r (i := 0) rfl rfl).1 hx').mono ?_
  rintro e w' ⟨y, φ1, v, h', rfl, ⟨rfl, rfl⟩, h1, h2, h3⟩
  have nobody : ∀ b, ¬ owned φ [.gone] b := by
    rintro b ⟨i, s, k, hk, hl, _⟩
    match i, hk with
    | 0, hk => simp at hk; subst hk; cases hl
  have same : ∀ b, b < w.heap.size → w'.heap[b]? = w.heap[b]? := fun b hb => h3.frame b hb (nobody b)
  have E : Ext (en F w φ [.cells t cs]) (en F w' φ [.cells t cs]) :=
    ⟨fun _ h => .inl h, fun _ h => h, fun _ _ => rfl, fun b hb _ => same b hb, fun _ _ h => h, fun _ _ h => h, h3.shape, h3.size, h3.os, h3.tape, h3.output⟩
  refine ⟨y, φ, .c x, [.cells t cs], rfl, ⟨rfl, rfl⟩, h1, ⟨?_, r.inj, ?_, ?_, ?_⟩, E⟩
  · intro i k hk
    match i, hk with
    | 0, hk =>
      simp at hk; subst hk
      exact RepB.keep E ⟨_, rfl, rfl⟩ (fun b s hb => same b (r.lt 0 _ b s rfl rfl hb)) (r.rep 0 _ rfl)
  · intro i k b s hk hl hb
    exact Nat.lt_of_lt_of_le (r.lt i k b s hk hl hb) h3.size
  · intro a z ha
    obtain ⟨k1, k2, k3, k4⟩ := h2.glob a z ha
    obtain ⟨j1, j2, j3, j4⟩ := r.glob a z ha
    exact ⟨k1, k2, j3, j4⟩
  · intro b hb
    exact ⟨(h2.flt b hb).1, (r.flt b hb).2⟩
end Go.Vm
