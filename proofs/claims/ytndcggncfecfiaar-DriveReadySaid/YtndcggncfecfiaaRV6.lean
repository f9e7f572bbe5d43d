/- A walk of the model's code on logical values, with its proofs: part 6. No condition. -/
import Derived.Test.YtndcggncfecfiaaRV5
set_option linter.unusedSimpArgs false
set_option linter.unusedVariables false
namespace Go.Vm
open Go Go.RowKit
variable {P : Program} {G : Addr → Option Value} {h : List Blk} {m : Nat} {v : V} {K : V → List Blk → Prop}
/-- Some blocks alone are handed back, the first ones as they are numbered. -/
theorem exitV.some (is : List Nat) (small : List Blk) (v2 : V) (hv : v = v2.ren (rho is 0)) (hm : m ≤ is.length) (h0 : ∀ i, i < m → rho is 0 i = i) (him : imL h (rho is 0) is small) (nd : is.Nodup)
    (dm : ∀ k ∈ small, k.dm = true) (cl : ∀ k ∈ small, k.ok (· < small.length)) (ok : v2.ok (· < small.length)) (k : K v2 small) : exitV G m h v K := by
  have hl := imL_len him
  refine exitV.drop small (rho is 0) v2 hv (by omega) h0 ?_ ?_ dm cl ok k
  · intro i j hi hj e
    simp only [rho, List.getElem?_eq_getElem (show i < is.length by omega), List.getElem?_eq_getElem (show j < is.length by omega)] at e
    exact idx_inj nd (List.getElem?_eq_getElem (by omega)) (by rw [List.getElem?_eq_getElem (by omega), e])
  · intro i b hb
    have hi := (List.getElem?_eq_some_iff.1 hb).1
    have := imL_at him (k := i) (i := is[i]'(by omega)) (b := b) (List.getElem?_eq_getElem (by omega)) hb
    rw [this.symm]
    simp [rho, List.getElem?_eq_getElem (show i < is.length by omega)]
/-- The same, with a result that knows no blocks. -/
theorem exitV.some' (is : List Nat) (small : List Blk) (hf : v.ok (fun _ => False)) (hm : m ≤ is.length) (h0 : ∀ i, i < m → rho is 0 i = i) (him : imL h (rho is 0) is small) (nd : is.Nodup)
    (dm : ∀ k ∈ small, k.dm = true) (cl : ∀ k ∈ small, k.ok (· < small.length)) (k : K v small) : exitV G m h v K :=
  exitV.some is small v (V.ren_same (p := fun _ => False) (fun _ h => h.elim) hf).symm hm h0 him nd dm cl (V.ok_mono (fun _ h => h.elim) hf) k
end Go.Vm
