/- A walk of the model's code on logical values, with its proofs: part 5. No condition. -/
import Derived.Test.YtofdhldillmbdaaV4
set_option linter.unusedSimpArgs false
set_option linter.unusedVariables false
namespace Go.Vm
open Go Go.RowKit
variable {P : Program} {G : Addr → Option Value} {F : Nat → Prop} {w : World} {φ : Nat → Option (Nat × Nat)} {h : List Blk} {n m : Nat} {s : St} {X : St → Prop} {v : V} {K : V → List Blk → Prop}

/-- Fewer blocks, under other numbers. -/
theorem Wk.drop (small : List Blk) (ρ : Nat → Nat) (t2 : List (Nat × V)) (d2 : List Nat) (ht : ∀ k v, get t2 k = some v → get s.t k = some (v.ren ρ)) (hd : s.d = d2.map ρ) (hdl : ∀ i ∈ d2, i < small.length)
    (hl : m ≤ small.length) (h0 : ∀ i, i < m → ρ i = i) (inj : ∀ i j, i < small.length → j < small.length → ρ i = ρ j → i = j)
    (im : ∀ (i : Nat) (k : Blk), small[i]? = some k → s.h[ρ i]? = some (k.ren ρ)) (dm : ∀ k ∈ small, k.dm = true) (cl : ∀ k ∈ small, k.ok (· < small.length)) (ok : allT (fun v => v.ok (· < small.length)) t2)
    (k : Wk G n m { t := t2, d := d2, h := small } X) : Wk G n m s X := by
  intro F w φ a e0 ra hb
  have dom : ∀ i, i < small.length → (en F w (fun i => φ (ρ i)) small).dom i := fun i hi => ⟨small[i], List.getElem?_eq_getElem hi, dm _ (List.getElem_mem hi)⟩
  have ow : ∀ b, owned (fun i => φ (ρ i)) small b → owned φ s.h b := by
    rintro b ⟨i, q, k, hk, hl, hf⟩
    exact ⟨ρ i, q, k.ren ρ, im i k hk, by rw [Blk.live_ren]; exact hl, hf⟩
  obtain ⟨r', un⟩ := RH.un (F' := F) (small := small) ra.heap (fun i k hk _ => im i k hk) (fun i k hk => Blk.ok_mono dom (cl k (List.mem_of_getElem? hk))) inj (fun _ h => h) (fun _ h => .inl h)
    (fun b hb ho => (ra.heap.flt b hb).2 (ow b ho))
  refine k F w (fun i => φ (ρ i)) a e0 ⟨r', ?_, ?_, fun i hi => dom i (hdl i hi), ra.size⟩ ?_
  · intro d v hv
    obtain ⟨x, hx, hc⟩ := ra.env d _ (ht d v hv)
    exact ⟨x, hx, Cn.un un (V.ok_mono dom (allT_get ok hv)) hc⟩
  · rw [ra.defs, hd, List.map_map]; rfl
  · refine ⟨?_, hb.2⟩
    have e := hb.1
    refine ⟨e.sub, fun i hi => dom i (Nat.lt_of_lt_of_le (hb.2 i hi) hl), fun i hi => ?_, e.frame, fun b hs hm ho => e.mine b hs hm (ow b ho), fun b hs hm ho => e.own b hs hm (ho.imp (ow b) id), e.shape, e.size, e.os, e.tape, e.output⟩
    have := e.agree i hi
    simp only [en] at this ⊢
    rw [h0 i (hb.2 i hi)]; exact this

/-- Each of these is there, under its other number. -/
def subR (ρ : Nat → Nat) : List (Nat × V) → List (Nat × V) → Prop
  | [], _ => True
  | (k, v) :: t2, t => get t k = some (v.ren ρ) ∧ subR ρ t2 t
theorem subR_get {ρ : Nat → Nat} : ∀ {t2 t : List (Nat × V)}, subR ρ t2 t → ∀ k v, get t2 k = some v → get t k = some (v.ren ρ)
  | [], _, _, k, v, h => by simp [get] at h
  | (d, u) :: t2, t, hs, k, v, h => by
    simp only [subR] at hs
    simp only [get] at h
    split at h
    · cases h; subst_vars; exact hs.1
    · exact subR_get hs.2 k v h
attribute [simp] subR
/-- One block alone is kept. -/
theorem Wk.one (b : Blk) (q : Nat) (t2 : List (Nat × V)) (hd : s.d = []) (hb : s.h[q]? = some (b.ren fun _ => q)) (hdm : b.dm = true) (cl : b.ok (· < 1)) (ht : subR (fun _ => q) t2 s.t) (ok : allT (fun v => v.ok (· < 1)) t2)
    (k : Wk G n 0 { t := t2, d := [], h := [b] } X) : Wk G n 0 s X := by
  refine Wk.drop [b] (fun _ => q) t2 [] (subR_get ht) hd (by simp) (by simp) (fun _ h => by omega) (fun i j h1 h2 _ => by simp at h1 h2; omega) ?_ (by simpa using hdm) (by simpa using cl) (by simpa using ok) k
  intro i k hk
  cases i with
  | zero => simp at hk; subst hk; exact hb
  | succ i => simp at hk

theorem cn_roNil {e : En} {z : Nat} {y : Value} (h : Cn e (.c (.slice none 0 0)) y) : Cn e (.ro z []) y := by
  simp only [Cn] at h ⊢
  subst h
  exact ⟨none, 0, rfl, by simp, .inl trivial⟩
/-- Nil, seen as a slice that is read alone. -/
theorem exitV.roNil (z : Nat) (k : exitV G m h (.ro z []) K) : exitV G m h (.c (.slice none 0 0)) K :=
  fun F w φ y e0 r hc hb => k F w φ y e0 r (cn_roNil hc) hb
theorem Wk.roNil (d z : Nat) (hd : get s.t d = some (.c (.slice none 0 0))) (k : Wk G n m { s with t := (d, .ro z []) :: s.t } X) : Wk G n m s X := by
  intro F w φ a e0 ra hb
  refine k F w φ a e0 ⟨ra.heap, ?_, ra.defs, ra.dlt, ra.size⟩ hb
  intro q v hv
  simp only [get] at hv
  split at hv
  · cases hv
    obtain ⟨x, hx, hc⟩ := ra.env d _ hd
    rename_i hq
    rw [hq]
    exact ⟨x, hx, cn_roNil hc⟩
  · exact ra.env q v hv

theorem nil_block {e0 : En} (t : TypeId) (r : RH G F w φ h) (hb : Base m e0 (en F w φ h)) : RH G F w (upd φ h.length none) (h ++ [.cells t []]) ∧ Base m e0 (en F w (upd φ h.length none) (h ++ [.cells t []])) ∧
    Ext (en F w φ h) (en F w (upd φ h.length none) (h ++ [.cells t []])) := by
  have own : ∀ b, owned (upd φ h.length none) (h ++ [.cells t []]) b → owned φ h b := by
    rintro b ⟨i, q, k, hk, hl, hf⟩
    rcases Nat.lt_or_ge i h.length with hi | hi
    · rw [List.getElem?_append_left hi] at hk
      rw [upd_other (by omega)] at hf
      exact ⟨i, q, k, hk, hl, hf⟩
    · have : i = h.length := by
        have := (List.getElem?_eq_some_iff.1 hk).1
        simp at this; omega
      subst this
      rw [upd_same] at hf; cases hf
  have ext : Ext (en F w φ h) (en F w (upd φ h.length none) (h ++ [.cells t []])) :=
    ⟨fun _ h => .inl h, fun i hi => dom_push hi, fun i hi => upd_other (dom_ne hi), fun _ _ _ => rfl, fun b _ hm ho => hm (own b ho), fun b _ hm ho => hm (ho.imp (own b) id), fun _ _ => rfl, Nat.le_refl _, rfl, rfl, rfl⟩
  have split : ∀ {i : Nat} {k : Blk}, (h ++ [Blk.cells t []])[i]? = some k → (i = h.length ∧ k = .cells t []) ∨ (i ≠ h.length ∧ h[i]? = some k) := by
    intro i k hk
    rcases Nat.lt_or_ge i h.length with hi | hi
    · rw [List.getElem?_append_left hi] at hk; exact .inr ⟨by omega, hk⟩
    · have : i = h.length := by
        have := (List.getElem?_eq_some_iff.1 hk).1
        simp at this; omega
      subst this; simp at hk; exact .inl ⟨rfl, hk.symm⟩
  refine ⟨⟨?_, ?_, ?_, ?_, ?_⟩, hb.ext ext, ext⟩
  · intro i k hk
    rcases split hk with ⟨rfl, rfl⟩ | ⟨hi, hk⟩
    · exact .inl ⟨upd_same .., rfl⟩
    · by_cases hdk : k.dm = true
      · exact RepB.keep ext ⟨k, hk, hdk⟩ (fun _ _ _ => rfl) (r.rep i k hk)
      · cases k <;> simp [Blk.dm] at hdk; trivial
  · intro i j b q q' k k' hk hl hk' hl' hf hf'
    rcases split hk with ⟨rfl, rfl⟩ | ⟨hi, hk⟩
    · rw [upd_same] at hf; cases hf
    · rcases split hk' with ⟨rfl, rfl⟩ | ⟨hj, hk'⟩
      · rw [upd_same] at hf'; cases hf'
      · rw [upd_other hi] at hf
        rw [upd_other hj] at hf'
        exact r.inj i j b q q' k k' hk hl hk' hl' hf hf'
  · intro i k b q hk hl hf
    rcases split hk with ⟨rfl, rfl⟩ | ⟨hi, hk⟩
    · rw [upd_same] at hf; cases hf
    · rw [upd_other hi] at hf
      exact r.lt i k b q hk hl hf
  · intro a x ha
    obtain ⟨k1, k2, k3, k4⟩ := r.glob a x ha
    exact ⟨k1, k2, fun ho => k3 (own _ ho), k4⟩
  · intro b hb
    exact ⟨(r.flt b hb).1, fun ho => (r.flt b hb).2 (own _ ho)⟩
/-- Nil, seen as a slice of a block that has no cells. -/
theorem exitV.nil (z : Nat) (t : TypeId) (k : exitV G m (h ++ [.cells t []]) (.sl z h.length 0 0) K) : exitV G m h (.c (.slice none 0 0)) K := by
  intro F w φ y e0 r hc hb
  obtain ⟨r1, b1, e1⟩ := nil_block t r hb
  refine k F w (upd φ h.length none) y e0 r1 ?_ b1
  simp only [Cn] at hc ⊢
  subst hc
  exact ⟨⟨.cells t [], by simp, rfl⟩, .inl ⟨upd_same .., trivial, rfl⟩⟩
/-- One block alone goes along. -/
theorem exitV.one (b : Blk) (q : Nat) (v2 : V) (hv : v = v2.ren fun _ => q) (hb : h[q]? = some (b.ren fun _ => q)) (hdm : b.dm = true) (cl : b.ok (· < 1)) (ok : v2.ok (· < 1)) (k : K v2 [b]) : exitV G 0 h v K := by
  refine exitV.drop [b] (fun _ => q) v2 hv (by simp) (fun _ h => by omega) (fun i j h1 h2 _ => by simp at h1 h2; omega) ?_ (by simpa using hdm) (by simpa using cl) (by simpa using ok) k
  intro i k hk
  cases i with
  | zero => simp at hk; subst hk; exact hb
  | succ i => simp at hk
/-- A block is read alone from a call on. -/
theorem CallV.freeze {f : FuncId} {as : List V} (i : Nat) (t : TypeId) (cs : List V) (g : Bool) (hi : h[i]? = some (.cells t cs)) (hf : fitsL i cs.length g as) (k : CallV P G f (frzL i cs g as) (h.set i .gone) K) : CallV P G f as h K := by
  refine ⟨k.1, fun F w φ xs r hx => ?_⟩
  have c := cold_of r hi
  refine (k.2 F w φ xs (set_gone r hi rfl).1 (CnL.frz c hf hx)).mono ?_
  rintro e w' ⟨y, φ', v, h', he, hk, h1, h2, h3⟩
  exact ⟨y, φ', v, h', he, hk, h1, h2, c.ext.trans h3⟩
end Go.Vm
