/- A walk of the model's code on logical values, with its proofs: part 5. No condition. -/
import Derived.Test.YtnoigkdecjeilaaDoorV4
set_option linter.unusedSimpArgs false
set_option linter.unusedVariables false
namespace Go.Vm
open Go Go.RowKit
variable {P : Program} {G : Addr → Option Value} {F : Nat → Prop} {w : World} {φ : Nat → Option (Nat × Nat)} {h : List Blk} {n m : Nat} {s : St} {X : St → Prop} {v : V} {K : V → List Blk → Prop}

/-- Fewer blocks, under other numbers. -/
theorem Wk.drop (small : List Blk) (ρ : Nat → Nat) (t2 : List (Nat × V)) (d2 : List Nat) (ht : ∀ k v, get t2 k = some v → get s.t k = some (v.ren ρ)) (hd : s.d = d2.map ρ) (hdl : ∀ i ∈ d2, i < small.length)
    (hl : m ≤ small.length) (h0 : ∀ i, i < m → ρ i = i) (inj : ∀ i j, i < small.length → j < small.length → ρ i = ρ j → i = j)
    (im : ∀ (i : Nat) (k : Blk), small[i]? = some k → s.h[ρ i]? = some (k.ren ρ)) (dm : ∀ k ∈ small, k.dm = true) (cl : ∀ k ∈ small, k.ok (· < small.length)) (ok : allT (fun v => v.ok (· < small.length)) t2)
    (k : Wk G n m { t := t2, d := d2, h := small } X) : Wk G n m s X := by
  intro F w φ a e0 ra hb
  have dom : ∀ i, i < small.length → (en F w (fun i => φ (ρ i)) small).dom i := fun i hi => ⟨small[i], List.getElem?_eq_getElem hi, dm _ (List.getElem_mem hi)⟩
  have ow : ∀ b, owned (fun i => φ (ρ i)) small b → owned φ s.h b := by
    rintro b ⟨i, q, k, hk, hl, hf⟩
    exact ⟨ρ i, q, k.ren ρ, im i k hk, by rw [Blk.live_ren]; exact hl, hf⟩
  obtain ⟨r', un⟩ := RH.un (F' := F) (small := small) ra.heap (fun i k hk _ => im i k hk) (fun i k hk => Blk.ok_mono dom (cl k (List.mem_of_getElem? hk))) inj (fun _ h => h) (fun _ h => .inl h)
    (fun b hb ho => (ra.heap.flt b hb).2 (ow b ho))
  refine k F w (fun i => φ (ρ i)) a e0 ⟨r', ?_, ?_, fun i hi => dom i (hdl i hi), ra.size⟩ ?_
  · intro d v hv
    obtain ⟨x, hx, hc⟩ := ra.env d _ (ht d v hv)
    exact ⟨x, hx, Cn.un un (V.ok_mono dom (allT_get ok hv)) hc⟩
  · rw [ra.defs, hd, List.map_map]; rfl
  · refine ⟨?_, hb.2⟩
    have e := hb.1
    refine ⟨e.sub, fun i hi => dom i (Nat.lt_of_lt_of_le (hb.2 i hi) hl), fun i hi => ?_, e.frame, fun b hs hm ho => e.mine b hs hm (ow b ho), fun b hs hm ho => e.own b hs hm (ho.imp (ow b) id), e.shape, e.size, e.os, e.tape, e.output⟩
    have := e.agree i hi
    simp only [en] at this ⊢
    rw [h0 i (hb.2 i hi)]; exact this

/-- Each of these is there, under its other number. -/
def subR (ρ : Nat → Nat) : List (Nat × V) → List (Nat × V) → Prop
  | [], _ => True
  | (k, v) :: t2, t => get t k = some (v.ren ρ) ∧ subR ρ t2 t
theorem subR_get {ρ : Nat → Nat} : ∀ {t2 t : List (Nat × V)}, subR ρ t2 t → ∀ k v, get t2 k = some v → get t k = some (v.ren ρ)
  | [], _, _, k, v, h => by simp [get] at h
  | (d, u) :: t2, t, hs, k, v, h => by
    simp only [subR] at hs
    simp only [get] at h
    split at h
    · cases h; subst_vars; exact hs.1
    · exact subR_get hs.2 k v h
attribute [simp] subR
/-- One block alone is kept. -/
theorem Wk.one (b : Blk) (q : Nat) (t2 : List (Nat × V)) (hd : s.d = []) (hb : s.h[q]? = some (b.ren fun _ => q)) (hdm : b.dm = true) (cl : b.ok (· < 1)) (ht : subR (fun _ => q) t2 s.t) (ok : allT (fun v => v.ok (· < 1)) t2)
    (k : Wk G n 0 { t := t2, d := [], h := [b] } X) : Wk G n 0 s X := by
  refine Wk.drop [b] (fun _ => q) t2 [] (subR_get ht) hd (by simp) (by simp) (fun _ h => by omega) (fun i j h1 h2 _ => by simp at h1 h2; omega) ?_ (by simpa using hdm) (by simpa using cl) (by simpa using ok) k
  intro i k hk
  cases i with
  | zero => simp at hk; subst hk; exact hb
  | succ i => simp at hk

theorem cn_roNil {e : En} {z : Nat} {y : Value} (h : Cn e (.c (.slice none 0 0)) y) : Cn e (.ro z []) y := by
  simp only [Cn] at h ⊢
  subst h
  exact ⟨none, 0, rfl, by simp, .inl trivial⟩
/-- Nil, seen as a slice that is read alone. -/
theorem exitV.roNil (z : Nat) (k : exitV G m h (.ro z []) K) : exitV G m h (.c (.slice none 0 0)) K :=
  fun F w φ y e0 r hc hb => k F w φ y e0 r (cn_roNil hc) hb
theorem Wk.roNil (d z : Nat) (hd : get s.t d = some (.c (.slice none 0 0))) (k : Wk G n m { s with t := (d, .ro z []) :: s.t } X) : Wk G n m s X := by
  intro F w φ a e0 ra hb
  refine k F w φ a e0 ⟨ra.heap, ?_, ra.defs, ra.dlt, ra.size⟩ hb
  intro q v hv
  simp only [get] at hv
  split at hv
  · cases hv
    obtain ⟨x, hx, hc⟩ := ra.env d _ hd
    rename_i hq
    rw [hq]
    exact ⟨x, hx, cn_roNil hc⟩
  · exact ra.env q v hv

theorem nil_block {e0 : En} (t : TypeId) (r : RH G F w φ h) (hb : Base m e0 (en F w φ h)) : RH G F w (upd φ h.length none) (h ++ [.cells t []]) ∧ Base m e0 (en F w (upd φ h.length none) (h ++ [.cells t []])) ∧
    Ext (en F w φ h) (en F w (upd φ h.length none) (h ++ [.cells t []])) := by
  have own : ∀ b, owned (upd φ h.length none) (h ++ [.cells t []]) b → owned φ h b := by
    rintro b ⟨i, q, k, hk, hl, hf⟩
    rcases Nat.lt_or_ge i h.length with hi | hi
    · rw [List.getElem?_append_left hi] at hk
      rw [upd_other (by omega)] at hf
      exact ⟨i, q, k, hk, hl, hf⟩
    · have : i = h.length := by
        have := (List.getElem?_eq_some_iff.1 hk).1
        simp at this; omega
      subst this
      rw [upd_same] at hf; cases hf
  have ext : Ext (en F w φ h) (en F w (upd φ h.length none) (h ++ [.cells t []])) :=
    ⟨fun _ h => .inl h, fun i hi => dom_push hi, fun i hi => upd_other (dom_ne hi), fun _ _ _ => rfl, fun b _ hm ho => hm (own b ho), fun b _ hm ho => hm (ho.imp (own b) id), fun _ _ => rfl, Nat.le_refl _, rfl, rfl, rfl⟩
  have split : ∀ {i : Nat} {k : Blk}, (h ++ [Blk.cells t []])[i]? = some k → (i = h.length ∧ k = .cells t []) ∨ (i ≠ h.length ∧ h[i]? = some k) := by
    intro i k hk
    rcases Nat.lt_or_ge i h.length with hi | hi
    · rw [List.getElem?_append_left hi] at hk; exact .inr ⟨by omega, hk⟩
    · have : i = h.length := by
        have := (List.getElem?_eq_some_iff.1 hk).1
        simp at this; omega
      subst this; simp at hk; exact .inl ⟨rfl, hk.symm⟩
  refine ⟨⟨?_, ?_, ?_, ?_, ?_⟩, hb.ext ext, ext⟩
  · intro i k hk
    rcases split hk with ⟨rfl, rfl⟩ | ⟨hi, hk⟩
    · exact .inl ⟨upd_same .., rfl⟩
    · by_cases hdk : k.dm = true
      · exact RepB.keep ext ⟨k, hk, hdk⟩ (fun _ _ _ => rfl) (r.rep i k hk)
      · cases k <;> simp [Blk.dm] at hdk; trivial
  · intro i j b q q' k k' hk hl hk' hl' hf hf'
    rcases split hk with ⟨rfl, rfl⟩ | ⟨hi, hk⟩
    · rw [upd_same] at hf; cases hf
    · rcases split hk' with ⟨rfl, rfl⟩ | ⟨hj, hk'⟩
      · rw [upd_same] at hf'; cases hf'
      · rw [upd_other hi] at hf
        rw [upd_other hj] at hf'
        exact r.inj i j b q q' k k' hk hl hk' hl' hf hf'
  · intro i k b q hk hl hf
    rcases split hk with ⟨rfl, rfl⟩ | ⟨hi, hk⟩
    · rw [upd_same] at hf; cases hf
    · rw [upd_other hi] at hf
      exact r.lt i k b q hk hl hf
  · intro a x ha
    obtain ⟨k1, k2, k3, k4⟩ := r.glob a x ha
    exact ⟨k1, k2, fun ho => k3 (own _ ho), k4⟩
  · intro b hb
    exact ⟨(r.flt b hb).1, fun ho => (r.flt b hb).2 (own _ ho)⟩
/-- Nil, seen as a slice of a block that has no cells. -/
theorem exitV.nil (z : Nat) (t : TypeId) (k : exitV G m (h ++ [.cells t []]) (.sl z h.length 0 0) K) : exitV G m h (.c (.slice none 0 0)) K := by
  intro F w φ y e0 r hc hb
  obtain ⟨r1, b1, e1⟩ := nil_block t r hb
  refine k F w (upd φ h.length none) y e0 r1 ?_ b1
  simp only [Cn] at hc ⊢
  subst hc
  exact ⟨⟨.cells t [], by simp, rfl⟩, .inl ⟨upd_same .., trivial, rfl⟩⟩
/-- One block alone goes along. -/
theorem exitV.one (b : Blk) (q : Nat) (v2 : V) (hv : v = v2.ren fun _ => q) (hb : h[q]? = some (b.ren fun _ => q)) (hdm : b.dm = true) (cl : b.ok (· < 1)) (ok : v2.ok (· < 1)) (k : K v2 [b]) : exitV G 0 h v K := by
  refine exitV.drop [b] (fun _ => q) v2 hv (by simp) (fun _ h => by omega) (fun i j h1 h2 _ => by simp at h1 h2; omega) ?_ (by simpa using hdm) (by simpa using cl) (by simpa using ok) k
  intro i k hk
  cases i with
  | zero => simp at hk; subst hk; exact hb
  | succ i => simp at hk
/-- A block is read alone from a call on. -/
theorem CallV.freeze {f : FuncId} {as : List V} (i : Nat) (t : TypeId) (cs : List V) (g : Bool) (hi : h[i]? = some (.cells t cs)) (hf : fitsL i cs.length g as) (k : CallV P G f (frzL i cs g as) (h.set i .gone) K) : CallV P G f as h K := by
  refine ⟨k.1, fun F w φ xs r hx => ?_⟩
  have c := cold_of r hi
  refine (k.2 F w φ xs (set_gone r hi rfl).1 (CnL.frz c hf hx)).mono ?_
  rintro e w' ⟨y, φ', v, h', he, hk, h1, h2, h3⟩
  exact ⟨y, φ', v, h', he, hk, h1, h2, c.ext.trans h3⟩
end Go.Vm
namespace Go.Vm
open Go Go.RowKit
variable {P : Program} {G : Addr → Option Value} {h : List Blk}
/-! ### A call that knows some blocks -/
def imL (h : List Blk) (ρ : Nat → Nat) : List Nat → List Blk → Prop
  | [], [] => True
  | i :: is, b :: bs => h[i]? = some (b.ren ρ) ∧ imL h ρ is bs
  | _, _ => False
def keptL (wr : List Nat) : List Nat → List Blk → List Blk → Prop
  | [], [], [] => True
  | i :: is, b :: bs, b' :: bs' => (i ∈ wr ∨ b' = b) ∧ keptL wr is bs bs'
  | _, _, _ => False
def setL (h : List Blk) : List Nat → List Blk → List Blk
  | i :: is, b :: bs => setL (h.set i b) is bs
  | _, _ => h
def rho (is : List Nat) (n : Nat) (k : Nat) : Nat := match is[k]? with
  | some i => i
  | none => n + (k - is.length)
theorem setL_length : ∀ (h : List Blk) (is : List Nat) (bs : List Blk), (setL h is bs).length = h.length
  | _, [], [] => rfl
  | _, [], _ :: _ => rfl
  | _, _ :: _, [] => rfl
  | h, i :: is, b :: bs => by simp only [setL]; rw [setL_length]; simp
theorem setL_other {j : Nat} : ∀ (h : List Blk) (is : List Nat) (bs : List Blk), j ∉ is → (setL h is bs)[j]? = h[j]?
  | _, [], [], _ => rfl
  | _, [], _ :: _, _ => rfl
  | _, _ :: _, [], _ => rfl
  | h, i :: is, b :: bs, hj => by
    simp only [List.mem_cons, not_or] at hj
    simp only [setL]
    rw [setL_other _ is bs hj.2, List.getElem?_set_ne (fun e => hj.1 e.symm)]
theorem setL_at : ∀ (h : List Blk) (is : List Nat) (bs : List Blk) (k : Nat) (i : Nat) (b : Blk), is.Nodup → (∀ i ∈ is, i < h.length) → is[k]? = some i → bs[k]? = some b → (setL h is bs)[i]? = some b
  | _, [], _, k, _, _, _, _, hi, _ => by simp at hi
  | _, _ :: _, [], k, _, _, _, _, _, hb => by simp at hb
  | h, j :: is, c :: bs, 0, i, b, nd, hl, hi, hb => by
    simp at hi hb; subst hi; subst hb
    simp only [setL]
    rw [setL_other _ _ _ (List.nodup_cons.1 nd).1]
    exact List.getElem?_set_self (hl _ (by simp))
  | h, j :: is, c :: bs, k + 1, i, b, nd, hl, hi, hb => by
    simp at hi hb
    simp only [setL]
    exact setL_at _ is bs k i b (List.nodup_cons.1 nd).2 (fun i h => by simpa using hl i (by simp [h])) hi hb
theorem imL_len {ρ : Nat → Nat} : ∀ {is : List Nat} {bs : List Blk}, imL h ρ is bs → is.length = bs.length
  | [], [], _ => rfl
  | _ :: is, _ :: bs, k => by simp only [imL] at k; simp [imL_len k.2]
  | [], _ :: _, k => k.elim
  | _ :: _, [], k => k.elim
theorem imL_at {ρ : Nat → Nat} : ∀ {is : List Nat} {bs : List Blk} {k i : Nat} {b : Blk}, imL h ρ is bs → is[k]? = some i → bs[k]? = some b → h[i]? = some (b.ren ρ)
  | [], _, _, _, _, _, hi, _ => by simp at hi
  | _ :: _, [], _, _, _, hk, _, _ => hk.elim
  | j :: is, c :: bs, 0, i, b, hk, hi, hb => by simp at hi hb; subst hi; subst hb; exact hk.1
  | j :: is, c :: bs, k + 1, i, b, hk, hi, hb => by simp at hi hb; exact imL_at hk.2 hi hb
theorem keptL_len {wr : List Nat} : ∀ {is : List Nat} {bs bs' : List Blk}, keptL wr is bs bs' → is.length = bs.length ∧ bs'.length = bs.length
  | [], [], [], _ => ⟨rfl, rfl⟩
  | _ :: is, _ :: bs, _ :: bs', k => by simp only [keptL] at k; have := keptL_len k.2; simp [this]
  | [], [], _ :: _, k => k.elim
  | [], _ :: _, _, k => k.elim
  | _ :: _, [], _, k => k.elim
  | _ :: _, _ :: _, [], k => k.elim
theorem keptL_at {wr : List Nat} : ∀ {is : List Nat} {bs bs' : List Blk} {k i : Nat}, keptL wr is bs bs' → is[k]? = some i → i ∈ wr ∨ bs'[k]? = bs[k]?
  | [], _, _, _, _, _, hi => by simp at hi
  | _ :: _, [], _, _, _, hk, _ => hk.elim
  | _ :: _, _ :: _, [], _, _, hk, _ => hk.elim
  | j :: is, c :: bs, d :: bs', 0, i, hk, hi => by simp at hi; subst hi; exact hk.1.imp id fun e => by simp [e]
  | j :: is, c :: bs, d :: bs', k + 1, i, hk, hi => by simp at hi; simpa using keptL_at hk.2 hi
attribute [simp] imL keptL setL
theorem idx_inj {is : List Nat} (nd : is.Nodup) {i j x : Nat} (hi : is[i]? = some x) (hj : is[j]? = some x) : i = j := by
  obtain ⟨h1, e1⟩ := List.getElem?_eq_some_iff.1 hi
  obtain ⟨h2, e2⟩ := List.getElem?_eq_some_iff.1 hj
  rcases Nat.lt_trichotomy i j with h | h | h
  · exact absurd (e1.trans e2.symm) (List.pairwise_iff_getElem.1 nd i j h1 h2 h)
  · exact h
  · exact absurd (e2.trans e1.symm) (List.pairwise_iff_getElem.1 nd j i h2 h1 h)
/-- One that knows some blocks (is), changes those of wr, and makes new ones. -/
theorem CallD.many {f : FuncId} {as xs : List V} {v : V} {bs bs' nw : List Blk} {K : V → List Blk → List Nat → List Nat → Prop} (is wr : List Nat) (c : Ct P G f as bs v (bs' ++ nw))
    (him : imL h (rho is h.length) is bs) (hk : keptL wr is bs bs') (nd : is.Nodup) (hw : ∀ j ∈ wr, j ∈ is) (dm : ∀ b ∈ bs, b.dm = true) (cl : ∀ b ∈ bs, b.ok (· < bs.length)) (ok : okL (· < bs.length) as)
    (hx : xs = renL (rho is h.length) as) (k : K (v.ren (rho is h.length)) (setL h is (bs'.map (Blk.ren (rho is h.length))) ++ nw.map (Blk.ren (rho is h.length))) is wr) : CallD P G f xs h K := by
  obtain ⟨l1, l2⟩ := keptL_len hk
  have ilt : ∀ i ∈ is, i < h.length := by
    intro i hi
    obtain ⟨q, hq, e⟩ := List.getElem_of_mem hi
    have := imL_at him (k := q) (i := i) (b := bs[q]'(by omega)) (by rw [List.getElem?_eq_getElem hq, e]) (List.getElem?_eq_getElem _)
    exact (List.getElem?_eq_some_iff.1 this).1
  have rho_lt : ∀ q, (hq : q < is.length) → rho is h.length q = is[q] := fun q hq => by simp [rho, List.getElem?_eq_getElem hq]
  have rho_ge : ∀ q, is.length ≤ q → rho is h.length q = h.length + (q - is.length) := fun q hq => by simp [rho, List.getElem?_eq_none hq]
  refine ⟨as, bs, v, bs' ++ nw, rho is h.length, rho is h.length, _, is, wr, c, ok, hx, ⟨⟨?_, ?_, dm, cl⟩, by simp; omega, fun _ _ => rfl, ?_, ?_, ?_, ?_, ilt, ?_, ?_⟩, k⟩
  · intro i b hb
    have hi : i < is.length := by have := (List.getElem?_eq_some_iff.1 hb).1; omega
    rw [rho_lt i hi]
    exact imL_at him (List.getElem?_eq_getElem hi) hb
  · intro i j hi hj e
    rw [rho_lt i (by omega), rho_lt j (by omega)] at e
    exact idx_inj nd (x := is[j]'(by omega)) (by rw [List.getElem?_eq_getElem (by omega), e]) (List.getElem?_eq_getElem (by omega))
  · intro i h1 h2
    rw [rho_ge i (by omega), l1]
  · simp [setL_length]; omega
  · intro i b hb
    rcases Nat.lt_or_ge i bs'.length with hi | hi
    · rw [List.getElem?_append_left hi] at hb
      rw [rho_lt i (by omega), List.getElem?_append_left (by rw [setL_length]; exact ilt _ (List.getElem_mem _))]
      exact setL_at _ _ _ i _ _ nd ilt (List.getElem?_eq_getElem (by omega)) (by rw [List.getElem?_map, hb]; rfl)
    · rw [List.getElem?_append_right hi] at hb
      rw [rho_ge i (by omega), List.getElem?_append_right (by rw [setL_length]; omega), setL_length]
      have e : h.length + (i - is.length) - h.length = i - bs'.length := by omega
      rw [e, List.getElem?_map, hb]; rfl
  · intro i hi
    rw [rho_lt i (by omega)]; exact List.getElem_mem _
  · intro j hj
    obtain ⟨q, hq, e⟩ := List.getElem_of_mem (hw j hj)
    exact ⟨q, by omega, by rw [rho_lt q hq, e]⟩
  · intro j hj hn
    rw [List.getElem?_append_left (by rw [setL_length]; exact hj)]
    by_cases hin : j ∈ is
    · obtain ⟨q, hq, e⟩ := List.getElem_of_mem hin
      have hi : is[q]? = some j := by rw [List.getElem?_eq_getElem hq, e]
      rcases keptL_at hk hi with h' | h'
      · exact absurd h' hn
      · have hb : bs[q]? = some (bs[q]'(by omega)) := List.getElem?_eq_getElem _
        rw [setL_at _ _ _ q j ((bs[q]'(by omega)).ren (rho is h.length)) nd ilt hi (by rw [List.getElem?_map, h', hb]; rfl), imL_at him hi hb]
    · exact setL_other _ _ _ hin
end Go.Vm

namespace Go
section
variable {P : Program} {b : Frame} {a : Act} {k : List Item} {cs : List Frame} {w : World}
theorem stepR_scope {c : Code} : step P (lone (b.atR a (.code (.scope c) :: k)) cs w) = .next (lone (b.atR a (.code c :: .inScope c :: k)) cs w) :=
  step_lone_go (by simp [stepG, stepG.exec, Frame.atR])
theorem stepR_inScope {c : Code} : step P (lone (b.atR a (.inScope c :: k)) cs w) = .next (lone (b.atR a k) cs w) :=
  step_lone_go (by simp [stepG, stepG.exec, Frame.atR])
end
end Go
namespace Go.Vm
open Go Go.RowKit
variable {P : Program} {G : Addr → Option Value} {r : Option Nat} {n m : Nat} {s : St} {Q : Exit → St → Prop}

/-- Where a jump within a scope goes on. -/
def sQ (c : Code) (J : Nat → St → Prop) (Q : Exit → St → Prop) : Exit → St → Prop
  | .goto l, s => match findLabel c l with
    | some _ => J l s
    | none => Q (.goto l) s
  | e, s => Q e s
theorem T.scope {c : Code} (J : Nat → Nat → St → Prop) (first : T P G r n m c s (sQ c (fun l s' => ∃ k, J l k s') Q))
    (pass : ∀ l rest k s, findLabel c l = some rest → J l k s → T P G r n m rest s (sQ c (fun l' s' => ∃ k', k' < k ∧ J l' k' s') Q)) : T P G r n m (.scope c) s Q := by
  intro F w φ a e0 rp hr ra hbs b k cs hro hfn hroom
  have go : ∀ {J' : Nat → St → Prop} {code : Code} {s : St} {φ : Nat → Option (Nat × Nat)} {a : Act} {w : World}, T P G r n m code s (sQ c J' Q) → At G F w φ n s a → Base m e0 (en F w φ s.h) →
      (∀ l rest s' φ' a' w', findLabel c l = some rest → J' l s' → At G F w' φ' n s' a' → Base m e0 (en F w' φ' s'.h) →
        ∃ e a2 w2, (∃ s2 φ2, Q e s2 ∧ At G F w2 φ2 n s2 a2 ∧ Base m e0 (en F w2 φ2 s2.h)) ∧ ArrivesIn (Machine.fenced P (FW rp)) P (lone (b.atR a' (.code rest :: .inScope c :: k)) cs w') b k cs e a2 w2) →
      ∃ e a2 w2, (∃ s2 φ2, Q e s2 ∧ At G F w2 φ2 n s2 a2 ∧ Base m e0 (en F w2 φ2 s2.h)) ∧ ArrivesIn (Machine.fenced P (FW rp)) P (lone (b.atR a (.code code :: .inScope c :: k)) cs w) b k cs e a2 w2 := by
    intro J' code s φ a w ht ra hbs next
    obtain ⟨e, a1, w1, ⟨s1, φ1, hq, ra1, hb1⟩, harr⟩ := ht F w φ a e0 rp hr ra hbs b (.inScope c :: k) cs hro hfn hroom
    have ex : ∀ id, exitTo id (.inScope c :: k) = exitTo id k := fun id => by simp [exitTo]
    cases e with
    | normal => exact ⟨.normal, a1, w1, ⟨s1, φ1, hq, ra1, hb1⟩, StepsIn.trans harr (.one (fenced_calm hfn hroom rfl) stepR_inScope)⟩
    | exit id => exact ⟨.exit id, a1, w1, ⟨s1, φ1, hq, ra1, hb1⟩, fun k' hk => harr.1 k' (by rw [ex]; exact hk), fun h1 h2 => harr.2 h1 (by rw [ex]; exact h2)⟩
    | goto l =>
      cases hf : findLabel c l with
      | some rest =>
        simp only [sQ, hf] at hq
        obtain ⟨e2, a2, w2, h2, harr2⟩ := next l rest s1 φ1 a1 w1 hf hq ra1 hb1
        exact ⟨e2, a2, w2, h2, .of_steps (harr.1 _ (by simp [gotoIn, hf])) harr2⟩
      | none =>
        simp only [sQ, hf] at hq
        have gx : gotoIn l (.inScope c :: k) = gotoIn l k := by simp [gotoIn, hf]
        exact ⟨.goto l, a1, w1, ⟨s1, φ1, hq, ra1, hb1⟩, fun k' hk => harr.1 k' (by rw [gx]; exact hk), fun h1 h2 => harr.2 h1 (by rw [gx]; exact h2)⟩
    | ret => exact ⟨_, a1, w1, ⟨s1, φ1, hq, ra1, hb1⟩, harr⟩
    | panic ch => exact ⟨_, a1, w1, ⟨s1, φ1, hq, ra1, hb1⟩, harr⟩
    | outgrown => exact ⟨_, a1, w1, ⟨s1, φ1, hq, ra1, hb1⟩, harr⟩
  have key : ∀ (k0 : Nat) (l : Nat) (rest : Code) (s' : St) (φ' : Nat → Option (Nat × Nat)) (a' : Act) (w' : World), findLabel c l = some rest → J l k0 s' → At G F w' φ' n s' a' → Base m e0 (en F w' φ' s'.h) →
      ∃ e a2 w2, (∃ s2 φ2, Q e s2 ∧ At G F w2 φ2 n s2 a2 ∧ Base m e0 (en F w2 φ2 s2.h)) ∧ ArrivesIn (Machine.fenced P (FW rp)) P (lone (b.atR a' (.code rest :: .inScope c :: k)) cs w') b k cs e a2 w2 := by
    intro k0
    induction k0 using Nat.strongRecOn with
    | _ k0 ih =>
      intro l rest s' φ' a' w' hf hJ ra' hb'
      exact go (pass l rest k0 s' hf hJ) ra' hb' fun l2 rest2 s2 φ2 a2 w2 hf2 ⟨k2, hlt, hJ2⟩ ra2 hb2 => ih k2 hlt l2 rest2 s2 φ2 a2 w2 hf2 hJ2 ra2 hb2
  obtain ⟨e, a2, w2, h2, harr⟩ := go first ra hbs fun l rest s' φ' a' w' hf ⟨k0, hJ⟩ ra' hb' => key k0 l rest s' φ' a' w' hf hJ ra' hb'
  exact ⟨e, a2, w2, h2, .of_steps (.one (fenced_calm hfn hroom rfl) stepR_scope) harr⟩

def findI : IC → Nat → Option IC
  | .seq a b, l =>
    match findI a l with
    | some rest => some (.seq rest b)
    | none => findI b l
  | .label l', l => if l' == l then some .skip else none
  | _, _ => none
theorem findI_comp : ∀ (c : Code) (l : Nat), findI (comp c) l = (findLabel c l).map comp
  | .seq a b, l => by
    simp only [comp, findI, findLabel, findI_comp a l, findI_comp b l]
    cases findLabel a l <;> rfl
  | .label l', l => by
    simp only [comp, findI, findLabel]
    split <;> rfl
  | .region _ _ draw, l => by cases draw <;> rfl
  | .skip, l => rfl
  | .cond .., l => rfl
  | .block .., l => rfl
  | .loop .., l => rfl
  | .rangeFunc .., l => rfl
  | .exit _, l => rfl
  | .scope _, l => rfl
  | .goto _, l => rfl
  | .ret, l => rfl
  | .refuse _, l => rfl
theorem okC_find {n : Nat} : ∀ {c : Code} {l : Nat} {rest : Code}, okC n c = true → findLabel c l = some rest → okC n rest = true
  | .seq a b, l, rest, hk, hf => by
    simp only [okC, Bool.and_eq_true] at hk
    simp only [findLabel] at hf
    split at hf
    · rename_i x hx
      cases hf
      simp only [okC, Bool.and_eq_true]
      exact ⟨okC_find hk.1 hx, hk.2⟩
    · exact okC_find hk.2 hf
  | .label l', l, rest, hk, hf => by
    simp only [findLabel] at hf
    split at hf
    · cases hf; rfl
    · cases hf
/-- Jumps within a scope, seen at its parts. -/
def scopeQ (b : IC) (J : Nat → St → Prop) (Q : Exit → St → Prop) [KTag J] [KTag Q] : Exit → St → Prop
  | .goto l, s => match findI b l with
    | some _ => J l s
    | none => Q (.goto l) s
  | e, s => Q e s
@[simp] theorem scopeQ_normal (b : IC) (J : Nat → St → Prop) (Q : Exit → St → Prop) (s : St) : scopeQ b J Q .normal s = Q .normal s := notRfl rfl
@[simp] theorem scopeQ_ret (b : IC) (J : Nat → St → Prop) (Q : Exit → St → Prop) (s : St) : scopeQ b J Q .ret s = Q .ret s := notRfl rfl
@[simp] theorem scopeQ_exit (b : IC) (J : Nat → St → Prop) (Q : Exit → St → Prop) (id : Nat) (s : St) : scopeQ b J Q (.exit id) s = Q (.exit id) s := notRfl rfl
theorem scopeQ_jump {b rest : IC} {J : Nat → St → Prop} {Q : Exit → St → Prop} {l : Nat} {s : St} (h : findI b l = some rest) : scopeQ b J Q (.goto l) s = J l s := by simp [scopeQ, h]
theorem scopeQ_pass {b : IC} {J : Nat → St → Prop} {Q : Exit → St → Prop} {l : Nat} {s : St} (h : findI b l = none) : scopeQ b J Q (.goto l) s = Q (.goto l) s := by simp [scopeQ, h]
/-- A scope, with what holds at its labels, and how often they are jumped to. -/
theorem Ti.scope (hm : P.follows .mixedOrders = true) {b : IC} (J : Nat → Nat → St → Prop) (first : vc P G r n m b s (scopeQ b (fun l s' => ∃ k, Wk G n m s' (J l k)) Q))
    (pass : ∀ l rest k s, findI b l = some rest → J l k s → vc P G r n m rest s (scopeQ b (fun l' s' => ∃ k', k' < k ∧ Wk G n m s' (J l' k')) Q)) : Ti P G r n m (.scope b) s Q := by
  intro c hc hk
  cases c <;> simp only [comp] at hc <;> try (cases hc; done)
  · split at hc <;> cases hc
  · rename_i b'
    cases hc
    have hk' : okC n b' = true := hk
    have tr : ∀ {J' : Nat → St → Prop} (e : Exit) (s' : St), scopeQ (comp b') J' Q e s' → sQ b' J' Q e s' := by
      intro J' e s' h
      cases e with
      | goto l =>
        simp only [scopeQ, findI_comp] at h
        simp only [sQ]
        cases hf : findLabel b' l with
        | none => rw [hf] at h; exact h
        | some x => rw [hf] at h; exact h
      | normal => exact h
      | exit id => exact h
      | ret => exact h
      | panic ch => exact h
      | outgrown => exact h
    refine T.scope (fun l k s => Wk G n m s (J l k)) ((vc_sound hm hk' first).mono tr) ?_
    intro l rest k s hf hJ
    refine T.wk hJ fun s2 hx => ?_
    exact (vc_sound hm (okC_find hk' hf) (pass l (comp rest) k s2 (by rw [findI_comp, hf]; rfl) hx)).mono tr
/-- A scope without jumps. -/
theorem Ti.scope0 (hm : P.follows .mixedOrders = true) {b : IC} (first : vc P G r n m b s (scopeQ b (fun _ _ => False) Q)) : Ti P G r n m (.scope b) s Q := by
  intro c hc hk
  cases c <;> simp only [comp] at hc <;> try (cases hc; done)
  · split at hc <;> cases hc
  · rename_i b'
    cases hc
    have hk' : okC n b' = true := hk
    refine T.scope (fun _ _ _ => False) ((vc_sound hm hk' first).mono ?_) (fun l rest k s _ h => h.elim)
    intro e s' h
    cases e with
    | goto l =>
      simp only [scopeQ, findI_comp] at h
      simp only [sQ]
      cases hf : findLabel b' l with
      | none => rw [hf] at h; exact h
      | some x => rw [hf] at h; exact h.elim
    | normal => exact h
    | exit id => exact h
    | ret => exact h
    | panic ch => exact h
    | outgrown => exact h
@[simp] theorem one_ro (z : Nat) (xs : List V) : (V.ro z xs).one = true := rfl
@[simp] theorem one_sl (z i o k : Nat) : (V.sl z i o k).one = true := rfl
@[simp] theorem one_p (i o : Nat) : (V.p i o).one = true := rfl
@[simp] theorem one_fn (f : Fn) (a b : List V) : (V.fn f a b).one = true := rfl
@[simp] theorem one_iface (t : TypeId) (v : V) : (V.iface t v).one = true := rfl
@[simp] theorem one_agg (cs : List V) : (V.agg cs).one = false := rfl
@[simp] theorem repV_1 (zs : List V) : repV 1 zs = zs := by simp [repV]
/-- Some blocks alone are kept. -/
theorem Wk.some {X : St → Prop} (is : List Nat) (small : List Blk) (t2 : List (Nat × V)) (hd : s.d = []) (him : imL s.h (rho is 0) is small) (nd : is.Nodup) (dm : ∀ b ∈ small, b.dm = true) (cl : ∀ b ∈ small, b.ok (· < small.length))
    (ht : subR (rho is 0) t2 s.t) (ok : allT (fun v => v.ok (· < small.length)) t2) (k : Wk G n 0 { t := t2, d := [], h := small } X) : Wk G n 0 s X := by
  have l1 := imL_len him
  have rho_lt : ∀ q, (hq : q < is.length) → rho is 0 q = is[q] := fun q hq => by simp [rho, List.getElem?_eq_getElem hq]
  refine Wk.drop small (rho is 0) t2 [] (subR_get ht) hd (by simp) (by omega) (fun _ h => by omega) ?_ ?_ dm cl ok k
  · intro i j hi hj e
    rw [rho_lt i (by omega), rho_lt j (by omega)] at e
    exact idx_inj nd (x := is[j]'(by omega)) (by rw [List.getElem?_eq_getElem (by omega), e]) (List.getElem?_eq_getElem (by omega))
  · intro i b hb
    have hi : i < is.length := by have := (List.getElem?_eq_some_iff.1 hb).1; omega
    rw [rho_lt i hi]
    exact imL_at him (List.getElem?_eq_getElem hi) hb
/-- Arguments, seen otherwise. -/
theorem CallV.args {f : FuncId} {as as' : List V} {h : List Blk} {K : V → List Blk → Prop} (hw : ∀ (e : En) (xs : List Value), CnL e as xs → CnL e as' xs) (k : CallV P G f as' h K) : CallV P G f as h K :=
  ⟨k.1, fun F w φ xs r hx => k.2 F w φ xs r (hw _ _ hx)⟩
theorem cnL_nil {e : En} {z : Nat} : ∀ (as : List V) {bs : List V} {xs : List Value}, CnL e (as ++ .c (.slice none 0 0) :: bs) xs → CnL e (as ++ .ro z [] :: bs) xs
  | [], bs, xs, h => by
    simp only [List.nil_append, CnL] at h ⊢
    obtain ⟨x, xs', rfl, hx, hl⟩ := h
    exact ⟨x, xs', rfl, cn_roNil hx, hl⟩
  | a :: as, bs, xs, h => by
    simp only [List.cons_append, CnL] at h ⊢
    obtain ⟨x, xs', rfl, hx, hl⟩ := h
    exact ⟨x, xs', rfl, hx, cnL_nil as hl⟩
end Go.Vm
