/- A walk of the model's code on logical values, with its proofs: part 4. No condition. -/
import Derived.Test.YtnoigkdecjeilaaDoorV3
set_option linter.unusedSimpArgs false
set_option linter.unusedVariables false
namespace Go.Vm
open Go Go.RowKit
variable {P : Program} {G : Addr → Option Value} {n m : Nat} {s : St} {X : St → Prop}

theorem frzL_at (i : Nat) (cs : List V) (g : Bool) : ∀ (ds : List V) (k : Nat), (frzL i cs g ds)[k]? = (ds[k]?).map (V.frz i cs g)
  | [], k => by simp [frzL]
  | d :: ds, 0 => by simp [frzL]
  | d :: ds, k + 1 => by simp [frzL, frzL_at i cs g ds k]
theorem fitsL_at {i q : Nat} {g : Bool} : ∀ {ds : List V} {k : Nat} {u : V}, fitsL i q g ds → ds[k]? = some u → u.fits i q g
  | [], k, u, _, h => by simp at h
  | d :: ds, 0, u, hf, h => by simp only [fitsL] at hf; simp at h; subst h; exact hf.1
  | d :: ds, k + 1, u, hf, h => by simp only [fitsL] at hf; simp at h; exact fitsL_at hf.2 h

/-- A block is read alone from here on, by what another one holds. -/
theorem Wk.freezeAt (i j : Nat) (t t' : TypeId) (cs ds : List V) (g : Bool) (hne : j ≠ i) (hi : s.h[i]? = some (.cells t cs)) (hj : s.h[j]? = some (.cells t' ds)) (hf : fitsL i cs.length g ds)
    (k : Wk G n m { s with h := (s.h.set i .gone).set j (.cells t' (frzL i cs g ds)) } X) : Wk G n m s X := by
  intro F w φ a e0 ra hb
  have c := cold_of ra.heap hi
  obtain ⟨r1, e1, _⟩ := set_gone ra.heap hi rfl
  have hj1 : (s.h.set i .gone)[j]? = some (.cells t' ds) := by rw [List.getElem?_set_ne (fun e => hne e.symm)]; exact hj
  have hjl := (List.getElem?_eq_some_iff.1 hj1).1
  have at2 : ∀ (q : Nat) (b : Blk), ((s.h.set i .gone).set j (.cells t' (frzL i cs g ds)))[q]? = some b → (q = j ∧ b = .cells t' (frzL i cs g ds)) ∨ (q ≠ j ∧ (s.h.set i .gone)[q]? = some b) := by
    intro q b hq
    by_cases e : q = j
    · subst e; rw [List.getElem?_set_self hjl] at hq; exact .inl ⟨rfl, (Option.some.inj hq).symm⟩
    · rw [List.getElem?_set_ne (fun h => e h.symm)] at hq; exact .inr ⟨e, hq⟩
  have liv : ∀ (q : Nat) (b : Blk), ((s.h.set i .gone).set j (.cells t' (frzL i cs g ds)))[q]? = some b → b.live = true → ∃ b', (s.h.set i .gone)[q]? = some b' ∧ b'.live = true := by
    intro q b hq hl
    rcases at2 q b hq with ⟨rfl, rfl⟩ | ⟨_, h⟩
    · exact ⟨_, hj1, rfl⟩
    · exact ⟨b, h, hl⟩
  have own : ∀ b, owned φ ((s.h.set i .gone).set j (.cells t' (frzL i cs g ds))) b → owned φ (s.h.set i .gone) b := by
    rintro b ⟨q, o, x, hq, hl, hφ⟩
    obtain ⟨b', h1, h2⟩ := liv q x hq hl
    exact ⟨q, o, b', h1, h2, hφ⟩
  have ext : Ext (en F w φ (s.h.set i .gone)) (en F w φ ((s.h.set i .gone).set j (.cells t' (frzL i cs g ds)))) := by
    refine ⟨fun _ h => .inl h, ?_, fun _ _ => rfl, fun _ _ _ => rfl, fun b _ hm ho => hm (own b ho), fun b _ hm ho => hm (ho.imp (own b) id), fun _ _ => rfl, Nat.le_refl _, rfl, rfl, rfl⟩
    rintro q ⟨x, hx, hd⟩
    by_cases e : q = j
    · subst e; exact ⟨_, List.getElem?_set_self hjl, rfl⟩
    · exact ⟨x, by rw [List.getElem?_set_ne (fun h => e h.symm)]; exact hx, hd⟩
  have r2 : RH G F w φ ((s.h.set i .gone).set j (.cells t' (frzL i cs g ds))) := by
    refine ⟨?_, ?_, ?_, ?_, ?_⟩
    · intro q x hq
      rcases at2 q x hq with ⟨rfl, rfl⟩ | ⟨_, hq'⟩
      · have old := ra.heap.rep q _ hj
        simp only [RepB] at old ⊢
        rcases old with ⟨h1, h2⟩ | ⟨b, o, arr, h1, h2, h3⟩
        · exact .inl ⟨h1, by rw [h2]; rfl⟩
        · refine .inr ⟨b, o, arr, h1, h2, fun kk v hv => ?_⟩
          rw [frzL_at] at hv
          obtain ⟨u, hu, rfl⟩ := Option.map_eq_some_iff.1 hv
          obtain ⟨x, hx, ho, hcn⟩ := h3 kk u hu
          exact ⟨x, hx, ho, (Cn.frz c (fitsL_at hf hu) hcn).ext ext⟩
      · by_cases hd : x.dm = true
        · exact RepB.keep ext ⟨x, hq', hd⟩ (fun _ _ _ => rfl) (r1.rep q x hq')
        · cases x <;> simp [Blk.dm] at hd
          trivial
    · intro p q b o o' x x' hp hl hq hl' hφ hφ'
      obtain ⟨y, y1, y2⟩ := liv p x hp hl
      obtain ⟨z, z1, z2⟩ := liv q x' hq hl'
      exact r1.inj p q b o o' y z y1 y2 z1 z2 hφ hφ'
    · intro q x b o hq hl hφ
      obtain ⟨y, y1, y2⟩ := liv q x hq hl
      exact r1.lt q y b o y1 y2 hφ
    · intro ad x hx
      obtain ⟨k1, k2, k3, k4⟩ := r1.glob ad x hx
      exact ⟨k1, k2, fun ho => k3 (own _ ho), k4⟩
    · intro b hb'
      obtain ⟨k1, k2⟩ := r1.flt b hb'
      exact ⟨k1, fun ho => k2 (own _ ho)⟩
  have et := e1.trans ext
  exact k F w φ a e0 ⟨r2, ra.env.ext et, ra.defs, fun q hq => et.dom q (ra.dlt q hq), ra.size⟩ (hb.ext et)

/-- A part of the heap, and of the frame, is seen otherwise ahead of what comes. -/
theorem vc_wk {r : Option Nat} {ic : IC} {Q : Exit → St → Prop} (hm : P.follows .mixedOrders = true) (h : Wk G n m s X) (k : ∀ s2, X s2 → vc P G r n m ic s2 Q) : Ti P G r n m ic s Q := by
  intro c hc hk
  subst hc
  exact T.wk h fun s2 hx => vc_sound hm hk (k s2 hx)
end Go.Vm
