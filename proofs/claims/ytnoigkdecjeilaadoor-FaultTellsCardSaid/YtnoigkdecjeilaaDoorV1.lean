/- A walk of the model's code on logical values, with its proofs: part 1. No condition. -/
import Derived.RangeFuncRecord
import Derived.Laws.Sem
import Derived.Laws.World
import Derived.Below
import Derived.Laws.Tables
import Derived.Laws.AppendOwn
import Derived.Laws.StructEq
import Derived.ChangeKeysEq
import Derived.Laws.Shifts
import Derived.Laws.Small
set_option linter.unusedSimpArgs false
set_option linter.unusedVariables false
namespace Go.Vm
open Go Go.RowKit

/-- Values with logical addresses. -/
inductive V where
  | c (x : Value)
  | p (i o : Nat)
  | sl (z i o k : Nat)
  | ro (z : Nat) (xs : List V)
  | agg (cs : List V)
  | tup (cs : List V)
  | fn (f : Fn) (a b : List V)
  | iface (t : TypeId) (v : V)
  | rp (v : V)
  | yl (l : Nat)
  deriving Inhabited

inductive Blk where
  | cells (t : TypeId) (cs : List V)
  | deferred (isOpen : Bool)
  | loop (st : LoopState) (pend : Option Code) (env : Nat → Option V) (n : Nat) (ps : Array Tmp) (assign body : Code)
  | gone
  | rsv

def Blk.live : Blk → Bool
  | .gone => false
  | .rsv => false
  | _ => true

/-- It is there (or was): no place that is merely reserved. -/
def Blk.dm : Blk → Bool
  | .rsv => false
  | _ => true

/-- What a reading of values leans on. -/
structure En where
  w : World
  φ : Nat → Option (Nat × Nat)
  own : Nat → Prop
  mine : Nat → Prop
  dom : Nat → Prop

mutual
def Cn (e : En) : V → Value → Prop
  | .c x, y => y = x
  | .p i o, y => e.dom i ∧ ∃ b s, e.φ i = some (b, s) ∧ y = .pointer (some ⟨b, s + o, none⟩)
  | .sl z i o k, y => e.dom i ∧ ((e.φ i = none ∧ k = 0 ∧ y = .slice none 0 0) ∨
      ∃ b s a cap t m, e.φ i = some (b, s) ∧ y = .slice (some ⟨b, a, none⟩) k cap ∧ (cap = 0 ∨ a = s + o) ∧ k ≤ cap ∧ e.w.shape? b = some (t, m) ∧ s + o + cap * z ≤ m)
  | .ro z xs, y => ∃ a cap, y = .slice a xs.length cap ∧ xs.length ≤ cap ∧
      (xs = [] ∨ ∃ b o, a = some ⟨b, o, none⟩ ∧ b < e.w.heap.size ∧ ¬ e.own b ∧ CnRow e z b o xs)
  | .agg cs, y => ∃ ys, y = .agg ys ∧ CnL e cs ys.toList ∧ ∀ x ∈ ys.toList, x.oneCell' = true
  | .tup cs, y => ∃ ys, y = .tuple ys ∧ CnL e cs ys.toList
  | .fn f a b, y => ∃ as bs, y = .func f as bs ∧ CnL e a as.toList ∧ CnL e b bs.toList
  | .iface t v, y => ∃ x, y = .iface t x ∧ Cn e v x
  | .yl l, y => e.dom l ∧ ∃ b, e.φ l = some (b, 0) ∧ y = .func (.yield b) #[] #[]
  | .rp v, y => ∃ b o x, y = .pointer (some ⟨b, o, none⟩) ∧ b < e.w.heap.size ∧ ¬ e.own b ∧ Cn e v x ∧ ∀ j, j < x.cells.size → e.w.cell? ⟨b, o + j, none⟩ = x.cells[j]?
def CnL (e : En) : List V → List Value → Prop
  | [], ys => ys = []
  | v :: vs, ys => ∃ x xs, ys = x :: xs ∧ Cn e v x ∧ CnL e vs xs
def CnRow (e : En) (z b : Nat) : Nat → List V → Prop
  | _, [] => True
  | o, v :: vs => (∃ y, Cn e v y ∧ y.cells.size = z ∧ ∀ j, j < z → e.w.cell? ⟨b, o + j, none⟩ = y.cells[j]?) ∧ CnRow e z b (o + z) vs
end

/-- What a step keeps. -/
structure Ext (e e' : En) : Prop where
  sub : ∀ b, e.mine b → e.own b
  dom : ∀ i, e.dom i → e'.dom i
  agree : ∀ i, e.dom i → e'.φ i = e.φ i
  frame : ∀ b, b < e.w.heap.size → ¬ e.mine b → e'.w.heap[b]? = e.w.heap[b]?
  mine : ∀ b, b < e.w.heap.size → ¬ e.mine b → ¬ e'.mine b
  own : ∀ b, b < e.w.heap.size → ¬ e.own b → ¬ e'.own b
  shape : ∀ b, b < e.w.heap.size → e'.w.shape? b = e.w.shape? b
  size : e.w.heap.size ≤ e'.w.heap.size
  os : e'.w.os = e.w.os
  tape : e'.w.tape = e.w.tape
  output : e'.w.output = e.w.output

theorem Ext.refl (e : En) (hs : ∀ b, e.mine b → e.own b) : Ext e e := ⟨hs, fun _ h => h, fun _ _ => rfl, fun _ _ _ => rfl, fun _ _ h => h, fun _ _ h => h, fun _ _ => rfl, Nat.le_refl _, rfl, rfl, rfl⟩

theorem Ext.trans {a b c : En} (h : Ext a b) (k : Ext b c) : Ext a c :=
  ⟨h.sub, fun i hi => k.dom i (h.dom i hi), fun i hi => (k.agree i (h.dom i hi)).trans (h.agree i hi),
   fun x hx ho => (k.frame x (Nat.lt_of_lt_of_le hx h.size) (h.mine x hx ho)).trans (h.frame x hx ho),
   fun x hx ho => k.mine x (Nat.lt_of_lt_of_le hx h.size) (h.mine x hx ho),
   fun x hx ho => k.own x (Nat.lt_of_lt_of_le hx h.size) (h.own x hx ho),
   fun x hx => (k.shape x (Nat.lt_of_lt_of_le hx h.size)).trans (h.shape x hx),
   Nat.le_trans h.size k.size, k.os.trans h.os, k.tape.trans h.tape, k.output.trans h.output⟩

theorem shape_lt {w : World} {b : Nat} {x} (h : w.shape? b = some x) : b < w.heap.size := by
  unfold World.shape? at h
  rcases Nat.lt_or_ge b w.heap.size with h' | h'
  · exact h'
  · simp [Array.getElem?_eq_none h'] at h

theorem cell_of_block {w w' : World} {b o : Nat} (h : w'.heap[b]? = w.heap[b]?) : w'.cell? ⟨b, o, none⟩ = w.cell? ⟨b, o, none⟩ := by
  unfold World.cell?; simp only [h]

mutual
theorem Cn.ext {e e' : En} (h : Ext e e') : ∀ {v : V} {y : Value}, Cn e v y → Cn e' v y
  | .c x, y, k => by simpa [Cn] using k
  | .p i o, y, k => by
    simp only [Cn] at k ⊢
    obtain ⟨hi, b, s, hf, hy⟩ := k
    exact ⟨h.dom _ hi, b, s, (h.agree i hi).trans hf, hy⟩
  | .sl z i o k', y, k => by
    simp only [Cn] at k ⊢
    obtain ⟨hi, k⟩ := k
    refine ⟨h.dom _ hi, ?_⟩
    rcases k with ⟨hf, h0, hy⟩ | ⟨b, s, a, cap, t, m, hf, hy, hk, ha, hs, hm⟩
    · exact .inl ⟨(h.agree i hi).trans hf, h0, hy⟩
    · exact .inr ⟨b, s, a, cap, t, m, (h.agree i hi).trans hf, hy, hk, ha, (h.shape b (shape_lt hs)).trans hs, hm⟩
  | .ro z xs, y, k => by
    simp only [Cn] at k ⊢
    obtain ⟨a, cap, hy, hc, k⟩ := k
    refine ⟨a, cap, hy, hc, ?_⟩
    rcases k with k | ⟨b, o, ha, hb, ho, hr⟩
    · exact .inl k
    · exact .inr ⟨b, o, ha, Nat.lt_of_lt_of_le hb h.size, h.own b hb ho, CnRow.ext h hb ho hr⟩
  | .agg cs, y, k => by
    simp only [Cn] at k ⊢
    obtain ⟨ys, hy, hl, ho⟩ := k
    exact ⟨ys, hy, CnL.ext h hl, ho⟩
  | .tup cs, y, k => by
    simp only [Cn] at k ⊢
    obtain ⟨ys, hy, hl⟩ := k
    exact ⟨ys, hy, CnL.ext h hl⟩
  | .fn f a b, y, k => by
    simp only [Cn] at k ⊢
    obtain ⟨as, bs, hy, ha, hb⟩ := k
    exact ⟨as, bs, hy, CnL.ext h ha, CnL.ext h hb⟩
  | .iface t v, y, k => by
    simp only [Cn] at k ⊢
    obtain ⟨x, hy, hv⟩ := k
    exact ⟨x, hy, Cn.ext h hv⟩
  | .rp v, y, k => by
    simp only [Cn] at k ⊢
    obtain ⟨b, o, x, hy, hb, ho, hv, hc⟩ := k
    exact ⟨b, o, x, hy, Nat.lt_of_lt_of_le hb h.size, h.own b hb ho, Cn.ext h hv, fun j hj => (cell_of_block (h.frame b hb fun hm => ho (h.sub b hm))).trans (hc j hj)⟩
  | .yl l, y, k => by
    simp only [Cn] at k ⊢
    obtain ⟨hi, b, hf, hy⟩ := k
    exact ⟨h.dom _ hi, b, (h.agree l hi).trans hf, hy⟩
theorem CnL.ext {e e' : En} (h : Ext e e') : ∀ {vs : List V} {ys : List Value}, CnL e vs ys → CnL e' vs ys
  | [], ys, k => by simpa [CnL] using k
  | v :: vs, ys, k => by
    simp only [CnL] at k ⊢
    obtain ⟨x, xs, hy, hv, hl⟩ := k
    exact ⟨x, xs, hy, Cn.ext h hv, CnL.ext h hl⟩
theorem CnRow.ext {e e' : En} (h : Ext e e') {z b : Nat} (hb : b < e.w.heap.size) (ho : ¬ e.own b) : ∀ {o : Nat} {vs : List V}, CnRow e z b o vs → CnRow e' z b o vs
  | _, [], _ => by simp [CnRow]
  | o, v :: vs, k => by
    simp only [CnRow] at k ⊢
    obtain ⟨⟨y, hv, hz, hc⟩, hl⟩ := k
    exact ⟨⟨y, Cn.ext h hv, hz, fun j hj => (cell_of_block (h.frame b hb fun hm => ho (h.sub b hm))).trans (hc j hj)⟩, CnRow.ext h hb ho hl⟩
end

end Go.Vm

namespace Go.Vm
open Go Go.RowKit

def get : List (Nat × V) → Nat → Option V
  | [], _ => none
  | (d, v) :: t, k => if k = d then some v else get t k

def CnF (e : En) (t : Nat → Option V) (a : Array Value) : Prop := ∀ d v, t d = some v → ∃ x, a[d]? = some x ∧ Cn e v x

theorem CnF.ext {e e' : En} (h : Ext e e') {t a} (k : CnF e t a) : CnF e' t a := fun d v hv => let ⟨x, hx, hc⟩ := k d v hv; ⟨x, hx, hc.ext h⟩

def CnEnv (e : En) (t : List (Nat × V)) (a : Array Value) : Prop := ∀ d v, get t d = some v → ∃ x, a[d]? = some x ∧ Cn e v x

theorem CnEnv.ext {e e' : En} (h : Ext e e') {t a} (k : CnEnv e t a) : CnEnv e' t a := fun d v hv => let ⟨x, hx, hc⟩ := k d v hv; ⟨x, hx, hc.ext h⟩

def owned (φ : Nat → Option (Nat × Nat)) (h : List Blk) (b : Nat) : Prop := ∃ i s k, h[i]? = some k ∧ k.live = true ∧ φ i = some (b, s)

def en (F : Nat → Prop) (w : World) (φ : Nat → Option (Nat × Nat)) (h : List Blk) : En := ⟨w, φ, fun b => owned φ h b ∨ F b, owned φ h, fun i => ∃ k, h[i]? = some k ∧ k.dm = true⟩

theorem ext_refl {F w φ h} : Ext (en F w φ h) (en F w φ h) := .refl _ fun _ h => .inl h

def RepB (e : En) (i : Nat) : Blk → Prop
  | .cells t cs => (e.φ i = none ∧ cs = []) ∨ ∃ b s arr, e.φ i = some (b, s) ∧ e.w.heap[b]? = some (.cells arr t (0, 0)) ∧
      ∀ k v, cs[k]? = some v → ∃ x, arr[s + k]? = some x ∧ x.oneCell' = true ∧ Cn e v x
  | .deferred op => ∃ b, e.φ i = some (b, 0) ∧ e.w.heap[b]? = some (.deferred (if op then some [] else none))
  | .loop st pend env n ps assign body => ∃ b fn tm D, e.φ i = some (b, 0) ∧
      e.w.heap[b]? = some (.loop { state := st, pending := pend, fn, tmps := tm, params := ps, assign, body, defers := D }) ∧ CnF e env tm ∧ tm.size = n
  | .gone => True
  | .rsv => True

theorem RepB.keep {e e' : En} (h : Ext e e') {i : Nat} (hi : e.dom i) (hb : ∀ b s, e.φ i = some (b, s) → e'.w.heap[b]? = e.w.heap[b]?) : ∀ {k : Blk}, RepB e i k → RepB e' i k
  | .cells t cs, r => by
    rcases r with ⟨hf, hc⟩ | ⟨b, s, arr, hf, ha, hc⟩
    · exact .inl ⟨(h.agree i hi).trans hf, hc⟩
    · exact .inr ⟨b, s, arr, (h.agree i hi).trans hf, (hb b s hf).trans ha, fun k v hv => let ⟨x, hx, ho, hcn⟩ := hc k v hv; ⟨x, hx, ho, hcn.ext h⟩⟩
  | .deferred op, r => by
    obtain ⟨b, hf, ha⟩ := r
    exact ⟨b, (h.agree i hi).trans hf, (hb b _ hf).trans ha⟩
  | .loop .., r => by
    obtain ⟨b, fn, tm, D, hf, ha, hc⟩ := r
    exact ⟨b, fn, tm, D, (h.agree i hi).trans hf, (hb b _ hf).trans ha, hc.1.ext h, hc.2⟩
  | .gone, _ => trivial
  | .rsv, _ => trivial

/-- The world bears the logical heap. -/
structure RH (G : Addr → Option Value) (F : Nat → Prop) (w : World) (φ : Nat → Option (Nat × Nat)) (h : List Blk) : Prop where
  rep : ∀ i k, h[i]? = some k → RepB (en F w φ h) i k
  inj : ∀ i j b s s' k k', h[i]? = some k → k.live = true → h[j]? = some k' → k'.live = true → φ i = some (b, s) → φ j = some (b, s') → i = j
  lt : ∀ i k b s, h[i]? = some k → k.live = true → φ i = some (b, s) → b < w.heap.size
  glob : ∀ a x, G a = some x → w.cell? a = some x ∧ a.block < w.heap.size ∧ ¬ owned φ h a.block ∧ ¬ F a.block
  flt : ∀ b, F b → b < w.heap.size ∧ ¬ owned φ h b

def upd (φ : Nat → Option (Nat × Nat)) (i : Nat) (x : Option (Nat × Nat)) : Nat → Option (Nat × Nat) := fun j => if j = i then x else φ j
@[simp] theorem upd_same (φ i x) : upd φ i x i = x := by simp [upd]
theorem upd_other {φ i x j} (h : j ≠ i) : upd φ i x j = φ j := by simp [upd, h]

theorem dom_push {F w w' φ φ'} {h : List Blk} {k : Blk} {i : Nat} (hi : (en F w φ h).dom i) : (en F w' φ' (h ++ [k])).dom i := by
  obtain ⟨q, hq, hd⟩ := hi
  exact ⟨q, by rw [List.getElem?_append_left (List.getElem?_eq_some_iff.1 hq).1]; exact hq, hd⟩

theorem dom_ne {F w φ} {h : List Blk} {i : Nat} (hi : (en F w φ h).dom i) : i ≠ h.length := by
  obtain ⟨q, hq, _⟩ := hi
  have := (List.getElem?_eq_some_iff.1 hq).1; omega

theorem live_dm {k : Blk} (h : k.live = true) : k.dm = true := by cases k <;> simp_all [Blk.live, Blk.dm]

theorem shape_alloc {w : World} {o : Obj} {b : Nat} (h : b < w.heap.size) : (w.alloc o).shape? b = w.shape? b := by
  unfold World.shape?; rw [Below.heap_alloc _ _ _ h]

theorem owned_append {φ h b x k} (hb : b < x) (hx : owned (upd φ h.length (some (x, 0))) (h ++ [k]) b) : owned φ h b := by
  obtain ⟨i, s, k', hk, hl, hf⟩ := hx
  rcases Nat.lt_trichotomy i h.length with hi | hi | hi
  · rw [upd_other (by omega)] at hf
    rw [List.getElem?_append_left hi] at hk
    exact ⟨i, s, k', hk, hl, hf⟩
  · subst hi
    simp at hf; omega
  · rw [List.getElem?_eq_none (by simp; omega)] at hk; cases hk

/-- A new object on the heap. -/
theorem ext_alloc {F : Nat → Prop} {w : World} {φ h} (o : Obj) (k : Blk) : Ext (en F w φ h) (en F (w.alloc o) (upd φ h.length (some (w.heap.size, 0))) (h ++ [k])) where
  dom i hi := dom_push hi
  agree i hi := upd_other (dom_ne hi)
  frame b hb _ := Below.heap_alloc _ _ _ hb
  sub _ hx := .inl hx
  mine b hb ho hx := ho (owned_append hb hx)
  own b hb ho hx := ho (hx.imp (owned_append hb) id)
  shape b hb := shape_alloc hb
  size := by simp [en]
  os := rfl
  tape := rfl
  output := rfl

theorem rh_push {G F w φ h} (r : RH G F w φ h) (o : Obj) (k : Blk)
    (hk : RepB (en F (w.alloc o) (upd φ h.length (some (w.heap.size, 0))) (h ++ [k])) h.length k) :
    RH G F (w.alloc o) (upd φ h.length (some (w.heap.size, 0))) (h ++ [k]) where
  rep i k' hi := by
    rcases Nat.lt_trichotomy i h.length with hlt | heq | hgt
    · rw [List.getElem?_append_left hlt] at hi
      by_cases hl : k'.live = true
      · exact (r.rep i k' hi).keep (ext_alloc o k) ⟨k', hi, live_dm hl⟩ fun b s hf => Below.heap_alloc _ _ _ (r.lt i k' b s hi hl hf)
      · cases k' <;> simp [Blk.live] at hl <;> trivial
    · subst heq
      simp at hi; subst hi; exact hk
    · rw [List.getElem?_eq_none (by simp; omega)] at hi; cases hi
  inj i j b s s' k1 k2 hi hl1 hj hl2 hf hg := by
    have hlt : ∀ {i k'}, (h ++ [k])[i]? = some k' → i ≠ h.length → i < h.length ∧ h[i]? = some k' := by
      intro i k' hi hne
      rcases Nat.lt_or_ge i h.length with hlt | hge
      · exact ⟨hlt, by rwa [List.getElem?_append_left hlt] at hi⟩
      · rw [List.getElem?_eq_none (by simp; omega)] at hi; cases hi
    by_cases ei : i = h.length <;> by_cases ej : j = h.length
    · omega
    · obtain ⟨_, hj'⟩ := hlt hj ej
      subst ei; simp at hf
      rw [upd_other ej] at hg
      have := r.lt j k2 b s' hj' hl2 hg; omega
    · obtain ⟨_, hi'⟩ := hlt hi ei
      subst ej; simp at hg
      rw [upd_other ei] at hf
      have := r.lt i k1 b s hi' hl1 hf; omega
    · obtain ⟨_, hi'⟩ := hlt hi ei
      obtain ⟨_, hj'⟩ := hlt hj ej
      rw [upd_other ei] at hf; rw [upd_other ej] at hg
      exact r.inj i j b s s' k1 k2 hi' hl1 hj' hl2 hf hg
  lt i k' b s hi hl hf := by
    simp only [World.size_alloc]
    rcases Nat.lt_or_ge i h.length with hlt | hge
    · rw [List.getElem?_append_left hlt] at hi; rw [upd_other (by omega)] at hf
      have := r.lt i k' b s hi hl hf; omega
    · rcases Nat.eq_or_lt_of_le hge with heq | hgt
      · subst heq; simp at hf; omega
      · rw [List.getElem?_eq_none (by simp; omega)] at hi; cases hi
  glob a x ha := by
    obtain ⟨h1, h2, h3, h4⟩ := r.glob a x ha
    refine ⟨?_, by simp; omega, fun hx => h3 (owned_append h2 hx), h4⟩
    rw [World.cell?_alloc_lt _ _ _ h2]; exact h1
  flt b hb := by
    obtain ⟨h1, h2⟩ := r.flt b hb
    exact ⟨by simp; omega, fun hx => h2 (owned_append h1 hx)⟩

/-- Cells written out as values. -/
def Ones (e : En) (cs : List V) (xs : List Value) : Prop := CnL e cs xs ∧ ∀ x ∈ xs, x.oneCell' = true

theorem CnL.length {e : En} : ∀ {vs ys}, CnL e vs ys → vs.length = ys.length
  | [], ys, h => by simp [CnL] at h; simp [h]
  | v :: vs, ys, h => by
    simp only [CnL] at h
    obtain ⟨x, xs, rfl, _, hl⟩ := h
    simp [CnL.length hl]

theorem CnL.at {e : En} : ∀ {vs ys} {k : Nat} {v}, CnL e vs ys → vs[k]? = some v → ∃ x, ys[k]? = some x ∧ Cn e v x
  | [], ys, k, v, h, hk => by simp at hk
  | u :: vs, ys, k, v, h, hk => by
    simp only [CnL] at h
    obtain ⟨x, xs, rfl, hx, hl⟩ := h
    cases k with
    | zero => simp at hk; subst hk; exact ⟨x, by simp, hx⟩
    | succ k => simp at hk; simpa using CnL.at hl hk

theorem rh_alloc {G F w φ h} (r : RH G F w φ h) (t : TypeId) (cs : List V) (arr : Array Value)
    (hc : CnL (en F w φ h) cs arr.toList) (ho : ∀ x ∈ arr, x.oneCell' = true) :
    RH G F (w.alloc (.cells arr t)) (upd φ h.length (some (w.heap.size, 0))) (h ++ [.cells t cs]) :=
  rh_push r _ _ (.inr ⟨w.heap.size, 0, arr, by simp [en], World.alloc_heap_new _ _, fun k v hv => by
    obtain ⟨x, hx, hcn⟩ := hc.at hv
    have hx' : arr[k]? = some x := by simpa using hx
    exact ⟨x, by simpa using hx', ho x (Array.mem_of_getElem? hx'), hcn.ext (ext_alloc _ _)⟩⟩)

end Go.Vm

namespace Go.Vm
open Go Go.RowKit

theorem owned_set {φ h i k k' b} (hk : h[i]? = some k) (hl : k.live = true) (hx : owned φ (h.set i k') b) : owned φ h b := by
  obtain ⟨j, s, q, hq, hql, hf⟩ := hx
  by_cases e : i = j
  · subst e; exact ⟨i, s, k, hk, hl, hf⟩
  · rw [List.getElem?_set_ne e] at hq; exact ⟨j, s, q, hq, hql, hf⟩

def oshape : Obj → Option (TypeId × Nat)
  | .cells c t _ => some (t, c.size)
  | _ => none

theorem shape_eq (w : World) (b : Nat) : w.shape? b = (w.heap[b]?).bind oshape := by
  unfold World.shape?
  cases w.heap[b]? with
  | none => rfl
  | some o => cases o <;> rfl

theorem shape_put {w : World} {b : Nat} {o o' : Obj} (ho : w.heap[b]? = some o)
    (hs : oshape o' = oshape o) (x : Nat) :
    (w.putObj b o').shape? x = w.shape? x := by
  simp only [shape_eq]
  by_cases e : x = b
  · subst e
    rw [World.putObj_heap_same (Array.getElem?_eq_some_iff.1 ho).1, ho]
    exact hs
  · rw [World.putObj_heap_other e]

/-- An object of ours becomes another one of its make. -/
theorem dom_set {F w w' φ φ'} {h : List Blk} {i j : Nat} {k' : Blk} (hd : k'.dm = true) (hi : (en F w φ h).dom j) : (en F w' φ' (h.set i k')).dom j := by
  obtain ⟨q, hq, hdq⟩ := hi
  by_cases e : i = j
  · subst e; exact ⟨k', by rw [List.getElem?_set_self (List.getElem?_eq_some_iff.1 hq).1], hd⟩
  · exact ⟨q, by rw [List.getElem?_set_ne e]; exact hq, hdq⟩

theorem ext_put {F : Nat → Prop} {w : World} {φ h i k k' b s} {o o' : Obj} (hk : h[i]? = some k) (hl : k.live = true) (hd : k'.dm = true) (hf : φ i = some (b, s)) (ho : w.heap[b]? = some o)
    (hs : oshape o' = oshape o) :
    Ext (en F w φ h) (en F (w.putObj b o') φ (h.set i k')) where
  dom j hj := dom_set hd hj
  agree _ _ := rfl
  frame x hx hno := World.putObj_heap_other (fun e => hno (e ▸ ⟨i, s, k, hk, hl, hf⟩))
  sub _ hx := .inl hx
  mine x hx hno hx' := hno (owned_set hk hl hx')
  own x hx hno hx' := hno (hx'.imp (owned_set hk hl) id)
  shape x hx := shape_put ho hs x
  size := by simp [en]
  os := rfl
  tape := rfl
  output := rfl

theorem rh_put {G F w φ h i k k' b s} {o o' : Obj} (r : RH G F w φ h) (hk : h[i]? = some k) (hl : k.live = true) (hd : k'.dm = true) (hf : φ i = some (b, s)) (ho : w.heap[b]? = some o)
    (hs : oshape o' = oshape o)
    (hr : RepB (en F (w.putObj b o') φ (h.set i k')) i k') : RH G F (w.putObj b o') φ (h.set i k') where
  rep j q hq := by
    by_cases e : i = j
    · subst e
      rw [List.getElem?_set_self (List.getElem?_eq_some_iff.1 hk).1] at hq; cases hq; exact hr
    · rw [List.getElem?_set_ne e] at hq
      by_cases hlq : q.live = true
      · exact (r.rep j q hq).keep (ext_put hk hl hd hf ho hs) ⟨q, hq, live_dm hlq⟩ fun b' s' hf' => World.putObj_heap_other (fun e' => e (r.inj i j b s s' k q hk hl hq hlq hf (e' ▸ hf')))
      · cases q <;> simp [Blk.live] at hlq <;> trivial
  inj i1 i2 b' s1 s2 k1 k2 h1 l1 h2 l2 f1 f2 := by
    have : ∀ {j : Nat} {q : Blk}, (h.set i k')[j]? = some q → q.live = true → ∃ q' : Blk, h[j]? = some q' ∧ q'.live = true := by
      intro j q hq hlq
      by_cases e : i = j
      · subst e; exact ⟨k, hk, hl⟩
      · rw [List.getElem?_set_ne e] at hq; exact ⟨q, hq, hlq⟩
    obtain ⟨q1, hq1, lq1⟩ := this h1 l1
    obtain ⟨q2, hq2, lq2⟩ := this h2 l2
    exact r.inj i1 i2 b' s1 s2 q1 q2 hq1 lq1 hq2 lq2 f1 f2
  lt j q b' s' hq hlq hf' := by
    simp only [World.putObj_size]
    by_cases e : i = j
    · subst e; exact r.lt i k b' s' hk hl hf'
    · rw [List.getElem?_set_ne e] at hq; exact r.lt j q b' s' hq hlq hf'
  glob a x ha := by
    obtain ⟨h1, h2, h3, h4⟩ := r.glob a x ha
    refine ⟨?_, by simp; exact h2, fun hx => h3 (owned_set hk hl hx), h4⟩
    have hne : a.block ≠ b := fun e => h3 (e ▸ ⟨i, s, k, hk, hl, hf⟩)
    have : (w.putObj b o').heap[a.block]? = w.heap[a.block]? := World.putObj_heap_other hne
    unfold World.cell? at h1 ⊢; rw [this]; exact h1
  flt x hx := by
    obtain ⟨h1, h2⟩ := r.flt x hx
    exact ⟨by simp; exact h1, fun hx => h2 (owned_set hk hl hx)⟩

/-- Cells laid into a row. -/
def putArr (arr : Array Value) (o : Nat) : List Value → Array Value
  | [] => arr
  | x :: xs => putArr (arr.setIfInBounds o x) (o + 1) xs

theorem putArr_size : ∀ (xs : List Value) (arr : Array Value) (o : Nat), (putArr arr o xs).size = arr.size
  | [], _, _ => rfl
  | x :: xs, arr, o => by simp [putArr, putArr_size xs]

theorem putArr_at : ∀ (xs : List Value) (arr : Array Value) (o k : Nat), o + xs.length ≤ arr.size →
    (putArr arr o xs)[k]? = if o ≤ k ∧ k < o + xs.length then xs[k - o]? else arr[k]?
  | [], arr, o, k, _ => by simp [putArr]; omega
  | x :: xs, arr, o, k, h => by
    simp only [List.length_cons] at h
    rw [putArr, putArr_at xs _ _ _ (by simp; omega)]
    by_cases e : k = o
    · subst e
      rw [if_neg (by omega), if_pos (by simp)]
      have : k < arr.size := by omega
      simp [this]
    · by_cases h1 : o + 1 ≤ k ∧ k < o + 1 + xs.length
      · rw [if_pos h1, if_pos (by simp; omega)]
        obtain ⟨d, rfl⟩ : ∃ d, k = o + 1 + d := ⟨k - (o + 1), by omega⟩
        simp [show o + 1 + d - (o + 1) = d by omega, show o + 1 + d - o = d + 1 by omega]
      · rw [if_neg h1, if_neg (by simp; omega), Array.getElem?_setIfInBounds_ne (by omega)]

def putV (cs : List V) (o : Nat) : List V → List V
  | [] => cs
  | v :: vs => putV (cs.set o v) (o + 1) vs

theorem putV_length : ∀ (vs : List V) (cs : List V) (o : Nat), (putV cs o vs).length = cs.length
  | [], _, _ => rfl
  | x :: xs, arr, o => by simp [putV, putV_length xs]

theorem putV_at : ∀ (xs : List V) (cs : List V) (o k : Nat), o + xs.length ≤ cs.length →
    (putV cs o xs)[k]? = if o ≤ k ∧ k < o + xs.length then xs[k - o]? else cs[k]?
  | [], arr, o, k, _ => by simp [putV]; omega
  | x :: xs, arr, o, k, h => by
    simp only [List.length_cons] at h
    rw [putV, putV_at xs _ _ _ (by simp; omega)]
    by_cases e : k = o
    · subst e
      rw [if_neg (by omega), if_pos (by simp)]
      have : k < arr.length := by omega
      simp [this]
    · by_cases h1 : o + 1 ≤ k ∧ k < o + 1 + xs.length
      · rw [if_pos h1, if_pos (by simp; omega)]
        obtain ⟨d, rfl⟩ : ∃ d, k = o + 1 + d := ⟨k - (o + 1), by omega⟩
        simp [show o + 1 + d - (o + 1) = d by omega, show o + 1 + d - o = d + 1 by omega]
      · rw [if_neg h1, if_neg (by simp; omega), List.getElem?_set_ne (by omega)]

theorem setCell_put {w : World} {b o : Nat} {arr : Array Value} {t : TypeId} {fz : Nat × Nat} (h : w.heap[b]? = some (.cells arr t fz)) (v : Value) :
    w.setCell ⟨b, o, none⟩ v = w.putObj b (.cells (arr.setIfInBounds o v) t fz) := by
  obtain ⟨hb, he⟩ := Array.getElem?_eq_some_iff.1 h
  simp only [World.setCell, World.putObj]
  congr 1
  apply Array.ext_getElem?
  intro j
  simp only [Array.getElem?_modify, Array.getElem?_setIfInBounds]
  by_cases e : b = j
  · subst e; simp [hb, he]
  · simp [e]

theorem putObj_putObj (w : World) (b : Nat) (o o' : Obj) : (w.putObj b o).putObj b o' = w.putObj b o' := by
  have : (w.heap.setIfInBounds b o).setIfInBounds b o' = w.heap.setIfInBounds b o' := by
    apply Array.ext_getElem?; intro j
    by_cases e : b = j
    · subst e; simp
    · simp [e]
  simp only [World.putObj, this]

theorem putObj_self {w : World} {b : Nat} {o : Obj} (h : w.heap[b]? = some o) : w.putObj b o = w := by
  have : w.heap.setIfInBounds b o = w.heap := by
    apply Array.ext_getElem?; intro j
    by_cases e : b = j
    · subst e; obtain ⟨hb, he⟩ := Array.getElem?_eq_some_iff.1 h; simp [hb, he]
    · simp [e]
  simp only [World.putObj, this]

variable {P : Program}

theorem add_none (b o n : Nat) : Addr.add ⟨b, o, none⟩ n = ⟨b, o + n, none⟩ := by
  unfold Addr.add; split <;> simp_all

theorem run_storeCells {b o : Nat} {t : TypeId} : ∀ (xs : List Value) (arr : Array Value) (w : World) (i : Nat), w.heap[b]? = some (.cells arr t (0, 0)) → (∀ x ∈ xs, x.oneCell' = true) →
    o + i + xs.length ≤ arr.size → (storeCells ⟨b, o, none⟩ xs i).run P w = .ok () (w.putObj b (.cells (putArr arr (o + i) xs) t (0, 0)))
  | [], arr, w, i, h, _, _ => by simp [storeCells, putArr, putObj_self h]
  | x :: xs, arr, w, i, h, hx, hl => by
    simp only [List.length_cons] at hl
    have hlt := (Array.getElem?_eq_some_iff.1 h).1
    have hc : w.cell? ⟨b, o + i, none⟩ = some arr[o + i] := by simp [World.cell?, h]
    have hfz : w.frozen? ⟨b, o + i, none⟩ = false := by simp [World.frozen?, h]
    rw [storeCells]
    simp only [Sem.run_bind, add_none, run_store P w _ x .plain (hx x (by simp)), hc, hfz]
    simp only [Bool.false_eq_true, if_false, Result.andThen_ok]
    rw [setCell_put h]
    rw [run_storeCells xs (arr.setIfInBounds (o + i) x) _ (i + 1) (World.putObj_heap_same hlt) (fun y hy => hx y (by simp [hy])) (by simp; omega), putObj_putObj]
    rfl

theorem run_loadCells {b o : Nat} {w : World} : ∀ (ys : List Value) (i : Nat) (acc : Array Value), (∀ j, j < ys.length → w.cell? ⟨b, o + i + j, none⟩ = ys[j]?) →
    (loadCellsFrom ⟨b, o, none⟩ i ys.length acc).run P w = .ok (acc ++ ys.toArray) w
  | [], i, acc, _ => by simp [loadCellsFrom]
  | y :: ys, i, acc, h => by
    have h0 := h 0 (by simp)
    simp only [Nat.add_zero, List.getElem?_cons_zero] at h0
    simp only [List.length_cons, loadCellsFrom, Sem.run_bind, add_none, run_load, h0, Result.andThen_ok]
    rw [run_loadCells ys (i + 1) (acc.push y) (fun j hj => by
      have := h (j + 1) (by simp; omega)
      simp only [List.getElem?_cons_succ] at this
      rw [← this]; congr 2; omega)]
    simp

end Go.Vm

namespace Go.Vm
open Go Go.RowKit

structure St where
  t : List (Nat × V)
  d : List Nat
  h : List Blk

def ofV : Value → V
  | .agg cs => if cs.toList.all Value.oneCell' then .agg (cs.toList.map .c) else .c (.agg cs)
  | x => .c x

def ev (s : St) : Operand → Option V
  | .tmp k => get s.t k
  | .const x => some (ofV x)
  | .global g => some (.c (.pointer (some ⟨g, 0, none⟩)))
  | .func f => some (.fn (.func f) [] [])

def evs (s : St) : List Operand → Option (List V)
  | [] => some []
  | x :: xs => match ev s x, evs s xs with
    | some v, some vs => some (v :: vs)
    | _, _ => none

/-- What is not to be looked into ahead of its turn. -/
class KTag {α : Type} (a : α) : Type where
instance {α : Type} (a : α) : KTag a := ⟨⟩

def bnd {α : Type} (o : Option α) (K : α → Prop) [KTag K] : Prop := ∃ a, o = some a ∧ K a
/-- Whether it is so, or not. -/
def brV (t : Bool) (A B : Prop) [KTag A] [KTag B] : Prop := (t = true → A) ∧ (t = false → B)
@[simp] theorem brV_true (A B : Prop) : brV true A B = A := by simp [brV]
@[simp] theorem brV_false (A B : Prop) : brV false A B = B := by simp [brV]
@[simp] theorem brV_not (t : Bool) (A B : Prop) : brV (!t) A B = brV t B A := by cases t <;> simp [brV]
theorem brV.intro {t : Bool} {A B : Prop} (h : t = true → A) (k : t = false → B) : brV t A B := ⟨h, k⟩

/-- A row of cells. -/
def atC (o : Option Blk) (K : TypeId → List V → Prop) [KTag K] : Prop := ∃ t cs, o = some (.cells t cs) ∧ K t cs
@[simp] theorem atC_some (t : TypeId) (cs : List V) (K : TypeId → List V → Prop) : atC (some (.cells t cs)) K = K t cs :=
  propext ⟨fun ⟨_, _, e, k⟩ => by cases e; exact k, fun k => ⟨t, cs, rfl, k⟩⟩

theorem bnd_some {α : Type} (a : α) (K : α → Prop) : bnd (some a) K = K a := by simp [bnd]

theorem CnL.map_c (e : En) : ∀ (xs : List Value), CnL e (xs.map .c) xs
  | [] => by simp [CnL]
  | x :: xs => by simp only [List.map_cons, CnL]; exact ⟨x, xs, rfl, by simp [Cn], CnL.map_c e xs⟩

theorem cn_ofV (e : En) (x : Value) : Cn e (ofV x) x := by
  cases x with
  | agg cs =>
    simp only [ofV]
    split
    · rename_i h
      simp only [Cn]
      exact ⟨cs, rfl, CnL.map_c e _, fun x hx => (List.all_eq_true.1 h) x hx⟩
    · simp [Cn]
  | _ => simp [ofV, Cn]

structure Rep (G : Addr → Option Value) (F : Nat → Prop) (w : World) (φ : Nat → Option (Nat × Nat)) (s : St) (a : Act) : Prop where
  heap : RH G F w φ s.h
  env : CnEnv (en F w φ s.h) s.t a.tmps
  defs : a.defers = s.d.map fun i => { target := .collected ((φ i).getD (0, 0)).1, args := #[] }
  dlt : ∀ i ∈ s.d, i < s.h.length

theorem ev_cn {G F w φ s a} (r : Rep G F w φ s a) {x : Operand} {v : V} (h : ev s x = some v) : Cn (en F w φ s.h) v (a.eval x) := by
  cases x with
  | tmp k =>
    obtain ⟨y, hy, hc⟩ := r.env k v h
    simp only [Act.eval]
    obtain ⟨hlt, he⟩ := Array.getElem?_eq_some_iff.1 hy
    have : a.tmps.getD k undef = y := by simp [Array.getD, hlt, he]
    rw [this]; exact hc
  | const y => simp only [ev, Option.some.injEq] at h; subst h; exact cn_ofV _ _
  | global g => simp only [ev, Option.some.injEq] at h; subst h; simp [Cn, Act.eval]
  | func f => simp only [ev, Option.some.injEq] at h; subst h; simp [Cn, Act.eval, CnL]

theorem evs_cn {G F w φ s a} (r : Rep G F w φ s a) : ∀ {xs : List Operand} {vs : List V}, evs s xs = some vs → CnL (en F w φ s.h) vs (xs.map a.eval)
  | [], vs, h => by simp only [evs, Option.some.injEq] at h; subst h; simp [CnL]
  | x :: xs, vs, h => by
    simp only [evs] at h
    split at h
    · rename_i v vs' h1 h2
      cases h
      simp only [List.map_cons, CnL]
      exact ⟨_, _, rfl, ev_cn r h1, evs_cn r h2⟩
    · cases h

/-- What leads to a new block: a pointer, a slice. -/
inductive NV where
  | p
  | sl (z k : Nat)

def NV.at (n : Nat) : NV → V
  | .p => .p n 0
  | .sl z k => .sl z n 0 k

/-- What an operation leaves: a value; a block written; a new block; a block that becomes a new one. -/
inductive Eff where
  | q (v : V)
  | st (i : Nat) (b : Blk)
  | nw (f : NV) (b : Blk)
  | mv (i : Nat) (f : NV) (b : Blk)

def Eff.val (h : List Blk) : Eff → V
  | .q v => v
  | .st _ _ => .c undef
  | .nw f _ => f.at h.length
  | .mv _ f _ => f.at h.length

def Eff.heap (h : List Blk) : Eff → List Blk
  | .q _ => h
  | .st i b => h.set i b
  | .nw _ b => h ++ [b]
  | .mv i _ b => h.set i .gone ++ [b]

/-- A plain operation's run, seen from its logical side. -/
def OK (P : Program) (G : Addr → Option Value) (F : Nat → Prop) (w : World) (φ : Nat → Option (Nat × Nat)) (h : List Blk) (m : Sem Value) (K : Eff → Prop) : Prop :=
  ∃ y w' φ' e, m.run P w = .ok y w' ∧ K e ∧ Cn (en F w' φ' (e.heap h)) (e.val h) y ∧ RH G F w' φ' (e.heap h) ∧ Ext (en F w φ h) (en F w' φ' (e.heap h))

variable {P : Program} {G : Addr → Option Value} {F : Nat → Prop} {w : World} {φ : Nat → Option (Nat × Nat)} {h : List Blk}

theorem OK.pure (r : RH G F w φ h) {m : Sem Value} {K : Eff → Prop} {y : Value} {v : V} (hm : m.run P w = .ok y w) (hc : Cn (en F w φ h) v y) (hK : K (.q v)) : OK P G F w φ h m K :=
  ⟨y, w, φ, .q v, hm, hK, hc, r, ext_refl⟩

def V.cells : V → List V
  | .agg cs => cs
  | v => [v]

def V.one : V → Bool
  | .c x => x.oneCell'
  | .tup _ => false
  | .agg _ => false
  | _ => true

/-- It fills a variable: an aggregate, or one cell. -/
def V.fills : V → Bool
  | .agg _ => true
  | v => v.one

theorem cn_one {e : En} {v : V} {y : Value} (h : Cn e v y) (ho : v.one = true) : y.oneCell' = true := by
  cases v <;> simp only [Cn] at h <;> simp only [V.one] at ho
  · subst h; exact ho
  · obtain ⟨_, b, s, _, rfl⟩ := h; rfl
  · obtain ⟨_, ⟨_, _, rfl⟩ | ⟨b, s, a, cap, t, m, _, rfl, _⟩⟩ := h <;> rfl
  · obtain ⟨a, cap, rfl, _⟩ := h; rfl
  · cases ho
  · cases ho
  · obtain ⟨as, bs, rfl, _⟩ := h; rfl
  · obtain ⟨x, rfl, _⟩ := h; rfl
  · obtain ⟨b, o, x, rfl, _⟩ := h; rfl
  · obtain ⟨_, b, _, rfl⟩ := h; rfl

theorem cells_one {y : Value} (h : y.oneCell' = true) : y.cells = #[y] := by
  cases y <;> first | rfl | simp [Value.oneCell'] at h

theorem cn_cells {e : En} {v : V} {y : Value} (h : Cn e v y) (hf : v.fills = true) : CnL e v.cells y.cells.toList ∧ ∀ x ∈ y.cells.toList, x.oneCell' = true := by
  by_cases ho : v.one = true
  · have h1 := cn_one h ho
    have hv : v.cells = [v] := by cases v <;> first | rfl | simp [V.one] at ho
    rw [cells_one h1, hv]
    simp only [CnL]
    exact ⟨⟨y, [], rfl, h, rfl⟩, by simpa using h1⟩
  · cases v <;> simp [V.fills, V.one] at hf ho
    · rw [hf] at ho; cases ho
    · simp only [Cn] at h
      obtain ⟨ys, rfl, hl, hall⟩ := h
      exact ⟨hl, hall⟩

/-- A new variable that holds a value. -/
theorem ok_new (r : RH G F w φ h) {K : Eff → Prop} (t : TypeId) {v : V} {x : Value} (hx : Cn (en F w φ h) v x) (hf : v.fills = true)
    (hK : K (.nw .p (.cells t v.cells))) : OK P G F w φ h (Instr.box t x) K := by
  obtain ⟨hl, hall⟩ := cn_cells hx hf
  refine ⟨.pointer (some ⟨w.heap.size, 0, none⟩), w.alloc (.cells x.cells t), upd φ h.length (some (w.heap.size, 0)), _, ?_, hK, ?_,
    rh_alloc r t v.cells x.cells hl (fun z hz => hall z (by simpa using hz)), ext_alloc _ _⟩
  · simp [Instr.box, newVar, newRow]
  · simp only [Cn, en, Eff.val, Eff.heap, NV.at]
    exact ⟨by simp [Blk.dm], w.heap.size, 0, by simp, by simp⟩

def tzero (P : Program) (t : TypeId) : Option Value := (P.info? t).bind (·.zero)

theorem run_zeroValue {t : TypeId} {z : Value} (h : tzero P t = some z) : (zeroValue t).run P w = .ok z w := by
  unfold tzero at h
  cases hi : P.info? t with
  | none => simp [hi] at h
  | some i =>
    simp [hi] at h
    simp [zeroValue, typeInfo, hi, h]

theorem ok_alloc (r : RH G F w φ h) {K : Eff → Prop} (t : TypeId) {z : Value} (hz : tzero P t = some z) (hf : (ofV z).fills = true)
    (hK : K (.nw .p (.cells t (ofV z).cells))) : OK P G F w φ h (Instr.alloc t true (.tuple #[])) K := by
  obtain ⟨y, w', φ', e, hm, rest⟩ := ok_new (P := P) r t (cn_ofV (en F w φ h) z) hf hK
  refine ⟨y, w', φ', e, ?_, rest⟩
  rw [← hm]
  simp [Instr.alloc, run_zeroValue hz, Instr.box]

def tsz (P : Program) (t : TypeId) : Option Nat := (P.info? t).map (·.size)
def aggD : TypeDesc → Bool
  | .struct _ | .array _ _ => true
  | _ => false

def tagg (P : Program) (t : TypeId) : Option Bool := (P.underlying t).map aggD

theorem run_sizeOf {t : TypeId} {n : Nat} (h : tsz P t = some n) : (sizeOf t).run P w = .ok n w := by
  unfold tsz at h
  cases hi : P.info? t with
  | none => simp [hi] at h
  | some i => simp [hi] at h; simp [sizeOf, typeInfo, hi, h]

theorem run_underlying' {t : TypeId} {d : TypeDesc} (h : P.underlying t = some d) : (underlying t).run P w = .ok d w := by
  simp [underlying, h]

theorem run_isAgg {t : TypeId} {b : Bool} (h : tagg P t = some b) : (isAgg t).run P w = .ok b w := by
  unfold tagg at h
  cases hd : P.underlying t with
  | none => simp [hd] at h
  | some d =>
    simp [hd] at h
    simp only [isAgg, Sem.run_bind, run_underlying' hd, Result.andThen_ok]
    cases d <;> simp_all [aggD]

/-- What a variable of a type holds, out of cells. -/
def joinV (P : Program) (t : TypeId) (cs : List V) (o : Nat) (K : V → Prop) [KTag K] : Prop :=
  bnd (tagg P t) fun g => if g then bnd (tsz P t) fun n => (n ≤ cs.length - o) ∧ K (.agg ((cs.drop o).take n)) else bnd cs[o]? K

theorem CnL.drop {e : En} : ∀ {vs ys} (n : Nat), CnL e vs ys → CnL e (vs.drop n) (ys.drop n)
  | vs, ys, 0, h => by simpa using h
  | [], ys, n + 1, h => by simp only [CnL] at h; subst h; simp [CnL]
  | v :: vs, ys, n + 1, h => by
    simp only [CnL] at h
    obtain ⟨x, xs, rfl, _, hl⟩ := h
    simpa using CnL.drop n hl

theorem CnL.take {e : En} : ∀ {vs ys} (n : Nat), CnL e vs ys → CnL e (vs.take n) (ys.take n)
  | vs, ys, 0, h => by simp [CnL]
  | [], ys, n + 1, h => by simp only [CnL] at h; subst h; simp [CnL]
  | v :: vs, ys, n + 1, h => by
    simp only [CnL] at h
    obtain ⟨x, xs, rfl, hv, hl⟩ := h
    simp only [List.take_succ_cons, CnL]
    exact ⟨x, _, rfl, hv, CnL.take n hl⟩

/-- Cells of a row, as a list: those from o on. -/
theorem cnl_of_at {e : En} : ∀ {cs : List V} {f : Nat → Option Value} (n : Nat), n ≤ cs.length →
    (∀ k v, cs[k]? = some v → k < n → ∃ x, f k = some x ∧ x.oneCell' = true ∧ Cn e v x) → ∃ ys : List Value, ys.length = n ∧ CnL e (cs.take n) ys ∧ (∀ x ∈ ys, x.oneCell' = true) ∧ ∀ j, j < n → f j = ys[j]?
  | cs, f, 0, _, _ => ⟨[], rfl, by simp [CnL], by simp, by simp⟩
  | [], f, n + 1, h, _ => by simp at h
  | v :: cs, f, n + 1, h, hf => by
    obtain ⟨x, hx, ho, hc⟩ := hf 0 v (by simp) (by omega)
    obtain ⟨ys, hl, hcn, hall, hj⟩ := cnl_of_at (cs := cs) (f := fun k => f (k + 1)) n (by simpa using h) (fun k u hu hk => hf (k + 1) u (by simpa using hu) (by omega))
    refine ⟨x :: ys, by simp [hl], ?_, ?_, ?_⟩
    · simp only [List.take_succ_cons, CnL]; exact ⟨x, ys, rfl, hc, hcn⟩
    · intro z hz; rcases List.mem_cons.1 hz with rfl | hz
      · exact ho
      · exact hall z hz
    · intro j hj'
      cases j with
      | zero => simpa using hx
      | succ j => simpa using hj j (by omega)

/-- A variable read whose cells are known. -/
theorem ok_join (r : RH G F w φ h) {K : Eff → Prop} {t : TypeId} {b s o : Nat} {cs : List V}
    (hc : ∀ k v, cs[k]? = some v → ∃ x, w.cell? ⟨b, s + k, none⟩ = some x ∧ x.oneCell' = true ∧ Cn (en F w φ h) v x)
    (hK : joinV P t cs o fun v => K (.q v)) : OK P G F w φ h (loadVar t ⟨b, s + o, none⟩) K := by
  obtain ⟨g, hg, hK⟩ := hK
  cases g with
  | true =>
    simp only [if_true] at hK
    obtain ⟨n, hn, hle, hK⟩ := hK
    obtain ⟨ys, hyl, hcn, hall, hj⟩ := cnl_of_at (e := en F w φ h) (cs := cs.drop o) (f := fun k => w.cell? ⟨b, s + o + k, none⟩) n (by simpa using hle) (fun k v hv _ => by
      obtain ⟨x, hx, hy⟩ := hc (o + k) v (by simpa using hv)
      exact ⟨x, by rw [← hx]; congr 2; omega, hy⟩)
    refine .pure r (y := .agg ys.toArray) ?_ ?_ hK
    · simp only [loadVar, Sem.run_bind, run_isAgg hg, run_sizeOf hn, Result.andThen_ok, if_true, loadCells]
      have := run_loadCells (P := P) (b := b) (o := s + o) (w := w) ys 0 #[] (by intro j hj'; rw [← hj j (by omega)]; rfl)
      rw [hyl] at this
      simp [this]
    · simp only [Cn]; exact ⟨ys.toArray, rfl, by simpa using hcn, by simpa using hall⟩
  | false =>
    simp only [Bool.false_eq_true, if_false] at hK
    obtain ⟨v, hv, hK⟩ := hK
    obtain ⟨x, hx, _, hcn⟩ := hc o v hv
    refine .pure r (y := x) ?_ hcn hK
    simp [loadVar, run_isAgg hg, hx]

end Go.Vm

namespace Go.Vm
open Go Go.RowKit
variable {P : Program} {G : Addr → Option Value} {F : Nat → Prop} {w : World} {φ : Nat → Option (Nat × Nat)} {h : List Blk}

theorem cells_of (r : RH G F w φ h) {i b s : Nat} {t : TypeId} {cs : List V} (hb : h[i]? = some (.cells t cs)) (hf : φ i = some (b, s)) :
    ∃ arr, w.heap[b]? = some (.cells arr t (0, 0)) ∧ ∀ k v, cs[k]? = some v → ∃ x, arr[s + k]? = some x ∧ x.oneCell' = true ∧ Cn (en F w φ h) v x := by
  have hr := r.rep i _ hb
  simp only [RepB] at hr
  rcases hr with ⟨hn, _⟩ | ⟨b', s', arr, hf', harr, hc⟩
  · have hn' : φ i = none := hn
    rw [hn'] at hf; cases hf
  · have hf'' : φ i = some (b', s') := hf'
    rw [hf''] at hf; cases hf
    exact ⟨arr, harr, hc⟩

/-- What is read at an address. -/
def loadV (P : Program) (G : Addr → Option Value) (t : TypeId) (h : List Blk) (a : V) (K : Eff → Prop) [KTag K] : Prop :=
  match a with
  | .p i o => atC h[i]? fun _ cs => joinV P t cs o fun v => K (.q v)
  | .rp v => (match tagg P t, v with
      | some true, .agg cs => tsz P t = some cs.length ∧ K (.q (.agg cs))
      | some false, v => v.one = true ∧ K (.q v)
      | _, _ => False)
  | .c (.pointer (some a)) => (match tagg P t with
      | some false => bnd (G a) fun x => K (.q (.c x))
      | some true => bnd (tsz P t) fun n => ∃ xs : List Value, xs.length = n ∧ (∀ j, j < n → G ⟨a.block, a.off + j, none⟩ = xs[j]?) ∧ (∀ x ∈ xs, x.oneCell' = true) ∧ a.spot = none ∧ K (.q (.agg (xs.map .c)))
      | none => False)
  | _ => False

theorem ok_load (r : RH G F w φ h) {K : Eff → Prop} {t : TypeId} {a : V} {x : Value} (hx : Cn (en F w φ h) a x) (hK : loadV P G t h a K) : OK P G F w φ h (Instr.loadAt t x) K := by
  cases a with
  | p i o =>
    obtain ⟨t', cs, hb, hK⟩ := hK
    simp only [Cn] at hx
    obtain ⟨_, b, s, hf, rfl⟩ := hx
    obtain ⟨arr, harr, hc⟩ := cells_of r hb hf
    have := ok_join (P := P) r (K := K) (t := t) (b := b) (s := s) (o := o) (cs := cs) (fun k v hv => by
      obtain ⟨x, hx, ho, hcn⟩ := hc k v hv
      exact ⟨x, by simp [World.cell?, harr, hx], ho, hcn⟩) hK
    obtain ⟨y, w', φ', e, hm, rest⟩ := this
    exact ⟨y, w', φ', e, by simpa [Instr.loadAt, Instr.sureAddr] using hm, rest⟩
  | rp v =>
    simp only [Cn] at hx
    obtain ⟨b, o, x', rfl, hb, ho, hv, hc⟩ := hx
    simp only [loadV] at hK
    cases hg : tagg P t with
    | none => simp [hg] at hK
    | some g =>
      cases g with
      | true =>
        cases v <;> simp only [hg] at hK <;> try exact hK.elim
        rename_i cs
        obtain ⟨hz, hK⟩ := hK
        simp only [Cn] at hv
        obtain ⟨ys, rfl, hl, hall⟩ := hv
        have hlen : cs.length = ys.toList.length := hl.length
        refine .pure r (y := .agg ys) (v := .agg cs) ?_ (by simp only [Cn]; exact ⟨ys, rfl, hl, hall⟩) hK
        have := run_loadCells (P := P) (b := b) (o := o) (w := w) ys.toList 0 #[] (by
          intro j hj
          have h1 : w.cell? ⟨b, o + j, none⟩ = ys[j]? := hc j (by simpa [Value.cells] using hj)
          simpa using h1)
        rw [← hlen] at this
        simp only [Instr.loadAt, Instr.sureAddr, Sem.run_bind, Sem.run_pure, Result.andThen_ok, loadVar, run_isAgg hg, run_sizeOf hz, if_true, loadCells, this]
        simp
      | false =>
        simp only [hg] at hK
        obtain ⟨hone, hK⟩ := hK
        have h1 := cn_one hv hone
        have hc0 := hc 0 (by rw [cells_one h1]; simp)
        rw [cells_one h1] at hc0
        simp at hc0
        have hc0' : w.cell? ⟨b, o, none⟩ = some x' := hc0
        refine .pure r (y := x') ?_ hv hK
        simp [Instr.loadAt, Instr.sureAddr, loadVar, run_isAgg hg, hc0']
  | c z =>
    simp only [Cn] at hx; subst hx
    cases x <;> simp only [loadV] at hK <;> try exact hK.elim
    rename_i q
    cases q with
    | none => exact hK.elim
    | some a =>
      simp only at hK
      cases hg : tagg P t with
      | none => simp [hg] at hK
      | some g =>
        cases g with
        | true =>
          simp only [hg] at hK
          obtain ⟨n, hn, xs, hl, hG, hall, hsp, hK⟩ := hK
          obtain ⟨ab, ao, asp⟩ := a
          simp only at hsp; subst hsp
          refine .pure r (y := .agg xs.toArray) ?_ (by simp only [Cn]; exact ⟨_, rfl, by simpa using CnL.map_c _ xs, by simpa using hall⟩) hK
          have := run_loadCells (P := P) (b := ab) (o := ao) (w := w) xs 0 #[] (by
            intro j hj
            have h1 := hG j (by omega)
            have h2 : xs[j]? = some xs[j] := by simp [hj]
            rw [h2] at h1 ⊢
            exact (r.glob _ _ h1).1)
          rw [hl] at this
          simp only [Instr.loadAt, Instr.sureAddr, Sem.run_bind, Sem.run_pure, Result.andThen_ok, loadVar, run_isAgg hg, run_sizeOf hn, if_true, loadCells, this]
          simp
        | false =>
          simp only [hg] at hK
          obtain ⟨x, hx, hK⟩ := hK
          refine .pure r (y := x) ?_ (by simp [Cn]) hK
          simp [Instr.loadAt, Instr.sureAddr, loadVar, run_isAgg hg, (r.glob _ _ hx).1]
  | _ => exact hK.elim

def storeV (P : Program) (t : TypeId) (h : List Blk) (a v : V) (K : Eff → Prop) [KTag K] : Prop :=
  match a with
  | .p i o => v.fills = true ∧ tsz P t = some v.cells.length ∧ atC h[i]? fun t' cs => o + v.cells.length ≤ cs.length ∧ K (.st i (.cells t' (putV cs o v.cells)))
  | _ => False

/-- A run that hands back nothing. -/
def OKu (P : Program) (G : Addr → Option Value) (F : Nat → Prop) (w : World) (φ : Nat → Option (Nat × Nat)) (h : List Blk) (m : Sem Unit) (K : Eff → Prop) : Prop :=
  ∃ w' φ' e, m.run P w = .ok () w' ∧ K e ∧ e.val h = .c undef ∧ RH G F w' φ' (e.heap h) ∧ Ext (en F w φ h) (en F w' φ' (e.heap h))

/-- Cells of ours are written. -/
theorem put_cells (r : RH G F w φ h) {i b s : Nat} {t : TypeId} {cs : List V} {arr : Array Value} (hb : h[i]? = some (.cells t cs)) (hf : φ i = some (b, s))
    (harr : w.heap[b]? = some (.cells arr t (0, 0))) (hc : ∀ k v, cs[k]? = some v → ∃ x, arr[s + k]? = some x ∧ x.oneCell' = true ∧ Cn (en F w φ h) v x)
    {o : Nat} {vs : List V} {ys : List Value} (hv : CnL (en F w φ h) vs ys) (hall : ∀ x ∈ ys, x.oneCell' = true) (hle : o + vs.length ≤ cs.length) (hle' : s + o + ys.length ≤ arr.size) :
    RH G F (w.putObj b (.cells (putArr arr (s + o) ys) t (0, 0))) φ (h.set i (.cells t (putV cs o vs))) ∧
    Ext (en F w φ h) (en F (w.putObj b (.cells (putArr arr (s + o) ys) t (0, 0))) φ (h.set i (.cells t (putV cs o vs)))) := by
  have hs : oshape (.cells (putArr arr (s + o) ys) t (0, 0)) = oshape (.cells arr t (0, 0)) := by simp [oshape, putArr_size]
  have he := ext_put (F := F) (k' := .cells t (putV cs o vs)) hb rfl rfl hf harr hs
  refine ⟨rh_put r hb rfl rfl hf harr hs (.inr ⟨b, s, _, hf, World.putObj_heap_same (Array.getElem?_eq_some_iff.1 harr).1, fun k v hk => ?_⟩), he⟩
  rw [putV_at _ _ _ _ hle] at hk
  have hlen := hv.length
  rw [putArr_at _ _ _ _ hle']
  by_cases hin : o ≤ k ∧ k < o + vs.length
  · rw [if_pos hin] at hk
    rw [if_pos (by omega)]
    obtain ⟨x, hx, hcn⟩ := hv.at hk
    refine ⟨x, by rw [← hx]; congr 1; omega, hall x (List.mem_of_getElem? hx), hcn.ext he⟩
  · rw [if_neg hin] at hk
    rw [if_neg (by omega)]
    obtain ⟨x, hx, ho, hcn⟩ := hc k v hk
    exact ⟨x, hx, ho, hcn.ext he⟩

theorem at_le {cs : List V} {arr : Array Value} {s : Nat} {Q : V → Value → Prop} (hc : ∀ k v, cs[k]? = some v → ∃ x, arr[s + k]? = some x ∧ Q v x) (hs : s ≤ arr.size ∨ cs ≠ []) : s + cs.length ≤ arr.size := by
  rcases Nat.eq_zero_or_pos cs.length with h0 | hp
  · rw [h0]; rcases hs with hs | hs
    · omega
    · exact absurd (List.length_eq_zero_iff.1 h0) hs
  · obtain ⟨x, hx, _⟩ := hc (cs.length - 1) _ (List.getElem?_eq_getElem (by omega))
    have := (Array.getElem?_eq_some_iff.1 hx).1
    omega

theorem ok_store (r : RH G F w φ h) {K : Eff → Prop} {t : TypeId} {a v : V} {x y : Value} (hx : Cn (en F w φ h) a x) (hy : Cn (en F w φ h) v y) (hK : storeV P t h a v K) : OKu P G F w φ h (Instr.storeAt t x y) K := by
  cases a with
  | p i o =>
    obtain ⟨hfill, hz, t', cs, hb, hle, hK⟩ := hK
    simp only [Cn] at hx
    obtain ⟨_, b, s, hf, rfl⟩ := hx
    obtain ⟨arr, harr, hc⟩ := cells_of r hb hf
    obtain ⟨hl, hall⟩ := cn_cells hy hfill
    have hlen := hl.length
    by_cases h0 : v.cells.length = 0
    · have hy0 : y.cells.toList = [] := List.length_eq_zero_iff.1 (by omega)
      have hv0 : v.cells = [] := List.length_eq_zero_iff.1 h0
      refine ⟨w, φ, _, ?_, hK, rfl, ?_, ?_⟩
      · simp only [Instr.storeAt, Instr.sureAddr, Sem.run_bind, Sem.run_pure, Result.andThen_ok, storeVar, run_sizeOf hz]
        have : y.cells.size = v.cells.length := by rw [hlen]; simp
        simp [this, hy0, storeCells]
      · have : h.set i (.cells t' (putV cs o v.cells)) = h := by
          rw [hv0]; simp only [putV]
          apply List.ext_getElem?; intro j
          by_cases e : i = j
          · subst e; rw [List.getElem?_set_self (List.getElem?_eq_some_iff.1 hb).1, hb]
          · rw [List.getElem?_set_ne e]
        simp only [Eff.heap]; rw [this]; exact r
      · have : h.set i (.cells t' (putV cs o v.cells)) = h := by
          rw [hv0]; simp only [putV]
          apply List.ext_getElem?; intro j
          by_cases e : i = j
          · subst e; rw [List.getElem?_set_self (List.getElem?_eq_some_iff.1 hb).1, hb]
          · rw [List.getElem?_set_ne e]
        simp only [Eff.heap]; rw [this]; exact ext_refl
    · have hsz := at_le (Q := fun v x => x.oneCell' = true ∧ Cn (en F w φ h) v x) hc (.inr (by intro e; subst e; simp only [List.length_nil] at hle; omega))
      obtain ⟨hr, he⟩ := put_cells r hb hf harr hc hl hall hle (by omega)
      refine ⟨_, φ, _, ?_, hK, rfl, hr, he⟩
      simp only [Instr.storeAt, Instr.sureAddr, Sem.run_bind, Sem.run_pure, Result.andThen_ok, storeVar, run_sizeOf hz]
      have h1 : y.cells.size = v.cells.length := by rw [hlen]; simp
      have := run_storeCells (P := P) (b := b) (o := s + o) (t := t') y.cells.toList arr w 0 harr hall (by omega)
      simp [h1, this]
  | _ => exact hK.elim

end Go.Vm

namespace Go.Vm
open Go Go.RowKit
variable {P : Program} {G : Addr → Option Value} {F : Nat → Prop} {w : World} {φ : Nat → Option (Nat × Nat)} {h : List Blk}

theorem CnRow.at {e : En} {z b : Nat} : ∀ {xs : List V} {o k : Nat} {v : V}, CnRow e z b o xs → xs[k]? = some v →
    ∃ y, Cn e v y ∧ y.cells.size = z ∧ ∀ j, j < z → e.w.cell? ⟨b, o + k * z + j, none⟩ = y.cells[j]?
  | [], o, k, v, _, h => by simp at h
  | x :: xs, o, 0, v, hr, h => by
    simp only [List.getElem?_cons_zero, Option.some.injEq] at h
    subst h
    simp only [CnRow] at hr
    obtain ⟨⟨y, hy, hz, hc⟩, _⟩ := hr
    exact ⟨y, hy, hz, fun j hj => by rw [← hc j hj]; congr 2; omega⟩
  | x :: xs, o, k + 1, v, hr, h => by
    simp only [CnRow] at hr
    simp only [List.getElem?_cons_succ] at h
    obtain ⟨y, hy, hz, hc⟩ := CnRow.at hr.2 h
    refine ⟨y, hy, hz, fun j hj => ?_⟩
    rw [← hc j hj]; congr 2
    rw [Nat.add_mul]; omega

def tfld (P : Program) (s : TypeId) (f : Nat) : Option (Nat × TypeId) :=
  match P.underlying s with
  | some (.struct fs) => (fs[f]?).map fun x => (x.offset, x.type)
  | _ => none

/-- The address of a part of what lies at an address. -/
def partAtV (P : Program) (t : TypeId) (off : Nat) (a : V) (K : Eff → Prop) [KTag K] : Prop :=
  match a with
  | .p i o => K (.q (.p i (o + off)))
  | .rp (.agg cs) => joinV P t cs off fun v => v.fills = true ∧ K (.q (.rp v))
  | .c (.pointer (some ⟨b, o, none⟩)) => K (.q (.c (.pointer (some ⟨b, o + off, none⟩))))
  | _ => False

theorem joinV_cells {t : TypeId} {cs : List V} {o : Nat} {K : V → Prop} (hK : joinV P t cs o K) {e : En} {ys : List Value} (hl : CnL e cs ys) (hall : ∀ x ∈ ys, x.oneCell' = true) :
    ∃ v y, K v ∧ Cn e v y ∧ (∀ j, j < y.cells.size → ys[o + j]? = y.cells[j]?) ∧ (∀ w : World, (part t ys.toArray o).run P w = .ok y w) := by
  obtain ⟨g, hg, hK⟩ := hK
  have hlen := hl.length
  cases g with
  | true =>
    simp only [if_true] at hK
    obtain ⟨n, hn, hle, hK⟩ := hK
    refine ⟨_, .agg ((ys.drop o).take n).toArray, hK, ?_, ?_, ?_⟩
    · simp only [Cn]
      exact ⟨_, rfl, by simpa using (hl.drop o).take n, fun x hx => hall x (List.mem_of_mem_drop (List.mem_of_mem_take (by simpa using hx)))⟩
    · intro j hj
      simp only [Value.cells] at hj ⊢
      simp at hj
      simp [hj]
    · intro w
      simp only [part, Sem.run_bind, run_isAgg hg, run_sizeOf hn, Result.andThen_ok, if_true]
      simp
  | false =>
    simp only [Bool.false_eq_true, if_false] at hK
    obtain ⟨v, hv, hK⟩ := hK
    obtain ⟨x, hx, hcn⟩ := hl.at hv
    have ho := hall x (List.mem_of_getElem? hx)
    refine ⟨v, x, hK, hcn, ?_, ?_⟩
    · intro j hj
      rw [cells_one ho] at hj ⊢
      have : j = 0 := by simpa using hj
      subst this
      simpa using hx
    · intro w
      simp [part, run_isAgg hg, hx]

theorem ok_partAt (_r : RH G F w φ h) {K : Eff → Prop} {t : TypeId} {off : Nat} {a : V} {b o : Nat} (hx : Cn (en F w φ h) a (.pointer (some ⟨b, o, none⟩))) (hK : partAtV P t off a K) :
    ∃ v, Cn (en F w φ h) v (.pointer (some ⟨b, o + off, none⟩)) ∧ K (.q v) := by
  cases a with
  | p i o' =>
    simp only [Cn] at hx
    obtain ⟨hi, b', s, hf, he⟩ := hx
    simp only [Value.pointer.injEq, Option.some.injEq, Addr.mk.injEq, and_true] at he
    obtain ⟨rfl, rfl⟩ := he
    exact ⟨_, by simp only [Cn]; exact ⟨hi, b, s, hf, by simp [Nat.add_assoc]⟩, hK⟩
  | rp v =>
    cases v <;> try exact hK.elim
    rename_i cs
    simp only [Cn] at hx
    obtain ⟨b', o', x, he, hb, ho, ⟨ys, rfl, hl, hall⟩, hc⟩ := hx
    simp only [Value.pointer.injEq, Option.some.injEq, Addr.mk.injEq, and_true] at he
    obtain ⟨rfl, rfl⟩ := he
    obtain ⟨v, y, ⟨hfl, hK⟩, hcn, hj, hrun⟩ := joinV_cells hK hl hall
    refine ⟨_, ?_, hK⟩
    simp only [Cn]
    refine ⟨b, o + off, y, rfl, hb, ho, hcn, fun j hj' => ?_⟩
    have h1 := hj j hj'
    have hlt : off + j < ys.size := by
      have : y.cells[j]? = some y.cells[j] := by simp [hj']
      rw [this] at h1
      have := (List.getElem?_eq_some_iff.1 h1).1
      simpa using this
    have h2 := hc (off + j) (by simpa [Value.cells] using hlt)
    rw [← h1, Nat.add_assoc, h2]
    simp [Value.cells]
  | c z =>
    simp only [Cn] at hx
    subst hx
    exact ⟨_, by simp only [Cn], hK⟩
  | _ => exact hK.elim

theorem sure_ptr {a : V} {x : Value} {e : En} (hx : Cn e a x) (ha : (∃ i o, a = .p i o) ∨ (∃ v, a = .rp v) ∨ ∃ b o, a = .c (.pointer (some ⟨b, o, none⟩))) : ∃ b o, x = .pointer (some ⟨b, o, none⟩) := by
  rcases ha with ⟨i, o, rfl⟩ | ⟨v, rfl⟩ | ⟨b, o, rfl⟩
  · simp only [Cn] at hx; obtain ⟨_, b, s, _, rfl⟩ := hx; exact ⟨_, _, rfl⟩
  · simp only [Cn] at hx; obtain ⟨b, o, x, rfl, _⟩ := hx; exact ⟨_, _, rfl⟩
  · simp only [Cn] at hx; exact ⟨_, _, hx⟩

theorem partAtV_ptr {t off a K} (h' : partAtV P t off a K) : (∃ i o, a = .p i o) ∨ (∃ v, a = .rp v) ∨ ∃ b o, a = .c (.pointer (some ⟨b, o, none⟩)) := by
  cases a with
  | p i o => exact .inl ⟨_, _, rfl⟩
  | rp v => exact .inr (.inl ⟨_, rfl⟩)
  | c z =>
    cases z with
    | pointer q =>
      cases q with
      | none => exact h'.elim
      | some ad =>
        obtain ⟨b, o, sp⟩ := ad
        cases sp with
        | none => exact .inr (.inr ⟨_, _, rfl⟩)
        | some _ => exact h'.elim
    | _ => exact h'.elim
  | _ => exact h'.elim

def fieldAddrV (P : Program) (s : TypeId) (f : Nat) (a : V) (K : Eff → Prop) [KTag K] : Prop :=
  bnd (tfld P s f) fun x => bnd (tsz P x.2) fun n => n ≠ 0 ∧ partAtV P x.2 x.1 a K

theorem tfld_some {s f off ft} (h : tfld P s f = some (off, ft)) : ∃ fs x, P.underlying s = some (.struct fs) ∧ fs[f]? = some x ∧ x.offset = off ∧ x.type = ft := by
  unfold tfld at h
  cases hu : P.underlying s with
  | none => simp [hu] at h
  | some d =>
    cases d <;> simp [hu] at h
    rename_i fs
    obtain ⟨x, hx, rfl, rfl⟩ := h
    exact ⟨fs, x, rfl, hx, rfl, rfl⟩

theorem ok_fieldAddr (r : RH G F w φ h) {K : Eff → Prop} {s : TypeId} {f : Nat} {a : V} {x : Value} (hx : Cn (en F w φ h) a x) (hK : fieldAddrV P s f a K) :
    OK P G F w φ h (Instr.fieldAt s x f) K := by
  obtain ⟨⟨off, ft⟩, hf, n, hn, hn0, hK⟩ := hK
  obtain ⟨fs, fd, hu, hfd, rfl, rfl⟩ := tfld_some hf
  obtain ⟨b, o, rfl⟩ := sure_ptr hx (partAtV_ptr hK)
  obtain ⟨v, hv, hK⟩ := ok_partAt r hx hK
  refine .pure r ?_ hv hK
  simp [Instr.fieldAt, run_underlying' hu, hfd, Instr.sureAddr, fieldPlace, run_sizeOf hn, hn0, add_none]

def fieldV (P : Program) (s : TypeId) (f : Nat) (a : V) (K : Eff → Prop) [KTag K] : Prop :=
  match a with
  | .agg cs => bnd (tfld P s f) fun x => joinV P x.2 cs x.1 fun v => K (.q v)
  | _ => False

theorem ok_field (r : RH G F w φ h) {K : Eff → Prop} {s : TypeId} {f : Nat} {a : V} {x : Value} (hx : Cn (en F w φ h) a x) (hK : fieldV P s f a K) :
    OK P G F w φ h (Instr.field s x f) K := by
  cases a with
  | agg cs =>
    obtain ⟨⟨off, ft⟩, hf, hK⟩ := hK
    obtain ⟨fs, fd, hu, hfd, rfl, rfl⟩ := tfld_some hf
    simp only [Cn] at hx
    obtain ⟨ys, rfl, hl, hall⟩ := hx
    obtain ⟨v, y, hK, hcn, _, hrun⟩ := joinV_cells hK hl hall
    refine .pure r ?_ hcn hK
    have := hrun w
    simp at this
    simp [Instr.field, run_underlying' hu, hfd, asAgg, this]
  | _ => exact hK.elim

def telem (P : Program) (t : TypeId) : Option (Option Nat × TypeId × Nat) :=
  match P.underlying t with
  | some (.array n e) => (tsz P e).map fun z => (some n, e, z)
  | some (.slice e) => (tsz P e).map fun z => (none, e, z)
  | _ => none

theorem telem_arr {t n e z} (h : telem P t = some (some n, e, z)) : P.underlying t = some (.array n e) ∧ tsz P e = some z := by
  unfold telem at h
  cases hu : P.underlying t with
  | none => simp [hu] at h
  | some d =>
    cases d <;> simp [hu] at h
    obtain ⟨z', hz', rfl, rfl, rfl⟩ := h
    exact ⟨rfl, hz'⟩

theorem telem_sl {t e z} (h : telem P t = some (none, e, z)) : P.underlying t = some (.slice e) ∧ tsz P e = some z := by
  unfold telem at h
  cases hu : P.underlying t with
  | none => simp [hu] at h
  | some d =>
    cases d <;> simp only [hu, Option.map_eq_some_iff, Prod.mk.injEq, reduceCtorEq, false_and, and_false, exists_false] at h
    obtain ⟨z', h1, _, rfl, rfl⟩ := h
    exact ⟨rfl, h1⟩

def indexAddrV (P : Program) (t : TypeId) (a ix : V) (K : Eff → Prop) [KTag K] : Prop :=
  match ix with
  | .c (.int _ n) => bnd (telem P t) fun x =>
    match x.1, a with
    | some m, a => (0 ≤ n ∧ n < m) ∧ partAtV P x.2.1 (n.toNat * x.2.2) a K
    | none, .sl z i o k => z = x.2.2 ∧ (0 ≤ n ∧ n < k) ∧ K (.q (.p i (o + n.toNat * z)))
    | none, .ro z xs => z = x.2.2 ∧ (0 ≤ n ∧ n < xs.length) ∧ bnd xs[n.toNat]? fun v => K (.q (.rp v))
    | none, _ => False
  | _ => False

theorem ok_indexAddr (r : RH G F w φ h) {K : Eff → Prop} {t : TypeId} {a ix : V} {x y : Value} (hx : Cn (en F w φ h) a x) (hy : Cn (en F w φ h) ix y) (hK : indexAddrV P t a ix K) :
    OK P G F w φ h (Instr.indexAt t x y) K := by
  cases ix with
  | c q =>
    simp only [Cn] at hy; subst hy
    cases y <;> try exact hK.elim
    rename_i k n
    obtain ⟨⟨m, e, z⟩, ht, hK⟩ := hK
    cases m with
    | some m =>
      simp only at hK
      obtain ⟨⟨h0, h1⟩, hK⟩ := hK
      obtain ⟨hu, hz⟩ := telem_arr ht
      obtain ⟨b, o, rfl⟩ := sure_ptr hx (partAtV_ptr hK)
      obtain ⟨v, hv, hK⟩ := ok_partAt r hx hK
      refine .pure r ?_ hv hK
      simp [Instr.indexAt, asIntOf, run_underlying' hu, Instr.sureAddr, h0, h1, run_sizeOf hz, add_none]
    | none =>
      obtain ⟨hu, hz⟩ := telem_sl ht
      cases a <;> simp only at hK <;> try exact hK.elim
      · rename_i z' i o k'
        obtain ⟨rfl, ⟨h0, h1⟩, hK⟩ := hK
        simp only [Cn] at hx
        obtain ⟨hi, hx⟩ := hx
        rcases hx with ⟨_, rfl, _⟩ | ⟨b, s, a, cap, t', m, hf, rfl, ha, hk, hs, hm⟩
        · simp at h1; omega
        · have ha' : a = s + o := by
            rcases ha with rfl | ha
            · omega
            · exact ha
          subst ha'
          refine .pure r (v := .p i (o + n.toNat * z')) ?_ (by simp only [Cn]; exact ⟨hi, b, s, hf, rfl⟩) hK
          simp [Instr.indexAt, asIntOf, run_underlying' hu, h0, h1, run_sizeOf hz, add_none, Nat.add_assoc]
      · rename_i z' xs
        obtain ⟨rfl, ⟨h0, h1⟩, v, hv, hK⟩ := hK
        simp only [Cn] at hx
        obtain ⟨a, cap, rfl, hc, hx⟩ := hx
        rcases hx with rfl | ⟨b, o, rfl, hb, ho, hrow⟩
        · simp at h1; omega
        · obtain ⟨y, hy, hz', hcell⟩ := CnRow.at hrow hv
          refine .pure r (v := .rp v) ?_ (by simp only [Cn]; exact ⟨b, o + n.toNat * z', y, rfl, hb, ho, hy, fun j hj => hcell j (by omega)⟩) hK
          simp [Instr.indexAt, asIntOf, run_underlying' hu, h0, h1, run_sizeOf hz, add_none]
  | _ => exact hK.elim

def isStr (P : Program) (t : TypeId) : Bool := match P.underlying t with | some .string => true | _ => false
theorem isStr_u {P : Program} {t : TypeId} (h : isStr P t = true) : P.underlying t = some .string := by
  unfold isStr at h
  cases hu : P.underlying t with
  | none => simp [hu] at h
  | some d => cases d <;> simp [hu] at h; rfl
/-- A byte of a string. -/
def byteAt (s : ByteArray) (n : Nat) : Int := (s.data.getD n 0).toNat

def indexV (P : Program) (t : TypeId) (a ix : V) (K : Eff → Prop) [KTag K] : Prop :=
  match ix with
  | .c (.int _ n) =>
    match a with
    | .agg cs => bnd (telem P t) fun x => bnd x.1 fun m => (0 ≤ n ∧ n < m) ∧ joinV P x.2.1 cs (n.toNat * x.2.2) fun v => K (.q v)
    | .c (.string s) => isStr P t = true ∧ (0 ≤ n ∧ n < s.size) ∧ K (.q (.c (.int .u8 (byteAt s n.toNat))))
    | _ => False
  | _ => False

theorem ok_index (r : RH G F w φ h) {K : Eff → Prop} {t : TypeId} {a ix : V} {x y : Value} (hx : Cn (en F w φ h) a x) (hy : Cn (en F w φ h) ix y) (hK : indexV P t a ix K) :
    OK P G F w φ h (Instr.index t x y) K := by
  cases ix with
  | c q =>
    simp only [Cn] at hy; subst hy
    cases y <;> try exact hK.elim
    rename_i k n
    cases a <;> try exact hK.elim
    · rename_i q
      cases q <;> try exact hK.elim
      rename_i s
      obtain ⟨hs, ⟨h0, h1⟩, hK⟩ := hK
      simp only [Cn] at hx
      subst hx
      have hlt : n.toNat < s.size := by omega
      refine .pure r (y := .int .u8 (byteAt s n.toNat)) ?_ (by simp only [Cn]) hK
      have hget : s[n.toNat]? = some s.data[n.toNat] := by
        rw [getElem?_pos s n.toNat hlt]; rfl
      have hb : byteAt s n.toNat = (s.data[n.toNat].toNat : Int) := by
        simp only [byteAt, Array.getD]; rw [dif_pos (show n.toNat < s.data.size from hlt)]; rfl
      simp [Instr.index, asIntOf, run_underlying' (isStr_u hs), h0, hget, hb]
    rename_i cs
    obtain ⟨⟨m, e, z⟩, ht, m', hm, ⟨h0, h1⟩, hK⟩ := hK
    simp only at hm; subst hm
    obtain ⟨hu, hz⟩ := telem_arr ht
    simp only [Cn] at hx
    obtain ⟨ys, rfl, hl, hall⟩ := hx
    obtain ⟨v, y, hK, hcn, _, hrun⟩ := joinV_cells hK hl hall
    refine .pure r ?_ hcn hK
    have := hrun w
    simp at this
    simp [Instr.index, asIntOf, run_underlying' hu, h0, h1, run_sizeOf hz, this]
  | _ => exact hK.elim

end Go.Vm

namespace Go.Vm
open Go Go.RowKit
variable {P : Program} {G : Addr → Option Value} {F : Nat → Prop} {w : World} {φ : Nat → Option (Nat × Nat)} {h : List Blk}

def fillV (place : Nat → Option (Nat × Nat)) (cells : List V) : List (Nat × V) → Option (List V)
  | [] => some cells
  | (i, v) :: rest =>
    match place i with
    | none => none
    | some (off, size) =>
      if v.cells.length = size ∧ off + v.cells.length ≤ cells.length ∧ v.fills = true then fillV place (putV cells off v.cells) rest else none

theorem fold_put (off : Nat) : ∀ (xs : List Value) (k : Nat) (arr : Array Value),
    (xs.zipIdx k).foldl (fun cs (x : Value × Nat) => cs.setIfInBounds (off + x.2) x.1) arr = putArr arr (off + k) xs
  | [], k, arr => by simp [putArr]
  | x :: xs, k, arr => by
    simp only [List.zipIdx_cons, List.foldl_cons, putArr]
    rw [fold_put off xs (k + 1)]
    rfl

theorem putArr_cn {e : En} {cs vs : List V} {arr : Array Value} {ys : List Value} {o : Nat} (hc : CnL e cs arr.toList) (hv : CnL e vs ys) (hle : o + vs.length ≤ cs.length) :
    CnL e (putV cs o vs) (putArr arr o ys).toList := by
  induction vs generalizing cs arr ys o with
  | nil => simp only [CnL] at hv; subst hv; simpa [putV, putArr] using hc
  | cons v vs ih =>
    simp only [CnL] at hv
    obtain ⟨x, xs, rfl, hx, hl⟩ := hv
    simp only [List.length_cons] at hle
    simp only [putV, putArr]
    refine ih ?_ hl (by simp; omega)
    have : ∀ {cs : List V} {ys : List Value} {o : Nat}, CnL e cs ys → CnL e (cs.set o v) (ys.set o x) := by
      intro cs
      induction cs with
      | nil => intro ys o h; simp only [CnL] at h; subst h; simp [CnL]
      | cons c cs ih =>
        intro ys o h
        simp only [CnL] at h
        obtain ⟨y, ys', rfl, hy, hl⟩ := h
        cases o with
        | zero => simp only [List.set_cons_zero, CnL]; exact ⟨x, _, rfl, hx, hl⟩
        | succ o => simp only [List.set_cons_succ, CnL]; exact ⟨y, _, rfl, hy, ih hl⟩
    simpa using this hc

theorem putArr_one : ∀ {ys : List Value} {o : Nat} {arr : Array Value}, (∀ x ∈ arr.toList, x.oneCell' = true) → (∀ x ∈ ys, x.oneCell' = true) → ∀ x ∈ (putArr arr o ys).toList, x.oneCell' = true
  | [], o, arr, h, _ => by simpa [putArr] using h
  | y :: ys, o, arr, h, hy => by
    simp only [putArr]
    refine putArr_one ?_ (fun z hz => hy z (by simp [hz]))
    intro z hz
    simp only [Array.toList_setIfInBounds] at hz
    rcases List.mem_or_eq_of_mem_set hz with hz | rfl
    · exact h z hz
    · exact hy z (by simp)

/-- Parts and their values. -/
def CnParts (e : En) : List (Nat × V) → List (Nat × Value) → Prop
  | [], ys => ys = []
  | (i, v) :: r, ys => ∃ x xs, ys = (i, x) :: xs ∧ Cn e v x ∧ CnParts e r xs

theorem fill_cn {e : En} {place : Nat → Option (Nat × Nat)} : ∀ {parts : List (Nat × V)} {xs : List (Nat × Value)} {cells cells' : List V} {arr : Array Value}, CnParts e parts xs →
    fillV place cells parts = some cells' → CnL e cells arr.toList → (∀ x ∈ arr.toList, x.oneCell' = true) →
    ∃ arr', Instr.fill place arr xs = some arr' ∧ CnL e cells' arr'.toList ∧ ∀ x ∈ arr'.toList, x.oneCell' = true
  | [], xs, cells, cells', arr, hp, hf, hc, ho => by
    simp only [CnParts] at hp; subst hp
    simp only [fillV, Option.some.injEq] at hf; subst hf
    exact ⟨arr, rfl, hc, ho⟩
  | (i, v) :: rest, xs, cells, cells', arr, hp, hf, hc, ho => by
    simp only [CnParts] at hp
    obtain ⟨x, xs', rfl, hx, hp⟩ := hp
    simp only [fillV] at hf
    cases hpl : place i with
    | none => simp [hpl] at hf
    | some q =>
      obtain ⟨off, size⟩ := q
      simp only [hpl] at hf
      split at hf
      · rename_i hcond
        obtain ⟨h1, h2, h3⟩ := hcond
        obtain ⟨hl, hall⟩ := cn_cells hx h3
        have hlen := hl.length
        have hlenc := hc.length
        obtain ⟨arr', hfill, hcn, hone⟩ := fill_cn (place := place) (arr := putArr arr off x.cells.toList) hp hf (putArr_cn hc hl h2) (putArr_one ho hall)
        refine ⟨arr', ?_, hcn, hone⟩
        simp only [Instr.fill, hpl]
        have hs : x.cells.size = size := by rw [← h1, hlen]; simp
        have hs2 : ¬ (off + x.cells.size > arr.size) := by
          have : arr.toList.length = arr.size := by simp
          omega
        simp only [hs, ne_eq, not_true, decide_false, Bool.false_or]
        rw [if_neg (by simpa [hs] using hs2)]
        rw [← hfill]
        congr 1
        have := fold_put off x.cells.toList 0 arr
        simp only [Nat.add_zero] at this
        rw [← this]
        rw [← Array.foldl_toList, Array.toList_zipIdx]
      · cases hf

def tplaces (P : Program) (t : TypeId) : Option (List (Nat × Nat)) :=
  match P.underlying t with
  | some (.struct fs) => fs.toList.mapM (fun f => (P.info? f.type).map fun i => (f.offset, i.size))
  | _ => none

def evParts (s : St) : List (Nat × Operand) → Option (List (Nat × V))
  | [] => some []
  | (i, x) :: xs => match ev s x, evParts s xs with
    | some v, some vs => some ((i, v) :: vs)
    | _, _ => none

theorem evParts_cn {G F w φ s a} (r : Rep G F w φ s a) : ∀ {xs : List (Nat × Operand)} {vs : List (Nat × V)}, evParts s xs = some vs → CnParts (en F w φ s.h) vs (xs.map fun (i, x) => (i, a.eval x))
  | [], vs, h => by simp only [evParts, Option.some.injEq] at h; subst h; simp [CnParts]
  | (i, x) :: xs, vs, h => by
    simp only [evParts] at h
    split at h
    · rename_i v vs' h1 h2
      cases h
      simp only [List.map_cons, CnParts]
      exact ⟨_, _, rfl, ev_cn r h1, evParts_cn r h2⟩
    · cases h

def buildV (P : Program) (t : TypeId) (parts : List (Nat × V)) (K : Eff → Prop) [KTag K] : Prop :=
  bnd (tzero P t) fun z => (ofV z).fills = true ∧
    ((∃ l, tplaces P t = some l ∧ bnd (fillV (l[·]?) (ofV z).cells parts) fun cs => K (.q (.agg cs))) ∨
     (∃ n e m, telem P t = some (some n, e, m) ∧ bnd (fillV (fun i => some (i * m, m)) (ofV z).cells parts) fun cs => K (.q (.agg cs))))

theorem tzero_info {t z} (h : tzero P t = some z) : ∃ i, P.info? t = some i ∧ i.zero = some z := by
  unfold tzero at h
  cases hi : P.info? t with
  | none => simp [hi] at h
  | some i => simp [hi] at h; exact ⟨i, rfl, h⟩

theorem tsz_info {t n} (h : tsz P t = some n) : ∃ i, P.info? t = some i ∧ i.size = n := by
  unfold tsz at h
  cases hi : P.info? t with
  | none => simp [hi] at h
  | some i => simp [hi] at h; exact ⟨i, rfl, h⟩

theorem ok_build (r : RH G F w φ h) {K : Eff → Prop} {t : TypeId} {parts : List (Nat × V)} {xs : Array (Nat × Value)} (hx : CnParts (en F w φ h) parts xs.toList) (hK : buildV P t parts K) :
    OK P G F w φ h (Instr.build t xs) K := by
  obtain ⟨z, hz, hfz, hK⟩ := hK
  obtain ⟨hl, hall⟩ := cn_cells (cn_ofV (en F w φ h) z) hfz
  obtain ⟨it, hit, hzero⟩ := tzero_info hz
  rcases hK with ⟨l, hpl, cs, hf, hK⟩ | ⟨n, e, m, ht, cs, hf, hK⟩
  · obtain ⟨arr', hfill, hcn, hone⟩ := fill_cn hx hf hl hall
    refine .pure r (run_build w t xs arr' ?_) (by simp only [Cn]; exact ⟨arr', rfl, hcn, hone⟩) hK
    unfold tplaces at hpl
    cases hu : P.underlying t with
    | none => simp [hu] at hpl
    | some d =>
      cases d <;> simp only [hu, reduceCtorEq] at hpl
      simp only [Program.built, hit, hu, hzero, hpl]
      simpa using hfill
  · obtain ⟨arr', hfill, hcn, hone⟩ := fill_cn hx hf hl hall
    refine .pure r (run_build w t xs arr' ?_) (by simp only [Cn]; exact ⟨arr', rfl, hcn, hone⟩) hK
    obtain ⟨hu, hm⟩ := telem_arr ht
    obtain ⟨ie, hie, rfl⟩ := tsz_info hm
    simp only [Program.built, hit, hu, hzero, hie]
    exact hfill

/-- A row of zero values. -/
def repV (n : Nat) (zs : List V) : List V := (List.replicate n zs).flatten

theorem rep_cn {e : En} {zs : List V} {z : Array Value} (hz : CnL e zs z.toList) : ∀ n, CnL e (repV n zs) (List.replicate n z.toList).flatten
  | 0 => by simp [repV, CnL]
  | n + 1 => by
    have app : ∀ {as bs : List V} {xs ys : List Value}, CnL e as xs → CnL e bs ys → CnL e (as ++ bs) (xs ++ ys) := by
      intro as
      induction as with
      | nil => intro bs xs ys h k; simp only [CnL] at h; subst h; simpa using k
      | cons a as ih =>
        intro bs xs ys h k
        simp only [CnL] at h
        obtain ⟨x, xs', rfl, hx, hl⟩ := h
        simp only [List.cons_append, CnL]
        exact ⟨x, _, rfl, hx, ih hl k⟩
    simp only [repV, List.replicate_succ, List.flatten_cons]
    exact app hz (rep_cn hz n)

theorem rows_eq (z : Array Value) (n : Nat) : ((Array.range (n * z.size)).map (fun i => z[i % z.size]!)).toList = (List.replicate n z.toList).flatten := by
  induction n with
  | zero => simp
  | succ n ih =>
    have hr : Array.range ((n + 1) * z.size) = Array.range (z.size) ++ (Array.range (n * z.size)).map (· + z.size) := by
      apply Array.ext
      · simp [Nat.add_mul]; omega
      · intro i h1 h2
        simp only [Array.getElem_range, Array.getElem_append, Array.size_range, Array.getElem_map]
        split <;> omega
    rw [hr]
    simp only [Array.map_append, Array.toList_append, List.replicate_succ, List.flatten_cons]
    congr 1
    · apply List.ext_getElem
      · simp
      · intro i h1 h2
        simp at h1
        simp [Nat.mod_eq_of_lt h1, h1]
    · rw [← ih]
      simp [Function.comp_def]

def buildSliceV (P : Program) (t : TypeId) (len : Nat) (parts : List (Nat × V)) (K : Eff → Prop) [KTag K] : Prop :=
  bnd (telem P t) fun x => x.1 = none ∧ x.2.2 ≠ 0 ∧ len * x.2.2 ≤ 16777216 ∧ bnd (tzero P x.2.1) fun z => (ofV z).fills = true ∧ (ofV z).cells.length = x.2.2 ∧
    bnd (fillV (fun i => some (i * x.2.2, x.2.2)) (repV len (ofV z).cells) parts) fun cs => K (.nw (.sl x.2.2 len) (.cells x.2.1 cs))

theorem rep_one {z : Array Value} (hz : ∀ x ∈ z.toList, x.oneCell' = true) : ∀ n, ∀ x ∈ (List.replicate n z.toList).flatten, x.oneCell' = true := by
  intro n x hx
  simp only [List.mem_flatten, List.mem_replicate] at hx
  obtain ⟨l, ⟨_, rfl⟩, hx⟩ := hx
  exact hz x hx

theorem repV_length (n : Nat) (zs : List V) : (repV n zs).length = n * zs.length := by simp [repV]

theorem fillV_length {place : Nat → Option (Nat × Nat)} : ∀ {parts : List (Nat × V)} {cells cells' : List V}, fillV place cells parts = some cells' → cells'.length = cells.length
  | [], _, _, h => by simp only [fillV, Option.some.injEq] at h; rw [h]
  | (i, v) :: rest, cells, cells', h => by
    simp only [fillV] at h
    cases hpl : place i with
    | none => simp [hpl] at h
    | some q =>
      simp only [hpl] at h
      split at h
      · rw [fillV_length h, putV_length]
      · cases h

theorem ok_buildSlice (r : RH G F w φ h) {K : Eff → Prop} {t : TypeId} {len : Nat} {parts : List (Nat × V)} {xs : Array (Nat × Value)} (hx : CnParts (en F w φ h) parts xs.toList) (hK : buildSliceV P t len parts K) :
    OK P G F w φ h (Instr.buildSlice t len xs) K := by
  obtain ⟨⟨m, e, sz⟩, ht, hm, h0, hle, z, hz, hfz, hzl, cs, hf, hK⟩ := hK
  simp only at hm h0 hle hz hzl hf hK
  subst hm
  obtain ⟨hu, hsz⟩ := telem_sl ht
  obtain ⟨hl, hall⟩ := cn_cells (cn_ofV (en F w φ h) z) hfz
  have hlen := hl.length
  have hzs : z.cells.size = sz := by rw [← hzl, hlen]; simp
  have hrow := rows_eq z.cells len
  rw [hzs] at hrow
  obtain ⟨arr', hfill, hcn, hone⟩ := fill_cn (arr := (Array.range (len * sz)).map (fun i => z.cells[i % sz]!)) hx hf (by rw [hrow]; exact rep_cn hl len) (by rw [hrow]; exact rep_one hall len)
  have hclen := fillV_length hf
  rw [repV_length, hzl] at hclen
  have harr : arr'.size = len * sz := by have := hcn.length; simp at this; omega
  refine ⟨.slice (some ⟨w.heap.size, 0, none⟩) len len, _, _, _, ?_, hK, ?_, rh_alloc r e cs arr' hcn (by simpa using hone), ext_alloc _ _⟩
  · simp only [Instr.buildSlice, Sem.run_bind, run_underlying' hu, Result.andThen_ok, run_sizeOf hsz]
    rw [if_neg (by omega)]
    by_cases hl0 : len * sz = 0
    · have : len = 0 := by rcases Nat.mul_eq_zero.1 hl0 with h | h <;> omega
      subst this
      have h00 : Array.range 0 = #[] := rfl
      simp [h00] at hfill
      simp [h00, hfill, newRow]
    · simp only [hl0, if_false, Sem.run_bind, run_zeroValue hz, Result.andThen_ok, Sem.run_pure, hzs, hfill]
      simp [newRow]
  · simp only [Cn, en, Eff.val, Eff.heap, NV.at]
    refine ⟨by simp [Blk.dm], .inr ⟨w.heap.size, 0, 0, len, e, arr'.size, by simp, rfl, .inr rfl, Nat.le_refl _, ?_, by omega⟩⟩
    rw [shape_eq, World.alloc_heap_new]; rfl

end Go.Vm

namespace Go.Vm
open Go Go.RowKit
variable {P : Program} {G : Addr → Option Value} {F : Nat → Prop} {w : World} {φ : Nat → Option (Nat × Nat)} {h : List Blk}

/-- The bounds of a slice expression, off their values. -/
def boundV (s : St) (d : Nat) : Option Operand → Option Int
  | none => some d
  | some x => match ev s x with
    | some (.c (.int _ n)) => some n
    | _ => none

def sliceV (z : Nat) (a : V) (k : Nat) (lo hi mx : Int) (K : Eff → Prop) [KTag K] : Prop :=
  (0 ≤ lo ∧ lo ≤ hi ∧ hi ≤ mx ∧ mx ≤ k) ∧
  match a with
  | .sl z' i o _ => z' = z ∧ K (.q (.sl z i (o + lo.toNat * z) (hi - lo).toNat))
  | .ro z' xs => z' = z ∧ K (.q (.ro z ((xs.drop lo.toNat).take (hi - lo).toNat)))
  | .c (.slice none 0 0) => K (.q (.c (.slice none 0 0)))
  | _ => False

def lenV : V → Option Nat
  | .sl _ _ _ k => some k
  | .ro _ xs => some xs.length
  | .c (.slice none 0 0) => some 0
  | _ => none

theorem CnRow.drop {e : En} {z b : Nat} : ∀ {xs : List V} {o : Nat} (n : Nat), CnRow e z b o xs → CnRow e z b (o + n * z) (xs.drop n)
  | xs, o, 0, h => by simpa using h
  | [], o, n + 1, h => by simp [CnRow]
  | x :: xs, o, n + 1, h => by
    simp only [CnRow] at h
    have := CnRow.drop n h.2
    simp only [List.drop_succ_cons]
    rw [Nat.add_mul, Nat.one_mul, show o + (n * z + z) = o + z + n * z by omega]
    exact this

theorem CnRow.take {e : En} {z b : Nat} : ∀ {xs : List V} {o : Nat} (n : Nat), CnRow e z b o xs → CnRow e z b o (xs.take n)
  | xs, o, 0, h => by simp [CnRow]
  | [], o, n + 1, h => by simp [CnRow]
  | x :: xs, o, n + 1, h => by
    simp only [CnRow] at h
    simp only [List.take_succ_cons, CnRow]
    exact ⟨h.1, CnRow.take n h.2⟩

theorem lenV_cn {e : En} {v : V} {y : Value} {n : Nat} (hv : Cn e v y) (hl : lenV v = some n) : ∃ a cap, y = .slice a n cap ∧ n ≤ cap := by
  cases v with
  | sl z i o k =>
    simp only [lenV, Option.some.injEq] at hl; subst hl
    simp only [Cn] at hv
    obtain ⟨_, ⟨_, h0, rfl⟩ | ⟨b, s, a, cap, t, m, _, rfl, _, hk, _⟩⟩ := hv
    · exact ⟨none, 0, by rw [h0], by omega⟩
    · exact ⟨_, cap, rfl, hk⟩
  | ro z xs =>
    simp only [lenV, Option.some.injEq] at hl; subst hl
    simp only [Cn] at hv
    obtain ⟨a, cap, rfl, hc, _⟩ := hv
    exact ⟨a, cap, rfl, hc⟩
  | c x =>
    simp only [Cn] at hv; subst hv
    unfold lenV at hl
    split at hl <;> simp at hl
    · rename_i h1; cases h1
    · rename_i h1; cases h1
    · rename_i h1; cases h1; subst hl; exact ⟨none, 0, rfl, Nat.le_refl _⟩
  | _ => simp [lenV] at hl

theorem run_bound {k : IntKind} {n : Int} {y : Nat} {code : BoundsCode} (h0 : 0 ≤ n) (h1 : n ≤ y) : (Instr.sliceBound (.int k n) y code).run P w = .ok n.toNat w := by
  simp [Instr.sliceBound, asIntOf, h0, h1]

/-- A bound and what it is. -/
def Bd (d : Nat) (n : Int) (x : Option Value) : Prop := (x = none ∧ n = d) ∨ ∃ k, x = some (.int k n)

theorem boundV_bd {G F w φ s a} (r : Rep G F w φ s a) {d : Nat} {x : Option Operand} {n : Int} (h : boundV s d x = some n) : Bd d n (x.map a.eval) := by
  cases x with
  | none => simp only [boundV, Option.some.injEq] at h; exact .inl ⟨rfl, h.symm⟩
  | some x =>
    simp only [boundV] at h
    split at h
    · rename_i k m he
      cases h
      have := ev_cn r he
      simp only [Cn] at this
      exact .inr ⟨k, by simp [this]⟩
    · cases h

theorem run_bounds {len cap : Nat} {lo hi : Option Value} {l hh : Int} (hl : Bd 0 l lo) (hh' : Bd len hh hi) (h0 : 0 ≤ l) (h1 : l ≤ hh) (h2 : hh ≤ cap) :
    (Instr.sliceBounds true len cap lo hi none).run P w = .ok (l.toNat, hh.toNat, cap) w := by
  have hd : ((len : Int)).toNat = len := by simp
  rcases hl with ⟨rfl, rfl⟩ | ⟨k, rfl⟩ <;> rcases hh' with ⟨rfl, rfl⟩ | ⟨k', rfl⟩
  · simp [Instr.sliceBounds]
  · simp [Instr.sliceBounds, run_bound (P := P) (w := w) (k := k') (n := hh) (y := cap) (by omega) h2]
  · simp [Instr.sliceBounds, run_bound (P := P) (w := w) (k := k) (n := l) (y := len) h0 h1]
  · simp [Instr.sliceBounds, run_bound (P := P) (w := w) (k := k') (n := hh) (y := cap) (by omega) h2, run_bound (P := P) (w := w) (k := k) (n := l) (y := hh.toNat) h0 (by omega)]

theorem run_bounds3 {len cap : Nat} {lo : Option Value} {l hh mm : Int} {k k' : IntKind} (hl : Bd 0 l lo) (h0 : 0 ≤ l) (h1 : l ≤ hh) (h2 : hh ≤ mm) (h3 : mm ≤ cap) :
    (Instr.sliceBounds true len cap lo (some (.int k hh)) (some (.int k' mm))).run P w = .ok (l.toNat, hh.toNat, mm.toNat) w := by
  rcases hl with ⟨rfl, rfl⟩ | ⟨q, rfl⟩
  · simp [Instr.sliceBounds, run_bound (P := P) (w := w) (k := k) (n := hh) (y := mm.toNat) (by omega) (by omega), run_bound (P := P) (w := w) (k := k') (n := mm) (y := cap) (by omega) h3]
  · simp [Instr.sliceBounds, run_bound (P := P) (w := w) (k := k) (n := hh) (y := mm.toNat) (by omega) (by omega), run_bound (P := P) (w := w) (k := k') (n := mm) (y := cap) (by omega) h3,
      run_bound (P := P) (w := w) (k := q) (n := l) (y := hh.toNat) (by omega) (by omega)]

/-- What a slice expression gives, out of its three numbers. -/
theorem ok_sliced (_r : RH G F w φ h) {K : Eff → Prop} {z : Nat} {a : V} {ad : Option Addr} {k cap : Nat} {lo hi mx : Int} (hx : Cn (en F w φ h) a (.slice ad k cap))
    {m : Nat} (hm : hi ≤ m) (hmc : m ≤ cap) (hK : sliceV z a k lo hi mx K) :
    ∃ v, Cn (en F w φ h) v (.slice (if m = lo.toNat then ad else ad.map (·.add (lo.toNat * z))) (hi.toNat - lo.toNat) (m - lo.toNat)) ∧ K (.q v) := by
  obtain ⟨⟨h0, h1, h2, h3⟩, hK⟩ := hK
  have e1 : (hi - lo).toNat = hi.toNat - lo.toNat := by omega
  cases a with
  | sl z' i o k' =>
    obtain ⟨rfl, hK⟩ := hK
    refine ⟨_, ?_, hK⟩
    simp only [Cn] at hx ⊢
    obtain ⟨hi', hx⟩ := hx
    refine ⟨hi', ?_⟩
    rcases hx with ⟨hf, hk0, he⟩ | ⟨b, s, a, cap', t, mm, hf, he, ha, hk, hs, hle⟩
    · cases he
      have : m = lo.toNat := by omega
      refine .inl ⟨hf, by omega, ?_⟩
      rw [if_pos this]
      have a1 : hi.toNat - lo.toNat = 0 := by omega
      have a2 : m - lo.toNat = 0 := by omega
      rw [a1, a2]
    · simp only [Value.slice.injEq] at he
      obtain ⟨rfl, rfl, rfl⟩ := he
      have e2 : s + (o + lo.toNat * z') + (m - lo.toNat) * z' ≤ mm := by
        have : lo.toNat * z' + (m - lo.toNat) * z' = m * z' := by rw [← Nat.add_mul]; congr 1; omega
        have h5 : m * z' ≤ cap * z' := Nat.mul_le_mul_right _ hmc
        omega
      by_cases hml : m = lo.toNat
      · refine .inr ⟨b, s, a, m - lo.toNat, t, mm, hf, by simp [hml, e1], .inl (by omega), by omega, hs, e2⟩
      · have ha' : a = s + o := by
          rcases ha with rfl | ha
          · omega
          · exact ha
        refine .inr ⟨b, s, a + lo.toNat * z', m - lo.toNat, t, mm, hf, by simp [hml, add_none, e1], .inr (by omega), by omega, hs, e2⟩
  | ro z' xs =>
    obtain ⟨rfl, hK⟩ := hK
    refine ⟨_, ?_, hK⟩
    simp only [Cn] at hx ⊢
    obtain ⟨a, cap', he, hc, hx⟩ := hx
    simp only [Value.slice.injEq] at he
    obtain ⟨rfl, rfl, rfl⟩ := he
    have hlen : ((xs.drop lo.toNat).take (hi - lo).toNat).length = hi.toNat - lo.toNat := by simp; omega
    refine ⟨_, _, by rw [hlen], by omega, ?_⟩
    rcases hx with rfl | ⟨b, o, rfl, hb, ho, hrow⟩
    · exact .inl (by simp)
    · by_cases hml : m = lo.toNat
      · exact .inl (List.eq_nil_of_length_eq_zero (by omega))
      · exact .inr ⟨b, o + lo.toNat * z', by simp [hml, add_none], hb, ho, (hrow.drop _).take _⟩
  | c x =>
    simp only [Cn] at hx; subst hx
    split at hK
    · rename_i h1; cases h1
    · rename_i h1; cases h1
    · rename_i h1; cases h1
      refine ⟨_, ?_, hK⟩
      have : m = lo.toNat := by omega
      simp only [Cn]
      rw [if_pos this]
      have a1 : hi.toNat - lo.toNat = 0 := by omega
      have a2 : m - lo.toNat = 0 := by omega
      rw [a1, a2]
    · exact hK.elim
  | _ => exact hK.elim

def slicesV (P : Program) (s : St) (t : TypeId) (a : V) (lo hi mx : Option Operand) (K : Eff → Prop) [KTag K] : Prop :=
  bnd (telem P t) fun x => x.1 = none ∧ bnd (lenV a) fun k => bnd (boundV s 0 lo) fun l => bnd (boundV s k hi) fun hh =>
    match mx with
    | none => sliceV x.2.2 a k l hh k K
    | some m => hi.isSome = true ∧ bnd (boundV s 0 (some m)) fun mm => sliceV x.2.2 a k l hh mm K

theorem ok_slices {s : St} {a : Act} (r : Rep G F w φ s a) {K : Eff → Prop} {t : TypeId} {av : V} {x : Value} {lo hi mx : Option Operand} (hx : Cn (en F w φ s.h) av x) (hK : slicesV P s t av lo hi mx K) :
    OK P G F w φ s.h (Instr.sliceAt t x (lo.map a.eval) (hi.map a.eval) (mx.map a.eval)) K := by
  obtain ⟨⟨m, e, z⟩, ht, hm, k, hk, l, hl, hh, hhh, hK⟩ := hK
  simp only at hm hK
  subst hm
  obtain ⟨hu, hz⟩ := telem_sl ht
  obtain ⟨ad, cap, rfl, hkc⟩ := lenV_cn hx hk
  have bl := boundV_bd r hl
  have bh := boundV_bd r hhh
  cases mx with
  | none =>
    simp only at hK
    have hc := hK.1
    obtain ⟨v, hv, hK⟩ := ok_sliced r.heap hx (m := cap) (by omega) (Nat.le_refl _) hK
    refine .pure r.heap ?_ hv hK
    simp [Instr.sliceAt, run_underlying' hu, Instr.slice, run_bounds (P := P) (w := w) (cap := cap) bl bh (by omega) (by omega) (by omega), run_sizeOf hz]
  | some mo =>
    simp only at hK
    obtain ⟨hsome, mm, hmm, hK⟩ := hK
    have hc := hK.1
    have bm := boundV_bd r hmm
    obtain ⟨v, hv, hK⟩ := ok_sliced r.heap hx (m := mm.toNat) (by omega) (by omega) hK
    refine .pure r.heap ?_ hv hK
    rcases bm with ⟨hn, _⟩ | ⟨k', hk'⟩
    · simp at hn
    · rcases bh with ⟨hn, _⟩ | ⟨k2, hk2⟩
      · cases hi <;> simp at hn hsome
      · rw [hk', hk2]
        have := run_bounds3 (P := P) (w := w) (len := k) (cap := cap) (k := k2) (k' := k') (hh := hh) (mm := mm) bl (by omega) (by omega) (by omega) (by omega)
        simp [Instr.sliceAt, run_underlying' hu, Instr.slice, this, run_sizeOf hz]

theorem run_boundsS {n : Nat} {lo hi : Option Value} {l hh : Int} (hl : Bd 0 l lo) (hh' : Bd n hh hi) (h0 : 0 ≤ l) (h1 : l ≤ hh) (h2 : hh ≤ n) :
    ∃ m, (Instr.sliceBounds false n n lo hi none).run P w = .ok (l.toNat, hh.toNat, m) w := by
  have hd : ((n : Int)).toNat = n := by simp
  rcases hl with ⟨rfl, rfl⟩ | ⟨k, rfl⟩ <;> rcases hh' with ⟨rfl, rfl⟩ | ⟨k', rfl⟩
  · exact ⟨_, by simp [Instr.sliceBounds]; rfl⟩
  · exact ⟨_, by simp [Instr.sliceBounds, run_bound (P := P) (w := w) (k := k') (n := hh) (y := n) (by omega) h2]; rfl⟩
  · exact ⟨_, by simp [Instr.sliceBounds, run_bound (P := P) (w := w) (k := k) (n := l) (y := n) h0 h1]; rfl⟩
  · exact ⟨_, by simp [Instr.sliceBounds, run_bound (P := P) (w := w) (k := k') (n := hh) (y := n) (by omega) h2, run_bound (P := P) (w := w) (k := k) (n := l) (y := hh.toNat) h0 (by omega)]; rfl⟩

theorem run_boundsA {n : Nat} {lo hi : Option Value} {l hh : Int} (hl : Bd 0 l lo) (hh' : Bd n hh hi) (h0 : 0 ≤ l) (h1 : l ≤ hh) (h2 : hh ≤ n) :
    (Instr.sliceBounds false n n lo hi none).run P w = .ok (l.toNat, hh.toNat, n) w := by
  have hd : ((n : Int)).toNat = n := by simp
  rcases hl with ⟨rfl, rfl⟩ | ⟨k, rfl⟩ <;> rcases hh' with ⟨rfl, rfl⟩ | ⟨k', rfl⟩
  · simp [Instr.sliceBounds]
  · simp [Instr.sliceBounds, run_bound (P := P) (w := w) (k := k') (n := hh) (y := n) (by omega) h2]
  · simp [Instr.sliceBounds, run_bound (P := P) (w := w) (k := k) (n := l) (y := n) h0 h1]
  · simp [Instr.sliceBounds, run_bound (P := P) (w := w) (k := k') (n := hh) (y := n) (by omega) h2, run_bound (P := P) (w := w) (k := k) (n := l) (y := hh.toNat) h0 (by omega)]

def sliceOpV (P : Program) (s : St) (t : TypeId) (a : V) (lo hi mx : Option Operand) (K : Eff → Prop) [KTag K] : Prop :=
  match a with
  | .c (.string x) => (isStr P t = true ∧ mx.isNone = true) ∧ bnd (boundV s 0 lo) fun l => bnd (boundV s x.size hi) fun hh => (0 ≤ l ∧ l ≤ hh ∧ hh ≤ x.size) ∧ K (.q (.c (.string (x.extract l.toNat hh.toNat))))
  | a => slicesV P s t a lo hi mx K

theorem ok_slice {s : St} {a : Act} (r : Rep G F w φ s a) {K : Eff → Prop} {t : TypeId} {av : V} {x : Value} {lo hi mx : Option Operand} (hx : Cn (en F w φ s.h) av x) (hK : sliceOpV P s t av lo hi mx K) :
    OK P G F w φ s.h (Instr.sliceAt t x (lo.map a.eval) (hi.map a.eval) (mx.map a.eval)) K := by
  unfold sliceOpV at hK
  split at hK
  · rename_i b
    obtain ⟨⟨hu, hm⟩, l, hl, hh, hhh, ⟨h0, h1, h2⟩, hK⟩ := hK
    simp only [Cn] at hx
    subst hx
    have hu := isStr_u hu
    cases mx with
    | some m => simp at hm
    | none =>
      obtain ⟨m, hb⟩ := run_boundsS (P := P) (w := w) (boundV_bd r hl) (boundV_bd r hhh) h0 h1 h2
      refine .pure r.heap (y := .string (b.extract l.toNat hh.toNat)) ?_ (by simp only [Cn]) hK
      simp [Instr.sliceAt, run_underlying' hu, Instr.slice, hb]
  · exact ok_slices r hx hK
theorem ok_len {v : V} {x : Value} {t ty : TypeId} {n : Nat} {e : En} (hx : Cn e v x) (hl : lenV v = some n) (ht : ∃ el z, telem P t = some (none, el, z)) : (Builtin.len_ #[t] ty #[x]).run P w = .ok (goInt n) w := by
  obtain ⟨a, cap, rfl, _⟩ := lenV_cn hx hl
  obtain ⟨el, z, ht⟩ := ht
  obtain ⟨hu, _⟩ := telem_sl ht
  simp [Builtin.len_, run_underlying' hu]

def makeSliceV (P : Program) (t : TypeId) (l c : V) (K : Eff → Prop) [KTag K] : Prop :=
  match l, c with
  | .c (.int _ n), .c (.int _ m) => bnd (telem P t) fun x => x.1 = none ∧ x.2.2 ≠ 0 ∧ bnd (tzero P x.2.1) fun z => (ofV z).fills = true ∧ (ofV z).cells.length = x.2.2 ∧
      (0 ≤ n ∧ n ≤ m ∧ m * P.bytesOf x.2.1 ≤ 140737488355328 ∧ m ≤ 9223372036854775807) ∧
      K (.nw (.sl x.2.2 n.toNat) (.cells x.2.1 (repV n.toNat (ofV z).cells)))
  | _, _ => False

theorem ok_makeSlice (r : RH G F w φ h) {K : Eff → Prop} {t : TypeId} {l c : V} {x y : Value} (hx : Cn (en F w φ h) l x) (hy : Cn (en F w φ h) c y) (hK : makeSliceV P t l c K) :
    OK P G F w φ h (Instr.makeSlice t x y) K := by
  unfold makeSliceV at hK
  split at hK
  · rename_i k n k' m
    simp only [Cn] at hx hy
    subst hx; subst hy
    obtain ⟨⟨mm, e, sz⟩, ht, hm, hz0, z, hz, hfz, hzl, ⟨h0, h1, h2, h3⟩, hK⟩ := hK
    simp only at hm hz0 hz hzl h2 hK
    subst hm
    obtain ⟨hu, hsz⟩ := telem_sl ht
    obtain ⟨ie, hie, hiz⟩ := tsz_info hsz
    obtain ⟨hl, hall⟩ := cn_cells (cn_ofV (en F w φ h) z) hfz
    have hlen := hl.length
    have hzs : z.cells.size = sz := by rw [← hzl, hlen]; simp
    obtain ⟨N, rfl⟩ := Int.eq_ofNat_of_zero_le h0
    obtain ⟨M, rfl⟩ := Int.eq_ofNat_of_zero_le (Int.le_trans h0 h1)
    have hNM : N ≤ M := by omega
    have hb : P.bytesOf e = ie.bytes := by simp [Program.bytesOf, hie]
    rw [hb] at h2
    have hrow := rows_eq z.cells M
    rw [hzs] at hrow
    have w1 : IntKind.i64.wrap (N : Int) = N := by simp [IntKind.wrap, IntKind.bits, IntKind.signed]; omega
    have w2 : IntKind.i64.wrap (M : Int) = M := by simp [IntKind.wrap, IntKind.bits, IntKind.signed]; omega
    have hrun : (Instr.makeSlice t (.int k N) (.int k' M)).run P w = .ok (.slice (some ⟨w.heap.size, 0, none⟩) N M) (w.alloc (.cells ((Array.range (M * sz)).map (z.cells[· % sz]!)) e)) := by
      have c1 : ¬ ((M : Int) < 0 ∨ 281474976710656 < (ie.bytes : Int) * M) := by
        rw [Int.mul_comm]; omega
      have c2 : ¬ ((N : Int) < 0) := by omega
      have c3 : ¬ ((N : Int) > M) := by omega
      have hi : (typeInfo e).run P w = .ok ie w := by simp [typeInfo, hie]
      simp only [Instr.makeSlice, Sem.run_bind, run_underlying' hu, Result.andThen_ok, asInt, asIntOf, Sem.run_pure, hi, w1, w2]
      rw [if_neg (by simp only [Bool.or_eq_true, decide_eq_true_eq]; omega)]
      simp only [Sem.run_bind, run_askRoom, Result.andThen_ok, run_sizeOf hsz]
      simp only [Int.toNat_natCast]
      by_cases hm0 : M * sz = 0
      · have hM : M = 0 := by rcases Nat.mul_eq_zero.1 hm0 with h | h <;> omega
        subst hM
        have h00 : Array.range 0 = #[] := rfl
        have hN : N = 0 := by omega
        subst hN
        simp [newRow, h00]
      · simp only [hm0, if_false, Sem.run_bind, run_zeroValue hz, Result.andThen_ok, Sem.run_pure, hzs]
        simp [newRow]
    have hk : ∀ kk v, (repV N (ofV z).cells)[kk]? = some v → ∃ x, (((Array.range (M * sz)).map (z.cells[· % sz]!)))[0 + kk]? = some x ∧ x.oneCell' = true ∧ Cn (en F w φ h) v x := by
      intro kk v hv
      obtain ⟨x, hx, hcn⟩ := (rep_cn hl N).at hv
      have h5 : (List.replicate M z.cells.toList).flatten[kk]? = some x := by
        have : M = N + (M - N) := by omega
        rw [this, ← List.replicate_append_replicate, List.flatten_append, List.getElem?_append_left (List.getElem?_eq_some_iff.1 hx).1]
        exact hx
      rw [← hrow] at h5
      exact ⟨x, by rw [← h5, Nat.zero_add, Array.getElem?_toList], rep_one hall M x (by rw [← hrow]; exact List.mem_of_getElem? h5), hcn⟩
    refine ⟨_, _, _, _, hrun, hK, ?_, rh_push r _ _ (.inr ⟨w.heap.size, 0, _, by simp [en], World.alloc_heap_new _ _, fun kk v hv => ?_⟩), ext_alloc _ _⟩
    · simp only [Cn, en, Int.toNat_natCast, Eff.val, Eff.heap, NV.at]
      refine ⟨by simp [Blk.dm], .inr ⟨w.heap.size, 0, 0, M, e, M * sz, by simp, by simp, .inr rfl, hNM, ?_, by omega⟩⟩
      rw [shape_eq, World.alloc_heap_new]; simp [oshape]
    · simp only [Int.toNat_natCast] at hv
      obtain ⟨x, h1, h2, h3⟩ := hk kk v hv
      exact ⟨x, h1, h2, h3.ext (ext_alloc _ _)⟩
  · exact hK.elim

end Go.Vm

namespace Go.Vm
open Go Go.RowKit
variable {P : Program} {G : Addr → Option Value} {F : Nat → Prop} {w : World} {φ : Nat → Option (Nat × Nat)} {h : List Blk}

theorem CnL.append {e : En} : ∀ {as bs : List V} {xs ys : List Value}, CnL e as xs → CnL e bs ys → CnL e (as ++ bs) (xs ++ ys)
  | [], bs, xs, ys, h, k => by simp only [CnL] at h; subst h; simpa using k
  | a :: as, bs, xs, ys, h, k => by
    simp only [CnL] at h
    obtain ⟨x, xs', rfl, hx, hl⟩ := h
    simp only [List.cons_append, CnL]
    exact ⟨x, _, rfl, hx, CnL.append hl k⟩

/-- How many there are to be read, and their cells. -/
def srcV (h : List Blk) (z : Nat) : V → Option (Nat × List V)
  | .sl z' i o k => if z' = z then match h[i]? with
    | some (.cells _ cs) => if o + k * z ≤ cs.length then some (k, (cs.drop o).take (k * z)) else none
    | _ => none else none
  | .ro z' xs => if z' = z ∧ xs.all V.fills = true then some (xs.length, (xs.map V.cells).flatten) else none
  | .c (.slice none 0 0) => some (0, [])
  | _ => none

theorem CnRow.all {e : En} {z b : Nat} : ∀ {xs : List V} {o : Nat}, CnRow e z b o xs → xs.all V.fills = true → ∃ ys : List Value, CnL e (xs.map V.cells).flatten ys ∧ (∀ x ∈ ys, x.oneCell' = true) ∧ ys.length = xs.length * z ∧
    ∀ j u, ys[j]? = some u → e.w.cell? ⟨b, o + j, none⟩ = some u
  | [], o, _, _ => ⟨[], by simp [CnL], by simp, by simp, by simp⟩
  | x :: xs, o, h, hf => by
    simp only [CnRow] at h
    simp only [List.all_cons, Bool.and_eq_true] at hf
    obtain ⟨⟨y, hy, hz, hc⟩, hr⟩ := h
    obtain ⟨ys, h1, h2, h3, h4⟩ := CnRow.all hr hf.2
    obtain ⟨hl, hall⟩ := cn_cells hy hf.1
    refine ⟨y.cells.toList ++ ys, by simpa using CnL.append hl h1, ?_, ?_, ?_⟩
    · intro u hu
      rcases List.mem_append.1 hu with hu | hu
      · exact hall u hu
      · exact h2 u hu
    · simp only [List.length_append, Array.length_toList, hz, h3, List.length_cons, Nat.add_mul]; omega
    · intro j u hu
      rcases Nat.lt_or_ge j z with hlt | hge
      · rw [List.getElem?_append_left (by simp [hz, hlt])] at hu
        rw [hc j hlt]; simpa using hu
      · rw [List.getElem?_append_right (by simp [hz, hge])] at hu
        simp only [Array.length_toList, hz] at hu
        rw [← h4 _ _ hu]; congr 2; omega

theorem src_cn (r : RH G F w φ h) {z m : Nat} {v : V} {ss : List V} {y : Value} (hv : Cn (en F w φ h) v y) (hs : srcV h z v = some (m, ss)) :
    ∃ a cap news, y = .slice a m cap ∧ CnL (en F w φ h) ss news ∧ (∀ x ∈ news, x.oneCell' = true) ∧ news.length = m * z ∧ (a = none → m = 0) ∧ ∀ b, a = some b → ∀ j u, news[j]? = some u → w.cell? (b.add j) = some u := by
  cases v with
  | sl z' i o k =>
    simp only [srcV] at hs
    split at hs
    · rename_i hz; subst hz
      cases hb : h[i]? with
      | none => simp [hb] at hs
      | some blk =>
        cases blk <;> simp only [hb, reduceCtorEq] at hs
        rename_i t cs
        split at hs
        · rename_i hle
          simp only [Option.some.injEq, Prod.mk.injEq] at hs
          obtain ⟨rfl, rfl⟩ := hs
          simp only [Cn] at hv
          obtain ⟨hi, hv⟩ := hv
          rcases hv with ⟨hf, hk0, rfl⟩ | ⟨b, s, a, cap, t', mm, hf, rfl, ha, hk, hsh, hle'⟩
          · subst hk0
            refine ⟨none, 0, [], rfl, by simp [CnL], by simp, by simp, fun _ => rfl, by simp⟩
          · obtain ⟨arr, harr, hc⟩ := cells_of r hb hf
            obtain ⟨ys, hyl, hcn, hall, hj⟩ := cnl_of_at (e := en F w φ h) (cs := cs.drop o) (f := fun j => w.cell? ⟨b, s + o + j, none⟩) (k * z') (by simp; omega) (fun j v hv _ => by
              obtain ⟨x, hx, ho, hcn⟩ := hc (o + j) v (by simpa using hv)
              exact ⟨x, by rw [Nat.add_assoc]; simp [World.cell?, harr, hx], ho, hcn⟩)
            refine ⟨_, cap, ys, rfl, hcn, hall, hyl, by simp, ?_⟩
            intro b' hb' j u hu
            cases hb'
            have hlt := (List.getElem?_eq_some_iff.1 hu).1
            have ha' : a = s + o := by
              rcases ha with rfl | ha
              · have : k = 0 := by omega
                subst this; simp at hyl; subst hyl; simp at hlt
              · exact ha
            rw [add_none, ha', hj j (by omega), hu]
        · cases hs
    · cases hs
  | ro z' xs =>
    simp only [srcV] at hs
    split at hs
    · rename_i hz
      obtain ⟨rfl, hf⟩ := hz
      simp only [Option.some.injEq, Prod.mk.injEq] at hs
      obtain ⟨rfl, rfl⟩ := hs
      simp only [Cn] at hv
      obtain ⟨a, cap, rfl, hc, hx⟩ := hv
      rcases hx with rfl | ⟨b, o, rfl, hb, ho, hrow⟩
      · exact ⟨a, cap, [], rfl, by simp [CnL], by simp, by simp, fun _ => rfl, by simp⟩
      · obtain ⟨ys, h1, h2, h3, h4⟩ := hrow.all hf
        exact ⟨_, cap, ys, rfl, h1, h2, h3, by simp, by rintro b' e j u hu; cases e; rw [add_none]; exact h4 j u hu⟩
    · cases hs
  | c x =>
    unfold srcV at hs
    split at hs <;> simp at hs
    · rename_i h1; cases h1
    · rename_i h1; cases h1
    · rename_i h1; cases h1
      obtain ⟨rfl, rfl⟩ := hs
      simp only [Cn] at hv; subst hv
      exact ⟨none, 0, [], rfl, by simp [CnL], by simp, by simp, fun _ => rfl, by simp⟩
  | _ => simp [srcV] at hs

theorem run_append_room' {t t2 ty e : TypeId} {sz : Nat} (hu : P.underlying t = some (.slice e)) (hz : tsz P e = some sz) (h2 : ∃ d, P.underlying t2 = some d ∧ ∀ k, d ≠ .int k)
    {base : Option Addr} {k cap m c : Nat} {a : Option Addr} {news : List Value} (hn : (Builtin.firstCells sz m (.slice a m c)).run P w = .ok news.toArray w) (hroom : k + m ≤ cap) {w' : World}
    (hst : ∀ b, base = some b → (storeCells (b.add (k * sz)) news).run P w = .ok () w') (hst0 : base = none → w' = w) :
    (Builtin.append_ #[t, t2] ty #[.slice base k cap, .slice a m c]).run P w = .ok (.slice base (k + m) cap) w' := by
  obtain ⟨d, hd, hk⟩ := h2
  cases base with
  | none =>
    rw [hst0 rfl]
    simp only [Builtin.append_, List.getElem?_toArray, List.getElem?_cons_zero, List.getElem?_cons_succ, Sem.run_bind, run_underlying' hu, run_underlying' hd, Result.andThen_ok, run_sizeOf hz, Sem.run_pure]
    simp [Builtin.lenOf, hn, hroom]
  | some b =>
    simp only [Builtin.append_, List.getElem?_toArray, List.getElem?_cons_zero, List.getElem?_cons_succ, Sem.run_bind, run_underlying' hu, run_underlying' hd, Result.andThen_ok, run_sizeOf hz, Sem.run_pure]
    simp [Builtin.lenOf, hn, hroom, hst b rfl]

theorem run_append_grow' {t t2 ty e : TypeId} {i : TypeInfo} {z : Value} (hu : P.underlying t = some (.slice e)) (hi : P.info? e = some i) (hz : i.zero = some z) (h2 : ∃ d, P.underlying t2 = some d ∧ ∀ k, d ≠ .int k)
    {base : Option Addr} {k cap m c : Nat} {a : Option Addr} {olds news : List Value} (ho : (Builtin.firstCells i.size k (.slice base k cap)).run P w.drew = .ok olds.toArray w.drew)
    (hn : (Builtin.firstCells i.size m (.slice a m c)).run P w.drew = .ok news.toArray w.drew)
    (hg : cap < k + m) (h63 : ((k + m : Nat) : Int) ≤ 9223372036854775807) (hfit : Builtin.nextslicecap (k + m) cap * i.bytes ≤ 281474976710656) :
    (Builtin.append_ #[t, t2] ty #[.slice base k cap, .slice a m c]).run P w =
      .ok (.slice (some ⟨w.heap.size, 0, none⟩) (k + m) (grownCap w (k + m) cap e))
        (w.drew.alloc (.cells (olds.toArray ++ news.toArray ++ Builtin.zeroCells z.cells (grownCap w (k + m) cap e - (k + m))) e)) := by
  obtain ⟨d, hd, hk⟩ := h2
  have hn' : ¬ (k + m ≤ cap) := by omega
  have h63' : ¬ (9223372036854775807 < ((k : Int) + (m : Int))) := by omega
  have h48' : ¬ (281474976710656 < Builtin.nextslicecap (k + m) cap * i.bytes) := by omega
  have hti : ∀ w : World, (typeInfo e).run P w = .ok i w := fun w => by simp [typeInfo, hi]
  simp only [Builtin.append_, List.getElem?_toArray, List.getElem?_cons_zero, List.getElem?_cons_succ, Sem.run_bind, run_underlying' hu, run_underlying' hd, Result.andThen_ok, Sem.run_pure]
  simp [Builtin.lenOf, hn', sizeOf, hti, h63', h48', Question.forced, ho, hn, zeroValue, hz, newRow, grownCap]
  congr 2
  apply Array.ext'
  simp [List.append_assoc]

theorem owned_gone {φ h i b} (hx : owned φ (h.set i .gone) b) : owned φ h b := by
  obtain ⟨j, s, q, hq, hql, hf⟩ := hx
  by_cases e : i = j
  · subst e
    have := (List.getElem?_eq_some_iff.1 hq).1
    rw [List.getElem?_set_self (by simpa using this)] at hq
    cases hq; cases hql
  · rw [List.getElem?_set_ne e] at hq; exact ⟨j, s, q, hq, hql, hf⟩

theorem ext_gone (F : Nat → Prop) (w : World) (φ h i) : Ext (en F w φ h) (en F w φ (h.set i .gone)) where
  sub _ hx := .inl hx
  mine _ _ ho hx := ho (owned_gone hx)
  dom j hj := dom_set rfl hj
  agree _ _ := rfl
  frame _ _ _ := rfl
  own _ _ ho hx := ho (hx.imp owned_gone id)
  shape _ _ := rfl
  size := Nat.le_refl _
  os := rfl
  tape := rfl
  output := rfl

theorem live_set {h : List Blk} {i j : Nat} {k : Blk} (hq : (h.set i .gone)[j]? = some k) (hl : k.live = true) : i ≠ j ∧ h[j]? = some k := by
  by_cases e : i = j
  · subst e
    have := (List.getElem?_eq_some_iff.1 hq).1
    rw [List.getElem?_set_self (by simpa using this)] at hq
    cases hq; cases hl
  · exact ⟨e, by rwa [List.getElem?_set_ne e] at hq⟩

theorem rh_gone (r : RH G F w φ h) (i : Nat) : RH G F w φ (h.set i .gone) where
  rep j k hj := by
    by_cases hl : k.live = true
    · obtain ⟨_, hj'⟩ := live_set hj hl
      exact (r.rep j k hj').keep (ext_gone F w φ h i) ⟨k, hj', live_dm hl⟩ fun _ _ _ => rfl
    · cases k <;> simp [Blk.live] at hl <;> trivial
  inj i1 i2 b s1 s2 k1 k2 h1 l1 h2 l2 f1 f2 := r.inj i1 i2 b s1 s2 k1 k2 (live_set h1 l1).2 l1 (live_set h2 l2).2 l2 f1 f2
  lt j k b s hj hl hf := r.lt j k b s (live_set hj hl).2 hl hf
  glob a x ha := let ⟨h1, h2, h3, h4⟩ := r.glob a x ha; ⟨h1, h2, fun hx => h3 (owned_gone hx), h4⟩
  flt b hb := let ⟨h1, h2⟩ := r.flt b hb; ⟨h1, fun hx => h2 (owned_gone hx)⟩

theorem owned_push_none {φ : Nat → Option (Nat × Nat)} {h : List Blk} {k : Blk} {x : Nat} (hx' : owned (upd φ h.length none) (h ++ [k]) x) : owned φ h x := by
  obtain ⟨i, s', k', hk, hl, hf⟩ := hx'
  rcases Nat.lt_trichotomy i h.length with hi | hi | hi
  · rw [upd_other (by omega)] at hf
    rw [List.getElem?_append_left hi] at hk
    exact ⟨i, s', k', hk, hl, hf⟩
  · subst hi; simp at hf
  · rw [List.getElem?_eq_none (by simp; omega)] at hk; cases hk

theorem ext_push_none (F : Nat → Prop) (w : World) (φ h) (k : Blk) : Ext (en F w φ h) (en F w (upd φ h.length none) (h ++ [k])) where
  sub _ hx := .inl hx
  mine _ _ ho hx := ho (owned_push_none hx)
  dom i hi := dom_push hi
  agree i hi := upd_other (dom_ne hi)
  frame _ _ _ := rfl
  own _ _ ho hx := ho (hx.imp owned_push_none id)
  shape _ _ := rfl
  size := Nat.le_refl _
  os := rfl
  tape := rfl
  output := rfl

theorem push_at {h : List Blk} {k k' : Blk} {i : Nat} (hi : (h ++ [k])[i]? = some k') : (i < h.length ∧ h[i]? = some k') ∨ (i = h.length ∧ k' = k) := by
  rcases Nat.lt_trichotomy i h.length with hlt | heq | hgt
  · rw [List.getElem?_append_left hlt] at hi; exact .inl ⟨hlt, hi⟩
  · subst heq; simp at hi; exact .inr ⟨rfl, hi.symm⟩
  · rw [List.getElem?_eq_none (by simp; omega)] at hi; cases hi

theorem rh_push_none (r : RH G F w φ h) (t : TypeId) : RH G F w (upd φ h.length none) (h ++ [.cells t []]) where
  rep i k hi := by
    rcases push_at hi with ⟨hlt, hi⟩ | ⟨rfl, rfl⟩
    · by_cases hl : k.live = true
      · exact (r.rep i k hi).keep (ext_push_none F w φ h _) ⟨k, hi, live_dm hl⟩ fun _ _ _ => rfl
      · cases k <;> simp [Blk.live] at hl <;> trivial
    · exact .inl ⟨by simp [en], rfl⟩
  inj i j b s s' k1 k2 hi l1 hj l2 f1 f2 := by
    rcases push_at hi with ⟨hlt, hi⟩ | ⟨rfl, rfl⟩
    · rcases push_at hj with ⟨hlt', hj⟩ | ⟨rfl, rfl⟩
      · rw [upd_other (by omega)] at f1 f2
        exact r.inj i j b s s' k1 k2 hi l1 hj l2 f1 f2
      · simp at f2
    · simp at f1
  lt i k b s hi hl hf := by
    rcases push_at hi with ⟨hlt, hi⟩ | ⟨rfl, rfl⟩
    · rw [upd_other (by omega)] at hf; exact r.lt i k b s hi hl hf
    · simp at hf
  glob a x ha := by
    obtain ⟨h1, h2, h3, h4⟩ := r.glob a x ha
    exact ⟨h1, h2, fun hx => h3 (owned_push_none hx), h4⟩
  flt b hb := let ⟨h1, h2⟩ := r.flt b hb; ⟨h1, fun hx => h2 (owned_push_none hx)⟩

theorem owned_move {φ : Nat → Option (Nat × Nat)} {h : List Blk} {i b s0 s x : Nat} {k k' : Blk} (hk : h[i]? = some k) (hl : k.live = true) (hf : φ i = some (b, s0))
    (hx' : owned (upd φ h.length (some (b, s))) (h.set i .gone ++ [k']) x) : owned φ h x := by
  obtain ⟨j, s', q, hq, hql, hfq⟩ := hx'
  rcases push_at hq with ⟨hlt, hq⟩ | ⟨rfl, rfl⟩
  · rw [upd_other (by simp at hlt; omega)] at hfq
    exact ⟨j, s', q, (live_set hq hql).2, hql, hfq⟩
  · simp at hfq; obtain ⟨rfl, rfl⟩ := hfq; exact ⟨i, s0, k, hk, hl, hf⟩

/-- What lay under one number lies under a new one; its block may have been written. -/
theorem ext_move {w w' : World} {i b s0 s : Nat} {k k' : Blk} (hk : h[i]? = some k) (hl : k.live = true) (hf : φ i = some (b, s0)) (hheap : ∀ x, x ≠ b → w'.heap[x]? = w.heap[x]?)
    (hsh : ∀ x, w'.shape? x = w.shape? x) (hsz : w'.heap.size = w.heap.size) (h1 : w'.os = w.os) (h2 : w'.tape = w.tape) (h3 : w'.output = w.output) :
    Ext (en F w φ h) (en F w' (upd φ h.length (some (b, s))) (h.set i .gone ++ [k'])) where
  dom i hi := dom_push (dom_set rfl hi : (en F w φ (h.set _ .gone)).dom i)
  agree i hi := upd_other (dom_ne hi)
  frame x _ ho := hheap x (fun e => ho (e ▸ ⟨i, s0, k, hk, hl, hf⟩))
  sub _ hx := .inl hx
  mine x _ ho hx := ho (owned_move hk hl hf hx)
  own x _ ho hx := ho (hx.imp (owned_move hk hl hf) id)
  shape x _ := hsh x
  size := by simp [en, hsz]
  os := h1
  tape := h2
  output := h3

theorem rh_move (r : RH G F w φ h) {w' : World} {i b s0 s : Nat} {k k' : Blk} (hk : h[i]? = some k) (hl : k.live = true) (hf : φ i = some (b, s0)) (hheap : ∀ x, x ≠ b → w'.heap[x]? = w.heap[x]?)
    (hsh : ∀ x, w'.shape? x = w.shape? x) (hsz : w'.heap.size = w.heap.size) (h1 : w'.os = w.os) (h2 : w'.tape = w.tape) (h3 : w'.output = w.output)
    (hnew : RepB (en F w' (upd φ h.length (some (b, s))) (h.set i .gone ++ [k'])) h.length k') :
    RH G F w' (upd φ h.length (some (b, s))) (h.set i .gone ++ [k']) where
  rep j q hq := by
    rcases push_at hq with ⟨hlt, hq⟩ | ⟨rfl, rfl⟩
    · by_cases hql : q.live = true
      · obtain ⟨hne, hq'⟩ := live_set hq hql
        refine (r.rep j q hq').keep (ext_move hk hl hf hheap hsh hsz h1 h2 h3) ⟨q, hq', live_dm hql⟩ fun b' s' hf' => hheap b' (fun e => ?_)
        subst e
        exact hne (r.inj i j b' s0 s' k q hk hl hq' hql hf hf')
      · cases q <;> simp [Blk.live] at hql <;> trivial
    · simpa using hnew
  inj i1 i2 b' s1 s2 k1 k2 hi l1 hj l2 f1 f2 := by
    rcases push_at hi with ⟨hlt, hi'⟩ | ⟨e1, rfl⟩ <;> rcases push_at hj with ⟨hlt', hj'⟩ | ⟨e2, rfl⟩
    · rw [upd_other (by simp at hlt; omega)] at f1
      rw [upd_other (by simp at hlt'; omega)] at f2
      exact r.inj i1 i2 b' s1 s2 k1 k2 (live_set hi' l1).2 l1 (live_set hj' l2).2 l2 f1 f2
    · rw [upd_other (by simp at hlt; omega)] at f1
      simp at e2; subst e2
      simp at f2; obtain ⟨rfl, rfl⟩ := f2
      exact absurd (r.inj i i1 b s0 s1 k k1 hk hl (live_set hi' l1).2 l1 hf f1) (live_set hi' l1).1
    · rw [upd_other (by simp at hlt'; omega)] at f2
      simp at e1; subst e1
      simp at f1; obtain ⟨rfl, rfl⟩ := f1
      exact absurd (r.inj i i2 b s0 s2 k k2 hk hl (live_set hj' l2).2 l2 hf f2) (live_set hj' l2).1
    · omega
  lt j q b' s' hq hql hfq := by
    rw [hsz]
    rcases push_at hq with ⟨hlt, hq⟩ | ⟨e1, rfl⟩
    · rw [upd_other (by simp at hlt; omega)] at hfq; exact r.lt j q b' s' (live_set hq hql).2 hql hfq
    · simp at e1; subst e1
      simp at hfq; obtain ⟨rfl, rfl⟩ := hfq; exact r.lt i k b s0 hk hl hf
  glob a x ha := by
    obtain ⟨g1, g2, g3, g4⟩ := r.glob a x ha
    have hne : a.block ≠ b := fun e => g3 (e ▸ ⟨i, s0, k, hk, hl, hf⟩)
    refine ⟨?_, by rw [hsz]; exact g2, fun hx => g3 (owned_move hk hl hf hx), g4⟩
    unfold World.cell? at g1 ⊢; rw [hheap _ hne]; exact g1
  flt x hx := let ⟨g1, g2⟩ := r.flt x hx; ⟨by rw [hsz]; exact g1, fun hx => g2 (owned_move hk hl hf hx)⟩

theorem ext_drew (F : Nat → Prop) (w : World) (φ h) : Ext (en F w φ h) (en F w.drew φ h) :=
  ⟨fun _ h => .inl h, fun _ h => h, fun _ _ => rfl, fun _ _ _ => rfl, fun _ _ h => h, fun _ _ h => h, fun _ _ => rfl, Nat.le_refl _, rfl, rfl, rfl⟩

theorem rh_drew (r : RH G F w φ h) : RH G F w.drew φ h where
  rep i k hi := by
    by_cases hl : k.live = true
    · exact (r.rep i k hi).keep (ext_drew F w φ h) ⟨k, hi, live_dm hl⟩ fun _ _ _ => rfl
    · cases k <;> simp [Blk.live] at hl <;> trivial
  inj := r.inj
  lt := r.lt
  glob := r.glob
  flt := r.flt

theorem run_first {a : Option Addr} {m cap sz : Nat} {news : List Value} (hl : news.length = m * sz) (hn : a = none → m = 0) (hc : ∀ b, a = some b → ∀ j u, news[j]? = some u → w.cell? (b.add j) = some u) :
    (Builtin.firstCells sz m (.slice a m cap)).run P w = .ok news.toArray w := by
  cases a with
  | none =>
    have := hn rfl; subst this
    have : news = [] := List.eq_nil_of_length_eq_zero (by simpa using hl)
    subst this
    exact run_firstCells_none w sz 0 0 cap
  | some b => exact run_firstCells_some w sz m b m cap news hl (hc b rfl)

def tslice (P : Program) (t : TypeId) : Bool := match P.underlying t with | some (.slice _) => true | _ => false

theorem tslice_not {t : TypeId} (h : tslice P t = true) : ∃ d, P.underlying t = some d ∧ ∀ k, d ≠ .int k := by
  unfold tslice at h
  cases hu : P.underlying t with
  | none => simp [hu] at h
  | some d => cases d <;> simp [hu] at h; exact ⟨_, rfl, by simp⟩

def appendV (P : Program) (t t2 : TypeId) (h : List Blk) (dst src : V) (K : Eff → Prop) [KTag K] : Prop :=
  bnd (telem P t) fun q => q.1 = none ∧ q.2.2 ≠ 0 ∧ tslice P t2 = true ∧ bnd (tzero P q.2.1) fun z => z.cells.size = q.2.2 ∧ bnd (srcV h q.2.2 src) fun ms =>
    match dst with
    | .c (.slice none 0 0) => (ms.1 * P.bytesOf q.2.1 ≤ 140737488355328 ∧ ms.1 ≤ 9223372036854775807) ∧ K (.nw (.sl q.2.2 ms.1) (.cells q.2.1 ms.2))
    | .sl z' i o k => z' = q.2.2 ∧ ∃ cs, h[i]? = some (.cells q.2.1 cs) ∧ o + k * z' = cs.length ∧ ((k + ms.1) * P.bytesOf q.2.1 ≤ 140737488355328 ∧ k + ms.1 ≤ 9223372036854775807) ∧
        K (.mv i (.sl z' (k + ms.1)) (.cells q.2.1 (cs.drop o ++ ms.2)))
    | _ => False

/-- A fresh row that holds what was there and what comes. -/
theorem rep_fresh {e : TypeId} {cs : List V} {xs : List Value} {rest : Array Value} (hl : CnL (en F w φ h) cs xs) (ho : ∀ x ∈ xs, x.oneCell' = true) (hx : List Blk) (hhx : RH G F w φ hx)
    (he : Ext (en F w φ h) (en F w φ hx)) (hn : hx.length = h.length) :
    RH G F (w.drew.alloc (.cells (xs.toArray ++ rest) e)) (upd φ h.length (some (w.heap.size, 0))) (hx ++ [.cells e cs]) ∧
    Ext (en F w φ h) (en F (w.drew.alloc (.cells (xs.toArray ++ rest) e)) (upd φ h.length (some (w.heap.size, 0))) (hx ++ [.cells e cs])) := by
  have e1 : Ext (en F w φ h) (en F (w.drew.alloc (.cells (xs.toArray ++ rest) e)) (upd φ h.length (some (w.heap.size, 0))) (hx ++ [.cells e cs])) := by
    have := (he.trans (ext_drew F w φ hx)).trans (ext_alloc (w := w.drew) (φ := φ) (h := hx) (.cells (xs.toArray ++ rest) e) (.cells e cs))
    rw [hn] at this; exact this
  refine ⟨?_, e1⟩
  have := rh_push (rh_drew hhx) (.cells (xs.toArray ++ rest) e) (.cells e cs)
  rw [hn] at this
  refine this (.inr ⟨w.heap.size, 0, _, by simp [en], World.alloc_heap_new _ _, fun k v hv => ?_⟩)
  obtain ⟨x, hx, hcn⟩ := hl.at hv
  refine ⟨x, ?_, ho x (List.mem_of_getElem? hx), hcn.ext e1⟩
  have hlt := (List.getElem?_eq_some_iff.1 hx).1
  rw [Nat.zero_add, Array.getElem?_append_left (by simpa using hlt)]
  simpa using hx

theorem setgone_length (h : List Blk) (i : Nat) : (h.set i .gone).length = h.length := by simp

theorem ok_append (r : RH G F w φ h) {K : Eff → Prop} {t t2 ty : TypeId} {dst src : V} {x y : Value} (hx : Cn (en F w φ h) dst x) (hy : Cn (en F w φ h) src y) (hK : appendV P t t2 h dst src K) :
    OK P G F w φ h (Builtin.append_ #[t, t2] ty #[x, y]) K := by
  obtain ⟨⟨mm, e, sz⟩, ht, hm, hz0, ht2, z, hz, hzs, ⟨m, ss⟩, hsrc, hK⟩ := hK
  simp only at hm hz0 hz hzs hsrc hK
  subst hm
  obtain ⟨hu, hsz⟩ := telem_sl ht
  obtain ⟨it, hit, rfl⟩ := tsz_info hsz
  obtain ⟨it', hit', hzero⟩ := tzero_info hz
  rw [hit] at hit'; cases hit'
  have ht2' := tslice_not ht2
  have hb : P.bytesOf e = it.bytes := by simp [Program.bytesOf, hit]
  rw [hb] at hK
  obtain ⟨a, cap, news, rfl, hln, hon, hnl, hna, hnc⟩ := src_cn r hy hsrc
  have hfn : (Builtin.firstCells it.size m (.slice a m cap)).run P w = .ok news.toArray w := run_first hnl hna hnc
  have hfnd : (Builtin.firstCells it.size m (.slice a m cap)).run P w.drew = .ok news.toArray w.drew := run_first hnl hna hnc
  have zlen : ∀ n, (Builtin.zeroCells z.cells n).size = n * it.size := fun n => by rw [size_zeroCells, hzs]
  -- THE FRESH ROW
  have fresh : ∀ (base : Option Addr) (k cap' : Nat) (olds : List Value) (os : List V) (hx' : List Blk), RH G F w φ hx' → Ext (en F w φ h) (en F w φ hx') → hx'.length = h.length →
      CnL (en F w φ h) os olds → (∀ u ∈ olds, u.oneCell' = true) → olds.length = k * it.size → (base = none → k = 0) → (∀ b, base = some b → ∀ j u, olds[j]? = some u → w.cell? (b.add j) = some u) →
      cap' < k + m → ((k + m) * it.bytes ≤ 140737488355328 ∧ k + m ≤ 9223372036854775807) → ∀ ef : Eff, K ef → ef.heap h = hx' ++ [.cells e (os ++ ss)] → ef.val h = .sl it.size h.length 0 (k + m) →
      OK P G F w φ h (Builtin.append_ #[t, t2] ty #[.slice base k cap', .slice a m cap]) K := by
    intro base k cap' olds os hx' hrh hext hlen hol hoo holl hb0 hbc hcap hbd ef hK' hef1 hef2
    have hfo : (Builtin.firstCells it.size k (.slice base k cap')).run P w.drew = .ok olds.toArray w.drew := run_first holl hb0 hbc
    have hrun := run_append_grow' (P := P) (w := w) (ty := ty) hu hit hzero ht2' hfo hfnd hcap (by omega) (growslice_fits hcap hbd.1)
    have harr : olds.toArray ++ news.toArray ++ Builtin.zeroCells z.cells (grownCap w (k + m) cap' e - (k + m)) = (olds ++ news).toArray ++ Builtin.zeroCells z.cells (grownCap w (k + m) cap' e - (k + m)) := by simp
    rw [harr] at hrun
    obtain ⟨h1, h2⟩ := rep_fresh (G := G) (e := e) (rest := Builtin.zeroCells z.cells (grownCap w (k + m) cap' e - (k + m))) (hol.append hln) (by
      intro u hu; rcases List.mem_append.1 hu with hu | hu
      · exact hoo u hu
      · exact hon u hu) hx' hrh hext hlen
    refine ⟨_, _, _, ef, hrun, hK', ?_, by rw [hef1]; exact h1, by rw [hef1]; exact h2⟩
    rw [hef1, hef2]
    simp only [Cn, en]
    have hge := grownCap_ge w (k + m) cap' e
    refine ⟨by rw [← hlen]; simp [Blk.dm], .inr ⟨w.heap.size, 0, 0, _, e, grownCap w (k + m) cap' e * it.size, by simp, rfl, .inr rfl, hge, ?_, by omega⟩⟩
    rw [shape_eq]
    have := World.alloc_heap_new w.drew (.cells ((olds ++ news).toArray ++ Builtin.zeroCells z.cells (grownCap w (k + m) cap' e - (k + m))) e)
    simp only [World.size_drew] at this
    rw [this]
    simp only [Option.bind_some, oshape, Array.size_append, List.size_toArray, List.length_append, zlen, holl, hnl]
    congr 2
    rw [← Nat.add_mul, ← Nat.add_mul]; congr 1; omega
  unfold appendV at *
  split at hK
  · -- A NIL SLICE
    rename_i hdst
    simp only [Cn] at hx; subst hx
    obtain ⟨hbd, hK⟩ := hK
    by_cases hm0 : m = 0
    · subst hm0
      have hss : ss = [] := List.eq_nil_of_length_eq_zero (by rw [hln.length, hnl]; simp)
      subst hss
      have hnews : news = [] := List.eq_nil_of_length_eq_zero (by simpa using hnl)
      refine ⟨_, w, upd φ h.length none, _, run_append_room' (w' := w) hu hsz ht2' hfn (Nat.le_refl _) (by simp) (fun _ => rfl), hK, ?_, rh_push_none r e, ext_push_none F w φ h _⟩
      simp only [Cn, en, Eff.val, Eff.heap, NV.at]
      exact ⟨by simp [Blk.dm], .inl (by simp)⟩
    · have := fresh none 0 0 [] [] h r ext_refl rfl (by simp [CnL]) (by simp) (by simp) (fun _ => rfl) (by simp) (by omega) (by simpa using hbd) _ hK (by simp [Eff.heap]) (by simp [Eff.val, NV.at])
      exact this
  · -- A SLICE OF OURS
    rename_i z' i o k
    obtain ⟨rfl, cs, hbk, hfr, hbd, hK⟩ := hK
    have hsrcd : srcV h it.size (.sl it.size i o k) = some (k, (cs.drop o).take (k * it.size)) := by
      simp only [srcV, if_true, hbk]
      rw [if_pos (by omega)]
    obtain ⟨ad, capd, olds, hxe, hlo, hoo, hol, hoa, hoc⟩ := src_cn r hx hsrcd
    have htake : (cs.drop o).take (k * it.size) = cs.drop o := List.take_of_length_le (by simp; omega)
    rw [htake] at hlo
    have hx0 := hx
    simp only [Cn] at hx
    obtain ⟨hi, hx⟩ := hx
    rcases hx with ⟨hf, hk0, rfl⟩ | ⟨b, s, a', cap', t', mm, hf, rfl, ha, hk, hsh, hle⟩
    · -- NIL AFTER ALL
      subst hk0
      have hcs : cs.drop o = [] := List.eq_nil_of_length_eq_zero (by simp; omega)
      rw [hcs] at hK
      by_cases hm0 : m = 0
      · subst hm0
        have hss : ss = [] := List.eq_nil_of_length_eq_zero (by rw [hln.length, hnl]; simp)
        subst hss
        have he : Ext (en F w φ h) (en F w (upd φ h.length none) (h.set i .gone ++ [.cells e []])) := by
          have := (ext_gone F w φ h i).trans (ext_push_none F w φ (h.set i .gone) (.cells e []))
          simpa using this
        have hr : RH G F w (upd φ h.length none) (h.set i .gone ++ [.cells e []]) := by
          have := rh_push_none (rh_gone r i) e
          simpa using this
        refine ⟨_, w, upd φ h.length none, _, run_append_room' (w' := w) hu hsz ht2' hfn (Nat.le_refl _) (by simp) (fun _ => rfl), hK, ?_, hr, he⟩
        simp only [Cn, en, Eff.val, Eff.heap, NV.at]
        exact ⟨by simp [Blk.dm, List.getElem?_append_right], .inl (by simp)⟩
      · exact fresh none 0 0 [] [] (h.set i .gone) (rh_gone r i) (ext_gone F w φ h i) (by simp) (by simp [CnL]) (by simp) (by simp) (fun _ => rfl) (by simp) (by omega) (by simpa using hbd) _ hK (by simp [Eff.heap]) (by simp [Eff.val, NV.at])
    · simp only [Value.slice.injEq] at hxe
      obtain ⟨rfl, _, rfl⟩ := hxe
      by_cases hroom : k + m ≤ cap'
      · -- THERE IS ROOM
        obtain ⟨arr, harr, hc⟩ := cells_of r hbk hf
        obtain ⟨hsb, hse⟩ : t' = e ∧ mm = arr.size := by
          have : w.shape? b = some (e, arr.size) := by rw [shape_eq, harr]; rfl
          rw [show (en F w φ h).w = w from rfl] at hsh
          rw [this] at hsh; cases hsh; exact ⟨rfl, rfl⟩
        subst hse
        have hfit : s + o + (k + m) * it.size ≤ arr.size := by
          have := Nat.mul_le_mul_right it.size hroom; omega
        -- THE WORLD BEHIND IT
        obtain ⟨w', hw', hst⟩ : ∃ w' : World, w' = w.putObj b (.cells (putArr arr (s + cs.length) news) e (0, 0)) ∧ (storeCells ((⟨b, a', none⟩ : Addr).add (k * it.size)) news).run P w = .ok () w' := by
          refine ⟨_, rfl, ?_⟩
          by_cases hm0 : m = 0
          · subst hm0
            have hnews : news = [] := List.eq_nil_of_length_eq_zero (by simpa using hnl)
            subst hnews
            simp [storeCells, putArr, putObj_self harr]
          · have ha' : a' = s + o := by
              rcases ha with rfl | ha
              · omega
              · exact ha
            have := run_storeCells (P := P) (b := b) (o := s + cs.length) (t := e) news arr w 0 harr hon (by rw [hnl, ← hfr, Nat.add_mul] at *; omega)
            rw [add_none, ha', Nat.add_assoc, hfr]
            exact this
        have hrun := run_append_room' (P := P) (w := w) (ty := ty) (base := some ⟨b, a', none⟩) (k := k) (cap := cap') hu hsz ht2' hfn hroom (w' := w') (by rintro b' e'; cases e'; exact hst) (by simp)
        have hheap : ∀ x, x ≠ b → w'.heap[x]? = w.heap[x]? := fun x hx => by rw [hw']; exact World.putObj_heap_other hx
        have hshp : ∀ x, w'.shape? x = w.shape? x := fun x => by rw [hw']; exact shape_put harr (by simp [oshape, putArr_size]) x
        have hszw : w'.heap.size = w.heap.size := by rw [hw']; simp
        have hos : w'.os = w.os := by rw [hw']; rfl
        have htp : w'.tape = w.tape := by rw [hw']; rfl
        have hou : w'.output = w.output := by rw [hw']; rfl
        have he := ext_move (F := F) (φ := φ) (k' := .cells e (cs.drop o ++ ss)) (s := s + o) hbk rfl hf hheap hshp hszw hos htp hou
        refine ⟨_, w', _, _, hrun, hK, ?_, rh_move r hbk rfl hf hheap hshp hszw hos htp hou (.inr ⟨b, s + o, putArr arr (s + cs.length) news, by simp [en], ?_, ?_⟩), he⟩
        · simp only [Cn, en, Eff.val, Eff.heap, NV.at]
          refine ⟨by simp [Blk.dm, List.getElem?_append_right], .inr ⟨b, s + o, a', cap', t', arr.size, by simp, rfl, ?_, hroom, ?_, by omega⟩⟩
          · rcases ha with ha | ha
            · exact .inl ha
            · exact .inr (by omega)
          · rw [hshp]; exact hsh
        · show w'.heap[b]? = _
          rw [hw']; exact World.putObj_heap_same (Array.getElem?_eq_some_iff.1 harr).1
        · intro kk v hv
          have hpl : s + cs.length + news.length ≤ arr.size := by rw [hnl]; rw [Nat.add_mul] at hfit; omega
          rw [putArr_at _ _ _ _ hpl]
          have hdl : (cs.drop o).length = k * it.size := by simp; omega
          rcases Nat.lt_or_ge kk (k * it.size) with hlt | hge
          · rw [List.getElem?_append_left (by omega)] at hv
            rw [if_neg (by omega)]
            obtain ⟨u, hu1, hu2, hu3⟩ := hc (o + kk) v (by simpa using hv)
            exact ⟨u, by rw [← hu1]; congr 1; omega, hu2, hu3.ext he⟩
          · rw [List.getElem?_append_right (by omega)] at hv
            obtain ⟨u, hu1, hu2⟩ := hln.at hv
            have := (List.getElem?_eq_some_iff.1 hu1).1
            rw [if_pos (by omega)]
            exact ⟨u, by rw [← hu1]; congr 1; omega, hon u (List.mem_of_getElem? hu1), hu2.ext he⟩
      · exact fresh (some ⟨b, a', none⟩) k cap' olds (cs.drop o) (h.set i .gone) (rh_gone r i) (ext_gone F w φ h i) (by simp) hlo hoo hol hoa hoc (by omega) hbd _ hK (by simp [Eff.heap]) (by simp [Eff.val, NV.at])
  · exact hK.elim

end Go.Vm

namespace Go.Vm
open Go Go.RowKit
variable {P : Program} {G : Addr → Option Value} {F : Nat → Prop} {w : World} {φ : Nat → Option (Nat × Nat)} {h : List Blk}

/-- The kinds of cells that are held against each other. -/
inductive CK where
  | i | b | s
  deriving DecidableEq

def eqk : CK → Value → Value → Option Bool
  | .i, .int k a, .int k' b => if k = k' then some (a == b) else none
  | .b, .bool a, .bool b => some (a == b)
  | .s, .string a, .string b => some (a.toList == b.toList)
  | _, _, _ => none

def eqks : List CK → List Value → List Value → Option Bool
  | [], [], [] => some true
  | k :: ks, x :: xs, y :: ys => match eqk k x y, eqks ks xs ys with
    | some a, some b => some (a && b)
    | _, _ => none
  | _, _, _ => none

def flatFs (P : Program) (g : TypeId → Option (List CK)) : List Field → Nat → Option (List CK)
  | [], _ => some []
  | f :: fs, o => if f.name = "_" ∨ f.offset ≠ o then none else
    match g f.type with
    | some m => if tsz P f.type = some m.length then (flatFs P g fs (o + m.length)).map (m ++ ·) else none
    | none => none

def flat (P : Program) : Nat → TypeId → Option (List CK)
  | 0, _ => none
  | d + 1, t => match P.underlying t with
    | some .bool => some [.b]
    | some (.int _) => some [.i]
    | some .string => some [.s]
    | some (.struct fs) => if P.stoodInHeld t then none else flatFs P (flat P d) fs.toList 0
    | some (.array n e) => match flat P d e with
      | some m => if tsz P e = some m.length then some (List.replicate n m).flatten else none
      | none => none
    | _ => none

def shp (g : Bool) (l : List Value) : Value := if g then .agg l.toArray else l.headD undef

theorem eqks_len : ∀ {ks xs ys r}, eqks ks xs ys = some r → xs.length = ks.length ∧ ys.length = ks.length
  | [], [], [], r, _ => ⟨rfl, rfl⟩
  | k :: ks, x :: xs, y :: ys, r, h => by
    simp only [eqks] at h
    split at h
    · rename_i a b h1 h2
      have := eqks_len h2
      simp [this]
    · cases h
  | [], _ :: _, _, r, h => by simp [eqks] at h
  | [], [], _ :: _, r, h => by simp [eqks] at h
  | _ :: _, [], _, r, h => by simp [eqks] at h
  | _ :: _, _ :: _, [], r, h => by simp [eqks] at h

theorem eqks_append : ∀ {ks ls xs ys r}, eqks (ks ++ ls) xs ys = some r → ∃ a b, eqks ks (xs.take ks.length) (ys.take ks.length) = some a ∧ eqks ls (xs.drop ks.length) (ys.drop ks.length) = some b ∧ r = (a && b)
  | [], ls, xs, ys, r, h => ⟨true, r, by simp [eqks], by simpa using h, by simp⟩
  | k :: ks, ls, x :: xs, y :: ys, r, h => by
    simp only [List.cons_append, eqks] at h
    split at h
    · rename_i a b h1 h2
      cases h
      obtain ⟨a', b', h3, h4, rfl⟩ := eqks_append h2
      exact ⟨a && a', b', by simp [eqks, h1, h3], by simpa using h4, by simp [Bool.and_assoc]⟩
    · cases h
  | k :: ks, ls, [], _, r, h => by simp [eqks] at h
  | k :: ks, ls, _ :: _, [], r, h => by simp [eqks] at h

theorem tagg_of {t : TypeId} {d : TypeDesc} (hu : P.underlying t = some d) : tagg P t = some (aggD d) := by
  simp [tagg, hu]

/-- The shape of a type's values, by its kinds. -/
theorem flat_shape : ∀ {d t ks}, flat P d t = some ks → ∃ g, tagg P t = some g ∧ (g = false → ks.length = 1)
  | 0, t, ks, h => by simp [flat] at h
  | d + 1, t, ks, h => by
    simp only [flat] at h
    cases hu : P.underlying t with
    | none => simp [hu] at h
    | some td =>
      refine ⟨_, tagg_of hu, ?_⟩
      cases td <;> simp only [hu, reduceCtorEq, Option.some.injEq] at h <;> simp_all [aggD] <;> (subst h; rfl)

theorem part_run {t : TypeId} {g : Bool} {m o : Nat} {xs : List Value} (hg : tagg P t = some g) (hm : tsz P t = some m) (hle : o + m ≤ xs.length) (h1 : g = false → m = 1) :
    (part t xs.toArray o).run P w = .ok (shp g ((xs.drop o).take m)) w := by
  cases g with
  | true => simp [part, run_isAgg hg, run_sizeOf hm, shp]
  | false =>
    have := h1 rfl; subst this
    obtain ⟨x, hx⟩ : ∃ x, xs[o]? = some x := ⟨xs[o], by simp⟩
    have hd : ((xs.drop o).take 1).headD undef = x := by
      cases hc : xs.drop o with
      | nil => have := congrArg List.length hc; simp at this; omega
      | cons a as =>
        have h0 : (xs.drop o)[0]? = some x := by simpa using hx
        rw [hc] at h0; simp at h0; simp [h0]
    have he : shp false ((xs.drop o).take 1) = x := hd
    rw [he]
    simp [part, run_isAgg hg, hx]

theorem eqIn_flat : ∀ (d : Nat) {t ks}, flat P d t = some ks → ∀ {g xs ys r}, tagg P t = some g → eqks ks xs ys = some r → ∀ (m : Nat) (w : World), (Op.equalIn (d + m) t (shp g xs) (shp g ys)).run P w = .ok r w
  | 0, t, ks, h, _, _, _, _, _, _, _, _ => by simp [flat] at h
  | d + 1, t, ks, h, g, xs, ys, r, hg, he, m, w => by
    have hlen := eqks_len he
    simp only [flat] at h
    have hdm : d + 1 + m = (d + m) + 1 := by omega
    rw [hdm]
    cases hu : P.underlying t with
    | none => simp [hu] at h
    | some td =>
      rw [tagg_of hu] at hg
      cases td with
      | bool | int _ | string =>
        simp only [hu, Option.some.injEq] at h
        subst h
        simp only [aggD, Option.some.injEq] at hg; subst hg
        obtain ⟨x, rfl⟩ : ∃ x, xs = [x] := List.length_eq_one_iff.1 hlen.1
        obtain ⟨y, rfl⟩ : ∃ y, ys = [y] := List.length_eq_one_iff.1 hlen.2
        simp only [eqks] at he
        split at he
        · rename_i a b h1 h2
          cases h2
          simp only [Bool.and_true, Option.some.injEq] at he; subst he
          simp only [shp, Bool.false_eq_true, if_false, List.headD_cons]
          cases x <;> cases y <;> simp [eqk] at h1 <;> simp [Op.equalIn, run_underlying' hu, h1, beq_toListBytes]
        · cases he
      | struct fs =>
        simp only [hu] at h
        split at h
        · cases h
        · rename_i hst
          simp only [aggD, Option.some.injEq] at hg; subst hg
          simp only [shp, if_true]
          have hf : P.fieldsOf t = fs := by simp [Program.fieldsOf, hu]
          rw [run_equalIn_struct w (d + m) t _ _ (by rw [hf]; exact hu) (by simpa using hst), hf]
          have key : ∀ (fl : List Field) (o : Nat) (ks : List CK) (r : Bool), flatFs P (flat P d) fl o = some ks → o + ks.length ≤ xs.length → o + ks.length ≤ ys.length →
              eqks ks ((xs.drop o).take ks.length) ((ys.drop o).take ks.length) = some r → ∀ w : World, (Op.eqFields (d + m) xs.toArray ys.toArray fl).run P w = .ok r w := by
            intro fl
            induction fl with
            | nil =>
              intro o ks r hk _ _ he w
              simp only [flatFs, Option.some.injEq] at hk; subst hk
              simp [eqks] at he; subst he
              simp [Op.eqFields]
            | cons f fl ih =>
              intro o ks r hk hx hy he w
              simp only [flatFs] at hk
              split at hk
              · cases hk
              · rename_i hno
                simp only [not_or, Decidable.not_not] at hno
                obtain ⟨hname, hoff⟩ := hno
                cases hm : flat P d f.type with
                | none => simp [hm] at hk
                | some mk =>
                  simp only [hm] at hk
                  split at hk
                  · rename_i hsz
                    cases hr : flatFs P (flat P d) fl (o + mk.length) with
                    | none => simp [hr] at hk
                    | some rest =>
                      simp only [hr, Option.map_some, Option.some.injEq] at hk; subst hk
                      simp only [List.length_append] at hx hy he
                      obtain ⟨a, b, h1, h2, rfl⟩ := eqks_append he
                      obtain ⟨g, hgf, hone⟩ := flat_shape hm
                      rw [List.take_take, List.take_take, Nat.min_eq_left (by omega)] at h1
                      rw [List.drop_take, List.drop_take, List.drop_drop, List.drop_drop] at h2
                      rw [show mk.length + rest.length - mk.length = rest.length by omega] at h2
                      have p1 := part_run (P := P) (w := w) (t := f.type) (o := o) (xs := xs) hgf hsz (by omega) hone
                      have p2 := part_run (P := P) (w := w) (t := f.type) (o := o) (xs := ys) hgf hsz (by omega) hone
                      have p3 := eqIn_flat d hm hgf h1 m w
                      simp only [Op.eqFields, ne_eq, hname, not_false_eq_true, if_true, hoff, Sem.run_bind, p1, p2, p3, Result.andThen_ok]
                      cases a
                      · simp
                      · simp only [Bool.not_true, Bool.false_eq_true, if_false, Bool.true_and]
                        exact ih (o + mk.length) rest b hr (by omega) (by omega) h2 w
                  · cases hk
          exact key fs.toList 0 ks r h (by omega) (by omega) (by
            simp only [List.drop_zero]
            rw [List.take_of_length_le (by omega), List.take_of_length_le (by omega)]
            exact he) w
      | array n e =>
        simp only [hu] at h
        cases hm : flat P d e with
        | none => simp [hm] at h
        | some mk =>
          simp only [hm] at h
          split at h
          · rename_i hsz
            simp only [Option.some.injEq] at h; subst h
            simp only [aggD, Option.some.injEq] at hg; subst hg
            simp only [shp, if_true]
            obtain ⟨ie, hie, hies⟩ := tsz_info hsz
            obtain ⟨g, hgf, hone⟩ := flat_shape hm
            rw [run_equalIn_array w (d + m) _ _ hu hie]
            have hcells : P.cellsOf e = mk.length := by simp [Program.cellsOf, hie, hies]
            rw [hcells]
            have key : ∀ (n j : Nat) (r : Bool), (j + n) * mk.length ≤ xs.length → (j + n) * mk.length ≤ ys.length →
                eqks (List.replicate n mk).flatten ((xs.drop (j * mk.length)).take (n * mk.length)) ((ys.drop (j * mk.length)).take (n * mk.length)) = some r →
                ∀ w : World, (Op.eqItems (d + m) e mk.length xs.toArray ys.toArray (List.range' j n)).run P w = .ok r w := by
              intro n
              induction n with
              | zero =>
                intro j r _ _ he w
                simp [eqks] at he; subst he
                simp [Op.eqItems]
              | succ n ih =>
                intro j r hx hy he w
                have e1 : (j + (n + 1)) * mk.length = j * mk.length + (mk.length + n * mk.length) := by rw [Nat.add_mul, Nat.add_mul]; omega
                have e2 : (n + 1) * mk.length = mk.length + n * mk.length := by rw [Nat.add_mul]; omega
                have e3 : (j + 1) * mk.length = j * mk.length + mk.length := by rw [Nat.add_mul]; omega
                rw [e1] at hx hy
                rw [e2, List.replicate_succ, List.flatten_cons] at he
                obtain ⟨a, b, h1, h2, rfl⟩ := eqks_append he
                rw [List.take_take, List.take_take, Nat.min_eq_left (by omega)] at h1
                rw [List.drop_take, List.drop_take, List.drop_drop, List.drop_drop] at h2
                rw [show mk.length + n * mk.length - mk.length = n * mk.length by omega] at h2
                have p1 := part_run (P := P) (w := w) (t := e) (o := j * mk.length) (xs := xs) hgf hsz (by omega) hone
                have p2 := part_run (P := P) (w := w) (t := e) (o := j * mk.length) (xs := ys) hgf hsz (by omega) hone
                have p3 := eqIn_flat d hm hgf h1 m w
                simp only [List.range'_succ, Op.eqItems, Sem.run_bind, p1, p2, p3, Result.andThen_ok]
                cases a
                · simp
                · simp only [Bool.not_true, Bool.false_eq_true, if_false, Bool.true_and]
                  exact ih (j + 1) b (by rw [show j + 1 + n = j + (n + 1) by omega, e1]; exact hx) (by rw [show j + 1 + n = j + (n + 1) by omega, e1]; exact hy) (by rw [e3]; exact h2) w
            have hl : ((List.replicate n mk).flatten).length = n * mk.length := by simp
            rw [List.range_eq_range']
            exact key n 0 r (by simp; omega) (by simp; omega) (by
              simp only [Nat.zero_mul, List.drop_zero]
              rw [List.take_of_length_le (by omega), List.take_of_length_le (by omega)]
              exact he) w
          · cases h
      | _ => simp [hu] at h

end Go.Vm

namespace Go.Vm
open Go Go.RowKit
variable {P : Program} {G : Addr → Option Value} {F : Nat → Prop} {w : World} {φ : Nat → Option (Nat × Nat)} {h : List Blk}

def eqv : CK → V → V → Option Bool
  | .i, .c (.int k a), .c (.int k' b) => if k = k' then some (a == b) else none
  | .b, .c (.bool a), .c (.bool b) => some (a == b)
  | .s, .c (.string a), .c (.string b) => some (a.toList == b.toList)
  | _, _, _ => none

def eqVs : List CK → List V → List V → Option Bool
  | [], [], [] => some true
  | k :: ks, x :: xs, y :: ys => match eqv k x y, eqVs ks xs ys with
    | some a, some b => some (a && b)
    | _, _ => none
  | _, _, _ => none

theorem eqv_cn {e : En} {k : CK} {x y : V} {x' y' : Value} {r : Bool} (hx : Cn e x x') (hy : Cn e y y') (h : eqv k x y = some r) : eqk k x' y' = some r := by
  cases x <;> cases y <;> try (cases k <;> simp [eqv] at h; done)
  simp only [Cn] at hx hy
  subst hx; subst hy
  cases k <;> cases x' <;> cases y' <;> simp_all [eqv, eqk]

theorem eqVs_cn {e : En} : ∀ {ks : List CK} {xs ys : List V} {xs' ys' : List Value} {r : Bool}, CnL e xs xs' → CnL e ys ys' → eqVs ks xs ys = some r → eqks ks xs' ys' = some r
  | [], [], [], _, _, r, hx, hy, h => by simp only [CnL] at hx hy; subst hx; subst hy; simpa [eqVs, eqks] using h
  | k :: ks, x :: xs, y :: ys, _, _, r, hx, hy, h => by
    simp only [CnL] at hx hy
    obtain ⟨x', xs', rfl, hx1, hx2⟩ := hx
    obtain ⟨y', ys', rfl, hy1, hy2⟩ := hy
    simp only [eqVs] at h
    split at h
    · rename_i a b h1 h2
      simp only [eqks, eqv_cn hx1 hy1 h1, eqVs_cn hx2 hy2 h2]
      exact h
    · cases h
  | [], _ :: _, _, _, _, r, _, _, h => by simp [eqVs] at h
  | [], [], _ :: _, _, _, r, _, _, h => by simp [eqVs] at h
  | _ :: _, [], _, _, _, r, _, _, h => by simp [eqVs] at h
  | _ :: _, _ :: _, [], _, _, r, _, _, h => by simp [eqVs] at h

abbrev bo (b : Bool) : V := .c (.bool b)
abbrev nt (k : IntKind) (n : Int) : V := .c (.int k n)

def intV (op : BinOp) (k : IntKind) (x y : Int) (K : V → Prop) [KTag K] : Prop :=
  match op with
  | .add => K (nt k (k.wrap (x + y)))
  | .sub => K (nt k (k.wrap (x - y)))
  | .mul => K (nt k (k.wrap (x * y)))
  | .quo => y ≠ 0 ∧ K (nt k (k.wrap (x.tdiv y)))
  | .rem => y ≠ 0 ∧ K (nt k (x.tmod y))
  | .and => K (nt k (bits .and k x y))
  | .or => K (nt k (bits .or k x y))
  | .xor => K (nt k (bits .xor k x y))
  | .andNot => K (nt k (bits .andNot k x y))
  | .eql => K (bo (x == y))
  | .neq => K (bo (x != y))
  | .lss => K (bo (decide (x < y)))
  | .leq => K (bo (decide (x ≤ y)))
  | .gtr => K (bo (decide (y < x)))
  | .geq => K (bo (decide (y ≤ x)))
  | _ => False

theorem int_run {op : BinOp} {t : TypeId} {k : IntKind} {x y : Int} {K : V → Prop} (hK : intV op k x y K) : ∃ u, (binOp op t (.int k x) (.int k y)).run P w = .ok u w ∧ K (.c u) := by
  cases op <;> simp only [intV] at hK <;> first
    | exact hK.elim
    | (refine ⟨_, ?_, hK⟩; simp [binOp, Op.intArith]; done)
    | (refine ⟨_, ?_, hK.2⟩; simp [binOp, Op.intDiv, hK.1]; done)
    | (refine ⟨_, ?_, hK⟩; simp [binOp, intBits_and, intBits_or, intBits_xor, intBits_andNot]; done)
    | (refine ⟨_, ?_, hK⟩; simp [binOp, Op.intCmp]; done)

def isIface (P : Program) (t : TypeId) : Bool := match P.underlying t with | some (.interface _) => true | _ => false
def isPtr (P : Program) (t : TypeId) : Bool := match P.underlying t with | some (.pointer _) => true | _ => false
def isBool (P : Program) (t : TypeId) : Bool := match P.underlying t with | some .bool => true | _ => false
def isFunc (P : Program) (t : TypeId) : Bool := match P.underlying t with | some (.func _ _ _) => true | _ => false

/-- '==' | '!=' on what they say. -/
def sameV (op : BinOp) (r : Bool) (K : V → Prop) [KTag K] : Prop :=
  match op with
  | .eql => K (bo r)
  | .neq => K (bo !r)
  | _ => False

def strV (op : BinOp) (a b : ByteArray) (K : V → Prop) [KTag K] : Prop :=
  match op with
  | .add => ((a.size + b.size : Nat) : Int) ≤ 9223372036854775807 ∧ K (.c (.string (a ++ b)))
  | .eql => K (bo (a.toList == b.toList))
  | .neq => K (bo (!(a.toList == b.toList)))
  | _ => False

def cmpT (P : Program) (t : TypeId) : Bool := match P.info? t with | some i => i.comparable | none => false

/-- '==' of what two interface values hold. -/
def ifEqV (P : Program) (u v : TypeId) (a b : V) (K : Bool → Prop) : Prop :=
  if u = v then
    match a, b with
    | .agg xs, .agg ys => cmpT P u = true ∧ tagg P u = some true ∧ bnd (flat P 40 u) fun ks => bnd (eqVs ks xs ys) K
    | _, _ => False
  else K false

def binV (P : Program) (op : BinOp) (t : TypeId) (cst : Bool) (a b : V) (K : V → Prop) [KTag K] : Prop :=
  match a, b with
  | .c (.int k x), .c (.int k' y) =>
    (match op with
     | .shl => 0 ≤ y ∧ K (nt k (k.wrap (x * 2 ^ min y.toNat k.bits)))
     | .shr => 0 ≤ y ∧ K (nt k (x / 2 ^ min y.toNat k.bits))
     | op => k = k' ∧ intV op k x y K)
  | .c (.bool x), .c (.bool y) => isBool P t = true ∧ sameV op (x == y) K
  | .c (.string x), .c (.string y) => strV op x y K
  | .agg xs, .agg ys => bnd (flat P 40 t) fun ks => bnd (eqVs ks xs ys) fun r => tagg P t = some true ∧ P.eqGuardType P.depth t = false ∧ sameV op r K
  | .iface _ _, .c .nilIface => isIface P t = true ∧ sameV op false K
  | .c .nilIface, .iface _ _ => isIface P t = true ∧ sameV op false K
  | .c .nilIface, .c .nilIface => isIface P t = true ∧ cst = true ∧ sameV op true K
  | .iface u a, .iface v b => isIface P t = true ∧ ifEqV P u v a b fun r => sameV op r K
  | .p _ _, .c (.pointer none) => isPtr P t = true ∧ sameV op false K
  | .c (.pointer none), .p _ _ => isPtr P t = true ∧ sameV op false K
  | .c (.pointer none), .c (.pointer none) => isPtr P t = true ∧ sameV op true K
  | _, _ => False

theorem same_run {op : BinOp} {r : Bool} {K : V → Prop} (hK : sameV op r K) : (op = .eql ∧ K (bo r)) ∨ (op = .neq ∧ K (bo !r)) := by
  cases op <;> simp only [sameV] at hK <;> first | exact hK.elim | exact .inl ⟨rfl, hK⟩ | exact .inr ⟨rfl, hK⟩

/-- What '==' says lands in the result. -/
theorem eq_run {op : BinOp} {t : TypeId} {r : Bool} {K : V → Prop} {x y : Value} (hK : sameV op r K) (hb : ∀ op', op' = .eql ∨ op' = .neq → (binOp op' t x y) = (do let b ← Op.equal t x y; pure (.bool (if op' = .eql then b else !b))))
    (he : (Op.equal t x y).run P w = .ok r w) : ∃ u, (binOp op t x y).run P w = .ok u w ∧ K (.c u) := by
  rcases same_run hK with ⟨rfl, hK⟩ | ⟨rfl, hK⟩
  · exact ⟨.bool r, by rw [hb .eql (.inl rfl)]; simp [he], hK⟩
  · exact ⟨.bool !r, by rw [hb .neq (.inr rfl)]; simp [he], hK⟩

theorem isIface_u {t} (h : isIface P t = true) : ∃ ms, P.underlying t = some (.interface ms) := by
  unfold isIface at h
  cases hu : P.underlying t with
  | none => simp [hu] at h
  | some d => cases d <;> simp [hu] at h; exact ⟨_, rfl⟩
theorem isPtr_u {t} (h : isPtr P t = true) : ∃ e, P.underlying t = some (.pointer e) := by
  unfold isPtr at h
  cases hu : P.underlying t with
  | none => simp [hu] at h
  | some d => cases d <;> simp [hu] at h; exact ⟨_, rfl⟩
theorem isBool_u {t} (h : isBool P t = true) : P.underlying t = some .bool := by
  unfold isBool at h
  cases hu : P.underlying t with
  | none => simp [hu] at h
  | some d => cases d <;> simp [hu] at h; rfl

section
variable (d : Nat) {t : TypeId} (w : World)
theorem eqi_in {ms} (hu : P.underlying t = some (.interface ms)) (u : TypeId) (v : Value) : (Op.equalIn (d + 1) t (.iface u v) .nilIface).run P w = .ok false w := by simp [Op.equalIn, run_underlying' hu]
theorem eqi_ni {ms} (hu : P.underlying t = some (.interface ms)) (u : TypeId) (v : Value) : (Op.equalIn (d + 1) t .nilIface (.iface u v)).run P w = .ok false w := by simp [Op.equalIn, run_underlying' hu]
theorem eqi_nn {ms} (hu : P.underlying t = some (.interface ms)) : (Op.equalIn (d + 1) t .nilIface .nilIface).run P w = .ok true w := by simp [Op.equalIn, run_underlying' hu]
theorem eqi_ij {ms} (hu : P.underlying t = some (.interface ms)) {u v : TypeId} (h : u ≠ v) (x y : Value) : (Op.equalIn (d + 1) t (.iface u x) (.iface v y)).run P w = .ok false w := by simp [Op.equalIn, run_underlying' hu, h]
theorem eqi_ii {ms} (hu : P.underlying t = some (.interface ms)) {u : TypeId} (hc : cmpT P u = true) {x y : Value} {r : Bool} (h : (Op.equalIn d u x y).run P w = .ok r w) : (Op.equalIn (d + 1) t (.iface u x) (.iface u y)).run P w = .ok r w := by
  unfold cmpT at hc
  split at hc
  · rename_i i hi
    simp [Op.equalIn, run_underlying' hu, typeInfo, hi, hc, h]
  · cases hc
theorem eqi_pn {e} (hu : P.underlying t = some (.pointer e)) (a : Addr) : (Op.equalIn (d + 1) t (.pointer (some a)) (.pointer none)).run P w = .ok false w := by simp [Op.equalIn, run_underlying' hu]
theorem eqi_np {e} (hu : P.underlying t = some (.pointer e)) (a : Option Addr) : (Op.equalIn (d + 1) t (.pointer none) (.pointer a)).run P w = .ok a.isNone w := by simp [Op.equalIn, run_underlying' hu]
theorem eqi_b (hu : P.underlying t = some .bool) (x y : Bool) : (Op.equalIn (d + 1) t (.bool x) (.bool y)).run P w = .ok (x == y) w := by simp [Op.equalIn, run_underlying' hu]
end

def isCst : Operand → Bool
  | .const _ => true
  | _ => false

theorem guard_nil {op : BinOp} {t : TypeId} {ox oy : Operand} (h : isCst ox = true ∨ isCst oy = true) (w : World) : (eqGuard op t ox oy .nilIface .nilIface).run P w = .ok () w := by
  cases ox <;> cases oy <;> simp [isCst] at h <;> cases op <;> simp [eqGuard]

theorem bin_run {e : En} {op : BinOp} {t : TypeId} {a b : V} {x y : Value} {ox oy : Operand} {cst : Bool} (hcst : cst = true → isCst ox = true ∨ isCst oy = true) {K : V → Prop}
    (hx : Cn e a x) (hy : Cn e b y) (hK : binV P op t cst a b K) : ∃ u, (do eqGuard op t ox oy x y; binOp op t x y : Sem Value).run P w = .ok u w ∧ K (.c u) := by
  have noguard : ∀ {x y : Value}, (∀ w : World, (eqGuard op t ox oy x y).run P w = .ok () w) → (∃ u, (binOp op t x y).run P w = .ok u w ∧ K (.c u)) →
      ∃ u, (do eqGuard op t ox oy x y; binOp op t x y : Sem Value).run P w = .ok u w ∧ K (.c u) := by
    intro x y hg ⟨u, hu, hK⟩
    exact ⟨u, by simp [hg w, hu], hK⟩
  unfold binV at hK
  split at hK
  · -- integers
    rename_i k p k' q
    simp only [Cn] at hx hy; subst hx; subst hy
    refine noguard (fun w => by cases op <;> simp [eqGuard]) ?_
    split at hK
    · exact ⟨_, by simp [binOp, Op.shift, Int.not_lt.2 hK.1], hK.2⟩
    · refine ⟨_, ?_, hK.2⟩
      have : ¬ q < 0 := Int.not_lt.2 hK.1
      simp only [binOp, Op.shift, this, if_false, Sem.run_pure]
      rw [Int.fdiv_eq_ediv_of_nonneg _ (Int.pow_nonneg (by decide))]
    · obtain ⟨rfl, hK⟩ := hK
      exact int_run hK
  · -- bools
    rename_i p q
    simp only [Cn] at hx hy; subst hx; subst hy
    obtain ⟨hb, hK⟩ := hK
    have hu := isBool_u hb
    refine noguard (fun w => by cases op <;> simp [eqGuard]) (eq_run (P := P) (w := w) hK (by rintro op' (rfl | rfl) <;> simp [binOp]) ?_)
    exact eqi_b 9999 w hu p q
  · -- strings
    rename_i p q
    simp only [Cn] at hx hy; subst hx; subst hy
    refine noguard (fun w => by cases op <;> simp [eqGuard]) ?_
    cases op <;> simp only [strV] at hK <;> first
      | exact hK.elim
      | (refine ⟨_, ?_, hK⟩; simp [binOp, Op.stringOp]; done)
      | skip
    have : ¬ (((p.size + q.size : Nat) : Int) > IntKind.i64.max) := by have := hK.1; simp [IntKind.max, IntKind.signed, IntKind.bits] at *; omega
    refine ⟨_, ?_, hK.2⟩
    simp only [binOp, Op.stringOp, this, if_false, Sem.run_pure]
  · -- aggregates
    rename_i xs ys
    obtain ⟨ks, hks, r, hr, hg, hgt, hK⟩ := hK
    simp only [Cn] at hx hy
    obtain ⟨xs', rfl, hx, _⟩ := hx
    obtain ⟨ys', rfl, hy, _⟩ := hy
    refine noguard (fun w => run_eqGuard_agg w op t ox oy xs' ys' hgt) (eq_run (P := P) (w := w) hK (by rintro op' (rfl | rfl) <;> simp [binOp]) ?_)
    have := eqIn_flat 40 hks hg (eqVs_cn hx hy hr) 9960 w
    exact this
  · rename_i t' v
    obtain ⟨hi, hK⟩ := hK
    obtain ⟨ms, hu⟩ := isIface_u hi
    simp only [Cn] at hx hy; subst hy
    obtain ⟨x', rfl, _⟩ := hx
    refine noguard (fun w => by cases op <;> simp [eqGuard]) (eq_run (P := P) (w := w) hK (by rintro op' (rfl | rfl) <;> simp [binOp]) ?_)
    exact eqi_in 9999 w hu _ _
  · rename_i t' v
    obtain ⟨hi, hK⟩ := hK
    obtain ⟨ms, hu⟩ := isIface_u hi
    simp only [Cn] at hx hy; subst hx
    obtain ⟨x', rfl, _⟩ := hy
    refine noguard (fun w => by cases op <;> simp [eqGuard]) (eq_run (P := P) (w := w) hK (by rintro op' (rfl | rfl) <;> simp [binOp]) ?_)
    exact eqi_ni 9999 w hu _ _
  · obtain ⟨hi, hc, hK⟩ := hK
    obtain ⟨ms, hu⟩ := isIface_u hi
    simp only [Cn] at hx hy; subst hx; subst hy
    refine noguard (fun w => guard_nil (hcst hc) w) (eq_run (P := P) (w := w) hK (by rintro op' (rfl | rfl) <;> simp [binOp]) ?_)
    exact eqi_nn 9999 w hu
  · rename_i u a' v b'
    obtain ⟨hi, hK⟩ := hK
    obtain ⟨ms, hu⟩ := isIface_u hi
    simp only [Cn] at hx hy
    obtain ⟨x', rfl, hx⟩ := hx
    obtain ⟨y', rfl, hy⟩ := hy
    unfold ifEqV at hK
    split at hK
    · rename_i huv
      subst huv
      split at hK
      · rename_i xs ys
        obtain ⟨hc, hg, ks, hks, r, hr, hK⟩ := hK
        simp only [Cn] at hx hy
        obtain ⟨xs', rfl, hx, _⟩ := hx
        obtain ⟨ys', rfl, hy, _⟩ := hy
        refine noguard (fun w => by cases op <;> simp [eqGuard]) (eq_run (P := P) (w := w) hK (by rintro op' (rfl | rfl) <;> simp [binOp]) ?_)
        have h := eqIn_flat 40 hks hg (eqVs_cn hx hy hr) 9959 w
        exact eqi_ii 9999 w hu hc h
      · exact hK.elim
    · rename_i huv
      refine noguard (fun w => by cases op <;> simp [eqGuard]) (eq_run (P := P) (w := w) hK (by rintro op' (rfl | rfl) <;> simp [binOp]) ?_)
      exact eqi_ij 9999 w hu huv _ _
  · obtain ⟨hi, hK⟩ := hK
    obtain ⟨e', hu⟩ := isPtr_u hi
    simp only [Cn] at hx hy; subst hy
    obtain ⟨_, b, s, _, rfl⟩ := hx
    refine noguard (fun w => by cases op <;> simp [eqGuard]) (eq_run (P := P) (w := w) hK (by rintro op' (rfl | rfl) <;> simp [binOp]) ?_)
    exact eqi_pn 9999 w hu _
  · obtain ⟨hi, hK⟩ := hK
    obtain ⟨e', hu⟩ := isPtr_u hi
    simp only [Cn] at hx hy; subst hx
    obtain ⟨_, b, s, _, rfl⟩ := hy
    refine noguard (fun w => by cases op <;> simp [eqGuard]) (eq_run (P := P) (w := w) hK (by rintro op' (rfl | rfl) <;> simp [binOp]) ?_)
    exact eqi_np 9999 w hu _
  · obtain ⟨hi, hK⟩ := hK
    obtain ⟨e', hu⟩ := isPtr_u hi
    simp only [Cn] at hx hy; subst hx; subst hy
    refine noguard (fun w => by cases op <;> simp [eqGuard]) (eq_run (P := P) (w := w) hK (by rintro op' (rfl | rfl) <;> simp [binOp]) ?_)
    exact eqi_np 9999 w hu _
  · exact hK.elim

end Go.Vm

namespace Go.Vm
open Go Go.RowKit
variable {P : Program} {G : Addr → Option Value} {F : Nat → Prop} {w : World} {φ : Nat → Option (Nat × Nat)} {h : List Blk}

def unV (op : UnOp) (a : V) (K : V → Prop) [KTag K] : Prop :=
  match op, a with
  | .neg, .c (.int k n) => K (nt k (k.wrap (0 - n)))
  | .not, .c (.bool b) => K (bo !b)
  | .xor, .c (.int k n) => K (nt k (bits .xor k (if k.signed then -1 else k.max) n))
  | _, _ => False

theorem un_run {e : En} {op : UnOp} {a : V} {x : Value} {K : V → Prop} (hx : Cn e a x) (hK : unV op a K) : ∃ u, (Op.unary op x).run P w = .ok u w ∧ K (.c u) := by
  unfold unV at hK
  split at hK
  · simp only [Cn] at hx; subst hx; exact ⟨_, by simp [Op.unary, Op.intArith], hK⟩
  · simp only [Cn] at hx; subst hx; exact ⟨_, by simp [Op.unary], hK⟩
  · simp only [Cn] at hx; subst hx; exact ⟨_, by simp [Op.unary, intBits_xor], hK⟩
  · exact hK.elim

def tint (P : Program) (t : TypeId) : Option IntKind := match P.underlying t with | some (.int k) => some k | _ => none
def tstr (P : Program) (t : TypeId) : Bool := match P.underlying t with | some .string => true | _ => false
def tbytes (P : Program) (t : TypeId) : Bool := match P.underlying t with | some (.slice e) => tint P e == some .u8 | _ => false

theorem tint_u {t k} (h : tint P t = some k) : P.underlying t = some (.int k) := by
  unfold tint at h
  cases hu : P.underlying t with
  | none => simp [hu] at h
  | some d => cases d <;> simp [hu] at h; rw [h]
theorem tstr_u {t} (h : tstr P t = true) : P.underlying t = some .string := by
  unfold tstr at h
  cases hu : P.underlying t with
  | none => simp [hu] at h
  | some d => cases d <;> simp [hu] at h; rfl
theorem tbytes_u {t} (h : tbytes P t = true) : ∃ e, P.underlying t = some (.slice e) ∧ P.underlying e = some (.int .u8) := by
  unfold tbytes at h
  cases hu : P.underlying t with
  | none => simp [hu] at h
  | some d => cases d <;> simp [hu] at h; exact ⟨_, rfl, tint_u h⟩

def byteVs (s : ByteArray) : List V := s.data.toList.map fun b => nt .u8 b.toNat

def convV (P : Program) (src dst : TypeId) (a : V) (K : Eff → Prop) [KTag K] : Prop :=
  match a with
  | .c (.int _ n) => (P.underlying src).isSome = true ∧ bnd (tint P dst) fun k => K (.q (nt k (k.wrap n)))
  | .c (.string s) => tstr P src = true ∧ ((tstr P dst = true ∧ K (.q (.c (.string s)))) ∨ (tbytes P dst = true ∧ s.size ≤ 9223372036854775807 ∧ K (.q (.ro 1 (byteVs s)))))
  | _ => False

theorem ok_conv (r : RH G F w φ h) {K : Eff → Prop} {src dst : TypeId} {a : V} {x : Value} (hx : Cn (en F w φ h) a x) (hK : convV P src dst a K) : OK P G F w φ h (convert src dst x) K := by
  unfold convV at hK
  split at hK
  · rename_i k n
    simp only [Cn] at hx; subst hx
    obtain ⟨hs, k', hk, hK⟩ := hK
    obtain ⟨ds, hds⟩ := Option.isSome_iff_exists.1 hs
    refine .pure r (y := .int k' (k'.wrap n)) ?_ (by simp [Cn]) hK
    simp [convert, run_underlying' hds, run_underlying' (tint_u hk), Conv.intToInt]
  · rename_i s
    simp only [Cn] at hx; subst hx
    obtain ⟨hs, hK⟩ := hK
    have hsu := tstr_u hs
    rcases hK with ⟨hd, hK⟩ | ⟨hd, hsz, hK⟩
    · refine .pure r (y := .string s) ?_ (by simp [Cn]) hK
      simp [convert, run_underlying' hsu, run_underlying' (tstr_u hd)]
    · obtain ⟨e, hde, hee⟩ := tbytes_u hd
      obtain ⟨arr, harr⟩ : ∃ arr : Array Value, arr = (s.data.map fun b => Value.int .u8 b.toNat) ++ Array.replicate (grownCap w s.size 0 e - s.size) (.int .u8 0) := ⟨_, rfl⟩
      have hge := grownCap_ge w s.size 0 e
      have hrun : (convert src dst (.string s)).run P w = .ok (.slice (some ⟨w.heap.size, 0, none⟩) s.size (grownCap w s.size 0 e)) ((w.drew.alloc (.cells arr e)).freeze ⟨w.heap.size, arr.size, none⟩ 1) := by
        simp only [convert, Sem.run_bind, run_underlying' hsu, run_underlying' hde, run_underlying' hee, Result.andThen_ok, Conv.stringToBytes, run_choose]
        have hsh : (w.drew.alloc (.cells arr e)).shape? w.heap.size = some (e, arr.size) := by
          rw [shape_eq]
          have := World.alloc_heap_new w.drew (.cells arr e)
          rw [show w.drew.heap.size = w.heap.size from rfl] at this
          rw [this]; rfl
        unfold grownCap at harr ⊢
        simp [Question.forced, newRow, markStringish]
        rw [← harr]
        simp [hsh]
      obtain ⟨w', hw'⟩ : ∃ w', w' = (w.drew.alloc (.cells arr e)).freeze ⟨w.heap.size, arr.size, none⟩ 1 := ⟨_, rfl⟩
      rw [← hw'] at hrun
      have hsize : w'.heap.size = w.heap.size + 1 := by rw [hw']; simp [World.freeze]
      have hold : ∀ b, b < w.heap.size → w'.heap[b]? = w.heap[b]? := fun b hb => by
        rw [hw']
        simp only [World.freeze, Nat.succ_ne_self, if_false, Array.getElem?_modify]
        rw [if_neg (by omega)]
        exact Below.heap_alloc _ _ _ hb
      have hnew : ∃ fz, w'.heap[w.heap.size]? = some (.cells arr e fz) := by
        refine ⟨(arr.size, arr.size + 1), ?_⟩
        rw [hw']
        have := World.alloc_heap_new w.drew (.cells arr e)
        rw [show w.drew.heap.size = w.heap.size from rfl] at this
        simp only [World.freeze, Nat.succ_ne_self, if_false, Array.getElem?_modify, if_true, this]
        simp
      obtain ⟨fz, hnew⟩ := hnew
      have he : Ext (en F w φ h) (en F w' φ h) := ⟨fun _ h => .inl h, fun _ h => h, fun _ _ => rfl, fun b hb _ => hold b hb, fun _ _ h => h, fun _ _ h => h, fun b hb => by
        show w'.shape? b = w.shape? b
        rw [shape_eq, shape_eq, hold b hb], by show w.heap.size ≤ w'.heap.size; omega, by rw [hw']; rfl, by rw [hw']; rfl, by rw [hw']; rfl⟩
      have hr : RH G F w' φ h := ⟨fun i k hi => by
          by_cases hl : k.live = true
          · exact (r.rep i k hi).keep he ⟨k, hi, live_dm hl⟩ fun b s hf => hold b (r.lt i k b s hi hl hf)
          · cases k <;> simp [Blk.live] at hl <;> trivial, r.inj, fun i k b s hi hl hf => by have := r.lt i k b s hi hl hf; omega, fun a x ha => by
          obtain ⟨h1, h2, h3, h4⟩ := r.glob a x ha
          refine ⟨?_, by omega, h3, h4⟩
          unfold World.cell? at h1 ⊢; rw [hold _ h2]; exact h1, fun b hb => by
          obtain ⟨h1, h2⟩ := r.flt b hb
          exact ⟨by omega, h2⟩⟩
      refine ⟨_, w', φ, _, hrun, hK, ?_, hr, he⟩
      have hlen : (byteVs s).length = s.size := by simp [byteVs]
      simp only [Cn, Eff.val, Eff.heap]
      refine ⟨_, _, by rw [hlen], by omega, ?_⟩
      by_cases h0 : s.size = 0
      · exact .inl (List.eq_nil_of_length_eq_zero (by omega))
      · refine .inr ⟨w.heap.size, 0, rfl, by show w.heap.size < w'.heap.size; omega, ?_, ?_⟩
        · rintro (⟨i, s', k, hi, hl, hf⟩ | hx)
          · have := r.lt i k _ s' hi hl hf; omega
          · have := (r.flt _ hx).1; omega
        · have key : ∀ (bs : List UInt8) (o : Nat), (∀ j b, bs[j]? = some b → arr[o + j]? = some (.int .u8 b.toNat)) → CnRow (en F w' φ h) 1 w.heap.size o (bs.map fun b => nt .u8 b.toNat) := by
            intro bs
            induction bs with
            | nil => intro o _; simp [CnRow]
            | cons b bs ih =>
              intro o hb
              simp only [List.map_cons, CnRow]
              refine ⟨⟨.int .u8 b.toNat, by simp [Cn], rfl, fun j hj => ?_⟩, ih (o + 1) fun j b' hb' => by
                have := hb (j + 1) b' (by simpa using hb'); rw [← this]; congr 1; omega⟩
              have : j = 0 := by omega
              subst this
              have := hb 0 b (by simp)
              rw [Nat.add_zero] at this
              show w'.cell? _ = _
              simp [World.cell?, hnew, this, Value.cells]
          exact key s.data.toList 0 fun j b hb => by
            have hlt := (List.getElem?_eq_some_iff.1 hb).1
            have hb' : s.data[j]? = some b := by simpa using hb
            rw [harr, Nat.zero_add, Array.getElem?_append_left (by simpa using hlt)]
            simp [hb']
  · exact hK.elim

/-- The greatest, the least of some numbers. -/
def foldI (f : Int → Int → Int) : Int → List V → Option Int
  | x, [] => some x
  | x, .c (.int _ y) :: r => foldI f (f x y) r
  | _, _ => none

theorem max_run {e : En} {k : IntKind} : ∀ {vs : List V} {ys : List Value} {x r : Int}, CnL e vs ys → foldI max x vs = some r → (ys.foldlM Builtin.max2 (.int k x)).run P w = .ok (.int k r) w
  | [], ys, x, r, h, hf => by simp only [CnL] at h; subst h; simp only [foldI, Option.some.injEq] at hf; subst hf; simp
  | v :: vs, ys, x, r, h, hf => by
    simp only [CnL] at h
    obtain ⟨y, ys', rfl, hv, hl⟩ := h
    cases v <;> try (simp [foldI] at hf; done)
    rename_i z
    simp only [Cn] at hv; subst hv
    cases y <;> try (simp [foldI] at hf; done)
    rename_i k' y
    simp only [foldI] at hf
    have : (if y > x then y else x) = max x y := by split <;> omega
    simp only [List.foldlM_cons, Sem.run_bind, Builtin.max2, Sem.run_pure, Result.andThen_ok, this]
    exact max_run hl hf

theorem min_run {e : En} {k : IntKind} : ∀ {vs : List V} {ys : List Value} {x r : Int}, CnL e vs ys → foldI min x vs = some r → (ys.foldlM Builtin.min2 (.int k x)).run P w = .ok (.int k r) w
  | [], ys, x, r, h, hf => by simp only [CnL] at h; subst h; simp only [foldI, Option.some.injEq] at hf; subst hf; simp
  | v :: vs, ys, x, r, h, hf => by
    simp only [CnL] at h
    obtain ⟨y, ys', rfl, hv, hl⟩ := h
    cases v <;> try (simp [foldI] at hf; done)
    rename_i z
    simp only [Cn] at hv; subst hv
    cases y <;> try (simp [foldI] at hf; done)
    rename_i k' y
    simp only [foldI] at hf
    have : (if y < x then y else x) = min x y := by split <;> omega
    simp only [List.foldlM_cons, Sem.run_bind, Builtin.min2, Sem.run_pure, Result.andThen_ok, this]
    exact min_run hl hf

end Go.Vm
