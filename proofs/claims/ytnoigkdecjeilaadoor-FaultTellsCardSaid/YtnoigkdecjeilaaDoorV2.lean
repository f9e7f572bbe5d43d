/- A walk of the model's code on logical values, with its proofs: part 2. No condition. -/
import Derived.Test.YtnoigkdecjeilaaDoorV1
import Derived.Laws.Build
import Derived.BigFrame
import Derived.Stop.Asserts
import Derived.RangeFuncLeaves
import Derived.Laws.IdiomStrings
import Derived.OrdersIn
import Derived.RangeFuncIn
set_option linter.unusedSimpArgs false
set_option linter.unusedVariables false
namespace Go.Vm
open Go Go.RowKit
variable {P : Program} {G : Addr → Option Value} {F : Nat → Prop} {w : World} {φ : Nat → Option (Nat × Nat)} {h : List Blk}

def lenB (P : Program) (t : TypeId) (a : V) (K : Eff → Prop) [KTag K] : Prop :=
  match a with
  | .c (.string s) => tstr P t = true ∧ K (.q (nt .i64 s.size))
  | a => (telem P t).isSome = true ∧ bnd (telem P t) fun x => x.1 = none ∧ bnd (lenV a) fun n => K (.q (nt .i64 n))

def minmaxB (f : Int → Int → Int) (as : List V) (K : Eff → Prop) [KTag K] : Prop :=
  match as with
  | .c (.int k x) :: r => bnd (foldI f x r) fun m => K (.q (nt k m))
  | _ => False

def builtinV (P : Program) (b : Builtin) (ts : List TypeId) (h : List Blk) (as : List V) (K : Eff → Prop) [KTag K] : Prop :=
  match b, ts, as with
  | .len, t :: _, [a] => lenB P t a K
  | .append, [t, t2], [a, b] => appendV P t t2 h a b K
  | .max, _, as => minmaxB max as K
  | .min, _, as => minmaxB min as K
  | _, _, _ => False

/-- What an operation that is no call of a function does. -/
def opV (P : Program) (G : Addr → Option Value) (o : Op) (s : St) (K : Eff → Prop) [KTag K] : Prop :=
  match o with
  | .move x | .assign x => bnd (ev s x) fun v => K (.q v)
  | .pick c a b => bnd (ev s c) fun cv => match cv with
    | .c (.bool t) => brV t (bnd (ev s a) fun v => K (.q v)) (bnd (ev s b) fun v => K (.q v))
    | _ => False
  | .alloc e => bnd (tzero P e) fun z => (ofV z).fills = true ∧ K (.nw .p (.cells e (ofV z).cells))
  | .box e x => bnd (ev s x) fun v => v.fills = true ∧ K (.nw .p (.cells e v.cells))
  | .build t ps => bnd (evParts s ps.toList) fun vs => buildV P t vs K
  | .buildSlice t n ps => bnd (evParts s ps.toList) fun vs => buildSliceV P t n vs K
  | .load t a => bnd (ev s a) fun v => loadV P G t s.h v K
  | .store t a x => bnd (ev s a) fun v => bnd (ev s x) fun u => storeV P t s.h v u K
  | .nilCheck x => bnd (ev s x) fun v => (match v with | .p _ _ => True | .rp _ => True | .fn (.func _) _ _ => True | .fn (.yield _) _ _ => True | .c (.pointer (some _)) => True | _ => False) ∧ K (.q v)
  | .binOp op t x y _ => bnd (ev s x) fun v => bnd (ev s y) fun u => binV P op t (isCst x || isCst y) v u fun r => K (.q r)
  | .unOp op _ x => bnd (ev s x) fun v => unV op v fun r => K (.q r)
  | .convert src dst x => bnd (ev s x) fun v => convV P src dst v K
  | .makeInterface t x => bnd (ev s x) fun v => P.concrete t = true ∧ K (.q (.iface t v))
  | .makeFunc f a b => bnd (evs s a.toList) fun as => bnd (evs s b.toList) fun bs => K (.q (.fn f as bs))
  | .makeSlice t l c => bnd (ev s l) fun v => bnd (ev s c) fun u => makeSliceV P t v u K
  | .slice t x lo hi mx => bnd (ev s x) fun v => sliceOpV P s t v lo hi mx K
  | .fieldAddr t x f => bnd (ev s x) fun v => fieldAddrV P t f v K
  | .field t x f => bnd (ev s x) fun v => fieldV P t f v K
  | .indexAddr t x i => bnd (ev s x) fun v => bnd (ev s i) fun u => indexAddrV P t v u K
  | .index t x i => bnd (ev s x) fun v => bnd (ev s i) fun u => indexV P t v u K
  | .extract x i => bnd (ev s x) fun v => match v with
    | .tup vs => bnd vs[i]? fun u => K (.q u)
    | _ => False
  | .call { callee := .builtin b, args, argTypes } => bnd (evs s args.toList) fun as => builtinV P b argTypes.toList s.h as K
  | _ => False

/-- An operation's run, seen from its logical side. -/
def OKo (P : Program) (G : Addr → Option Value) (F : Nat → Prop) (w : World) (φ : Nat → Option (Nat × Nat)) (h : List Blk) (m : Sem Next) (K : Eff → Prop) : Prop :=
  ∃ y w' φ' e, (m.run P w = .ok (.value y) w' ∨ (m.run P w = .ok .skip w' ∧ y = undef)) ∧ K e ∧ Cn (en F w' φ' (e.heap h)) (e.val h) y ∧ RH G F w' φ' (e.heap h) ∧ Ext (en F w φ h) (en F w' φ' (e.heap h))

theorem OK.next {m : Sem Value} {K : Eff → Prop} (ho : OK P G F w φ h m K) {m' : Sem Next} (hm : m'.run P w = (m.run P w).andThen fun y w' => .ok (.value y) w') : OKo P G F w φ h m' K := by
  obtain ⟨y, w', φ', e, hr, rest⟩ := ho
  exact ⟨y, w', φ', e, .inl (by rw [hm, hr]; rfl), rest⟩

theorem OKu.next {m : Sem Unit} {K : Eff → Prop} (ho : OKu P G F w φ h m K) {m' : Sem Next} (hm : m'.run P w = (m.run P w).andThen fun _ w' => .ok .skip w') : OKo P G F w φ h m' K := by
  obtain ⟨w', φ', e, hr, hK, hv, hrh, he⟩ := ho
  exact ⟨undef, w', φ', e, .inr ⟨by rw [hm, hr]; rfl, rfl⟩, hK, by rw [hv]; simp [Cn], hrh, he⟩


theorem evs_map {s : St} {a : Act} (r : Rep G F w φ s a) {xs : Array Operand} {vs : List V} (h : evs s xs.toList = some vs) : CnL (en F w φ s.h) vs (xs.map a.eval).toList := by
  simpa using evs_cn r h

theorem op_sound {o : Oper} {s : St} {a : Act} {K : Eff → Prop} (r : Rep G F w φ s a) (hK : opV P G o.op s K) : OKo P G F w φ s.h (execOp a.eval o) K := by
  obtain ⟨dst, op, ty, pos, after, guard⟩ := o
  simp only at hK
  cases op <;> simp only [opV] at hK <;> try exact hK.elim
  case move x =>
    obtain ⟨v, hv, hK⟩ := hK
    exact ⟨_, w, φ, .q v, .inl (by simp [execOp]), hK, ev_cn r hv, r.heap, ext_refl⟩
  case assign x =>
    obtain ⟨v, hv, hK⟩ := hK
    exact ⟨_, w, φ, .q v, .inl (by simp [execOp]), hK, ev_cn r hv, r.heap, ext_refl⟩
  case pick c x y =>
    obtain ⟨cv, hc, hK⟩ := hK
    have hcc := ev_cn r hc
    split at hK
    · rename_i t
      simp only [Cn] at hcc
      cases t with
      | true =>
        obtain ⟨v, hv, hK⟩ := hK.1 rfl
        exact ⟨_, w, φ, .q v, .inl (by simp [execOp, hcc, asBool]), hK, ev_cn r hv, r.heap, ext_refl⟩
      | false =>
        obtain ⟨v, hv, hK⟩ := hK.2 rfl
        exact ⟨_, w, φ, .q v, .inl (by simp [execOp, hcc, asBool]), hK, ev_cn r hv, r.heap, ext_refl⟩
    · exact hK.elim
  case alloc e =>
    obtain ⟨z, hz, hf, hK⟩ := hK
    exact (ok_alloc r.heap e hz hf hK).next (by simp [execOp])
  case box e x =>
    obtain ⟨v, hv, hf, hK⟩ := hK
    exact (ok_new r.heap e (ev_cn r hv) hf hK).next (by simp [execOp])
  case build t ps =>
    obtain ⟨vs, hvs, hK⟩ := hK
    exact (ok_build r.heap (xs := ps.map fun (i, x) => (i, a.eval x)) (by simpa using evParts_cn r hvs) hK).next (by simp [execOp])
  case buildSlice t n ps =>
    obtain ⟨vs, hvs, hK⟩ := hK
    exact (ok_buildSlice r.heap (xs := ps.map fun (i, x) => (i, a.eval x)) (by simpa using evParts_cn r hvs) hK).next (by simp [execOp])
  case load t x =>
    obtain ⟨v, hv, hK⟩ := hK
    exact (ok_load r.heap (ev_cn r hv) hK).next (by simp [execOp])
  case store t x y =>
    obtain ⟨v, hv, u, hu, hK⟩ := hK
    exact (ok_store r.heap (ev_cn r hv) (ev_cn r hu) hK).next (by simp [execOp])
  case nilCheck x =>
    obtain ⟨v, hv, hs, hK⟩ := hK
    have hc := ev_cn r hv
    refine ⟨a.eval x, w, φ, .q v, .inl ?_, hK, hc, r.heap, ext_refl⟩
    split at hs
    · simp only [Cn] at hc; obtain ⟨_, b, q, _, he⟩ := hc; simp [execOp, he]
    · simp only [Cn] at hc; obtain ⟨b, q, _, he, _⟩ := hc; simp [execOp, he]
    · simp only [Cn] at hc; obtain ⟨as, bs, he, _⟩ := hc; simp [execOp, he]
    · simp only [Cn] at hc; obtain ⟨as, bs, he, _⟩ := hc; simp [execOp, he]
    · simp only [Cn] at hc; simp [execOp, hc]
    · exact hs.elim
  case binOp op t x y yt =>
    obtain ⟨v, hv, u, hu, hK⟩ := hK
    obtain ⟨q, hq, hK⟩ := bin_run (P := P) (w := w) (ox := x) (oy := y) (by intro hc; simpa using hc) (ev_cn r hv) (ev_cn r hu) hK
    refine ⟨q, w, φ, _, .inl ?_, hK, by simp [Cn, Eff.val], r.heap, ext_refl⟩
    simp only [execOp]
    rw [Sem.run_bind, hq]; rfl
  case unOp op t x =>
    obtain ⟨v, hv, hK⟩ := hK
    obtain ⟨q, hq, hK⟩ := un_run (P := P) (w := w) (ev_cn r hv) hK
    exact ⟨q, w, φ, _, .inl (by simp [execOp, hq]), hK, by simp [Cn, Eff.val], r.heap, ext_refl⟩
  case convert src dst x =>
    obtain ⟨v, hv, hK⟩ := hK
    exact (ok_conv r.heap (ev_cn r hv) hK).next (by simp [execOp])
  case makeInterface t x =>
    obtain ⟨v, hv, hc, hK⟩ := hK
    refine ⟨.iface t (a.eval x), w, φ, _, .inl (by simp [execOp, run_makeInterface w t _ hc]), hK, ?_, r.heap, ext_refl⟩
    simp only [Cn, Eff.val, Eff.heap]; exact ⟨_, rfl, ev_cn r hv⟩
  case makeFunc f x y =>
    obtain ⟨as, ha, bs, hb, hK⟩ := hK
    refine ⟨.func f (x.map a.eval) (y.map a.eval), w, φ, _, .inl (by simp [execOp, Instr.makeFunc]), hK, ?_, r.heap, ext_refl⟩
    simp only [Cn, Eff.val, Eff.heap]; exact ⟨_, _, rfl, evs_map r ha, evs_map r hb⟩
  case makeSlice t l c =>
    obtain ⟨v, hv, u, hu, hK⟩ := hK
    exact (ok_makeSlice r.heap (ev_cn r hv) (ev_cn r hu) hK).next (by simp [execOp])
  case slice t x lo hi mx =>
    obtain ⟨v, hv, hK⟩ := hK
    exact (ok_slice r (ev_cn r hv) hK).next (by simp [execOp])
  case fieldAddr t x f =>
    obtain ⟨v, hv, hK⟩ := hK
    exact (ok_fieldAddr r.heap (ev_cn r hv) hK).next (by simp [execOp])
  case field t x f =>
    obtain ⟨v, hv, hK⟩ := hK
    exact (ok_field r.heap (ev_cn r hv) hK).next (by simp [execOp])
  case indexAddr t x i =>
    obtain ⟨v, hv, u, hu, hK⟩ := hK
    exact (ok_indexAddr r.heap (ev_cn r hv) (ev_cn r hu) hK).next (by simp [execOp])
  case index t x i =>
    obtain ⟨v, hv, u, hu, hK⟩ := hK
    exact (ok_index r.heap (ev_cn r hv) (ev_cn r hu) hK).next (by simp [execOp])
  case extract x i =>
    obtain ⟨v, hv, hK⟩ := hK
    have hc := ev_cn r hv
    split at hK
    · rename_i vs
      obtain ⟨u, hu, hK⟩ := hK
      simp only [Cn] at hc
      obtain ⟨ys, he, hl⟩ := hc
      obtain ⟨y, hy, hcn⟩ := hl.at hu
      have hy' : ys[i]? = some y := by simpa using hy
      exact ⟨y, w, φ, .q u, .inl (by simp [execOp, he, Instr.extract, hy']), hK, hcn, r.heap, ext_refl⟩
    · exact hK.elim
  case call c =>
    obtain ⟨callee, args, ats⟩ := c
    cases callee <;> simp only at hK <;> try exact hK.elim
    rename_i b
    obtain ⟨vs, hvs, hK⟩ := hK
    have hl := evs_map r hvs
    unfold builtinV at hK
    split at hK
    · -- len
      rename_i ts as t ts' v hts
      simp only [CnL] at hl
      obtain ⟨x, xs, hxs, hx, hnil⟩ := hl
      have ht0 : ats[0]? = some t := by rw [← Array.getElem?_toList, hts]; rfl
      have hx0 : (args.map a.eval)[0]? = some x := by rw [← Array.getElem?_toList, hxs]; rfl
      unfold lenB at hK
      split at hK
      · rename_i st
        obtain ⟨hs, hK⟩ := hK
        simp only [Cn] at hx
        subst hx
        refine ⟨.int .i64 st.size, w, φ, _, .inl ?_, hK, by simp [Cn, Eff.val], r.heap, ext_refl⟩
        rw [BigFrame.execOp_builtin]
        simp only [BigFrame.builtin_len]
        simp [Builtin.len_, ht0, hx0, run_underlying' (tstr_u hs), goInt]
      · obtain ⟨_, ⟨m, e, z⟩, hte, hm, n, hn, hK⟩ := hK
        simp only at hm; subst hm
        obtain ⟨hu, _⟩ := telem_sl hte
        obtain ⟨ad, cap, rfl, _⟩ := lenV_cn hx hn
        refine ⟨.int .i64 n, w, φ, _, .inl ?_, hK, by simp [Cn, Eff.val], r.heap, ext_refl⟩
        rw [BigFrame.execOp_builtin]
        simp only [BigFrame.builtin_len]
        simp [Builtin.len_, ht0, hx0, run_underlying' hu, goInt]
    · -- append
      rename_i ts as t t2 u v hts
      simp only [CnL] at hl
      obtain ⟨x, xs, hxs, hx, y, ys, rfl, hy, hnil⟩ := hl
      subst hnil
      have hargs : args.map a.eval = #[x, y] := by apply Array.ext'; simpa using hxs
      have hats : ats = #[t, t2] := by apply Array.ext'; simpa using hts
      refine (ok_append (ty := ty) r.heap hx hy hK).next ?_
      rw [BigFrame.execOp_builtin]
      simp only [BigFrame.builtin_append, hargs, hats]
      simp
    · -- max
      unfold minmaxB at hK
      split at hK
      · rename_i k x rest
        obtain ⟨m, hm, hK⟩ := hK
        simp only [CnL] at hl
        obtain ⟨x', xs, hxs, hx, hl⟩ := hl
        simp only [Cn] at hx; subst hx
        refine ⟨.int k m, w, φ, _, .inl ?_, hK, by simp [Cn, Eff.val], r.heap, ext_refl⟩
        rw [BigFrame.execOp_builtin]
        simp only [BigFrame.builtin_max]
        have := max_run (P := P) (w := w) (k := k) hl hm
        simp only [Builtin.max_]
        rw [hxs]
        simp [this]
      · exact hK.elim
    · unfold minmaxB at hK
      split at hK
      · rename_i k x rest
        obtain ⟨m, hm, hK⟩ := hK
        simp only [CnL] at hl
        obtain ⟨x', xs, hxs, hx, hl⟩ := hl
        simp only [Cn] at hx; subst hx
        refine ⟨.int k m, w, φ, _, .inl ?_, hK, by simp [Cn, Eff.val], r.heap, ext_refl⟩
        rw [BigFrame.execOp_builtin]
        simp only [BigFrame.builtin_min]
        have := min_run (P := P) (w := w) (k := k) hl hm
        simp only [Builtin.min_]
        rw [hxs]
        simp [this]
      · exact hK.elim
    · exact hK.elim

end Go.Vm

namespace Go.Vm
open Go Go.RowKit
variable {P : Program} {G : Addr → Option Value} {F F' : Nat → Prop} {w w' : World} {φ φ1 : Nat → Option (Nat × Nat)} {h : List Blk}

/-! ### Blocks that nobody of ours will write again -/

def rows (g : Bool) (z : Nat) : Nat → List V → List V
  | 0, _ => []
  | k + 1, cs => (if g then .agg (cs.take z) else cs.headD (.c undef)) :: rows g z k (cs.drop z)

theorem rows_length (g : Bool) (z : Nat) : ∀ (k : Nat) (cs : List V), (rows g z k cs).length = k
  | 0, _ => rfl
  | k + 1, cs => by simp [rows, rows_length g z k]

theorem rows_cn {e : En} {b : Nat} {g : Bool} {z : Nat} (hg : g = false → z = 1) : ∀ (k : Nat) {cs : List V} {o : Nat}, k * z ≤ cs.length →
    (∀ j v, cs[j]? = some v → ∃ x, e.w.cell? ⟨b, o + j, none⟩ = some x ∧ x.oneCell' = true ∧ Cn e v x) → CnRow e z b o (rows g z k cs)
  | 0, _, _, _, _ => by simp [rows, CnRow]
  | k + 1, cs, o, hle, hc => by
    rw [Nat.add_mul, Nat.one_mul] at hle
    simp only [rows, CnRow]
    refine ⟨?_, rows_cn hg k (by simp; omega) fun j v hv => ?_⟩
    · cases g with
      | true =>
        obtain ⟨ys, hyl, hcn, hall, hj⟩ := cnl_of_at (e := e) (cs := cs) (f := fun j => e.w.cell? ⟨b, o + j, none⟩) z (by omega) (fun j v hv _ => hc j v hv)
        refine ⟨.agg ys.toArray, ?_, by simp [Value.cells, hyl], fun j hj' => ?_⟩
        · simp only [if_true, Cn]
          exact ⟨ys.toArray, rfl, by simpa using hcn, by simpa using hall⟩
        · rw [hj j hj']; simp [Value.cells]
      | false =>
        have hz := hg rfl
        subst hz
        cases cs with
        | nil => simp at hle
        | cons v cs =>
          obtain ⟨x, hx, ho, hcn⟩ := hc 0 v (by simp)
          refine ⟨x, by simpa using hcn, by rw [cells_one ho]; rfl, fun j hj => ?_⟩
          have : j = 0 := by omega
          subst this
          rw [hx, cells_one ho]; rfl
    · obtain ⟨x, hx, rest⟩ := hc (z + j) v (by simpa using hv)
      exact ⟨x, by rw [← hx]; congr 2; omega, rest⟩

mutual
/-- What pointed into a block of ours, and reads it alone. -/
def V.frz (i : Nat) (cs : List V) (g : Bool) : V → V
  | .sl z i' o k => if i' = i then .ro z (rows g z k (cs.drop o)) else .sl z i' o k
  | .ro z xs => .ro z (frzL i cs g xs)
  | .agg xs => .agg (frzL i cs g xs)
  | .tup xs => .tup (frzL i cs g xs)
  | .fn f a b => .fn f (frzL i cs g a) (frzL i cs g b)
  | .iface t v => .iface t (v.frz i cs g)
  | .rp v => .rp (v.frz i cs g)
  | v => v
def frzL (i : Nat) (cs : List V) (g : Bool) : List V → List V
  | [] => []
  | v :: vs => v.frz i cs g :: frzL i cs g vs
end

mutual
/-- All slices into that block are of its rows, and within it. -/
def V.fits (i : Nat) (n : Nat) (g : Bool) : V → Prop
  | .sl z i' o k => i' = i → (g = false → z = 1) ∧ o + k * z ≤ n
  | .ro _ xs => fitsL i n g xs
  | .agg xs => fitsL i n g xs
  | .tup xs => fitsL i n g xs
  | .fn _ a b => fitsL i n g a ∧ fitsL i n g b
  | .iface _ v => v.fits i n g
  | .rp v => v.fits i n g
  | _ => True
def fitsL (i : Nat) (n : Nat) (g : Bool) : List V → Prop
  | [] => True
  | v :: vs => v.fits i n g ∧ fitsL i n g vs
end

theorem frzL_length (i : Nat) (cs : List V) (g : Bool) : ∀ xs : List V, (frzL i cs g xs).length = xs.length
  | [] => rfl
  | x :: xs => by simp [frzL, frzL_length i cs g xs]

/-- The block is read alone from here on. -/
structure Cold (e e' : En) (i : Nat) (cs : List V) : Prop where
  ext : Ext e e'
  w : e'.w = e.w
  at' : ∀ b s, e.φ i = some (b, s) → b < e.w.heap.size ∧ ¬ e'.own b ∧ ∀ k v, cs[k]? = some v → ∃ x, e.w.cell? ⟨b, s + k, none⟩ = some x ∧ x.oneCell' = true ∧ Cn e v x

mutual
theorem Cn.frz {e e' : En} {i : Nat} {cs : List V} {g : Bool} (h : Cold e e' i cs) : ∀ {v : V} {y : Value}, v.fits i cs.length g → Cn e v y → Cn e' (v.frz i cs g) y
  | .c x, y, _, k => k.ext h.ext
  | .p j o, y, _, k => k.ext h.ext
  | .sl z j o k', y, hf, k => by
    simp only [V.frz]
    by_cases hj : j = i
    · subst hj
      rw [if_pos rfl]
      have hf' : (g = false → z = 1) ∧ o + k' * z ≤ cs.length := by simpa [V.fits] using hf
      obtain ⟨hg, hle⟩ := hf'
      simp only [Cn] at k ⊢
      obtain ⟨hi, k⟩ := k
      rw [rows_length]
      rcases k with ⟨_, h0, hy⟩ | ⟨b, s, a, cap, t, m, hφ, hy, ha, hk, hs, hm⟩
      · subst h0; exact ⟨none, 0, hy, Nat.le_refl _, .inl rfl⟩
      · refine ⟨some ⟨b, a, none⟩, cap, hy, hk, ?_⟩
        rcases Nat.eq_zero_or_pos k' with h0 | h0
        · subst h0; exact .inl rfl
        · right
          have ha' : a = s + o := by
            rcases ha with ha | ha
            · omega
            · exact ha
          obtain ⟨hb, ho, hc⟩ := h.at' b s hφ
          refine ⟨b, a, rfl, by rw [h.w]; exact hb, ho, rows_cn hg _ (by simp; omega) fun q v hv => ?_⟩
          obtain ⟨x, hx, h1, h2⟩ := hc (o + q) v (by simpa using hv)
          exact ⟨x, by rw [h.w, ← hx, ha']; congr 2; omega, h1, h2.ext h.ext⟩
    · rw [if_neg hj]; exact k.ext h.ext
  | .ro z xs, y, hf, k => by
    simp only [Cn, V.frz] at k ⊢
    simp only [V.fits] at hf
    obtain ⟨a, cap, hy, hc, k⟩ := k
    rw [frzL_length]
    refine ⟨a, cap, hy, hc, ?_⟩
    rcases k with k | ⟨b, o, ha, hb, ho, hr⟩
    · exact .inl (by rw [k]; rfl)
    · exact .inr ⟨b, o, ha, by rw [h.w]; exact hb, h.ext.own b hb ho, CnRow.frz h hf hr⟩
  | .agg xs, y, hf, k => by
    simp only [Cn, V.frz] at k ⊢
    simp only [V.fits] at hf
    obtain ⟨ys, hy, hl, ho⟩ := k
    exact ⟨ys, hy, CnL.frz h hf hl, ho⟩
  | .tup xs, y, hf, k => by
    simp only [Cn, V.frz] at k ⊢
    simp only [V.fits] at hf
    obtain ⟨ys, hy, hl⟩ := k
    exact ⟨ys, hy, CnL.frz h hf hl⟩
  | .fn f a b, y, hf, k => by
    simp only [Cn, V.frz] at k ⊢
    simp only [V.fits] at hf
    obtain ⟨as, bs, hy, ha, hb⟩ := k
    exact ⟨as, bs, hy, CnL.frz h hf.1 ha, CnL.frz h hf.2 hb⟩
  | .iface t v, y, hf, k => by
    simp only [Cn, V.frz] at k ⊢
    simp only [V.fits] at hf
    obtain ⟨x, hy, hv⟩ := k
    exact ⟨x, hy, Cn.frz h hf hv⟩
  | .rp v, y, hf, k => by
    simp only [Cn, V.frz] at k ⊢
    simp only [V.fits] at hf
    obtain ⟨b, o, x, hy, hb, ho, hv, hc⟩ := k
    exact ⟨b, o, x, hy, by rw [h.w]; exact hb, h.ext.own b hb ho, Cn.frz h hf hv, by rw [h.w]; exact hc⟩
  | .yl l, y, _, k => k.ext h.ext
theorem CnL.frz {e e' : En} {i : Nat} {cs : List V} {g : Bool} (h : Cold e e' i cs) : ∀ {vs : List V} {ys : List Value}, fitsL i cs.length g vs → CnL e vs ys → CnL e' (frzL i cs g vs) ys
  | [], ys, _, k => by simpa [CnL, frzL] using k
  | v :: vs, ys, hf, k => by
    simp only [CnL, frzL] at k ⊢
    simp only [fitsL] at hf
    obtain ⟨x, xs, hy, hv, hl⟩ := k
    exact ⟨x, xs, hy, Cn.frz h hf.1 hv, CnL.frz h hf.2 hl⟩
theorem CnRow.frz {e e' : En} {i : Nat} {cs : List V} {g : Bool} (h : Cold e e' i cs) {z b : Nat} : ∀ {o : Nat} {vs : List V}, fitsL i cs.length g vs → CnRow e z b o vs → CnRow e' z b o (frzL i cs g vs)
  | _, [], _, _ => by simp [CnRow, frzL]
  | o, v :: vs, hf, k => by
    simp only [CnRow, frzL] at k ⊢
    simp only [fitsL] at hf
    obtain ⟨⟨y, hv, hz, hc⟩, hl⟩ := k
    exact ⟨⟨y, Cn.frz h hf.1 hv, hz, by rw [h.w]; exact hc⟩, CnRow.frz h hf.2 hl⟩
end

/-- Blocks become nobody's. -/
theorem set_gone {i : Nat} {k0 : Blk} (r : RH G F w φ h) (hi : h[i]? = some k0) (hd : k0.dm = true) :
    RH G F w φ (h.set i .gone) ∧ Ext (en F w φ h) (en F w φ (h.set i .gone)) ∧ ∀ b s, k0.live = true → φ i = some (b, s) → ¬ owned φ (h.set i .gone) b ∧ ¬ F b := by
  have hil := (List.getElem?_eq_some_iff.1 hi).1
  have at2 : ∀ (j : Nat) (k : Blk), (h.set i .gone)[j]? = some k → (j = i ∧ k = .gone) ∨ (j ≠ i ∧ h[j]? = some k) := by
    intro j k hk
    by_cases hj : j = i
    · subst hj; rw [List.getElem?_set_self hil] at hk; exact .inl ⟨rfl, (Option.some.inj hk).symm⟩
    · rw [List.getElem?_set_ne (fun e => hj e.symm)] at hk; exact .inr ⟨hj, hk⟩
  have own : ∀ b, owned φ (h.set i .gone) b → owned φ h b := by
    rintro b ⟨j, s, k, hk, hl, hf⟩
    rcases at2 j k hk with ⟨rfl, rfl⟩ | ⟨_, hk⟩
    · cases hl
    · exact ⟨j, s, k, hk, hl, hf⟩
  have ext : Ext (en F w φ h) (en F w φ (h.set i .gone)) := by
    refine ⟨fun _ h => .inl h, ?_, fun _ _ => rfl, fun _ _ _ => rfl, fun b _ hm ho => hm (own b ho), fun b _ hm ho => hm (ho.imp (own b) id), fun _ _ => rfl, Nat.le_refl _, rfl, rfl, rfl⟩
    rintro j ⟨k, hk, hd'⟩
    by_cases hj : j = i
    · subst hj; exact ⟨.gone, List.getElem?_set_self hil, rfl⟩
    · exact ⟨k, by rw [List.getElem?_set_ne (fun e => hj e.symm)]; exact hk, hd'⟩
  refine ⟨⟨?_, ?_, ?_, ?_, ?_⟩, ext, ?_⟩
  · intro j k hk
    rcases at2 j k hk with ⟨rfl, rfl⟩ | ⟨hj, hk⟩
    · trivial
    · by_cases hdk : k.dm = true
      · exact RepB.keep ext ⟨k, hk, hdk⟩ (fun _ _ _ => rfl) (r.rep j k hk)
      · cases k <;> simp [Blk.dm] at hdk; trivial
  · intro j1 j2 b s s' k k' hk hl hk' hl' hf hf'
    rcases at2 j1 k hk with ⟨rfl, rfl⟩ | ⟨_, hk⟩
    · cases hl
    · rcases at2 j2 k' hk' with ⟨rfl, rfl⟩ | ⟨_, hk'⟩
      · cases hl'
      · exact r.inj j1 j2 b s s' k k' hk hl hk' hl' hf hf'
  · intro j k b s hk hl hf
    rcases at2 j k hk with ⟨rfl, rfl⟩ | ⟨_, hk⟩
    · cases hl
    · exact r.lt j k b s hk hl hf
  · intro a x ha
    obtain ⟨k1, k2, k3, k4⟩ := r.glob a x ha
    exact ⟨k1, k2, fun ho => k3 (own _ ho), k4⟩
  · intro b hb
    exact ⟨(r.flt b hb).1, fun ho => (r.flt b hb).2 (own _ ho)⟩
  · intro b s hl hf
    refine ⟨?_, fun hF => (r.flt b hF).2 ⟨i, s, k0, hi, hl, hf⟩⟩
    rintro ⟨j, s', k, hk, hl', hf'⟩
    rcases at2 j k hk with ⟨rfl, rfl⟩ | ⟨hj, hk⟩
    · cases hl'
    · exact hj (r.inj j i b s' s k k0 hk hl' hi hl hf' hf)

theorem cold_of {i : Nat} {t : TypeId} {cs : List V} (r : RH G F w φ h) (hi : h[i]? = some (.cells t cs)) : Cold (en F w φ h) (en F w φ (h.set i .gone)) i cs := by
  obtain ⟨_, e, hg⟩ := set_gone r hi rfl
  refine ⟨e, rfl, fun b s hf => ?_⟩
  have hg' := hg b s rfl hf
  refine ⟨r.lt i _ b s hi rfl hf, fun h => h.elim hg'.1 hg'.2, fun k v hv => ?_⟩
  have hr := r.rep i _ hi
  simp only [RepB] at hr
  rcases hr with ⟨hn, _⟩ | ⟨b', s', arr, hf', ha, hc⟩
  · have : φ i = none := hn
    have hf2 : φ i = some (b, s) := hf
    rw [this] at hf2; cases hf2
  · have hf2 : φ i = some (b, s) := hf
    have hf3 : φ i = some (b', s') := hf'
    rw [hf2] at hf3; cases hf3
    obtain ⟨x, hx, ho, hcn⟩ := hc k v hv
    refine ⟨x, ?_, ho, hcn⟩
    have ha' : w.heap[b]? = some (.cells arr t (0, 0)) := ha
    simp only [en, World.cell?, ha']
    exact hx

end Go.Vm

namespace Go.Vm
open Go Go.RowKit
variable {P : Program} {G : Addr → Option Value} {F : Nat → Prop} {w : World} {φ : Nat → Option (Nat × Nat)} {h : List Blk}

/-- The fence that lets all in, in a frame of this make. -/
def FW (r : Option Nat) : Fence := { fn := fun _ => True, depth := none, alive := false, round := r }

theorem room_FW (r : Option Nat) (n : Nat) : (FW r).room n := fun _ hd => by simp [FW] at hd

/-- A call of this function goes into its body. -/
def enters (P : Program) (f : FuncId) : Bool :=
  match P.funcs[f]? with
  | some fn => fn.body.isSome && fn.name != "runtime.NumGoroutine"
  | none => false

theorem run_callFunc {f : FuncId} (he : enters P f = true) (args : Array Value) (w : World) : (callFunc f args).run P w = .ok (.enter f args) w := by
  unfold enters at he
  cases hf : P.funcs[f]? with
  | none => simp [hf] at he
  | some fn =>
    simp only [hf, Bool.and_eq_true, bne_iff_ne, ne_eq] at he
    obtain ⟨hb, hn⟩ := he
    have h2 : fn.body ≠ none := by intro hx; simp [hx] at hb
    simp [callFunc, hf, hn, h2]

/-- What a call of a function leaves, seen from its logical side. -/
def Post (G : Addr → Option Value) (F : Nat → Prop) (w : World) (φ : Nat → Option (Nat × Nat)) (h : List Blk) (K : V → List Blk → Prop) (e : Ending) (w' : World) : Prop :=
  ∃ y φ' v h', e = .returned y ∧ K v h' ∧ Cn (en F w' φ' h') v y ∧ RH G F w' φ' h' ∧ Ext (en F w φ h) (en F w' φ' h')

def CallV (P : Program) (G : Addr → Option Value) (f : FuncId) (as : List V) (h : List Blk) (K : V → List Blk → Prop) [KTag K] : Prop :=
  enters P f = true ∧ ∀ F w φ xs, RH G F w φ h → CnL (en F w φ h) as xs → CallsIn (FW none) 0 P f xs.toArray w (Post G F w φ h K)

theorem CallV.mono {f : FuncId} {as : List V} {K K' : V → List Blk → Prop} (hc : CallV P G f as h K) (hk : ∀ v h', K v h' → K' v h') : CallV P G f as h K' :=
  ⟨hc.1, fun F w φ xs hr hx => (hc.2 F w φ xs hr hx).mono fun _ _ ⟨y, φ', v, h', he, hK, rest⟩ => ⟨y, φ', v, h', he, hk _ _ hK, rest⟩⟩

/-- A call of yield. -/
def YieldV (P : Program) (G : Addr → Option Value) (l : Nat) (as : List V) (h : List Blk) (K : V → List Blk → Prop) [KTag K] : Prop :=
  ∀ F w φ xs b, RH G F w φ h → CnL (en F w φ h) as xs → φ l = some (b, 0) → ∃ fn tmps assign body, (Instr.yield b xs.toArray).run P w = .ok (.round b fn tmps assign body) w ∧
    RoundIn (FW none) 0 P b fn tmps assign body w (Post G F w φ h K)

theorem YieldV.mono {l : Nat} {as : List V} {K K' : V → List Blk → Prop} (hc : YieldV P G l as h K) (hk : ∀ v h', K v h' → K' v h') : YieldV P G l as h K' :=
  fun F w φ xs b hr hx hl => let ⟨fn, tmps, as, bo, h1, h2⟩ := hc F w φ xs b hr hx hl
    ⟨fn, tmps, as, bo, h1, h2.mono fun _ _ ⟨y, φ', v, h', he, hK, rest⟩ => ⟨y, φ', v, h', he, hk _ _ hK, rest⟩⟩

/-- The method of a type, where it is its own. -/
def methV (P : Program) (t : TypeId) (name : String) : Option FuncId :=
  match P.info? t with
  | some i => match i.methods.find? (·.name == name) with
    | some m => if m.path.isEmpty then match m.func with
      | some (f, ptr) => if ptr == isPtr P t then some f else none
      | none => none else none
    | none => none
  | none => none

/-- A call of a function that has no body here. -/
def ExtC (P : Program) (G : Addr → Option Value) (f : FuncId) (as : List V) (h : List Blk) (K : V → List Blk → Prop) [KTag K] : Prop :=
  ∀ F w φ xs, RH G F w φ h → CnL (en F w φ h) as xs → ∃ y w' φ' v h', (callFunc f xs.toArray).run P w = .ok (.value y) w' ∧ K v h' ∧ Cn (en F w' φ' h') v y ∧ RH G F w' φ' h' ∧ Ext (en F w φ h) (en F w' φ' h')

def callV (P : Program) (G : Addr → Option Value) (fv : V) (as : List V) (h : List Blk) (K : V → List Blk → Prop) [KTag K] : Prop :=
  match fv with
  | .fn (.func f) a b => if enters P f = true then CallV P G f (a ++ as ++ b) h K else ExtC P G f (a ++ as ++ b) h K
  | .yl l => YieldV P G l as h K
  | _ => False

def callOp (P : Program) (G : Addr → Option Value) (c : Call) (s : St) (K : V → List Blk → Prop) [KTag K] : Prop :=
  match c.callee with
  | .value f => bnd (ev s f) fun fv => bnd (evs s c.args.toList) fun as => callV P G fv as s.h K
  | _ => False

/-- Where a method of a value behind an interface is found, and its receiver. -/
def MethV (P : Program) (t : TypeId) (v : V) (name : String) (f : FuncId) (r : V) : Prop :=
  ∀ (e : En) (x : Value) (w : World), Cn e v x → ∃ y, (method (P.types.size + Made.depth) t x name).run P w = .ok (f, y) w ∧ Cn e r y
def invV (P : Program) (G : Addr → Option Value) (xv : V) (name : String) (as : List V) (h : List Blk) (K : V → List Blk → Prop) [KTag K] : Prop :=
  match xv with
  | .iface t v => ∃ f r, MethV P t v name f r ∧ callV P G (.fn (.func f) [] []) (r :: as) h K
  | _ => False
/-- Does what is of a type have the methods that an interface asks for? -/
def taB (P : Program) (t asserted : TypeId) : Option Bool :=
  match P.underlying asserted with
  | some (.interface want) => (P.info? t).map fun i => (lacking want i.methods).isEmpty
  | _ => none
def tisI (P : Program) (t : TypeId) : Bool := match P.underlying t with | some (.interface _) => true | _ => false
def taV (P : Program) (v : V) (asserted : TypeId) (ok : Bool) (K : V → Prop) [KTag K] : Prop :=
  match v with
  | .iface t u => bnd (taB P t asserted) fun b => if b = true then K (if ok = true then .tup [.iface t u, .c (.bool true)] else .iface t u) else ok = true ∧ bnd (tzero P asserted) fun z => K (.tup [.c z, .c (.bool false)])
  | .c .nilIface => tisI P asserted = true ∧ ok = true ∧ bnd (tzero P asserted) fun z => K (.tup [.c z, .c (.bool false)])
  | _ => False

def byL (l : List UInt8) : List V := l.map fun b => .c (.int .u8 (b.toNat : Int))
/-- A slice of an array of our own. -/
def sliceS (P : Program) (s : St) (t : TypeId) (v : V) (lo hi mx : Option Operand) (K : V → List Blk → Prop) [KTag K] : Prop :=
  match v with
  | .p i o => bnd (telem P t) fun x => bnd x.1 fun m => mx.isNone = true ∧ bnd (boundV s 0 lo) fun l => bnd (boundV s m hi) fun hh => (0 ≤ l ∧ l ≤ hh ∧ hh ≤ m) ∧ m * x.2.2 ≠ 0 ∧
      atC s.h[i]? fun _ cs => o + m * x.2.2 ≤ cs.length ∧ K (.sl x.2.2 i (o + l.toNat * x.2.2) (hh - l).toNat) s.h
  | v => sliceOpV P s t v lo hi mx fun e => K (e.val s.h) (e.heap s.h)
/-- A conversion: bytes of our own, converted to bytes, are read alone from there on. -/
def convS (P : Program) (src dst : TypeId) (v : V) (h : List Blk) (K : V → List Blk → Prop) [KTag K] : Prop :=
  match v with
  | .sl z i o k => if (src == dst) = true then (tbytes P src = true ∧ z = 1 ∧ k ≠ 0) ∧ atC h[i]? fun _ cs => o + k ≤ cs.length ∧ K (.ro 1 (rows false 1 k (cs.drop o))) (h.set i .gone)
    else (tbytes P src = true ∧ tstr P dst = true ∧ z = 1) ∧ atC h[i]? fun _ cs => ∃ l : List UInt8, l.length = k ∧ (cs.drop o).take k = byL l ∧ K (.c (.string ⟨⟨l⟩⟩)) h
  | v => convV P src dst v fun e => K (e.val h) (e.heap h)

/-- What one operation does. -/
def stepV (P : Program) (G : Addr → Option Value) (o : Op) (s : St) (K : V → List Blk → Prop) [KTag K] : Prop :=
  match o with
  | .call { callee := .value f, args, argTypes } => callOp P G { callee := .value f, args, argTypes } s K
  | .convert src dst x => bnd (ev s x) fun v => convS P src dst v s.h K
  | .slice t x lo hi mx => bnd (ev s x) fun v => sliceS P s t v lo hi mx K
  | .call { callee := .invoke x name, args, .. } => bnd (ev s x) fun xv => bnd (evs s args.toList) fun as => invV P G xv name as s.h K
  | .typeAssert x _ asserted ok => bnd (ev s x) fun v => taV P v asserted ok fun u => K u s.h
  | o => opV P G o s fun e => K (e.val s.h) (e.heap s.h)

def putT (t : List (Nat × V)) (d : Option Nat) (v : V) : List (Nat × V) := match d with | some d => (d, v) :: t | none => t

def St.put (s : St) (d : Option Nat) (v : V) (h : List Blk) : St := { t := putT s.t d v, d := s.d, h }

/-- An operation, as it is walked: its slot; itself; the slot and the answer that it hangs on; those that it waits for. -/
structure RO where
  dst : Option Nat
  op : Op
  guard : Option (Option Nat × Bool)
  bef : List Nat := []

/-- Does it come about? -/
def guardV (g : Option (Option Nat × Bool)) (s : St) (yes no : Prop) [KTag yes] [KTag no] : Prop :=
  match g with
  | none => yes
  | some (none, _) => no
  | some (some d, want) => match get s.t d with
    | some (.c (.bool b)) => brV (b == want) yes no
    | some (.c (.tuple _)) => no
    | _ => False

def vcOps (P : Program) (G : Addr → Option Value) : List RO → St → (K : St → Prop) → [KTag K] → Prop
  | [], s, K, _ => K s
  | o :: os, s, K, _ => guardV o.guard s (stepV P G o.op s fun v h' => vcOps P G os (s.put o.dst v h') K) (vcOps P G os (s.put o.dst (.c undef) s.h) K)

/-! ### Soundness of one operation in a frame -/

theorem env_put {e : En} {t : List (Nat × V)} {a : Act} {d : Option Nat} {v : V} {y : Value} (he : CnEnv e t a.tmps) (hv : Cn e v y) (hlt : ∀ k, d = some k → k < a.tmps.size) :
    CnEnv e (putT t d v) (a.put d y).tmps := by
  cases d with
  | none => exact he
  | some d =>
    intro k u hu
    simp only [putT, get] at hu
    simp only [Act.put]
    by_cases hk : k = d
    · subst hk
      simp at hu; subst hu
      exact ⟨y, by simp [hlt k rfl], hv⟩
    · rw [if_neg hk] at hu
      obtain ⟨x, hx, hc⟩ := he k u hu
      exact ⟨x, by rw [Array.getElem?_setIfInBounds_ne (fun e => hk e.symm)]; exact hx, hc⟩

theorem put_size (a : Act) (d : Option Nat) (y : Value) : (a.put d y).tmps.size = a.tmps.size := by cases d <;> simp [Act.put]
theorem put_defers (a : Act) (d : Option Nat) (y : Value) : (a.put d y).defers = a.defers := by cases d <;> rfl

/-- The frame and the world bear a state. -/
structure At (G : Addr → Option Value) (F : Nat → Prop) (w : World) (φ : Nat → Option (Nat × Nat)) (n : Nat) (s : St) (a : Act) : Prop where
  heap : RH G F w φ s.h
  env : CnEnv (en F w φ s.h) s.t a.tmps
  defs : a.defers = s.d.map fun i => { target := .collected ((φ i).getD (0, 0)).1, args := #[] }
  dlt : ∀ i ∈ s.d, (en F w φ s.h).dom i
  size : a.tmps.size = n

theorem At.rep {n : Nat} {s : St} {a : Act} (r : At G F w φ n s a) : Rep G F w φ s a := ⟨r.heap, r.env, r.defs, fun i hi => let ⟨_, hk, _⟩ := r.dlt i hi; (List.getElem?_eq_some_iff.1 hk).1⟩

theorem At.put {n : Nat} {s : St} {a : Act} {w' : World} {φ' : Nat → Option (Nat × Nat)} {h' : List Blk} {v : V} {y : Value} {d : Option Nat} (r : At G F w φ n s a) (hr : RH G F w' φ' h') (he : Ext (en F w φ s.h) (en F w' φ' h'))
    (hv : Cn (en F w' φ' h') v y) (hlt : ∀ k, d = some k → k < n) : At G F w' φ' n (s.put d v h') (a.put d y) where
  heap := hr
  env := env_put (r.env.ext he) hv (fun k hk => by rw [r.size]; exact hlt k hk)
  defs := by
    rw [put_defers, r.defs]
    apply List.map_congr_left
    intro i hi
    rw [show φ' i = φ i from he.agree i (r.dlt i hi)]
  dlt i hi := he.dom i (r.dlt i hi)
  size := by rw [put_size]; exact r.size

theorem sem_call (ρ : Operand → Value) (r : Option Nat) (o : Oper) {c : Call} (ho : o.op = .call c) : o.semAt r ρ = execOp ρ o := Oper.semAt_eq r ρ o (by simp [ho])

theorem callFunc_wpIn {r : Option Nat} {n : Nat} {o : Oper} {g : FuncId} {vs : List V} {xa : Array Value} {s : St} {a : Act} {K : V → List Blk → Prop} {next : Act → World → Prop} {Q : Exit → Act → World → Prop}
    (hsem : o.semAt (FW r).round a.eval = execOp a.eval o) (ra : At G F w φ n s a) (hK : callV P G (.fn (.func g) [] []) vs s.h K) (hcl : CnL (en F w φ s.h) vs xa.toList) (hrun : (execOp a.eval o).run P w = (callFunc g xa).run P w)
    (hn : ∀ w' φ' v y h', K v h' → Cn (en F w' φ' h') v y → RH G F w' φ' h' → Ext (en F w φ s.h) (en F w' φ' h') → next (a.put o.dst y) w') :
    o.wpIn (FW r) 0 P a w next Q := by
  refine ⟨fun _ _ => trivial, ?_⟩
  rw [hsem, hrun]
  simp only [callV, List.nil_append, List.append_nil] at hK
  split at hK
  · rw [run_callFunc hK.1, Oper.uponIn_enter]
    refine ⟨fun hd => by simp [FW] at hd, ?_⟩
    have := hK.2 F w φ _ ra.heap hcl
    rw [Array.toArray_toList] at this
    refine CallsIn.mono this ?_
    rintro e w' ⟨y, φ', v, h', rfl, hk, hc, hr, he⟩
    exact hn w' φ' v y h' hk hc hr he
  · obtain ⟨y, w', φ', v, h', hr1, hk, hc, hr, he⟩ := hK F w φ _ ra.heap hcl
    rw [Array.toArray_toList] at hr1
    rw [hr1, Oper.uponIn_value]
    exact hn w' φ' v y h' hk hc hr he

theorem cnl_app {e : En} {as bs : List V} {xs ys : List Value} (h : CnL e as xs) (k : CnL e bs ys) : CnL e (as ++ bs) (xs ++ ys) := by
  induction as generalizing xs with
  | nil => simp only [CnL] at h; subst h; simpa using k
  | cons a as ih =>
    simp only [CnL] at h
    obtain ⟨x, xs', rfl, hx, hl⟩ := h
    simp only [List.cons_append, CnL]
    exact ⟨x, _, rfl, hx, ih hl⟩

theorem callOp_wpIn {r : Option Nat} {n : Nat} {o : Oper} {f : Operand} {args : Array Operand} {ats : Array TypeId} {s : St} {a : Act} {K : V → List Blk → Prop} {next : Act → World → Prop} {Q : Exit → Act → World → Prop}
    (ho : o.op = .call { callee := .value f, args, argTypes := ats }) (ra : At G F w φ n s a) (hK : callOp P G { callee := .value f, args, argTypes := ats } s K)
    (hn : ∀ w' φ' v y h', K v h' → Cn (en F w' φ' h') v y → RH G F w' φ' h' → Ext (en F w φ s.h) (en F w' φ' h') → next (a.put o.dst y) w') :
    o.wpIn (FW r) 0 P a w next Q := by
  obtain ⟨fv, hf, as, has, hK⟩ := hK
  have hfc := ev_cn ra.rep hf
  have hac := evs_map ra.rep has
  unfold callV at hK
  split at hK
  · rename_i g as' bs'
    simp only [Cn] at hfc
    obtain ⟨xs, ys, hv, hxs, hys⟩ := hfc
    have hcl : CnL (en F w φ s.h) (as' ++ as ++ bs') (xs ++ args.map a.eval ++ ys).toList := by
      simp only [Array.toList_append]
      exact cnl_app (cnl_app hxs hac) hys
    refine callFunc_wpIn (g := g) (vs := as' ++ as ++ bs') (xa := xs ++ args.map a.eval ++ ys) (sem_call _ _ _ ho) ra ?_ hcl ?_ hn
    · simpa only [callV, List.nil_append, List.append_nil] using hK
    · simp [execOp, ho, resolve, Deferred.ofValue, hv, invoke]
  · rename_i l
    refine ⟨fun _ _ => trivial, ?_⟩
    rw [show (FW r).round = r from rfl, sem_call _ _ _ ho]
    simp only [Cn] at hfc
    obtain ⟨_, b, hb, hv⟩ := hfc
    obtain ⟨fn, tmps, assign, body, hy, hround⟩ := hK F w φ _ b ra.heap hac hb
    simp only [Array.toArray_toList] at hy
    have hrun : (execOp a.eval o).run P w = .ok (.round b fn tmps assign body) w := by
      simp [execOp, ho, resolve, Deferred.ofValue, hv, invoke, hy]
    rw [hrun, Oper.uponIn_round]
    refine ⟨fun hd => by simp [FW] at hd, ?_⟩
    refine RoundIn.mono hround ?_
    rintro e w' ⟨y, φ', v, h', rfl, hk, hc, hr, he⟩
    exact hn w' φ' v y h' hk hc hr he
  · exact hK.elim

theorem invOp_wpIn {r : Option Nat} {n : Nat} {o : Oper} {x : Operand} {name : String} {args : Array Operand} {ats : Array TypeId} {s : St} {a : Act} {K : V → List Blk → Prop} {next : Act → World → Prop} {Q : Exit → Act → World → Prop}
    (ho : o.op = .call { callee := .invoke x name, args, argTypes := ats }) (ra : At G F w φ n s a) (hK : bnd (ev s x) fun xv => bnd (evs s args.toList) fun as => invV P G xv name as s.h K)
    (hn : ∀ w' φ' v y h', K v h' → Cn (en F w' φ' h') v y → RH G F w' φ' h' → Ext (en F w φ s.h) (en F w' φ' h') → next (a.put o.dst y) w') :
    o.wpIn (FW r) 0 P a w next Q := by
  obtain ⟨xv, hx, as, has, hK⟩ := hK
  have hxc := ev_cn ra.rep hx
  have hac := evs_map ra.rep has
  unfold invV at hK
  split at hK
  · rename_i t v
    obtain ⟨f, rv, hm, hK⟩ := hK
    simp only [Cn] at hxc
    obtain ⟨u, hu, hcu⟩ := hxc
    obtain ⟨y, hrun, hcy⟩ := hm _ u w hcu
    refine callFunc_wpIn (g := f) (vs := rv :: as) (xa := #[y] ++ args.map a.eval) (sem_call _ _ _ ho) ra hK ?_ ?_ hn
    · simp only [Array.toList_append, List.cons_append, List.nil_append, CnL]; exact ⟨y, _, rfl, hcy, hac⟩
    · have h0 : ∀ (z : Value) (A : Array Value), (#[z] ++ A)[0]? = some z := fun z A => by simp [Array.getElem?_append]
      have h1 : ∀ (z : Value) (A : Array Value), (#[z] ++ A).extract 1 (#[z] ++ A).size = A := fun z A => by apply Array.ext'; simp
      have e : (execOp a.eval o).run P w = (invoke (.fn (.method name) #[]) (#[a.eval x] ++ args.map a.eval)).run P w := by
        simp only [execOp, ho, resolve, Sem.run_bind, Sem.run_pure, Result.andThen_ok]
      rw [e, hu]
      unfold invoke
      simp only [h0, h1, callMethod, Sem.run_bind]
      simp [hrun]
  · exact hK.elim

theorem ok_ta {v : V} {x : Value} {xT asserted : TypeId} {ok : Bool} {K : V → Prop} (hx : Cn (en F w φ h) v x) (hK : taV P v asserted ok K) :
    ∃ y u, (Instr.typeAssert x xT asserted ok).run P w = .ok y w ∧ K u ∧ Cn (en F w φ h) u y := by
  unfold taV at hK
  split at hK
  · rename_i t u
    obtain ⟨b, hb, hK⟩ := hK
    have hx' := hx
    simp only [Cn] at hx
    obtain ⟨z, rfl, hz⟩ := hx
    unfold taB at hb
    split at hb
    · rename_i want hu
      cases hi : P.info? t with
      | none => simp [hi] at hb
      | some i =>
        simp only [hi, Option.map_some, Option.some.injEq] at hb
        cases b with
        | true =>
          have hm := missingMethod_none (List.isEmpty_iff.1 hb)
          simp only [if_true] at hK
          cases ok with
          | true =>
            refine ⟨.tuple #[.iface t z, .bool true], _, by simp [Instr.typeAssert, run_underlying' hu, typeInfo, hi, hm], hK, ?_⟩
            simp only [Cn, CnL, if_true]
            exact ⟨#[.iface t z, .bool true], rfl, _, _, rfl, ⟨z, rfl, hz⟩, _, _, rfl, rfl, rfl⟩
          | false =>
            refine ⟨.iface t z, _, by simp [Instr.typeAssert, run_underlying' hu, typeInfo, hi, hm], hK, ?_⟩
            simp only [Bool.false_eq_true, if_false]
            exact hx'
        | false =>
          obtain ⟨m, hm⟩ := missingMethod_some (want := want) (got := i.methods) (fun e => by rw [e] at hb; cases hb)
          simp only [Bool.false_eq_true, if_false] at hK
          obtain ⟨rfl, zz, hzz, hK⟩ := hK
          refine ⟨.tuple #[zz, .bool false], _, by simp [Instr.typeAssert, run_underlying' hu, typeInfo, hi, hm, run_zeroValue hzz], hK, ?_⟩
          simp only [Cn, CnL]
          exact ⟨#[zz, .bool false], rfl, _, _, rfl, rfl, _, _, rfl, rfl, rfl⟩
    · cases hb
  · obtain ⟨ht, rfl, zz, hzz, hK⟩ := hK
    simp only [Cn] at hx; subst hx
    unfold tisI at ht
    split at ht
    · rename_i want hu
      refine ⟨.tuple #[zz, .bool false], _, by simp [Instr.typeAssert, run_underlying' hu, run_zeroValue hzz], hK, ?_⟩
      simp only [Cn, CnL]
      exact ⟨#[zz, .bool false], rfl, _, _, rfl, rfl, _, _, rfl, rfl, rfl⟩
    · cases ht
  · exact hK.elim

theorem byL_at {l : List UInt8} {cs : List V} {o k : Nat} (hl : l.length = k) (h : (cs.drop o).take k = byL l) {j : Nat} (hj : j < l.length) : cs[o + j]? = some (.c (.int .u8 (l[j].toNat : Int))) := by
  have e : ((cs.drop o).take k)[j]? = (byL l)[j]? := by rw [h]
  rw [List.getElem?_take_of_lt (by omega), List.getElem?_drop] at e
  rw [e]
  simp [byL, hj]
theorem ok_convStr (r : RH G F w φ h) {K : V → List Blk → Prop} {src dst : TypeId} {z i o k : Nat} {x : Value} (hx : Cn (en F w φ h) (.sl z i o k) x)
    (hK : (tbytes P src = true ∧ tstr P dst = true ∧ z = 1) ∧ atC h[i]? fun _ cs => ∃ l : List UInt8, l.length = k ∧ (cs.drop o).take k = byL l ∧ K (.c (.string ⟨⟨l⟩⟩)) h) :
    ∃ y w' φ' v' h', (convert src dst x).run P w = .ok y w' ∧ K v' h' ∧ Cn (en F w' φ' h') v' y ∧ RH G F w' φ' h' ∧ Ext (en F w φ h) (en F w' φ' h') := by
  obtain ⟨⟨htb, hts, rfl⟩, t, cs, hi, l, hl, hcs, hK⟩ := hK
  obtain ⟨e, hse, hee⟩ := tbytes_u htb
  have hd := tstr_u hts
  refine ⟨.string ⟨⟨l⟩⟩, w, φ, _, h, ?_, hK, by simp only [Cn], r, ext_refl⟩
  simp only [Cn] at hx
  obtain ⟨_, ⟨_, h0, rfl⟩ | ⟨b, s, a, cap, tt, m, hf, rfl, ha, hkc, hsh, hm⟩⟩ := hx
  · have : l = [] := List.eq_nil_of_length_eq_zero (by omega)
    subst this
    rw [run_convert_bytes_string w src dst e none 0 0 hse hee hd]
    simp [Conv.bytesToString]
    rfl
  · have hc := run_convert_bytes_back (P := P) w src dst e ⟨b, a, none⟩ cap l hse hee hd (fun j hj => by
      have ha : a = s + o := by rcases ha with ha | ha; · omega
                                · exact ha
      subst ha
      obtain ⟨arr, harr, hcell⟩ := cells_of r hi hf
      obtain ⟨x, hx, _, hcn⟩ := hcell (o + j) _ (byL_at hl hcs hj)
      simp only [Cn] at hcn
      subst hcn
      rw [add_none]
      simp only [World.cell?, harr]
      rw [show s + o + j = s + (o + j) by omega]
      exact hx)
    rw [hl] at hc
    exact hc
theorem ok_sliceS {s : St} {a : Act} (r : Rep G F w φ s a) {K : V → List Blk → Prop} {t : TypeId} {av : V} {x : Value} {lo hi mx : Option Operand} (hx : Cn (en F w φ s.h) av x) (hK : sliceS P s t av lo hi mx K) :
    ∃ y w' φ' v' h', (Instr.sliceAt t x (lo.map a.eval) (hi.map a.eval) (mx.map a.eval)).run P w = .ok y w' ∧ K v' h' ∧ Cn (en F w' φ' h') v' y ∧ RH G F w' φ' h' ∧ Ext (en F w φ s.h) (en F w' φ' h') := by
  unfold sliceS at hK
  split at hK
  · rename_i i o
    obtain ⟨⟨m, e, z⟩, ht, n, hn, hmx, l, hl, hh, hhh, ⟨h0, h1, h2⟩, hmz, tt, cs, hi', hle, hK⟩ := hK
    simp only at hn hK hle hmz
    subst hn
    obtain ⟨hu, hz⟩ := telem_arr ht
    simp only [Cn] at hx
    obtain ⟨hdom, b, q, hf, rfl⟩ := hx
    have hf : φ i = some (b, q) := hf
    obtain ⟨arr, harr, hc⟩ := cells_of r.heap hi' hf
    have hsz : q + o + n * z ≤ arr.size := by
      obtain ⟨v, hv⟩ : ∃ v, cs[o + n * z - 1]? = some v := ⟨_, List.getElem?_eq_getElem (by omega)⟩
      obtain ⟨x, hx, _⟩ := hc _ v hv
      have := (Array.getElem?_eq_some_iff.1 hx).1
      omega
    cases mx with
    | some _ => simp at hmx
    | none =>
      have hb := run_boundsA (P := P) (w := w) (n := n) (boundV_bd r hl) (boundV_bd r hhh) h0 h1 h2
      have hk1 : (hh - l).toNat = hh.toNat - l.toNat := by omega
      have hle2 : (n - l.toNat) * z + l.toNat * z = n * z := by rw [← Nat.add_mul]; congr 1; omega
      by_cases hnl : n = l.toNat
      · refine ⟨.slice (some ⟨b, q + o, none⟩) (hh.toNat - l.toNat) (n - l.toNat), w, φ, _, s.h, ?_, hK, ?_, r.heap, ext_refl⟩
        · simp [Instr.sliceAt, run_underlying' hu, Instr.sureAddr, hb, run_sizeOf hz]
          exact fun h => absurd hnl h
        · simp only [Cn]
          exact ⟨hdom, .inr ⟨b, q, _, n - l.toNat, tt, arr.size, hf, by rw [hk1], .inl (by omega), by omega, by rw [shape_eq]; show (w.heap[b]?).bind oshape = _; rw [harr]; rfl, by omega⟩⟩
      · refine ⟨.slice (some ⟨b, q + o + l.toNat * z, none⟩) (hh.toNat - l.toNat) (n - l.toNat), w, φ, _, s.h, ?_, hK, ?_, r.heap, ext_refl⟩
        · simp [Instr.sliceAt, run_underlying' hu, Instr.sureAddr, hb, run_sizeOf hz, hnl, add_none]
        · simp only [Cn]
          exact ⟨hdom, .inr ⟨b, q, _, n - l.toNat, tt, arr.size, hf, by rw [hk1], .inr (by omega), by omega, by rw [shape_eq]; show (w.heap[b]?).bind oshape = _; rw [harr]; rfl, by omega⟩⟩
  · obtain ⟨y, w', φ', e, hrun, hk, hc, hr, he⟩ := ok_slice r hx hK
    exact ⟨y, w', φ', _, _, hrun, hk, hc, hr, he⟩

theorem ok_convS (r : RH G F w φ h) {K : V → List Blk → Prop} {src dst : TypeId} {v : V} {x : Value} (hx : Cn (en F w φ h) v x) (hK : convS P src dst v h K) :
    ∃ y w' φ' v' h', (convert src dst x).run P w = .ok y w' ∧ K v' h' ∧ Cn (en F w' φ' h') v' y ∧ RH G F w' φ' h' ∧ Ext (en F w φ h) (en F w' φ' h') := by
  unfold convS at hK
  split at hK
  · rename_i z i o k
    split at hK
    case isFalse => exact ok_convStr r hx hK
    rename_i hsd
    obtain ⟨⟨htb, rfl, hk0⟩, t, cs, hi, hle, hK⟩ := hK
    obtain rfl : src = dst := by simpa using hsd
    obtain ⟨e, hse, hee⟩ := tbytes_u htb
    simp only [Cn] at hx
    obtain ⟨_, ⟨_, h0, _⟩ | ⟨b, s, a, cap, tt, m, hf, rfl, ha, hkc, hsh, hm⟩⟩ := hx
    · exact absurd h0 hk0
    have ha : a = s + o := by rcases ha with ha | ha; · omega
                              · exact ha
    subst ha
    have hf : φ i = some (b, s) := hf
    have hsh : w.shape? b = some (tt, m) := hsh
    obtain ⟨r1, e1, g1⟩ := set_gone r hi rfl
    have hg := g1 b s rfl hf
    obtain ⟨w', hw'⟩ : ∃ w', w' = w.freeze ⟨b, m, none⟩ 1 := ⟨_, rfl⟩
    have hrun : (convert src src (.slice (some ⟨b, s + o, none⟩) k cap)).run P w = .ok (.slice (some ⟨b, s + o, none⟩) k cap) w' := by
      rw [hw']
      simp [convert, run_underlying' hse, run_underlying' hee, markStringish, hsh]
    have hr := r.rep i _ hi
    simp only [RepB] at hr
    rcases hr with ⟨hn, _⟩ | ⟨b', s', arr, hf', harr, hc⟩
    · have : φ i = none := hn
      rw [hf] at this; cases this
    have hf2 : φ i = some (b', s') := hf'
    rw [hf] at hf2; cases hf2
    have harr : w.heap[b]? = some (.cells arr t (0, 0)) := harr
    have hblt : b < w.heap.size := (Array.getElem?_eq_some_iff.1 harr).1
    have hsize : w'.heap.size = w.heap.size := by rw [hw']; simp [World.freeze]
    have hold : ∀ c, c ≠ b → w'.heap[c]? = w.heap[c]? := fun c hcb => by
      rw [hw']
      simp only [World.freeze, Nat.succ_ne_self, if_false, Array.getElem?_modify]
      rw [if_neg (fun e => hcb e.symm)]
    have hnew : w'.heap[b]? = some (.cells arr t (m, m + 1)) := by
      rw [hw']
      simp only [World.freeze, Nat.succ_ne_self, if_false, Array.getElem?_modify, if_true, harr]
      simp
    have hcell : ∀ a, w'.cell? a = w.cell? a := fun a => by
      unfold World.cell?
      by_cases hab : a.block = b
      · rw [hab, hnew, harr]
      · rw [hold _ hab]
    have hshape : ∀ c, w'.shape? c = w.shape? c := fun c => by
      rw [shape_eq, shape_eq]
      by_cases hcb : c = b
      · rw [hcb, hnew, harr]; rfl
      · rw [hold _ hcb]
    have E : Ext (en F w φ h) (en F w' φ (h.set i .gone)) := by
      refine ⟨fun _ h => .inl h, e1.dom, fun _ _ => rfl, fun c hc hm => hold c ?_, e1.mine, e1.own, fun c _ => hshape c, by show w.heap.size ≤ w'.heap.size; omega, by rw [hw']; rfl, by rw [hw']; rfl, by rw [hw']; rfl⟩
      rintro rfl
      exact hm ⟨i, s, _, hi, rfl, hf⟩
    refine ⟨_, w', φ, _, _, hrun, hK, ?_, ⟨?_, r1.inj, ?_, ?_, ?_⟩, E⟩
    · simp only [Cn]
      refine ⟨_, cap, by rw [rows_length], by rw [rows_length]; exact hkc, .inr ⟨b, s + o, rfl, by show b < w'.heap.size; omega, fun ho => ho.elim hg.1 hg.2, ?_⟩⟩
      refine rows_cn (fun _ => rfl) k (by simp; omega) fun j v hv => ?_
      rw [List.getElem?_drop] at hv
      obtain ⟨x, hx, ho, hcn⟩ := hc (o + j) v hv
      refine ⟨x, ?_, ho, hcn.ext E⟩
      show w'.cell? _ = _
      rw [hcell]
      simp only [World.cell?, harr]
      rw [show s + o + j = s + (o + j) by omega]
      simpa using hx
    · intro j q hq
      by_cases hj : j = i
      · subst hj
        rw [List.getElem?_set_self (List.getElem?_eq_some_iff.1 hi).1] at hq
        cases hq; trivial
      · have hq' := hq
        rw [List.getElem?_set_ne (fun e => hj e.symm)] at hq'
        by_cases hl : q.live = true
        · refine RepB.keep E ⟨q, hq', live_dm hl⟩ (fun b2 s2 hb2 => hold b2 ?_) (r.rep j q hq')
          rintro rfl
          exact hj (r.inj j i b2 s2 s q _ hq' hl hi rfl hb2 hf)
        · cases q <;> simp [Blk.live] at hl <;> trivial
    · intro j q b2 s2 hq hl hb2
      have := r1.lt j q b2 s2 hq hl hb2; omega
    · intro a x hx
      obtain ⟨k1, k2, k3, k4⟩ := r1.glob a x hx
      exact ⟨by rw [hcell]; exact k1, by omega, k3, k4⟩
    · intro c hc
      obtain ⟨k1, k2⟩ := r1.flt c hc
      exact ⟨by omega, k2⟩
  · obtain ⟨y, w', φ', e, hrun, hk, hc, hr, he⟩ := ok_conv r hx hK
    exact ⟨y, w', φ', _, _, hrun, hk, hc, hr, he⟩

theorem opV_defer (c : Call) (s : St) (K : Eff → Prop) : opV P G (.defer c) s K = False := rfl

theorem step_wpIn {r : Option Nat} {n : Nat} {o : Oper} {s : St} {a : Act} {K : V → List Blk → Prop} {next : Act → World → Prop} {Q : Exit → Act → World → Prop}
    (ra : At G F w φ n s a) (hK : stepV P G o.op s K)
    (hn : ∀ w' φ' v y h', K v h' → Cn (en F w' φ' h') v y → RH G F w' φ' h' → Ext (en F w φ s.h) (en F w' φ' h') → next (a.put o.dst y) w') :
    o.wpIn (FW r) 0 P a w next Q := by
  unfold stepV at hK
  split at hK
  · rename_i f args ats ho
    exact callOp_wpIn ho ra hK hn
  · rename_i src dst x ho
    refine ⟨fun _ _ => trivial, ?_⟩
    obtain ⟨v, hv, hK⟩ := hK
    obtain ⟨y, w', φ', v', h', hrun, hk, hc, hr, he⟩ := ok_convS (P := P) ra.heap (ev_cn ra.rep hv) hK
    have hrun2 : (execOp a.eval o).run P w = .ok (.value y) w' := by simp [execOp, ho, hrun]
    rw [show (FW r).round = r from rfl, Oper.semAt_eq r a.eval o (by intro c hc; rw [hc] at ho; cases ho), hrun2, Oper.uponIn_value]
    exact hn w' φ' v' y h' hk hc hr he
  · rename_i t x lo hi mx ho
    refine ⟨fun _ _ => trivial, ?_⟩
    obtain ⟨v, hv, hK⟩ := hK
    obtain ⟨y, w', φ', v', h', hrun, hk, hc, hr, he⟩ := ok_sliceS (P := P) ra.rep (ev_cn ra.rep hv) hK
    have hrun2 : (execOp a.eval o).run P w = .ok (.value y) w' := by simp [execOp, ho, hrun]
    rw [show (FW r).round = r from rfl, Oper.semAt_eq r a.eval o (by intro c hc; rw [hc] at ho; cases ho), hrun2, Oper.uponIn_value]
    exact hn w' φ' v' y h' hk hc hr he
  · rename_i x name args ats ho
    exact invOp_wpIn ho ra hK hn
  · rename_i x xT asserted ok ho
    refine ⟨fun _ _ => trivial, ?_⟩
    obtain ⟨v, hv, hK⟩ := hK
    obtain ⟨y, u, hrun, hk, hc⟩ := ok_ta (P := P) (xT := xT) (ev_cn ra.rep hv) hK
    have hrun2 : (execOp a.eval o).run P w = .ok (.value y) w := by simp [execOp, ho, hrun]
    rw [show (FW r).round = r from rfl, Oper.semAt_eq r a.eval o (by intro c hc; rw [hc] at ho; cases ho), hrun2, Oper.uponIn_value]
    exact hn w φ u y s.h hk hc ra.heap ext_refl
  · rename_i ho
    refine ⟨fun _ _ => trivial, ?_⟩
    obtain ⟨y, w', φ', e, hrun, hk, hc, hr, he⟩ := op_sound (P := P) ra.rep hK
    rw [show (FW r).round = r from rfl, Oper.semAt_eq r a.eval o (by intro c hc; rw [hc] at hK; exact hK)]
    rcases hrun with hrun | ⟨hrun, rfl⟩
    · rw [hrun, Oper.uponIn_value]; exact hn w' φ' _ y _ hk hc hr he
    · rw [hrun, Oper.uponIn_skip]; exact hn w' φ' _ undef _ hk hc hr he

/-- An operation as it is walked. -/
def toRO (ops : Array Oper) (o : Oper) : RO := { dst := o.dst, op := o.op, guard := o.guard.map fun g => ((ops[g.1]?).bind (·.dst), g.2) }

theorem guard_wpIn {ops : Array Oper} {n : Nat} {o : Oper} {s : St} {a : Act} {yes no : Prop} {X : Prop} (ra : At G F w φ n s a) (hK : guardV (toRO ops o).guard s yes no)
    (h1 : Region.wanted o (yielded ops a.tmps) = true → yes → X) (h2 : Region.wanted o (yielded ops a.tmps) = false → no → X) : X := by
  unfold Region.wanted at h1 h2
  cases hg : o.guard with
  | none =>
    simp only [toRO, hg, Option.map_none, guardV] at hK
    exact h1 (by simp [hg]) hK
  | some g =>
    obtain ⟨j, want⟩ := g
    simp only [toRO, hg, Option.map_some] at hK
    simp only [hg, yielded] at h1 h2
    cases hd : (ops[j]?).bind (·.dst) with
    | none =>
      rw [hd] at hK
      simp only [guardV] at hK
      exact h2 (by rw [hd]; simp) hK
    | some d =>
      rw [hd] at hK
      simp only [guardV] at hK
      rw [hd] at h1 h2
      split at hK
      · rename_i b hb
        obtain ⟨x, hx, hc⟩ := ra.env d _ hb
        simp only [Cn] at hc; subst hc
        simp only [Option.bind_some, hx] at h1 h2
        by_cases hbw : b = want
        · exact h1 (by simp [hbw]) (hK.1 (by simpa using hbw))
        · exact h2 (by simp [hbw]) (hK.2 (by simpa using hbw))
      · rename_i b hb
        obtain ⟨x, hx, hc⟩ := ra.env d _ hb
        simp only [Cn] at hc; subst hc
        simp only [Option.bind_some, hx] at h2
        exact h2 (by simp) hK
      · exact hK.elim

theorem vcOps_sound {r : Option Nat} {n : Nat} {ops : Array Oper} {Q : Exit → Act → World → Prop} {K : St → Prop} : ∀ (l : List Nat) (os : List Oper) {F : Nat → Prop} {w : World} {φ : Nat → Option (Nat × Nat)} {s : St} {a : Act},
    l.map (ops[·]?) = os.map some → (∀ o ∈ os, ∀ d, o.dst = some d → d < n) → At G F w φ n s a → vcOps P G (os.map (toRO ops)) s K →
    (∀ w' φ' s' a', K s' → At G F w' φ' n s' a' → Ext (en F w φ s.h) (en F w' φ' s'.h) → Q .normal a' w') → wpOpsIn (FW r) 0 P ops Q l a w
  | [], os, F, w, φ, s, a, hl, hd, ra, hv, hq => by
    cases os with
    | nil => exact hq w φ s a hv ra ext_refl
    | cons => simp at hl
  | i :: l, [], F, w, φ, s, a, hl, hd, ra, hv, hq => by simp at hl
  | i :: l, o :: os, F, w, φ, s, a, hl, hd, ra, hv, hq => by
    simp only [List.map_cons, List.cons.injEq] at hl
    simp only [List.map_cons, vcOps] at hv
    simp only [wpOpsIn, hl.1]
    refine guard_wpIn ra hv ?_ ?_
    · intro hw hv
      rw [if_pos hw]
      refine step_wpIn ra hv ?_
      intro w' φ' v y h' hk hc hr he
      refine vcOps_sound l os hl.2 (fun o ho => hd o (List.mem_cons_of_mem _ ho)) (ra.put hr he hc (hd o (List.mem_cons_self ..))) hk ?_
      intro w'' φ'' s'' a'' k1 k2 k3
      exact hq _ _ _ _ k1 k2 (he.trans k3)
    · intro hw hv
      rw [if_neg (by simp [hw])]
      refine ⟨fun _ _ => trivial, ?_⟩
      refine vcOps_sound l os hl.2 (fun o ho => hd o (List.mem_cons_of_mem _ ho)) (ra.put ra.heap ext_refl (by simp [Cn, toRO]) (hd o (List.mem_cons_self ..))) hv ?_
      intro w'' φ'' s'' a'' k1 k2 k3
      exact hq _ _ _ _ k1 k2 k3

end Go.Vm

namespace Go.Vm
open Go Go.RowKit
variable {P : Program} {G : Addr → Option Value} {F F' : Nat → Prop} {w : World} {φ : Nat → Option (Nat × Nat)} {h : List Blk}

mutual
/-- Blocks are called otherwise. -/
def V.ren (ρ : Nat → Nat) : V → V
  | .c x => .c x
  | .p i o => .p (ρ i) o
  | .sl z i o k => .sl z (ρ i) o k
  | .ro z xs => .ro z (renL ρ xs)
  | .agg cs => .agg (renL ρ cs)
  | .tup cs => .tup (renL ρ cs)
  | .fn f a b => .fn f (renL ρ a) (renL ρ b)
  | .iface t v => .iface t (v.ren ρ)
  | .rp v => .rp (v.ren ρ)
  | .yl l => .yl (ρ l)
def renL (ρ : Nat → Nat) : List V → List V
  | [] => []
  | v :: vs => v.ren ρ :: renL ρ vs
end

mutual
/-- All blocks that are named are of this kind. -/
def V.ok (p : Nat → Prop) : V → Prop
  | .c _ => True
  | .p i _ => p i
  | .sl _ i _ _ => p i
  | .ro _ xs => okL p xs
  | .agg cs => okL p cs
  | .tup cs => okL p cs
  | .fn _ a b => okL p a ∧ okL p b
  | .iface _ v => v.ok p
  | .rp v => v.ok p
  | .yl l => p l
def okL (p : Nat → Prop) : List V → Prop
  | [] => True
  | v :: vs => v.ok p ∧ okL p vs
end

mutual
theorem V.ren_congr {ρ ρ' : Nat → Nat} {p : Nat → Prop} (hp : ∀ i, p i → ρ i = ρ' i) : ∀ {v : V}, v.ok p → v.ren ρ = v.ren ρ'
  | .c x, _ => rfl
  | .p i o, h => by simp only [V.ok] at h; simp [V.ren, hp i h]
  | .sl z i o k, h => by simp only [V.ok] at h; simp [V.ren, hp i h]
  | .ro z xs, h => by simp only [V.ok] at h; simp [V.ren, renL_congr hp h]
  | .agg xs, h => by simp only [V.ok] at h; simp [V.ren, renL_congr hp h]
  | .tup xs, h => by simp only [V.ok] at h; simp [V.ren, renL_congr hp h]
  | .fn f a b, h => by simp only [V.ok] at h; simp [V.ren, renL_congr hp h.1, renL_congr hp h.2]
  | .iface t v, h => by simp only [V.ok] at h; simp [V.ren, V.ren_congr hp h]
  | .rp v, h => by simp only [V.ok] at h; simp [V.ren, V.ren_congr hp h]
  | .yl l, h => by simp only [V.ok] at h; simp [V.ren, hp l h]
theorem renL_congr {ρ ρ' : Nat → Nat} {p : Nat → Prop} (hp : ∀ i, p i → ρ i = ρ' i) : ∀ {vs : List V}, okL p vs → renL ρ vs = renL ρ' vs
  | [], _ => rfl
  | v :: vs, h => by simp only [okL] at h; simp [renL, V.ren_congr hp h.1, renL_congr hp h.2]
end

mutual
theorem V.ren_id : ∀ (v : V), v.ren (fun i => i) = v
  | .c x => rfl
  | .p i o => rfl
  | .sl z i o k => rfl
  | .ro z xs => by simp [V.ren, renL_id xs]
  | .agg xs => by simp [V.ren, renL_id xs]
  | .tup xs => by simp [V.ren, renL_id xs]
  | .fn f a b => by simp [V.ren, renL_id a, renL_id b]
  | .iface t v => by simp [V.ren, V.ren_id v]
  | .rp v => by simp [V.ren, V.ren_id v]
  | .yl l => rfl
theorem renL_id : ∀ (vs : List V), renL (fun i => i) vs = vs
  | [] => rfl
  | v :: vs => by simp [renL, V.ren_id v, renL_id vs]
end

mutual
theorem V.ok_mono {p q : Nat → Prop} (hp : ∀ i, p i → q i) : ∀ {v : V}, v.ok p → v.ok q
  | .c x, _ => trivial
  | .p i o, h => hp i h
  | .sl z i o k, h => hp i h
  | .ro z xs, h => by simp only [V.ok] at h ⊢; exact okL_mono hp h
  | .agg xs, h => by simp only [V.ok] at h ⊢; exact okL_mono hp h
  | .tup xs, h => by simp only [V.ok] at h ⊢; exact okL_mono hp h
  | .fn f a b, h => by simp only [V.ok] at h ⊢; exact ⟨okL_mono hp h.1, okL_mono hp h.2⟩
  | .iface t v, h => by simp only [V.ok] at h ⊢; exact V.ok_mono hp h
  | .rp v, h => by simp only [V.ok] at h ⊢; exact V.ok_mono hp h
  | .yl l, h => hp l h
theorem okL_mono {p q : Nat → Prop} (hp : ∀ i, p i → q i) : ∀ {vs : List V}, okL p vs → okL q vs
  | [], _ => trivial
  | v :: vs, h => by simp only [okL] at h ⊢; exact ⟨V.ok_mono hp h.1, okL_mono hp h.2⟩
end

mutual
theorem Cn.ok {e : En} : ∀ {v : V} {y : Value}, Cn e v y → v.ok e.dom
  | .c x, y, h => trivial
  | .p i o, y, h => by simp only [Cn] at h; exact h.1
  | .sl z i o k, y, h => by simp only [Cn] at h; exact h.1
  | .ro z xs, y, h => by
    simp only [Cn] at h
    obtain ⟨a, cap, _, _, h⟩ := h
    simp only [V.ok]
    rcases h with rfl | ⟨b, o, _, _, _, hr⟩
    · trivial
    · exact CnRow.ok hr
  | .agg xs, y, h => by simp only [Cn] at h; obtain ⟨ys, _, hl, _⟩ := h; simp only [V.ok]; exact CnL.ok hl
  | .tup xs, y, h => by simp only [Cn] at h; obtain ⟨ys, _, hl⟩ := h; simp only [V.ok]; exact CnL.ok hl
  | .fn f a b, y, h => by simp only [Cn] at h; obtain ⟨as, bs, _, ha, hb⟩ := h; simp only [V.ok]; exact ⟨CnL.ok ha, CnL.ok hb⟩
  | .iface t v, y, h => by simp only [Cn] at h; obtain ⟨x, _, hv⟩ := h; simp only [V.ok]; exact Cn.ok hv
  | .rp v, y, h => by simp only [Cn] at h; obtain ⟨b, o, x, _, _, _, hv, _⟩ := h; simp only [V.ok]; exact Cn.ok hv
  | .yl l, y, h => by simp only [Cn] at h; exact h.1
theorem CnL.ok {e : En} : ∀ {vs : List V} {ys : List Value}, CnL e vs ys → okL e.dom vs
  | [], _, _ => trivial
  | v :: vs, ys, h => by simp only [CnL] at h; obtain ⟨x, xs, _, hv, hl⟩ := h; simp only [okL]; exact ⟨Cn.ok hv, CnL.ok hl⟩
theorem CnRow.ok {e : En} {z b : Nat} : ∀ {o : Nat} {vs : List V}, CnRow e z b o vs → okL e.dom vs
  | _, [], _ => trivial
  | o, v :: vs, h => by simp only [CnRow] at h; obtain ⟨⟨y, hv, _⟩, hl⟩ := h; simp only [okL]; exact ⟨Cn.ok hv, CnRow.ok hl⟩
end

/-- From one reading to another one, of the same world: named so there, and so here. -/
structure Via (e e' : En) (ρ : Nat → Nat) (p : Nat → Prop) : Prop where
  w : e'.w = e.w
  own : ∀ b, ¬ e.own b → ¬ e'.own b
  dom : ∀ i, p i → e.dom i → e'.dom (ρ i)
  agree : ∀ i, p i → e.dom i → e'.φ (ρ i) = e.φ i

mutual
theorem Cn.via {e e' : En} {ρ : Nat → Nat} {p : Nat → Prop} (h : Via e e' ρ p) : ∀ {v : V} {y : Value}, v.ok p → Cn e v y → Cn e' (v.ren ρ) y
  | .c x, y, _, k => by simpa [Cn, V.ren] using k
  | .p i o, y, hp, k => by
    simp only [Cn, V.ren] at k ⊢
    simp only [V.ok] at hp
    obtain ⟨hi, b, s, hf, hy⟩ := k
    exact ⟨h.dom _ hp hi, b, s, (h.agree i hp hi).trans hf, hy⟩
  | .sl z i o k', y, hp, k => by
    simp only [Cn, V.ren] at k ⊢
    simp only [V.ok] at hp
    obtain ⟨hi, k⟩ := k
    refine ⟨h.dom _ hp hi, ?_⟩
    rcases k with ⟨hf, h0, hy⟩ | ⟨b, s, a, cap, t, m, hf, hy, hk, ha, hs, hm⟩
    · exact .inl ⟨(h.agree i hp hi).trans hf, h0, hy⟩
    · exact .inr ⟨b, s, a, cap, t, m, (h.agree i hp hi).trans hf, hy, hk, ha, by rw [h.w]; exact hs, hm⟩
  | .ro z xs, y, hp, k => by
    simp only [Cn, V.ren] at k ⊢
    simp only [V.ok] at hp
    obtain ⟨a, cap, hy, hc, k⟩ := k
    have hl : ∀ xs : List V, (renL ρ xs).length = xs.length := by
      intro xs; induction xs with
      | nil => rfl
      | cons x xs ih => simp [renL, ih]
    refine ⟨a, cap, by rw [hl]; exact hy, by rw [hl]; exact hc, ?_⟩
    rcases k with k | ⟨b, o, ha, hb, ho, hr⟩
    · exact .inl (by rw [k]; rfl)
    · exact .inr ⟨b, o, ha, by rw [h.w]; exact hb, h.own b ho, CnRow.via h hp hr⟩
  | .agg cs, y, hp, k => by
    simp only [Cn, V.ren] at k ⊢
    simp only [V.ok] at hp
    obtain ⟨ys, hy, hl, ho⟩ := k
    exact ⟨ys, hy, CnL.via h hp hl, ho⟩
  | .tup cs, y, hp, k => by
    simp only [Cn, V.ren] at k ⊢
    simp only [V.ok] at hp
    obtain ⟨ys, hy, hl⟩ := k
    exact ⟨ys, hy, CnL.via h hp hl⟩
  | .fn f a b, y, hp, k => by
    simp only [Cn, V.ren] at k ⊢
    simp only [V.ok] at hp
    obtain ⟨as, bs, hy, ha, hb⟩ := k
    exact ⟨as, bs, hy, CnL.via h hp.1 ha, CnL.via h hp.2 hb⟩
  | .iface t v, y, hp, k => by
    simp only [Cn, V.ren] at k ⊢
    simp only [V.ok] at hp
    obtain ⟨x, hy, hv⟩ := k
    exact ⟨x, hy, Cn.via h hp hv⟩
  | .rp v, y, hp, k => by
    simp only [Cn, V.ren] at k ⊢
    simp only [V.ok] at hp
    obtain ⟨b, o, x, hy, hb, ho, hv, hc⟩ := k
    exact ⟨b, o, x, hy, by rw [h.w]; exact hb, h.own b ho, Cn.via h hp hv, by rw [h.w]; exact hc⟩
  | .yl l, y, hp, k => by
    simp only [Cn, V.ren] at k ⊢
    simp only [V.ok] at hp
    obtain ⟨hi, b, hf, hy⟩ := k
    exact ⟨h.dom _ hp hi, b, (h.agree l hp hi).trans hf, hy⟩
theorem CnL.via {e e' : En} {ρ : Nat → Nat} {p : Nat → Prop} (h : Via e e' ρ p) : ∀ {vs : List V} {ys : List Value}, okL p vs → CnL e vs ys → CnL e' (renL ρ vs) ys
  | [], ys, _, k => by simpa [CnL, renL] using k
  | v :: vs, ys, hp, k => by
    simp only [CnL, renL] at k ⊢
    simp only [okL] at hp
    obtain ⟨x, xs, hy, hv, hl⟩ := k
    exact ⟨x, xs, hy, Cn.via h hp.1 hv, CnL.via h hp.2 hl⟩
theorem CnRow.via {e e' : En} {ρ : Nat → Nat} {p : Nat → Prop} (h : Via e e' ρ p) {z b : Nat} : ∀ {o : Nat} {vs : List V}, okL p vs → CnRow e z b o vs → CnRow e' z b o (renL ρ vs)
  | _, [], _, _ => by simp [CnRow, renL]
  | o, v :: vs, hp, k => by
    simp only [CnRow, renL] at k ⊢
    simp only [okL] at hp
    obtain ⟨⟨y, hv, hz, hc⟩, hl⟩ := k
    exact ⟨⟨y, Cn.via h hp.1 hv, hz, by rw [h.w]; exact hc⟩, CnRow.via h hp.2 hl⟩
end

def renT (ρ : Nat → Nat) (t : Nat → Option V) : Nat → Option V := fun k => (t k).map (V.ren ρ)

def Blk.ren (ρ : Nat → Nat) : Blk → Blk
  | .cells t cs => .cells t (renL ρ cs)
  | .deferred o => .deferred o
  | .loop st pend env n ps assign body => .loop st pend (renT ρ env) n ps assign body
  | .gone => .gone
  | .rsv => .rsv

def okT (p : Nat → Prop) (t : Nat → Option V) : Prop := ∀ k v, t k = some v → v.ok p

def Blk.ok (p : Nat → Prop) : Blk → Prop
  | .cells _ cs => okL p cs
  | .loop _ _ env _ _ _ _ => okT p env
  | _ => True

theorem Blk.live_ren (ρ : Nat → Nat) (k : Blk) : (k.ren ρ).live = k.live := by cases k <;> rfl
theorem Blk.dm_ren (ρ : Nat → Nat) (k : Blk) : (k.ren ρ).dm = k.dm := by cases k <;> rfl

end Go.Vm

namespace Go.Vm
open Go Go.RowKit
variable {P : Program} {G : Addr → Option Value} {F F' : Nat → Prop} {w : World} {φ : Nat → Option (Nat × Nat)} {h : List Blk}

/-- The other way: what is named so there is named so here. -/
structure Un (e e' : En) (ρ : Nat → Nat) : Prop where
  w : e'.w = e.w
  own : ∀ b, ¬ e.own b → ¬ e'.own b
  agree : ∀ i, e'.dom i → e'.φ i = e.φ (ρ i)

theorem renL_length (ρ : Nat → Nat) (xs : List V) : (renL ρ xs).length = xs.length := by
  induction xs with
  | nil => rfl
  | cons x xs ih => simp [renL, ih]

theorem renL_at (ρ : Nat → Nat) : ∀ (xs : List V) (k : Nat), (renL ρ xs)[k]? = (xs[k]?).map (V.ren ρ)
  | [], k => by simp [renL]
  | x :: xs, 0 => by simp [renL]
  | x :: xs, k + 1 => by simp [renL, renL_at ρ xs k]

mutual
theorem Cn.un {e e' : En} {ρ : Nat → Nat} (h : Un e e' ρ) : ∀ {v : V} {y : Value}, v.ok e'.dom → Cn e (v.ren ρ) y → Cn e' v y
  | .c x, y, _, k => by simpa [Cn, V.ren] using k
  | .p i o, y, hp, k => by
    simp only [Cn, V.ren] at k ⊢
    simp only [V.ok] at hp
    obtain ⟨hi, b, s, hf, hy⟩ := k
    exact ⟨hp, b, s, (h.agree i hp).trans hf, hy⟩
  | .sl z i o k', y, hp, k => by
    simp only [Cn, V.ren] at k ⊢
    simp only [V.ok] at hp
    obtain ⟨hi, k⟩ := k
    refine ⟨hp, ?_⟩
    rcases k with ⟨hf, h0, hy⟩ | ⟨b, s, a, cap, t, m, hf, hy, hk, ha, hs, hm⟩
    · exact .inl ⟨(h.agree i hp).trans hf, h0, hy⟩
    · exact .inr ⟨b, s, a, cap, t, m, (h.agree i hp).trans hf, hy, hk, ha, by rw [h.w]; exact hs, hm⟩
  | .ro z xs, y, hp, k => by
    simp only [Cn, V.ren] at k ⊢
    simp only [V.ok] at hp
    obtain ⟨a, cap, hy, hc, k⟩ := k
    refine ⟨a, cap, by rw [renL_length] at hy; exact hy, by rw [renL_length] at hc; exact hc, ?_⟩
    rcases k with k | ⟨b, o, ha, hb, ho, hr⟩
    · exact .inl (by cases xs with
        | nil => rfl
        | cons => simp [renL] at k)
    · exact .inr ⟨b, o, ha, by rw [h.w]; exact hb, h.own b ho, CnRow.un h hp hr⟩
  | .agg cs, y, hp, k => by
    simp only [Cn, V.ren] at k ⊢
    simp only [V.ok] at hp
    obtain ⟨ys, hy, hl, ho⟩ := k
    exact ⟨ys, hy, CnL.un h hp hl, ho⟩
  | .tup cs, y, hp, k => by
    simp only [Cn, V.ren] at k ⊢
    simp only [V.ok] at hp
    obtain ⟨ys, hy, hl⟩ := k
    exact ⟨ys, hy, CnL.un h hp hl⟩
  | .fn f a b, y, hp, k => by
    simp only [Cn, V.ren] at k ⊢
    simp only [V.ok] at hp
    obtain ⟨as, bs, hy, ha, hb⟩ := k
    exact ⟨as, bs, hy, CnL.un h hp.1 ha, CnL.un h hp.2 hb⟩
  | .iface t v, y, hp, k => by
    simp only [Cn, V.ren] at k ⊢
    simp only [V.ok] at hp
    obtain ⟨x, hy, hv⟩ := k
    exact ⟨x, hy, Cn.un h hp hv⟩
  | .rp v, y, hp, k => by
    simp only [Cn, V.ren] at k ⊢
    simp only [V.ok] at hp
    obtain ⟨b, o, x, hy, hb, ho, hv, hc⟩ := k
    exact ⟨b, o, x, hy, by rw [h.w]; exact hb, h.own b ho, Cn.un h hp hv, by rw [h.w]; exact hc⟩
  | .yl l, y, hp, k => by
    simp only [Cn, V.ren] at k ⊢
    simp only [V.ok] at hp
    obtain ⟨hi, b, hf, hy⟩ := k
    exact ⟨hp, b, (h.agree l hp).trans hf, hy⟩
theorem CnL.un {e e' : En} {ρ : Nat → Nat} (h : Un e e' ρ) : ∀ {vs : List V} {ys : List Value}, okL e'.dom vs → CnL e (renL ρ vs) ys → CnL e' vs ys
  | [], ys, _, k => by simpa [CnL, renL] using k
  | v :: vs, ys, hp, k => by
    simp only [CnL, renL] at k ⊢
    simp only [okL] at hp
    obtain ⟨x, xs, hy, hv, hl⟩ := k
    exact ⟨x, xs, hy, Cn.un h hp.1 hv, CnL.un h hp.2 hl⟩
theorem CnRow.un {e e' : En} {ρ : Nat → Nat} (h : Un e e' ρ) {z b : Nat} : ∀ {o : Nat} {vs : List V}, okL e'.dom vs → CnRow e z b o (renL ρ vs) → CnRow e' z b o vs
  | _, [], _, _ => by simp [CnRow]
  | o, v :: vs, hp, k => by
    simp only [CnRow, renL] at k ⊢
    simp only [okL] at hp
    obtain ⟨⟨y, hv, hz, hc⟩, hl⟩ := k
    exact ⟨⟨y, Cn.un h hp.1 hv, hz, by rw [h.w]; exact hc⟩, CnRow.un h hp.2 hl⟩
end

theorem okL_at {p : Nat → Prop} : ∀ {vs : List V} {k : Nat} {v : V}, okL p vs → vs[k]? = some v → v.ok p
  | [], k, v, _, h => by simp at h
  | u :: vs, 0, v, hp, h => by simp only [okL] at hp; simp at h; subst h; exact hp.1
  | u :: vs, k + 1, v, hp, h => by simp only [okL] at hp; simp at h; exact okL_at hp.2 h

theorem CnF.un {e e' : En} {ρ : Nat → Nat} (h : Un e e' ρ) {t : Nat → Option V} {a : Array Value} (hp : okT e'.dom t) (k : CnF e (renT ρ t) a) : CnF e' t a := by
  intro d v hv
  obtain ⟨x, hx, hc⟩ := k d (v.ren ρ) (by simp [renT, hv])
  exact ⟨x, hx, Cn.un h (hp d v hv) hc⟩

theorem CnF.via {e e' : En} {ρ : Nat → Nat} {p : Nat → Prop} (h : Via e e' ρ p) {t : Nat → Option V} {a : Array Value} (hp : okT p t) (k : CnF e t a) : CnF e' (renT ρ t) a := by
  intro d v hv
  simp only [renT] at hv
  cases hg : t d with
  | none => simp [hg] at hv
  | some u =>
    simp [hg] at hv; subst hv
    obtain ⟨x, hx, hc⟩ := k d u hg
    exact ⟨x, hx, Cn.via h (hp d u hg) hc⟩

theorem RepB.un {e e' : En} {ρ : Nat → Nat} (h : Un e e' ρ) {i : Nat} (hi : e'.dom i) : ∀ {k : Blk}, k.ok e'.dom → RepB e (ρ i) (k.ren ρ) → RepB e' i k
  | .cells t cs, hp, r => by
    simp only [Blk.ren, RepB] at r
    simp only [Blk.ok] at hp
    rcases r with ⟨hf, hc⟩ | ⟨b, s, arr, hf, ha, hc⟩
    · exact .inl ⟨(h.agree i hi).trans hf, by cases cs with
        | nil => rfl
        | cons => simp [renL] at hc⟩
    · refine .inr ⟨b, s, arr, (h.agree i hi).trans hf, by rw [h.w]; exact ha, fun k v hv => ?_⟩
      obtain ⟨x, hx, ho, hcn⟩ := hc k (v.ren ρ) (by rw [renL_at, hv]; rfl)
      exact ⟨x, hx, ho, Cn.un h (okL_at hp hv) hcn⟩
  | .deferred op, _, r => by
    obtain ⟨b, hf, ha⟩ := r
    exact ⟨b, (h.agree i hi).trans hf, by rw [h.w]; exact ha⟩
  | .loop .., hp, r => by
    obtain ⟨b, fn, tm, D, hf, ha, hc⟩ := r
    exact ⟨b, fn, tm, D, (h.agree i hi).trans hf, by rw [h.w]; exact ha, hc.1.un h hp, hc.2⟩
  | .gone, _, _ => trivial
  | .rsv, _, _ => trivial

theorem RepB.via {e e' : En} {ρ : Nat → Nat} {p : Nat → Prop} (h : Via e e' ρ p) {i : Nat} (hpi : p i) (hi : e.dom i) : ∀ {k : Blk}, k.ok p → RepB e i k → RepB e' (ρ i) (k.ren ρ)
  | .cells t cs, hp, r => by
    simp only [Blk.ren, RepB] at r ⊢
    simp only [Blk.ok] at hp
    rcases r with ⟨hf, hc⟩ | ⟨b, s, arr, hf, ha, hc⟩
    · exact .inl ⟨(h.agree i hpi hi).trans hf, by subst hc; rfl⟩
    · refine .inr ⟨b, s, arr, (h.agree i hpi hi).trans hf, by rw [h.w]; exact ha, fun k v hv => ?_⟩
      rw [renL_at] at hv
      cases hg : cs[k]? with
      | none => simp [hg] at hv
      | some u =>
        simp [hg] at hv; subst hv
        obtain ⟨x, hx, ho, hcn⟩ := hc k u hg
        exact ⟨x, hx, ho, Cn.via h (okL_at hp hg) hcn⟩
  | .deferred op, _, r => by
    obtain ⟨b, hf, ha⟩ := r
    exact ⟨b, (h.agree i hpi hi).trans hf, by rw [h.w]; exact ha⟩
  | .loop .., hp, r => by
    obtain ⟨b, fn, tm, D, hf, ha, hc⟩ := r
    exact ⟨b, fn, tm, D, (h.agree i hpi hi).trans hf, by rw [h.w]; exact ha, hc.1.via h hp, hc.2⟩
  | .gone, _, _ => trivial
  | .rsv, _, _ => trivial

/-- Some of the blocks, called otherwise; the others may be somebody else's. -/
theorem RH.un {big small : List Blk} {ρ : Nat → Nat} (r : RH G F w φ big) (im : ∀ i k, small[i]? = some k → k.dm = true → big[ρ i]? = some (k.ren ρ))
    (cl : ∀ (i : Nat) (k : Blk), small[i]? = some k → k.ok (en F' w (fun i => φ (ρ i)) small).dom) (inj : ∀ i j, i < small.length → j < small.length → ρ i = ρ j → i = j)
    (h1 : ∀ b, F b → F' b) (h2 : ∀ b, F' b → F b ∨ owned φ big b) (h3 : ∀ b, F' b → ¬ owned (fun i => φ (ρ i)) small b) :
    RH G F' w (fun i => φ (ρ i)) small ∧ Un (en F w φ big) (en F' w (fun i => φ (ρ i)) small) ρ := by
  have ow : ∀ b, owned (fun i => φ (ρ i)) small b → owned φ big b := by
    rintro b ⟨i, s, k, hk, hl, hf⟩
    exact ⟨ρ i, s, k.ren ρ, im i k hk (live_dm hl), by rw [Blk.live_ren]; exact hl, hf⟩
  have un : Un (en F w φ big) (en F' w (fun i => φ (ρ i)) small) ρ := by
    refine ⟨rfl, fun b hb hb' => hb ?_, fun i hi => rfl⟩
    rcases hb' with hb' | hb'
    · exact .inl (ow b hb')
    · exact (h2 b hb').symm
  refine ⟨⟨?_, ?_, ?_, ?_, ?_⟩, un⟩
  · intro i k hk
    by_cases hd : k.dm = true
    · exact RepB.un un ⟨k, hk, hd⟩ (cl i k hk) (r.rep _ _ (im i k hk hd))
    · cases k <;> simp [Blk.dm] at hd; trivial
  · intro i j b s s' k k' hk hl hk' hl' hf hf'
    refine inj i j (List.getElem?_eq_some_iff.1 hk).1 (List.getElem?_eq_some_iff.1 hk').1 ?_
    exact r.inj _ _ b s s' _ _ (im i k hk (live_dm hl)) (by rw [Blk.live_ren]; exact hl) (im j k' hk' (live_dm hl')) (by rw [Blk.live_ren]; exact hl') hf hf'
  · intro i k b s hk hl hf
    exact r.lt _ _ b s (im i k hk (live_dm hl)) (by rw [Blk.live_ren]; exact hl) hf
  · intro a x ha
    obtain ⟨k1, k2, k3, k4⟩ := r.glob a x ha
    exact ⟨k1, k2, fun h => k3 (ow _ h), fun h => (h2 _ h).elim k4 k3⟩
  · intro b hb
    refine ⟨?_, h3 b hb⟩
    rcases h2 b hb with h | ⟨i, s, k, hk, hl, hf⟩
    · exact (r.flt b h).1
    · exact r.lt i k b s hk hl hf

/-- All of ours, called otherwise, with somebody else's. -/
theorem RH.via {φ1 φ2 : Nat → Option (Nat × Nat)} {ha hb : List Blk} {ρ : Nat → Nat} {p : Nat → Prop} (r : RH G F' w φ1 ha)
    (im : ∀ i k, p i → ha[i]? = some k → k.dm = true → hb[ρ i]? = some (k.ren ρ) ∧ φ2 (ρ i) = φ1 i)
    (cl : ∀ (i : Nat) (k : Blk), p i → ha[i]? = some k → k.ok p)
    (oth : ∀ j k, hb[j]? = some k → k.dm = true → (∃ i k', p i ∧ ha[i]? = some k' ∧ ρ i = j ∧ k = k'.ren ρ) ∨ (RepB (en F w φ2 hb) j k ∧ ∀ b s, k.live = true → φ2 j = some (b, s) → F' b))
    (oinj : ∀ i j b s s' k k', hb[i]? = some k → k.live = true → hb[j]? = some k' → k'.live = true → φ2 i = some (b, s) → φ2 j = some (b, s') → F' b → i = j)
    (fsub : ∀ b, F b → F' b) (fno : ∀ b, F b → ¬ owned φ2 hb b) :
    RH G F w φ2 hb ∧ Via (en F' w φ1 ha) (en F w φ2 hb) ρ p := by
  have own : ∀ b, owned φ2 hb b → owned φ1 ha b ∨ F' b := by
    rintro b ⟨j, s, k, hk, hl, hf⟩
    rcases oth j k hk (live_dm hl) with ⟨i, k', hp, hk', rfl, rfl⟩ | ⟨_, hF⟩
    · rw [Blk.live_ren] at hl
      rw [(im i k' hp hk' (live_dm hl)).2] at hf
      exact .inl ⟨i, s, k', hk', hl, hf⟩
    · exact .inr (hF b s hl hf)
  have via : Via (en F' w φ1 ha) (en F w φ2 hb) ρ p := by
    refine ⟨rfl, fun b hb hb' => hb ?_, ?_, ?_⟩
    · rcases hb' with hb' | hb'
      · exact own b hb'
      · exact .inr (fsub b hb')
    · rintro i hp ⟨k, hk, hd⟩
      exact ⟨_, (im i k hp hk hd).1, by rw [Blk.dm_ren]; exact hd⟩
    · rintro i hp ⟨k, hk, hd⟩
      exact (im i k hp hk hd).2
  refine ⟨⟨?_, ?_, ?_, ?_, ?_⟩, via⟩
  · intro j k hk
    by_cases hd : k.dm = true
    · rcases oth j k hk hd with ⟨i, k', hp, hk', rfl, rfl⟩ | ⟨h, _⟩
      · rw [Blk.dm_ren] at hd
        exact RepB.via via hp ⟨k', hk', hd⟩ (cl i k' hp hk') (r.rep _ _ hk')
      · exact h
    · cases k <;> simp [Blk.dm] at hd; trivial
  · intro i j b s s' k k' hk hl hk' hl' hf hf'
    rcases oth i k hk (live_dm hl) with ⟨i1, k1, hp1, hk1, rfl, rfl⟩ | ⟨_, hF⟩
    · rcases oth j k' hk' (live_dm hl') with ⟨i2, k2, hp2, hk2, rfl, rfl⟩ | ⟨_, hF⟩
      · rw [Blk.live_ren] at hl hl'
        have e1 := (im i1 k1 hp1 hk1 (live_dm hl)).2
        have e2 := (im i2 k2 hp2 hk2 (live_dm hl')).2
        rw [e1] at hf; rw [e2] at hf'
        rw [r.inj i1 i2 b s s' k1 k2 hk1 hl hk2 hl' hf hf']
      · exact oinj _ _ b s s' _ _ hk hl hk' hl' hf hf' (hF b s' hl' hf')
    · exact oinj _ _ b s s' _ _ hk hl hk' hl' hf hf' (hF b s hl hf)
  · intro j k b s hk hl hf
    rcases oth j k hk (live_dm hl) with ⟨i, k', hp, hk', rfl, rfl⟩ | ⟨_, hF⟩
    · rw [Blk.live_ren] at hl
      rw [(im i k' hp hk' (live_dm hl)).2] at hf
      exact r.lt i k' b s hk' hl hf
    · exact (r.flt b (hF b s hl hf)).1
  · intro a x ha
    obtain ⟨k1, k2, k3, k4⟩ := r.glob a x ha
    refine ⟨k1, k2, fun h => ?_, fun h => k4 (fsub _ h)⟩
    rcases own _ h with h | h
    · exact k3 h
    · exact k4 h
  · intro b hb
    exact ⟨(r.flt b (fsub b hb)).1, fno b hb⟩

theorem okL_of_at {p : Nat → Prop} : ∀ {cs : List V}, (∀ (k : Nat) (v : V), cs[k]? = some v → v.ok p) → okL p cs
  | [], _ => trivial
  | c :: cs, h => ⟨h 0 c (by simp), okL_of_at fun k v hv => h (k + 1) v (by simpa using hv)⟩

theorem RepB.okd {e : En} {i : Nat} : ∀ {k : Blk}, RepB e i k → k.ok e.dom
  | .cells t cs, r => by
    rcases r with ⟨_, rfl⟩ | ⟨b, s, arr, _, _, hc⟩
    · trivial
    · simp only [Blk.ok]
      exact okL_of_at fun k v hv => let ⟨x, _, _, hcn⟩ := hc k v hv; hcn.ok
  | .deferred _, _ => trivial
  | .loop .., r => by
    obtain ⟨b, fn, tm, D, _, _, hc⟩ := r
    exact fun k v hv => let ⟨x, _, hcn⟩ := hc.1 k v hv; hcn.ok
  | .gone, _ => trivial
  | .rsv, _ => trivial

theorem renL_congr' {ρ : Nat → Nat} {p : Nat → Prop} (hp : ∀ i, p i → ρ i = i) {vs : List V} (h : okL p vs) : renL ρ vs = vs :=
  (renL_congr (ρ' := fun i => i) hp h).trans (renL_id vs)

theorem V.ren_same {ρ : Nat → Nat} {p : Nat → Prop} (hp : ∀ i, p i → ρ i = i) {v : V} (h : v.ok p) : v.ren ρ = v :=
  (V.ren_congr (ρ' := fun i => i) hp h).trans (V.ren_id v)

theorem Blk.ren_same {ρ : Nat → Nat} {p : Nat → Prop} (hp : ∀ i, p i → ρ i = i) : ∀ {k : Blk}, k.ok p → k.ren ρ = k
  | .cells t cs, h => by simp only [Blk.ren, renL_congr' hp h]
  | .deferred _, _ => rfl
  | .loop st pend env n ps as bo, h => by
    have : renT ρ env = env := by
      funext k
      simp only [renT]
      cases hk : env k with
      | none => rfl
      | some v => simp [V.ren_same hp (h k v hk)]
    simp only [Blk.ren, this]
  | .gone, _ => rfl
  | .rsv, _ => rfl

theorem Blk.ok_mono {p q : Nat → Prop} (hp : ∀ i, p i → q i) : ∀ {k : Blk}, k.ok p → k.ok q
  | .cells t cs, h => okL_mono hp h
  | .deferred _, _ => trivial
  | .loop .., h => fun k v hv => V.ok_mono hp (h k v hv)
  | .gone, _ => trivial
  | .rsv, _ => trivial

end Go.Vm

namespace Go.Vm
open Go Go.RowKit
variable {P : Program} {G : Addr → Option Value} {F F' : Nat → Prop} {w w' : World} {φ φ1 : Nat → Option (Nat × Nat)} {h : List Blk}

/-- A few blocks, among more. -/
structure Fit (hs big : List Blk) (ρ : Nat → Nat) : Prop where
  im : ∀ (i : Nat) (k : Blk), hs[i]? = some k → big[ρ i]? = some (k.ren ρ)
  inj : ∀ i j, i < hs.length → j < hs.length → ρ i = ρ j → i = j
  dm : ∀ k ∈ hs, k.dm = true
  cl : ∀ k ∈ hs, k.ok (· < hs.length)

/-- What becomes of them, among more. -/
structure Refit (hs hs' big big' : List Blk) (ρ ρ' : Nat → Nat) : Prop where
  len : hs.length ≤ hs'.length
  same : ∀ i, i < hs.length → ρ' i = ρ i
  inj : ∀ i j, i < hs'.length → j < hs'.length → ρ' i = ρ' j → i = j
  im : ∀ (i : Nat) (k : Blk), hs'[i]? = some k → big'[ρ' i]? = some (k.ren ρ')
  new : ∀ i, hs.length ≤ i → i < hs'.length → big[ρ' i]? = some .rsv
  oth : ∀ j, (∀ i, i < hs'.length → ρ' i ≠ j) → big'[j]? = big[j]?

/-- Those that are not among the few. -/
def Rest (F : Nat → Prop) (φ : Nat → Option (Nat × Nat)) (big hs : List Blk) (ρ : Nat → Nat) (b : Nat) : Prop := F b ∨ (owned φ big b ∧ ¬ owned (fun i => φ (ρ i)) hs b)

theorem owned_fit {hs big : List Blk} {ρ : Nat → Nat} (ft : Fit hs big ρ) {b : Nat} (h : owned (fun i => φ (ρ i)) hs b) : owned φ big b := by
  obtain ⟨i, s, k, hk, hl, hf⟩ := h
  exact ⟨ρ i, s, k.ren ρ, ft.im i k hk, by rw [Blk.live_ren]; exact hl, hf⟩

theorem frame_in {f : FuncId} {as : List V} {hs big : List Blk} {ρ : Nat → Nat} {K : V → List Blk → Prop} (hc : CallV P G f as hs K) (ft : Fit hs big ρ) (oka : okL (· < hs.length) as)
    {xs : List Value} (r : RH G F w φ big) (hx : CnL (en F w φ big) (renL ρ as) xs) :
    CallsIn (FW none) 0 P f xs.toArray w (Post G (Rest F φ big hs ρ) w (fun i => φ (ρ i)) hs K) := by
  have dom : ∀ i, i < hs.length → (en (Rest F φ big hs ρ) w (fun i => φ (ρ i)) hs).dom i := fun i hi =>
    ⟨hs[i], List.getElem?_eq_getElem hi, ft.dm _ (List.getElem_mem hi)⟩
  obtain ⟨r', un⟩ := RH.un (F' := Rest F φ big hs ρ) r (fun i k hk _ => ft.im i k hk)
    (fun i k hk => Blk.ok_mono dom (ft.cl k (List.mem_of_getElem? hk))) ft.inj (fun b hb => .inl hb)
    (fun b hb => hb.imp id fun h => h.1) (fun b hb ho => by
      rcases hb with hb | hb
      · exact (r.flt b hb).2 (owned_fit ft ho)
      · exact hb.2 ho)
  exact hc.2 _ w _ xs r' (CnL.un un (okL_mono dom oka) hx)

def back (hs' : List Blk) (ρ' : Nat → Nat) (φ φ1 : Nat → Option (Nat × Nat)) (j : Nat) : Option (Nat × Nat) :=
  match (List.range hs'.length).find? (fun i => ρ' i == j) with
  | some i => φ1 i
  | none => φ j

theorem back_in {hs' : List Blk} {ρ' : Nat → Nat} {φ φ1 : Nat → Option (Nat × Nat)} (inj : ∀ i j, i < hs'.length → j < hs'.length → ρ' i = ρ' j → i = j) {i : Nat} (hi : i < hs'.length) : back hs' ρ' φ φ1 (ρ' i) = φ1 i := by
  unfold back
  cases hf : (List.range hs'.length).find? (fun k => ρ' k == ρ' i) with
  | none =>
    have := List.find?_eq_none.1 hf i (by simpa using hi)
    simp at this
  | some k =>
    have h1 := List.find?_some hf
    have h2 := List.mem_of_find?_eq_some hf
    simp at h1 h2
    simp only
    rw [inj k i h2 hi h1]

theorem back_out {hs' : List Blk} {ρ' : Nat → Nat} {φ φ1 : Nat → Option (Nat × Nat)} {j : Nat} (hj : ∀ i, i < hs'.length → ρ' i ≠ j) : back hs' ρ' φ φ1 j = φ j := by
  unfold back
  cases hf : (List.range hs'.length).find? (fun k => ρ' k == j) with
  | none => rfl
  | some k =>
    have h1 := List.find?_some hf
    have h2 := List.mem_of_find?_eq_some hf
    simp at h1 h2
    exact absurd h1 (hj k h2)

theorem refit {hs hs' big big' : List Blk} {ρ ρ' : Nat → Nat} {v : V} {y : Value} (r : RH G F w φ big) (ft : Fit hs big ρ) (rf : Refit hs hs' big big' ρ ρ')
    (hv : Cn (en (Rest F φ big hs ρ) w' φ1 hs') v y) (r1 : RH G (Rest F φ big hs ρ) w' φ1 hs') (he : Ext (en (Rest F φ big hs ρ) w (fun i => φ (ρ i)) hs) (en (Rest F φ big hs ρ) w' φ1 hs')) :
    ∃ φ', Cn (en F w' φ' big') (v.ren ρ') y ∧ RH G F w' φ' big' ∧ Ext (en F w φ big) (en F w' φ' big') := by
  have lt_of : ∀ {i : Nat} {k : Blk}, hs'[i]? = some k → i < hs'.length := fun hk => (List.getElem?_eq_some_iff.1 hk).1
  have img : ∀ j, (∃ i, i < hs'.length ∧ ρ' i = j) ∨ (∀ i, i < hs'.length → ρ' i ≠ j) := fun j => by
    by_cases h : ∃ i, i < hs'.length ∧ ρ' i = j
    · exact .inl h
    · exact .inr fun i hi hj => h ⟨i, hi, hj⟩
  have own' : ∀ b, owned (back hs' ρ' φ φ1) big' b → owned φ1 hs' b ∨ (owned φ big b ∧ ∃ j s k, (∀ i, i < hs'.length → ρ' i ≠ j) ∧ big[j]? = some k ∧ k.live = true ∧ φ j = some (b, s)) := by
    rintro b ⟨j, s, k, hk, hl, hf⟩
    rcases img j with ⟨i, hi, rfl⟩ | hj
    · rw [back_in rf.inj hi] at hf
      have hk' := rf.im i hs'[i] (List.getElem?_eq_getElem hi)
      rw [hk'] at hk
      cases hk
      rw [Blk.live_ren] at hl
      exact .inl ⟨i, s, _, List.getElem?_eq_getElem hi, hl, hf⟩
    · rw [back_out hj] at hf
      rw [rf.oth j hj] at hk
      exact .inr ⟨⟨j, s, k, hk, hl, hf⟩, j, s, k, hj, hk, hl, hf⟩
  have ext : Ext (en F w φ big) (en F w' (back hs' ρ' φ φ1) big') := by
    refine ⟨fun b hb => .inl hb, ?_, ?_, ?_, ?_, ?_, he.shape, he.size, he.os, he.tape, he.output⟩
    · rintro j ⟨k, hk, hd⟩
      rcases img j with ⟨i, hi, rfl⟩ | hj
      · rcases Nat.lt_or_ge i hs.length with h | h
        · obtain ⟨k', hk', hd'⟩ := he.dom i ⟨hs[i], List.getElem?_eq_getElem h, ft.dm _ (List.getElem_mem h)⟩
          exact ⟨_, rf.im i k' hk', by rw [Blk.dm_ren]; exact hd'⟩
        · rw [rf.new i h hi] at hk; cases hk; cases hd
      · exact ⟨k, by rw [rf.oth j hj]; exact hk, hd⟩
    · rintro j ⟨k, hk, hd⟩
      rcases img j with ⟨i, hi, rfl⟩ | hj
      · rcases Nat.lt_or_ge i hs.length with h | h
        · have := he.agree i ⟨hs[i], List.getElem?_eq_getElem h, ft.dm _ (List.getElem_mem h)⟩
          simp only [en] at this ⊢
          rw [back_in rf.inj hi, this, rf.same i h]
        · rw [rf.new i h hi] at hk; cases hk; cases hd
      · exact back_out hj
    · intro b hb hm
      exact he.frame b hb fun h => hm (owned_fit ft h)
    · intro b hb hm hm'
      rcases own' b hm' with h | h
      · exact he.mine b hb (fun h => hm (owned_fit ft h)) h
      · exact hm h.1
    · intro b hb hm hm'
      have h0 : ¬ (en (Rest F φ big hs ρ) w (fun i => φ (ρ i)) hs).own b := by
        rintro (h | h | h)
        · exact hm (.inl (owned_fit ft h))
        · exact hm (.inr h)
        · exact hm (.inl h.1)
      have h1 := he.own b hb h0
      rcases hm' with h | h
      · rcases own' b h with h | h
        · exact h1 (.inl h)
        · exact hm (.inl h.1)
      · exact hm (.inr h)
  obtain ⟨r2, via⟩ := RH.via (F := F) (φ2 := back hs' ρ' φ φ1) (hb := big') (ρ := ρ') (p := fun i => i < hs'.length) r1
    (fun i k hi hk hd => ⟨rf.im i k hk, back_in rf.inj hi⟩)
    (fun i k hi hk => Blk.ok_mono (fun j ⟨_, hj, _⟩ => lt_of hj) (RepB.okd (r1.rep i k hk)))
    (by
      intro j k hk hd
      rcases img j with ⟨i, hi, rfl⟩ | hj
      · refine .inl ⟨i, hs'[i], hi, List.getElem?_eq_getElem hi, rfl, ?_⟩
        have := rf.im i hs'[i] (List.getElem?_eq_getElem hi)
        rw [this] at hk
        exact (Option.some.inj hk).symm
      · right
        have hk0 := hk
        rw [rf.oth j hj] at hk
        have notin : ∀ b s, k.live = true → φ j = some (b, s) → ¬ owned (fun i => φ (ρ i)) hs b := by
          rintro b s hl hf ⟨i, s', k', hk', hl', hf'⟩
          have hi := (List.getElem?_eq_some_iff.1 hk').1
          have e := r.inj j (ρ i) b s s' k _ hk hl (ft.im i k' hk') (by rw [Blk.live_ren]; exact hl') hf hf'
          exact hj i (Nat.lt_of_lt_of_le hi rf.len) ((rf.same i hi).trans e.symm)
        refine ⟨?_, fun b s hl hf => ?_⟩
        · cases hl : k.live with
          | false =>
            cases k <;> simp [Blk.live] at hl
            · trivial
            · trivial
          | true =>
            exact RepB.keep ext ⟨k, hk, hd⟩ (fun b s hf => he.frame b (r.lt j k b s hk hl hf) (notin b s hl hf)) (r.rep j k hk)
        · rw [back_out hj] at hf
          exact .inr ⟨⟨j, s, k, hk, hl, hf⟩, notin b s hl hf⟩)
    (by
      intro i j b s s' k k' hk hl hk' hl' hf hf' hF
      have no : ∀ i s (k : Blk), big'[i]? = some k → k.live = true → back hs' ρ' φ φ1 i = some (b, s) → ∀ q, q < hs'.length → ρ' q ≠ i := by
        rintro i s k hk hl hf q hq rfl
        rw [back_in rf.inj hq] at hf
        have h1 := rf.im q hs'[q] (List.getElem?_eq_getElem hq)
        rw [h1] at hk; cases hk
        rw [Blk.live_ren] at hl
        exact (r1.flt b hF).2 ⟨q, s, _, List.getElem?_eq_getElem hq, hl, hf⟩
      have n1 := no i s k hk hl hf
      have n2 := no j s' k' hk' hl' hf'
      rw [rf.oth i n1] at hk
      rw [rf.oth j n2] at hk'
      rw [back_out n1] at hf
      rw [back_out n2] at hf'
      exact r.inj i j b s s' k k' hk hl hk' hl' hf hf')
    (fun b hb => .inl hb)
    (fun b hb ho => by
      rcases own' b ho with h | h
      · exact (r1.flt b (.inl hb)).2 h
      · exact (r.flt b hb).2 h.1)
  refine ⟨_, Cn.via via ?_ hv, r2, ext⟩
  exact V.ok_mono (fun j ⟨_, hj, _⟩ => lt_of hj) hv.ok

end Go.Vm

namespace Go.Vm
open Go Go.RowKit
variable {P : Program} {G : Addr → Option Value} {F F' : Nat → Prop} {w w' : World} {φ φ1 : Nat → Option (Nat × Nat)} {h : List Blk}

/-! ### Places that are kept free -/

theorem pad_at {h : List Blk} {m i : Nat} {k : Blk} (hk : (h ++ List.replicate m Blk.rsv)[i]? = some k) (hd : k.dm = true) : h[i]? = some k := by
  rcases Nat.lt_or_ge i h.length with hi | hi
  · rwa [List.getElem?_append_left hi] at hk
  · rw [List.getElem?_append_right hi] at hk
    have := List.mem_of_getElem? hk
    rw [List.mem_replicate] at this
    rw [this.2] at hd; cases hd

theorem pad_of {h : List Blk} {m i : Nat} {k : Blk} (hk : h[i]? = some k) : (h ++ List.replicate m Blk.rsv)[i]? = some k := by
  rw [List.getElem?_append_left (List.getElem?_eq_some_iff.1 hk).1]; exact hk

theorem owned_pad {m b : Nat} : owned φ (h ++ List.replicate m Blk.rsv) b ↔ owned φ h b :=
  ⟨fun ⟨i, s, k, hk, hl, hf⟩ => ⟨i, s, k, pad_at hk (live_dm hl), hl, hf⟩, fun ⟨i, s, k, hk, hl, hf⟩ => ⟨i, s, k, pad_of hk, hl, hf⟩⟩

theorem ext_pad {m : Nat} : Ext (en F w φ h) (en F w φ (h ++ List.replicate m Blk.rsv)) :=
  ⟨fun _ h => .inl h, fun _ ⟨k, hk, hd⟩ => ⟨k, pad_of hk, hd⟩, fun _ _ => rfl, fun _ _ _ => rfl, fun _ _ h k => h (owned_pad.1 k), fun _ _ h k => h (k.imp owned_pad.1 id), fun _ _ => rfl, Nat.le_refl _, rfl, rfl, rfl⟩

theorem ext_unpad {m : Nat} : Ext (en F w φ (h ++ List.replicate m Blk.rsv)) (en F w φ h) :=
  ⟨fun _ h => .inl h, fun _ ⟨k, hk, hd⟩ => ⟨k, pad_at hk hd, hd⟩, fun _ _ => rfl, fun _ _ _ => rfl, fun _ _ h k => h (owned_pad.2 k), fun _ _ h k => h (k.imp owned_pad.2 id), fun _ _ => rfl, Nat.le_refl _, rfl, rfl, rfl⟩

theorem rh_pad {m : Nat} (r : RH G F w φ h) : RH G F w φ (h ++ List.replicate m Blk.rsv) where
  rep i k hk := by
    by_cases hd : k.dm = true
    · exact RepB.keep ext_pad ⟨k, pad_at hk hd, hd⟩ (fun _ _ _ => rfl) (r.rep i k (pad_at hk hd))
    · cases k <;> simp [Blk.dm] at hd; trivial
  inj i j b s s' k k' hk hl hk' hl' := r.inj i j b s s' k k' (pad_at hk (live_dm hl)) hl (pad_at hk' (live_dm hl')) hl'
  lt i k b s hk hl := r.lt i k b s (pad_at hk (live_dm hl)) hl
  glob a x ha := let ⟨k1, k2, k3, k4⟩ := r.glob a x ha; ⟨k1, k2, fun h => k3 (owned_pad.1 h), k4⟩
  flt b hb := let ⟨k1, k2⟩ := r.flt b hb; ⟨k1, fun h => k2 (owned_pad.1 h)⟩

theorem At.pad {n m : Nat} {s : St} {a : Act} (r : At G F w φ n s a) : At G F w φ n { s with h := s.h ++ List.replicate m Blk.rsv } a :=
  ⟨rh_pad r.heap, r.env.ext ext_pad, r.defs, fun i hi => ext_pad.dom i (r.dlt i hi), r.size⟩

/-- A new block, laid into a place that was kept free. -/
theorem place {X0 X : List Blk} {b : Blk} {r : Nat} (r1 : RH G F w' φ1 (X ++ [b])) (clX : ∀ (i : Nat) (k : Blk), X[i]? = some k → k.ok (· ≠ X.length)) (clb : b.ok (· ≠ X.length))
    (hr : X[r]? = some .rsv) (ext : Ext (en F w φ X0) (en F w' φ1 (X ++ [b]))) (h0 : ∀ i, (en F w φ X0).dom i → i < X.length ∧ i ≠ r) :
    ∃ φ2, RH G F w' φ2 (X.set r b) ∧ Via (en F w' φ1 (X ++ [b])) (en F w' φ2 (X.set r b)) (fun i => if i = X.length then r else i) (fun _ => True) ∧ Ext (en F w φ X0) (en F w' φ2 (X.set r b)) := by
  have hrl : r < X.length := (List.getElem?_eq_some_iff.1 hr).1
  let ρ : Nat → Nat := fun i => if i = X.length then r else i
  have same : ∀ i, i ≠ X.length → ρ i = i := fun i hi => if_neg hi
  have eb : b.ren ρ = b := Blk.ren_same same clb
  have eX : ∀ (i : Nat) (k : Blk), X[i]? = some k → k.ren ρ = k := fun i k hk => Blk.ren_same same (clX i k hk)
  have at2 : ∀ (j : Nat) (k : Blk), (X.set r b)[j]? = some k → (j = r ∧ k = b) ∨ (j ≠ r ∧ X[j]? = some k) := by
    intro j k hk
    by_cases hj : j = r
    · subst hj; rw [List.getElem?_set_self hrl] at hk; exact .inl ⟨rfl, (Option.some.inj hk).symm⟩
    · rw [List.getElem?_set_ne (fun e => hj e.symm)] at hk; exact .inr ⟨hj, hk⟩
  have own : ∀ c, owned (upd φ1 r (φ1 X.length)) (X.set r b) c → owned φ1 (X ++ [b]) c := by
    rintro c ⟨j, s, k, hk, hl, hf⟩
    rcases at2 j k hk with ⟨rfl, rfl⟩ | ⟨hj, hk⟩
    · rw [upd_same] at hf
      exact ⟨X.length, s, k, by simp, hl, hf⟩
    · rw [upd_other hj] at hf
      exact ⟨j, s, k, by rw [List.getElem?_append_left (List.getElem?_eq_some_iff.1 hk).1]; exact hk, hl, hf⟩
  obtain ⟨r2, via⟩ := RH.via (F := F) (φ2 := upd φ1 r (φ1 X.length)) (hb := X.set r b) (ρ := ρ) (p := fun _ => True) r1
    (by
      intro i k _ hk hd
      rcases Nat.lt_trichotomy i X.length with hi | hi | hi
      · rw [List.getElem?_append_left hi] at hk
        have hir : i ≠ r := by rintro rfl; rw [hr] at hk; cases hk; cases hd
        rw [same i (by omega), eX i k hk]
        exact ⟨by rw [List.getElem?_set_ne (fun e => hir e.symm)]; exact hk, upd_other hir⟩
      · subst hi
        simp at hk; subst hk
        have : ρ X.length = r := if_pos rfl
        rw [this, eb]
        exact ⟨List.getElem?_set_self hrl, upd_same ..⟩
      · have := (List.getElem?_eq_some_iff.1 hk).1
        simp at this; omega)
    (fun i k _ _ => by
      have : ∀ (k : Blk), k.ok (fun _ => True) := by
        have hv : ∀ v : V, v.ok (fun _ => True) := by
          intro v
          induction v using V.rec (motive_2 := fun vs => okL (fun _ => True) vs) <;> simp_all [V.ok, okL]
        intro k
        cases k <;> simp only [Blk.ok]
        · exact okL_of_at fun _ v _ => hv v
        · exact fun _ v _ => hv v
      exact this k)
    (by
      intro j k hk hd
      rcases at2 j k hk with ⟨rfl, rfl⟩ | ⟨hj, hk⟩
      · exact .inl ⟨X.length, k, trivial, by simp, if_pos rfl, eb.symm⟩
      · have hjl := (List.getElem?_eq_some_iff.1 hk).1
        exact .inl ⟨j, k, trivial, by rw [List.getElem?_append_left hjl]; exact hk, same j (by omega), (eX j k hk).symm⟩)
    (fun i j c s s' k k' hk hl _ _ hf _ hF => absurd (own c ⟨i, s, k, hk, hl, hf⟩) (r1.flt c hF).2)
    (fun _ h => h)
    (fun c hF ho => (r1.flt c hF).2 (own c ho))
  refine ⟨_, r2, via, ⟨ext.sub, ?_, ?_, ext.frame, ?_, ?_, ext.shape, ext.size, ext.os, ext.tape, ext.output⟩⟩
  · intro i hi
    obtain ⟨hil, hir⟩ := h0 i hi
    obtain ⟨k, hk, hd⟩ := ext.dom i hi
    rw [List.getElem?_append_left hil] at hk
    exact ⟨k, by rw [List.getElem?_set_ne (fun e => hir e.symm)]; exact hk, hd⟩
  · intro i hi
    exact (upd_other (h0 i hi).2).trans (ext.agree i hi)
  · intro c hc hm ho
    exact ext.mine c hc hm (own c ho)
  · intro c hc hm ho
    exact ext.own c hc hm (ho.imp (own c) id)

/-! ### What an operation leans on -/

def opTmps (o : Op) : List Nat := o.operands.toList.filterMap fun | .tmp t => some t | _ => none

theorem mem_opTmps {o : Op} {k : Nat} (h : Operand.tmp k ∈ o.operands.toList) : k ∈ opTmps o := List.mem_filterMap.2 ⟨_, h, rfl⟩

theorem ev_congr {s s' : St} {x : Operand} (h : ∀ k, x = .tmp k → get s'.t k = get s.t k) : ev s' x = ev s x := by
  cases x with
  | tmp k => exact h k rfl
  | const | global | func => rfl

theorem evs_congr {s s' : St} : ∀ {xs : List Operand}, (∀ k, Operand.tmp k ∈ xs → get s'.t k = get s.t k) → evs s' xs = evs s xs
  | [], _ => rfl
  | x :: xs, h => by
    simp only [evs]
    rw [ev_congr fun k hk => h k (by rw [hk]; exact List.mem_cons_self ..), evs_congr fun k hk => h k (List.mem_cons_of_mem _ hk)]

theorem evParts_congr {s s' : St} : ∀ {xs : List (Nat × Operand)}, (∀ k, Operand.tmp k ∈ xs.map (·.2) → get s'.t k = get s.t k) → evParts s' xs = evParts s xs
  | [], _ => rfl
  | (i, x) :: xs, h => by
    simp only [evParts]
    rw [ev_congr fun k hk => h k (by rw [← hk]; exact List.mem_cons_self ..), evParts_congr fun k hk => h k (List.mem_cons_of_mem _ hk)]

/-- What has one outcome. -/
structure Det {α : Type} (X : (α → Prop) → Prop) : Prop where
  mono : ∀ {K K' : α → Prop}, (∀ a, K a → K' a) → X K → X K'
  det : ∀ {K : α → Prop}, X K → ∃ a, K a ∧ X (· = a)

theorem Det.ret {α : Type} (a : α) : Det fun K => K a := ⟨fun h k => h _ k, fun h => ⟨_, h, rfl⟩⟩
theorem Det.no {α : Type} : Det (α := α) fun _ => False := ⟨fun _ h => h, fun h => h.elim⟩
theorem Det.and {α : Type} {p : Prop} {X : (α → Prop) → Prop} (h : Det X) : Det fun K => p ∧ X K :=
  ⟨fun hk k => ⟨k.1, h.mono hk k.2⟩, fun k => let ⟨a, ha, hx⟩ := h.det k.2; ⟨a, ha, k.1, hx⟩⟩
theorem Det.ex {α β : Type} {X : β → (α → Prop) → Prop} (h : ∀ b, Det (X b)) : Det fun K => ∃ b, X b K :=
  ⟨fun hk ⟨b, k⟩ => ⟨b, (h b).mono hk k⟩, fun ⟨b, k⟩ => let ⟨a, ha, hx⟩ := (h b).det k; ⟨a, ha, b, hx⟩⟩
theorem Det.or {α : Type} {X Y : (α → Prop) → Prop} (h : Det X) (k : Det Y) : Det fun K => X K ∨ Y K :=
  ⟨fun hk h' => h'.imp (h.mono hk) (k.mono hk), fun h' => h'.elim (fun h' => let ⟨a, ha, hx⟩ := h.det h'; ⟨a, ha, .inl hx⟩) (fun h' => let ⟨a, ha, hx⟩ := k.det h'; ⟨a, ha, .inr hx⟩)⟩
theorem Det.bnd {α β : Type} {o : Option β} {X : β → (α → Prop) → Prop} (h : ∀ b, Det (X b)) : Det fun K => Vm.bnd o fun b => X b K := Det.ex fun b => (h b).and
theorem Det.map {α β : Type} {X : (β → Prop) → Prop} {f : β → α} (h : Det X) : Det fun K => X fun b => K (f b) :=
  ⟨fun hk k => h.mono (fun b hb => hk _ hb) k, fun k => let ⟨b, hb, hx⟩ := h.det k; ⟨f b, hb, h.mono (fun c hc => by rw [hc]) hx⟩⟩

theorem det_joinV (t : TypeId) (cs : List V) (o : Nat) : Det fun K => joinV P t cs o K := by
  unfold joinV
  refine Det.bnd fun g => ?_
  cases g
  · simp only [Bool.false_eq_true, if_false]; exact Det.bnd fun _ => Det.ret _
  · simp only [if_true]; exact Det.bnd fun _ => Det.and (Det.ret _)

theorem det_loadV (t : TypeId) (h : List Blk) (a : V) : Det fun K => loadV P G t h a K := by
  unfold loadV
  split
  · exact Det.ex fun _ => Det.ex fun _ => Det.and (Det.map (det_joinV ..))
  · split
    · exact Det.and (Det.ret _)
    · exact Det.and (Det.ret _)
    · exact Det.no
  · split
    · exact Det.bnd fun _ => Det.ret _
    · exact Det.bnd fun _ => Det.ex fun _ => Det.and (Det.and (Det.and (Det.and (Det.ret _))))
    · exact Det.no
  · exact Det.no

theorem det_storeV (t : TypeId) (h : List Blk) (a v : V) : Det fun K => storeV P t h a v K := by
  unfold storeV
  split
  · exact Det.and (Det.and (Det.ex fun _ => Det.ex fun _ => Det.and (Det.and (Det.ret _))))
  · exact Det.no

theorem det_partAtV (t : TypeId) (off : Nat) (a : V) : Det fun K => partAtV P t off a K := by
  unfold partAtV
  split
  · exact Det.ret _
  · rename_i cs
    refine ⟨fun hk k => (det_joinV t cs off).mono (fun b hb => ⟨hb.1, hk _ hb.2⟩) k, fun k => ?_⟩
    obtain ⟨b, hb, hx⟩ := (det_joinV t cs off).det k
    exact ⟨_, hb.2, (det_joinV t cs off).mono (fun c hc => by subst hc; exact ⟨hb.1, rfl⟩) hx⟩
  · exact Det.ret _
  · exact Det.no

theorem det_buildV (t : TypeId) (ps : List (Nat × V)) : Det fun K => buildV P t ps K := by
  unfold buildV
  exact Det.bnd fun _ => Det.and (Det.or (Det.ex fun _ => Det.and (Det.bnd fun _ => Det.ret _)) (Det.ex fun _ => Det.ex fun _ => Det.ex fun _ => Det.and (Det.bnd fun _ => Det.ret _)))

theorem det_buildSliceV (t : TypeId) (n : Nat) (ps : List (Nat × V)) : Det fun K => buildSliceV P t n ps K := by
  unfold buildSliceV
  exact Det.bnd fun _ => Det.and (Det.and (Det.and (Det.bnd fun _ => Det.and (Det.and (Det.bnd fun _ => Det.ret _)))))

theorem det_makeSliceV (t : TypeId) (a b : V) : Det fun K => makeSliceV P t a b K := by
  unfold makeSliceV
  split
  · exact Det.bnd fun _ => Det.and (Det.and (Det.bnd fun _ => Det.and (Det.and (Det.and (Det.ret _)))))
  · exact Det.no

theorem det_sliceV (z : Nat) (a : V) (k : Nat) (lo hi mx : Int) : Det fun K => sliceV z a k lo hi mx K := by
  unfold sliceV
  refine Det.and ?_
  split
  · exact Det.and (Det.ret _)
  · exact Det.and (Det.ret _)
  · exact Det.ret _
  · exact Det.no

theorem det_slicesV (s : St) (t : TypeId) (a : V) (lo hi mx : Option Operand) : Det fun K => slicesV P s t a lo hi mx K := by
  unfold slicesV
  refine Det.bnd fun _ => Det.and (Det.bnd fun _ => Det.bnd fun _ => Det.bnd fun _ => ?_)
  split
  · exact det_sliceV ..
  · exact Det.and (Det.bnd fun _ => det_sliceV ..)

theorem det_sliceOpV (s : St) (t : TypeId) (a : V) (lo hi mx : Option Operand) : Det fun K => sliceOpV P s t a lo hi mx K := by
  unfold sliceOpV
  split
  · exact Det.and (Det.bnd fun _ => Det.bnd fun _ => Det.and (Det.ret _))
  · exact det_slicesV ..

theorem det_appendV (t t2 : TypeId) (h : List Blk) (a b : V) : Det fun K => appendV P t t2 h a b K := by
  unfold appendV
  refine Det.bnd fun _ => Det.and (Det.and (Det.and (Det.bnd fun _ => Det.and (Det.bnd fun _ => ?_))))
  split
  · exact Det.and (Det.ret _)
  · exact Det.and (Det.ex fun _ => Det.and (Det.and (Det.and (Det.ret _))))
  · exact Det.no

theorem det_sameV (op : BinOp) (b : Bool) : Det fun K => sameV op b K := by
  unfold sameV; split
  · exact Det.ret _
  · exact Det.ret _
  · exact Det.no

theorem det_strV (op : BinOp) (a b : ByteArray) : Det fun K => strV op a b K := by
  unfold strV; split
  · exact Det.and (Det.ret _)
  · exact Det.ret _
  · exact Det.ret _
  · exact Det.no

theorem det_intV (op : BinOp) (k : IntKind) (a b : Int) : Det fun K => intV op k a b K := by
  unfold intV; split <;> first | exact Det.ret _ | exact Det.and (Det.ret _) | exact Det.no

theorem det_ifEqV (op : BinOp) (u v : TypeId) (a b : V) : Det fun K => ifEqV P u v a b fun r => sameV op r K := by
  unfold ifEqV
  split
  · split
    · exact Det.and (Det.and (Det.bnd fun _ => Det.bnd fun _ => det_sameV ..))
    · exact Det.no
  · exact det_sameV ..
theorem det_binV (op : BinOp) (t : TypeId) (c : Bool) (a b : V) : Det fun K => binV P op t c a b K := by
  unfold binV
  repeat' split
  all_goals first
    | exact Det.no
    | exact Det.and (Det.ret _)
    | exact Det.and (det_ifEqV ..)
    | exact Det.and (det_intV ..)
    | exact Det.and (det_sameV ..)
    | exact det_strV ..
    | exact Det.and (Det.and (det_sameV ..))
    | exact Det.bnd fun _ => Det.bnd fun _ => Det.and (Det.and (det_sameV ..))

theorem det_convV (a b : TypeId) (v : V) : Det fun K => convV P a b v K := by
  unfold convV
  split
  · exact Det.and (Det.bnd fun _ => Det.ret _)
  · exact Det.and (Det.or (Det.and (Det.ret _)) (Det.and (Det.and (Det.ret _))))
  · exact Det.no

theorem det_lenB (t : TypeId) (a : V) : Det fun K => lenB P t a K := by
  unfold lenB
  split
  · exact Det.and (Det.ret _)
  · exact Det.and (Det.bnd fun _ => Det.and (Det.bnd fun _ => Det.ret _))

theorem det_builtinV (b : Builtin) (ts : List TypeId) (h : List Blk) (as : List V) : Det fun K => builtinV P b ts h as K := by
  unfold builtinV minmaxB
  split
  · exact det_lenB ..
  · exact det_appendV ..
  · split
    · exact Det.bnd fun _ => Det.ret _
    · exact Det.no
  · split
    · exact Det.bnd fun _ => Det.ret _
    · exact Det.no
  · exact Det.no

theorem det_unV (op : UnOp) (a : V) : Det fun K => unV op a K := by
  unfold unV; split <;> first | exact Det.ret _ | exact Det.no

theorem det_opV (o : Op) (s : St) : Det fun K => opV P G o s K := by
  cases o <;> simp only [opV] <;> try exact Det.no
  case move => exact Det.bnd fun _ => Det.ret _
  case assign => exact Det.bnd fun _ => Det.ret _
  case pick c a b =>
    refine Det.bnd fun cv => ?_
    split
    · rename_i t
      cases t
      · have h : Det fun K : Eff → Prop => bnd (ev s b) fun v => K (.q v) := Det.bnd fun _ => Det.ret _
        refine ⟨fun hk k => ⟨fun e => (by cases e), fun e => h.mono hk (k.2 e)⟩, fun k => ?_⟩
        obtain ⟨a, ha, hx⟩ := h.det (k.2 rfl)
        exact ⟨a, ha, fun e => (by cases e), fun _ => hx⟩
      · have h : Det fun K : Eff → Prop => bnd (ev s a) fun v => K (.q v) := Det.bnd fun _ => Det.ret _
        refine ⟨fun hk k => ⟨fun e => h.mono hk (k.1 e), fun e => (by cases e)⟩, fun k => ?_⟩
        obtain ⟨a, ha, hx⟩ := h.det (k.1 rfl)
        exact ⟨a, ha, fun _ => hx, fun e => (by cases e)⟩
    · exact Det.no
  case alloc => exact Det.bnd fun _ => Det.and (Det.ret _)
  case box => exact Det.bnd fun _ => Det.and (Det.ret _)
  case build => exact Det.bnd fun _ => det_buildV ..
  case buildSlice => exact Det.bnd fun _ => det_buildSliceV ..
  case load => exact Det.bnd fun _ => det_loadV ..
  case store => exact Det.bnd fun _ => Det.bnd fun _ => det_storeV ..
  case nilCheck => exact Det.bnd fun _ => Det.and (Det.ret _)
  case binOp => exact Det.bnd fun _ => Det.bnd fun _ => Det.map (det_binV ..)
  case unOp => exact Det.bnd fun _ => Det.map (det_unV ..)
  case convert => exact Det.bnd fun _ => det_convV ..
  case makeInterface => exact Det.bnd fun _ => Det.and (Det.ret _)
  case makeFunc => exact Det.bnd fun _ => Det.bnd fun _ => Det.ret _
  case makeSlice => exact Det.bnd fun _ => Det.bnd fun _ => det_makeSliceV ..
  case slice => exact Det.bnd fun _ => det_sliceOpV ..
  case fieldAddr => exact Det.bnd fun _ => by unfold fieldAddrV; exact Det.bnd fun _ => Det.bnd fun _ => Det.and (det_partAtV ..)
  case field =>
    refine Det.bnd fun _ => ?_
    unfold fieldV
    split
    · exact Det.bnd fun _ => Det.map (det_joinV ..)
    · exact Det.no
  case indexAddr =>
    refine Det.bnd fun _ => Det.bnd fun _ => ?_
    unfold indexAddrV
    split
    · refine Det.bnd fun _ => ?_
      split
      · exact Det.and (det_partAtV ..)
      · exact Det.and (Det.and (Det.ret _))
      · exact Det.and (Det.and (Det.bnd fun _ => Det.ret _))
      · exact Det.no
    · exact Det.no
  case index =>
    refine Det.bnd fun _ => Det.bnd fun _ => ?_
    unfold indexV
    split
    · split
      · exact Det.bnd fun _ => Det.bnd fun _ => Det.and (Det.map (det_joinV ..))
      · exact Det.and (Det.and (Det.ret _))
      · exact Det.no
    · exact Det.no
  case extract =>
    refine Det.bnd fun _ => ?_
    split
    · exact Det.bnd fun _ => Det.ret _
    · exact Det.no
  case call c =>
    obtain ⟨callee, args, ats⟩ := c
    cases callee
    · exact Det.no
    · exact Det.no
    · exact Det.bnd fun _ => det_builtinV ..

end Go.Vm

namespace Go.Vm
open Go Go.RowKit
variable {P : Program} {G : Addr → Option Value} {F F' : Nat → Prop} {w w' : World} {φ φ1 : Nat → Option (Nat × Nat)} {h : List Blk}

def blkOf : Option V → List Nat
  | some (.p i _) => [i]
  | some (.sl _ i _ _) => [i]
  | _ => []

/-- The blocks that an operation looks at. -/
def heapOf (o : Op) (s : St) : List Nat :=
  match o with
  | .load _ a => blkOf (ev s a)
  | .store _ a _ => blkOf (ev s a)
  | .call { callee := .builtin .append, args, .. } => args.toList.flatMap fun x => blkOf (ev s x)
  | _ => []

theorem evs_mem {s : St} : ∀ {xs : List Operand} {vs : List V}, evs s xs = some vs → ∀ v ∈ vs, ∃ x ∈ xs, ev s x = some v
  | [], vs, h, v, hv => by simp only [evs, Option.some.injEq] at h; subst h; cases hv
  | x :: xs, vs, h, v, hv => by
    simp only [evs] at h
    split at h
    · rename_i u us h1 h2
      cases h
      rcases List.mem_cons.1 hv with rfl | hv
      · exact ⟨x, List.mem_cons_self .., h1⟩
      · obtain ⟨x', hx, he⟩ := evs_mem h2 v hv
        exact ⟨x', List.mem_cons_of_mem _ hx, he⟩
    · cases h

theorem loadV_local {t : TypeId} {h h' : List Blk} {a : V} {K : Eff → Prop} (hp : ∀ i ∈ blkOf (some a), h'[i]? = h[i]?) (k : loadV P G t h a K) : loadV P G t h' a K := by
  unfold loadV at k ⊢
  split at k
  · rename_i i o
    rw [show h'[i]? = h[i]? from hp i (by simp [blkOf])]; exact k
  all_goals exact k

theorem storeV_local {t : TypeId} {h h' : List Blk} {a v : V} {K : Eff → Prop} (hp : ∀ i ∈ blkOf (some a), h'[i]? = h[i]?) (k : storeV P t h a v K) : storeV P t h' a v K := by
  unfold storeV at k ⊢
  split at k
  · rename_i i o
    rw [show h'[i]? = h[i]? from hp i (by simp [blkOf])]; exact k
  all_goals exact k

theorem srcV_local {h h' : List Blk} {z : Nat} {a : V} (hp : ∀ i ∈ blkOf (some a), h'[i]? = h[i]?) : srcV h' z a = srcV h z a := by
  unfold srcV
  split
  · rename_i i o k
    rw [show h'[i]? = h[i]? from hp i (by simp [blkOf])]
  all_goals rfl

theorem appendV_local {t t2 : TypeId} {h h' : List Blk} {a b : V} {K : Eff → Prop} (ha : ∀ i ∈ blkOf (some a), h'[i]? = h[i]?) (hb : ∀ i ∈ blkOf (some b), h'[i]? = h[i]?)
    (k : appendV P t t2 h a b K) : appendV P t t2 h' a b K := by
  unfold appendV at k ⊢
  obtain ⟨q, hq, k1, k2, k3, z, hz, k4, ms, hms, k⟩ := k
  refine ⟨q, hq, k1, k2, k3, z, hz, k4, ms, by rw [srcV_local hb]; exact hms, ?_⟩
  split at k
  · exact k
  · rename_i z' i o n
    rw [show h'[i]? = h[i]? from ha i (by simp [blkOf])]; exact k
  · exact k

theorem len_local {ts : List TypeId} {vs : List V} {h h' : List Blk} {K : Eff → Prop} (hk : builtinV P .len ts h vs K) : builtinV P .len ts h' vs K := by
  match ts, vs, hk with
  | t :: _, [a], hk => exact hk
  | [], _, hk => exact hk.elim
  | _ :: _, [], hk => exact hk.elim
  | _ :: _, _ :: _ :: _, hk => exact hk.elim

theorem append_local {ts : List TypeId} {vs : List V} {h h' : List Blk} {K : Eff → Prop} (hh : ∀ v ∈ vs, ∀ i ∈ blkOf (some v), h'[i]? = h[i]?) (hk : builtinV P .append ts h vs K) : builtinV P .append ts h' vs K := by
  match ts, vs, hh, hk with
  | [t, t2], [u, v], hh, hk => exact appendV_local (hh u (by simp)) (hh v (by simp)) hk
  | [], _, _, hk => exact hk.elim
  | [_], _, _, hk => exact hk.elim
  | _ :: _ :: _ :: _, _, _, hk => exact hk.elim
  | [_, _], [], _, hk => exact hk.elim
  | [_, _], [_], _, hk => exact hk.elim
  | [_, _], _ :: _ :: _ :: _, _, hk => exact hk.elim

theorem opV_local {o : Op} {s s' : St} {K : Eff → Prop} (tm : ∀ k ∈ opTmps o, get s'.t k = get s.t k) (hp : ∀ i ∈ heapOf o s, s'.h[i]? = s.h[i]?) (hk : opV P G o s K) : opV P G o s' K := by
  have e1 : ∀ x ∈ o.operands.toList, ev s' x = ev s x := fun x hx => ev_congr fun k hk => tm k (mem_opTmps (hk ▸ hx))
  cases o <;> simp only [opV] at hk ⊢ <;> simp only [Op.operands] at e1 <;> try exact hk
  case move x => rw [e1 x (by simp)]; exact hk
  case assign x => rw [e1 x (by simp)]; exact hk
  case pick c a b => rw [e1 c (by simp), e1 a (by simp), e1 b (by simp)]; exact hk
  case box e x => rw [e1 x (by simp)]; exact hk
  case build t ps =>
    rw [evParts_congr (s := s) fun k hk => tm k (mem_opTmps (by simpa [Op.operands] using hk))]; exact hk
  case buildSlice t n ps =>
    rw [evParts_congr (s := s) fun k hk => tm k (mem_opTmps (by simpa [Op.operands] using hk))]; exact hk
  case load t a =>
    rw [e1 a (by simp)]
    obtain ⟨v, hv, hk⟩ := hk
    exact ⟨v, hv, loadV_local (fun i hi => hp i (by simpa [heapOf, hv] using hi)) hk⟩
  case store t a x =>
    rw [e1 a (by simp), e1 x (by simp)]
    obtain ⟨v, hv, u, hu, hk⟩ := hk
    exact ⟨v, hv, u, hu, storeV_local (fun i hi => hp i (by simpa [heapOf, hv] using hi)) hk⟩
  case nilCheck x => rw [e1 x (by simp)]; exact hk
  case binOp op t x y yt => rw [e1 x (by simp), e1 y (by simp)]; exact hk
  case unOp op t x => rw [e1 x (by simp)]; exact hk
  case convert a b x => rw [e1 x (by simp)]; exact hk
  case makeInterface t x => rw [e1 x (by simp)]; exact hk
  case makeFunc f a b =>
    rw [evs_congr (s := s) (xs := a.toList) fun k hk => tm k (mem_opTmps (by simp [Op.operands]; exact .inl (by simpa using hk))),
      evs_congr (s := s) (xs := b.toList) fun k hk => tm k (mem_opTmps (by simp [Op.operands]; exact .inr (by simpa using hk)))]; exact hk
  case makeSlice t l c => rw [e1 l (by simp), e1 c (by simp)]; exact hk
  case slice t x lo hi mx =>
    rw [e1 x (by simp)]
    have eb : ∀ (d : Nat) (y : Option Operand), (∀ z, y = some z → z ∈ #[x] ++ lo.toArray ++ hi.toArray ++ mx.toArray) → boundV s' d y = boundV s d y := by
      intro d y hy
      cases y with
      | none => rfl
      | some z => simp only [boundV]; rw [e1 z (by simpa using hy z rfl)]
    obtain ⟨v, hv, hk⟩ := hk
    refine ⟨v, hv, ?_⟩
    unfold sliceOpV at hk ⊢
    split at hk
    · obtain ⟨hq, l, hl, hh, h2, hk⟩ := hk
      exact ⟨hq, l, by rw [eb 0 lo fun z hz => by simp [hz]]; exact hl, hh, by rw [eb _ hi fun z hz => by simp [hz]]; exact h2, hk⟩
    · rename_i hns
      split
      · rename_i x
        exact (hns x rfl).elim
      obtain ⟨q, hq, h1, k, hk', l, hl, h2, hh, hk⟩ := hk
      refine ⟨q, hq, h1, k, hk', l, by rw [eb 0 lo fun z hz => by simp [hz]]; exact hl, h2, by rw [eb k hi fun z hz => by simp [hz]]; exact hh, ?_⟩
      cases mx with
      | none => exact hk
      | some m =>
        obtain ⟨h3, mm, h4, hk⟩ := hk
        exact ⟨h3, mm, by rw [eb 0 (some m) fun z hz => by simp at hz; simp [hz]]; exact h4, hk⟩
  case fieldAddr t x f => rw [e1 x (by simp)]; exact hk
  case field t x f => rw [e1 x (by simp)]; exact hk
  case indexAddr t x i => rw [e1 x (by simp), e1 i (by simp)]; exact hk
  case index t x i => rw [e1 x (by simp), e1 i (by simp)]; exact hk
  case extract x i => rw [e1 x (by simp)]; exact hk
  case call c =>
    obtain ⟨callee, args, ats⟩ := c
    cases callee <;> simp only at hk ⊢ <;> try exact hk
    rename_i b
    rw [evs_congr (s := s) (xs := args.toList) fun k hk => tm k (mem_opTmps (by simpa [Op.operands, Call.operands] using hk))]
    obtain ⟨vs, hvs, hk⟩ := hk
    refine ⟨vs, hvs, ?_⟩
    cases b <;> try exact hk
    case builtin.len => exact len_local hk
    -- append
    have hh : ∀ v ∈ vs, ∀ i ∈ blkOf (some v), s'.h[i]? = s.h[i]? := by
      intro v hv i hi
      obtain ⟨x, hx, he⟩ := evs_mem hvs v hv
      exact hp i (by simp only [heapOf, List.mem_flatMap]; exact ⟨x, hx, by rw [he]; exact hi⟩)
    exact append_local hh hk

/-! ### One step that comes out alike wherever its part of the heap is alike -/

/-- What a heap becomes, where that part of it becomes what it becomes. -/
def Patch (h h' : List Blk) (wr : List Nat) (H H' : List Blk) : Prop :=
  H'.length = H.length ∧ ∀ i, H'[i]? = if i ∈ wr ∨ (h.length ≤ i ∧ i < h'.length) then h'[i]? else H[i]?

structure Same (ts : List Nat) (s s' : St) (rd wr : List Nat) (h' : List Blk) : Prop where
  tm : ∀ k ∈ ts, get s'.t k = get s.t k
  rd : ∀ i ∈ rd, s'.h[i]? = s.h[i]?
  wr : ∀ i ∈ wr, s'.h[i]? = s.h[i]?
  nw : ∀ i, s.h.length ≤ i → i < h'.length → s'.h[i]? = some .rsv

structure Tidy (h h' : List Blk) (rd wr : List Nat) : Prop where
  rlt : ∀ i ∈ rd, i < h.length
  lt : ∀ i ∈ wr, i < h.length
  len : h.length ≤ h'.length
  keep : ∀ i, i < h.length → i ∉ wr → h'[i]? = h[i]?

def Out (P : Program) (G : Addr → Option Value) (F : Nat → Prop) (r : Option Nat) (w : World) (φ : Nat → Option (Nat × Nat)) (o : Oper) (hs : List Blk) (a : Act) (v : V) (H' : List Blk) : Prop :=
  ∀ (next : Act → World → Prop) (Q : Exit → Act → World → Prop),
    (∀ w' φ' y, Cn (en F w' φ' H') v y → RH G F w' φ' H' → Ext (en F w φ hs) (en F w' φ' H') → next (a.put o.dst y) w') → o.wpIn (FW r) 0 P a w next Q

def Robust (P : Program) (G : Addr → Option Value) (o : Op) (s : St) (v : V) (h' : List Blk) (rd wr : List Nat) : Prop :=
  Tidy s.h h' rd wr ∧ ∀ (r : Option Nat) (n : Nat) (F : Nat → Prop) (w : World) (φ : Nat → Option (Nat × Nat)) (s' : St) (a : Act) (H' : List Blk) (o' : Oper), o'.op = o → At G F w φ n s' a → Same (opTmps o) s s' rd wr h' → Patch s.h h' wr s'.h H' →
    Out P G F r w φ o' s'.h a v H'

theorem opOut {s' : St} {a : Act} {n : Nat} {o : Oper} {r : Option Nat} {e : Eff} (ra : At G F w φ n s' a) (hk : opV P G o.op s' (· = e)) {H' : List Blk} {v : V}
    (hn : ∀ w' φ' y, Cn (en F w' φ' (e.heap s'.h)) (e.val s'.h) y → RH G F w' φ' (e.heap s'.h) → Ext (en F w φ s'.h) (en F w' φ' (e.heap s'.h)) →
      ∃ φ2, Cn (en F w' φ2 H') v y ∧ RH G F w' φ2 H' ∧ Ext (en F w φ s'.h) (en F w' φ2 H')) : Out P G F r w φ o s'.h a v H' := by
  intro next Q hnext
  refine ⟨fun _ _ => trivial, ?_⟩
  obtain ⟨y, w', φ', e', hrun, he, hc, hr, hx⟩ := op_sound (P := P) ra.rep hk
  subst he
  obtain ⟨φ2, h1, h2, h3⟩ := hn w' φ' y hc hr hx
  rw [show (FW r).round = r from rfl, Oper.semAt_eq r a.eval o (by intro c hc; rw [hc] at hk; exact hk)]
  rcases hrun with hrun | ⟨hrun, rfl⟩
  · rw [hrun, Oper.uponIn_value]; exact hnext w' φ2 _ h1 h2 h3
  · rw [hrun, Oper.uponIn_skip]; exact hnext w' φ2 undef h1 h2 h3

theorem patch_eq {h h' : List Blk} {wr : List Nat} {H H' X : List Blk} (p : Patch h h' wr H H') (hx : ∀ i, X[i]? = if i ∈ wr ∨ (h.length ≤ i ∧ i < h'.length) then h'[i]? else H[i]?) : H' = X := by
  apply List.ext_getElem?
  intro i
  rw [p.2 i, hx i]

def effOk (h : List Blk) : Eff → Prop
  | .st i _ => i < h.length
  | .mv i _ _ => i < h.length
  | _ => True

def wrOf : Eff → List Nat
  | .st i _ => [i]
  | .mv i _ _ => [i]
  | _ => []

theorem not_at {X : List Blk} {b : Blk} {j : Nat} (h : (en F w φ (X ++ List.replicate 1 Blk.rsv ++ [b])).dom j) : j ≠ X.length := by
  rintro rfl
  obtain ⟨k, hk, hd⟩ := h
  simp at hk
  subst hk; cases hd

theorem clX_of {X : List Blk} {b : Blk} (r2 : RH G F w φ (X ++ List.replicate 1 Blk.rsv ++ [b])) : (∀ (i : Nat) (k : Blk), X[i]? = some k → k.ok (· ≠ X.length)) ∧ b.ok (· ≠ X.length) := by
  refine ⟨fun i k hk => ?_, ?_⟩
  · have hi := (List.getElem?_eq_some_iff.1 hk).1
    have : (X ++ List.replicate 1 Blk.rsv ++ [b])[i]? = some k := by
      rw [List.append_assoc, List.getElem?_append_left hi]; exact hk
    exact Blk.ok_mono (fun j hj => not_at hj) (RepB.okd (r2.rep i k this))
  · have : (X ++ List.replicate 1 Blk.rsv ++ [b])[X.length + 1]? = some b := by simp
    exact Blk.ok_mono (fun j hj => not_at hj) (RepB.okd (r2.rep _ b this))

theorem robust_op {o : Op} {s : St} {K : Eff → Prop} (hk : opV P G o s K) : ∃ e, K e ∧ (effOk s.h e → (∀ i ∈ heapOf o s, i < s.h.length) → Robust P G o s (e.val s.h) (e.heap s.h) (heapOf o s) (wrOf e)) := by
  obtain ⟨e, he, hk⟩ := (det_opV o s).det hk
  refine ⟨e, he, fun hok hrd => ?_⟩
  have pads : ∀ {s' : St} {o' : Oper}, o'.op = o → Same (opTmps o) s s' (heapOf o s) (wrOf e) (e.heap s.h) → opV P G o'.op { s' with h := s'.h ++ List.replicate 1 Blk.rsv } (· = e) := by
    rintro s' o' rfl hs
    refine opV_local (s := s) hs.tm (fun i hi => ?_) hk
    rw [show (s'.h ++ List.replicate 1 Blk.rsv)[i]? = s'.h[i]? from List.getElem?_append_left ?_]
    · exact hs.rd i hi
    · have := hs.rd i hi
      rw [List.getElem?_eq_getElem (hrd i hi)] at this
      exact (List.getElem?_eq_some_iff.1 this).1
  cases e with
  | q v =>
    refine ⟨⟨hrd, by simp [wrOf], by simp [Eff.heap], by simp [Eff.heap]⟩, ?_⟩
    rintro r n F w φ s' a H' o' rfl ra hs hp
    have hH : H' = s'.h := patch_eq hp fun i => by
      rw [if_neg]
      simp only [wrOf, Eff.heap]
      rintro (h | h)
      · cases h
      · omega
    subst hH
    exact opOut ra (opV_local hs.tm hs.rd hk) fun w' φ' y h1 h2 h3 => ⟨φ', h1, h2, h3⟩
  | st i b =>
    simp only [effOk] at hok
    refine ⟨⟨hrd, by simp [wrOf, hok], by simp [Eff.heap], ?_⟩, ?_⟩
    · intro j hj hn
      simp only [Eff.heap]
      rw [List.getElem?_set_ne]
      simp only [wrOf, List.mem_singleton] at hn
      exact fun e => hn e.symm
    · rintro r n F w φ s' a H' o' rfl ra hs hp
      have hi : s'.h[i]? = s.h[i]? := hs.wr i (by simp [wrOf])
      have hil : i < s'.h.length := by
        rw [List.getElem?_eq_getElem hok] at hi
        exact (List.getElem?_eq_some_iff.1 hi).1
      have hH : H' = s'.h.set i b := patch_eq hp fun j => by
        simp only [wrOf, Eff.heap, List.length_set, List.mem_singleton]
        by_cases hj : j = i
        · subst hj
          rw [if_pos (.inl rfl), List.getElem?_set_self hil, List.getElem?_set_self hok]
        · rw [List.getElem?_set_ne (fun e => hj e.symm), if_neg]
          rintro (h | h)
          · exact hj h
          · omega
      subst hH
      exact opOut ra (opV_local hs.tm hs.rd hk) fun w' φ' y h1 h2 h3 => ⟨φ', h1, h2, h3⟩
  | nw f b =>
    refine ⟨⟨hrd, by simp [wrOf], by simp [Eff.heap], fun i hi _ => by simp only [Eff.heap]; rw [List.getElem?_append_left hi]⟩, ?_⟩
    rintro r n F w φ s' a H' o' rfl ra hs hp
    have hr : s'.h[s.h.length]? = some .rsv := hs.nw _ (Nat.le_refl _) (by simp [Eff.heap])
    have hrl := (List.getElem?_eq_some_iff.1 hr).1
    have hH : H' = s'.h.set s.h.length b := patch_eq hp fun j => by
      simp only [wrOf, Eff.heap, List.length_append, List.length_singleton]
      by_cases hj : j = s.h.length
      · subst hj
        rw [if_pos (.inr ⟨Nat.le_refl _, by omega⟩), List.getElem?_set_self hrl]; simp
      · rw [List.getElem?_set_ne (fun e => hj e.symm), if_neg]
        rintro (h | h)
        · cases h
        · omega
    subst hH
    obtain ⟨y2, w2, φ2, e2, _, he2, _, hr2, _⟩ := op_sound (P := P) (o := o') (ra.pad (m := 1)).rep (pads rfl hs)
    subst he2
    simp only [Eff.heap] at hr2
    refine opOut ra (opV_local hs.tm hs.rd hk) fun w' φ' y h1 h2 h3 => ?_
    simp only [Eff.heap, Eff.val] at h1 h2 h3
    obtain ⟨c1, c2⟩ := clX_of hr2
    obtain ⟨φ3, g1, g2, g3⟩ := place (r := s.h.length) h2 c1 c2 hr h3 (fun i ⟨k, hk, hd⟩ => ⟨(List.getElem?_eq_some_iff.1 hk).1, by
      rintro rfl; rw [hr] at hk; cases hk; cases hd⟩)
    refine ⟨φ3, ?_, g1, g3⟩
    have := Cn.via g2 (v := f.at s'.h.length) (by cases f <;> simp [NV.at, V.ok]) h1
    cases f <;> simpa [NV.at, V.ren, Eff.val] using this
  | mv i f b =>
    simp only [effOk] at hok
    refine ⟨⟨hrd, by simp [wrOf, hok], by simp [Eff.heap], ?_⟩, ?_⟩
    · intro j hj hn
      simp only [Eff.heap]
      simp only [wrOf, List.mem_singleton] at hn
      rw [List.getElem?_append_left (by simpa using hj), List.getElem?_set_ne (fun e => hn e.symm)]
    rintro r n F w φ s' a H' o' rfl ra hs hp
    have hr : s'.h[s.h.length]? = some .rsv := hs.nw _ (Nat.le_refl _) (by simp [Eff.heap])
    have hrl := (List.getElem?_eq_some_iff.1 hr).1
    have hir : i ≠ s.h.length := by omega
    have hH : H' = (s'.h.set i .gone).set s.h.length b := patch_eq hp fun j => by
      simp only [wrOf, Eff.heap, List.length_append, List.length_singleton, List.length_set, List.mem_singleton]
      by_cases hj : j = s.h.length
      · subst hj
        rw [if_pos (.inr ⟨Nat.le_refl _, by omega⟩), List.getElem?_set_self (by simpa using hrl)]; simp
      · rw [List.getElem?_set_ne (fun e => hj e.symm)]
        by_cases hji : j = i
        · subst hji
          rw [if_pos (.inl rfl), List.getElem?_set_self (by omega), List.getElem?_append_left (by simpa using hok), List.getElem?_set_self hok]
        · rw [List.getElem?_set_ne (fun e => hji e.symm), if_neg]
          rintro (h | h)
          · exact hji h
          · omega
    subst hH
    obtain ⟨y2, w2, φ2, e2, _, he2, _, hr2, _⟩ := op_sound (P := P) (o := o') (ra.pad (m := 1)).rep (pads rfl hs)
    subst he2
    simp only [Eff.heap] at hr2
    rw [List.set_append_left _ _ (by omega)] at hr2
    refine opOut ra (opV_local hs.tm hs.rd hk) fun w' φ' y h1 h2 h3 => ?_
    simp only [Eff.heap, Eff.val] at h1 h2 h3
    obtain ⟨c1, c2⟩ := clX_of hr2
    obtain ⟨φ3, g1, g2, g3⟩ := place (r := s.h.length) h2 c1 c2 (by rw [List.getElem?_set_ne hir]; exact hr) h3 (fun j ⟨k, hk, hd⟩ => ⟨by simpa using (List.getElem?_eq_some_iff.1 hk).1, by
      rintro rfl; rw [hr] at hk; cases hk; cases hd⟩)
    refine ⟨φ3, ?_, g1, g3⟩
    have := Cn.via g2 (v := f.at s'.h.length) (by cases f <;> simp [NV.at, V.ok]) h1
    cases f <;> simpa [NV.at, V.ren, Eff.val] using this

end Go.Vm

namespace Go.Vm
open Go Go.RowKit
variable {P : Program} {G : Addr → Option Value} {F F' : Nat → Prop} {w w' : World} {φ φ1 : Nat → Option (Nat × Nat)} {h : List Blk}

/-- What a contract says that has one outcome. -/
def Ct (P : Program) (G : Addr → Option Value) (f : FuncId) (as : List V) (hs : List Blk) (v : V) (hs' : List Blk) : Prop := CallV P G f as hs fun u k => u = v ∧ k = hs'

/-- A call whose contract speaks of a few blocks, made where there are more. -/
structure Lift (hs hs' h h' : List Blk) (ρ ρ' : Nat → Nat) (rd wr : List Nat) : Prop where
  fit : Fit hs h ρ
  len : hs.length ≤ hs'.length
  same : ∀ i, i < hs.length → ρ' i = ρ i
  new : ∀ i, hs.length ≤ i → i < hs'.length → ρ' i = h.length + (i - hs.length)
  size : h'.length = h.length + (hs'.length - hs.length)
  at' : ∀ (i : Nat) (k : Blk), hs'[i]? = some k → h'[ρ' i]? = some (k.ren ρ')
  hrd : ∀ i, i < hs.length → ρ i ∈ rd
  rlt : ∀ i ∈ rd, i < h.length
  hwr : ∀ j ∈ wr, ∃ i, i < hs.length ∧ ρ i = j
  keep : ∀ j, j < h.length → j ∉ wr → h'[j]? = h[j]?

def CallD (P : Program) (G : Addr → Option Value) (f : FuncId) (xs : List V) (h : List Blk) (K : V → List Blk → List Nat → List Nat → Prop) [KTag K] : Prop :=
  ∃ as hs v hs' ρ ρ' h' rd wr, Ct P G f as hs v hs' ∧ okL (· < hs.length) as ∧ xs = renL ρ as ∧ Lift hs hs' h h' ρ ρ' rd wr ∧ K (v.ren ρ') h' rd wr

theorem CallD.mono {f : FuncId} {xs : List V} {K K' : V → List Blk → List Nat → List Nat → Prop} (hk : ∀ v h' rd wr, K v h' rd wr → K' v h' rd wr) (c : CallD P G f xs h K) : CallD P G f xs h K' :=
  let ⟨as, hs, v, hs', ρ, ρ', h', rd, wr, c1, c2, c3, c4, c5⟩ := c
  ⟨as, hs, v, hs', ρ, ρ', h', rd, wr, c1, c2, c3, c4, hk _ _ _ _ c5⟩

theorem Lift.lt {hs hs' h h' : List Blk} {ρ ρ' : Nat → Nat} {rd wr : List Nat} (l : Lift hs hs' h h' ρ ρ' rd wr) {i : Nat} (hi : i < hs.length) : ρ i < h.length :=
  (List.getElem?_eq_some_iff.1 (l.fit.im i hs[i] (List.getElem?_eq_getElem hi))).1

theorem Lift.tidy {hs hs' h h' : List Blk} {ρ ρ' : Nat → Nat} {rd wr : List Nat} (l : Lift hs hs' h h' ρ ρ' rd wr) : Tidy h h' rd wr :=
  ⟨l.rlt, fun j hj => let ⟨_, hi, e⟩ := l.hwr j hj; e ▸ l.lt hi, by rw [l.size]; omega, l.keep⟩

/-- In whatever heap that bears the few blocks in the same places. -/
theorem Lift.at {hs hs' h h' H H' : List Blk} {ρ ρ' : Nat → Nat} {rd wr : List Nat} (l : Lift hs hs' h h' ρ ρ' rd wr) (hrd : ∀ i ∈ rd, H[i]? = h[i]?)
    (hnw : ∀ i, h.length ≤ i → i < h'.length → H[i]? = some .rsv) (hp : Patch h h' wr H H') : Fit hs H ρ ∧ Refit hs hs' H H' ρ ρ' := by
  have len := l.len
  have size := l.size
  refine ⟨⟨fun i k hk => ?_, l.fit.inj, l.fit.dm, l.fit.cl⟩, ⟨l.len, l.same, ?_, ?_, ?_, ?_⟩⟩
  · rw [hrd _ (l.hrd i (List.getElem?_eq_some_iff.1 hk).1)]; exact l.fit.im i k hk
  · intro i j hi hj e
    rcases Nat.lt_or_ge i hs.length with h1 | h1 <;> rcases Nat.lt_or_ge j hs.length with h2 | h2
    · rw [l.same i h1, l.same j h2] at e; exact l.fit.inj i j h1 h2 e
    · rw [l.same i h1, l.new j h2 hj] at e; have := l.lt h1; omega
    · rw [l.new i h1 hi, l.same j h2] at e; have := l.lt h2; omega
    · rw [l.new i h1 hi, l.new j h2 hj] at e; omega
  · intro i k hk
    have hi := (List.getElem?_eq_some_iff.1 hk).1
    rw [hp.2]
    rcases Nat.lt_or_ge i hs.length with h1 | h1
    · split
      · exact l.at' i k hk
      · rename_i hn
        have hlt := l.lt h1
        rw [← l.at' i k hk, l.same i h1, hrd _ (l.hrd i h1)]
        exact (l.keep _ hlt fun hw => hn (.inl (by rw [l.same i h1]; exact hw))).symm
    · rw [if_pos]
      · exact l.at' i k hk
      · right; rw [l.new i h1 hi]; omega
  · intro i h1 h2
    rw [l.new i h1 h2]
    exact hnw _ (by omega) (by omega)
  · intro j hj
    rw [hp.2, if_neg]
    rintro (h1 | ⟨h1, h2⟩)
    · obtain ⟨i, hi, e⟩ := l.hwr j h1
      exact hj i (by omega) ((l.same i hi).trans e)
    · refine hj (hs.length + (j - h.length)) (by omega) ?_
      rw [l.new _ (by omega) (by omega)]; omega

theorem call_after {f : FuncId} {as : List V} {hs hs' h h' H H' : List Blk} {ρ ρ' : Nat → Nat} {rd wr : List Nat} {v : V} {xs : List Value} (hc : Ct P G f as hs v hs') (ok : okL (· < hs.length) as)
    (l : Lift hs hs' h h' ρ ρ' rd wr) (hrd : ∀ i ∈ rd, H[i]? = h[i]?) (hnw : ∀ i, h.length ≤ i → i < h'.length → H[i]? = some .rsv) (hp : Patch h h' wr H H')
    (r : RH G F w φ H) (hx : CnL (en F w φ H) (renL ρ as) xs) :
    CallsIn (FW none) 0 P f xs.toArray w fun e w' => ∃ y φ', e = .returned y ∧ Cn (en F w' φ' H') (v.ren ρ') y ∧ RH G F w' φ' H' ∧ Ext (en F w φ H) (en F w' φ' H') := by
  obtain ⟨ft, rf⟩ := l.at hrd hnw hp
  refine CallsIn.mono (frame_in hc ft ok r hx) ?_
  rintro e w' ⟨y, φ1, u, k, rfl, ⟨rfl, rfl⟩, h1, h2, h3⟩
  obtain ⟨φ', g1, g2, g3⟩ := refit r ft rf h1 h2 h3
  exact ⟨y, φ', rfl, g1, g2, g3⟩

theorem patch_pad {hs hs' h h' : List Blk} {ρ ρ' : Nat → Nat} {rd wr : List Nat} (l : Lift hs hs' h h' ρ ρ' rd wr) : Patch h h' wr (h ++ List.replicate (hs'.length - hs.length) Blk.rsv) h' := by
  have size := l.size
  refine ⟨by simp [size], fun i => ?_⟩
  split
  · rfl
  · rename_i hn
    rcases Nat.lt_or_ge i h.length with hi | hi
    · rw [List.getElem?_append_left hi]
      exact l.keep i hi fun hw => hn (.inl hw)
    · rcases Nat.lt_or_ge i h'.length with h2 | h2
      · exact absurd (.inr ⟨hi, h2⟩) hn
      · rw [List.getElem?_eq_none h2, List.getElem?_eq_none (by simp; omega)]

/-- A call within a frame, one behind the other. -/
theorem CallD.callV {f : FuncId} {xs : List V} {K : V → List Blk → Prop} (c : CallD P G f xs h fun v h' _ _ => K v h') : CallV P G f xs h K := by
  obtain ⟨as, hs, v, hs', ρ, ρ', h', rd, wr, c1, c2, rfl, c4, c5⟩ := c
  refine ⟨c1.1, fun F w φ ys r hx => ?_⟩
  have h1 : ∀ i ∈ (rd.filter (· < h.length)), (h ++ List.replicate (hs'.length - hs.length) Blk.rsv)[i]? = h[i]? := fun i hi => by
    rw [List.getElem?_append_left (by simpa using (List.mem_filter.1 hi).2)]
  have l' : Lift hs hs' h h' ρ ρ' (rd.filter (· < h.length)) wr := { c4 with hrd := fun i hi => List.mem_filter.2 ⟨c4.hrd i hi, by simpa using c4.lt hi⟩, rlt := fun i hi => by simpa using (List.mem_filter.1 hi).2 }
  refine CallsIn.mono (call_after c1 c2 l' h1 (fun i hi hi' => ?_) (patch_pad c4) (rh_pad r) (hx.ext ext_pad)) ?_
  · have size := c4.size
    rw [List.getElem?_append_right hi, List.getElem?_replicate, if_pos (by omega)]
  · rintro e w' ⟨y, φ', rfl, g1, g2, g3⟩
    exact ⟨y, φ', _, h', rfl, c5, g1, g2, ext_pad.trans g3⟩

theorem Ct.callV {f : FuncId} {as : List V} {hs hs' : List Blk} {v : V} {K : V → List Blk → Prop} (c : Ct P G f as hs v hs') (k : K v hs') : CallV P G f as hs K :=
  CallV.mono c fun _ _ ⟨e1, e2⟩ => by rw [e1, e2]; exact k

theorem renL_append (ρ : Nat → Nat) : ∀ (xs ys : List V), renL ρ (xs ++ ys) = renL ρ xs ++ renL ρ ys
  | [], _ => rfl
  | x :: xs, ys => by simp [renL, renL_append ρ xs ys]

theorem cnL_append {e : En} : ∀ {as bs : List V} {xs ys : List Value}, CnL e as xs → CnL e bs ys → CnL e (as ++ bs) (xs ++ ys) := by
  intro as
  induction as with
  | nil => intro bs xs ys h k; simp only [CnL] at h; subst h; simpa using k
  | cons a as ih =>
    intro bs xs ys h k
    simp only [CnL] at h
    obtain ⟨x, xs', rfl, hx, hl⟩ := h
    simp only [List.cons_append, CnL]
    exact ⟨x, _, rfl, hx, ih hl k⟩

/-- A call, as one step that comes out alike. -/
theorem robust_call {f : Operand} {args : Array Operand} {ats : Array TypeId} {s : St} {g : FuncId} {a b as : List V} {K : V → List Blk → List Nat → List Nat → Prop} (hf : ev s f = some (.fn (.func g) a b))
    (has : evs s args.toList = some as) (c : CallD P G g (a ++ as ++ b) s.h K) :
    ∃ v h' rd wr, K v h' rd wr ∧ Robust P G (.call { callee := .value f, args, argTypes := ats }) s v h' rd wr := by
  obtain ⟨as1, hs, v, hs', ρ, ρ', h', rd, wr, c1, c2, c3, c4, c5⟩ := c
  refine ⟨_, h', rd, wr, c5, c4.tidy, ?_⟩
  intro r n F w φ s' ac H' o' ho ra hs1 hp next Q hn
  refine ⟨fun _ _ => trivial, ?_⟩
  have hf' : ev s' f = some (.fn (.func g) a b) := by
    rw [ev_congr fun k hk => hs1.tm k (mem_opTmps (by simp [Op.operands, Call.operands, hk]))]; exact hf
  have has' : evs s' args.toList = some as := by
    rw [evs_congr (s := s) fun k hk => hs1.tm k (mem_opTmps (by simp [Op.operands, Call.operands]; exact .inr (by simpa using hk)))]; exact has
  have hfc := ev_cn ra.rep hf'
  have hac := evs_map ra.rep has'
  simp only [Cn] at hfc
  obtain ⟨xs, ys, hv, hxs, hys⟩ := hfc
  have hrun : (execOp ac.eval o').run P w = .ok (.enter g (xs ++ args.map ac.eval ++ ys)) w := by
    simp [execOp, ho, resolve, Deferred.ofValue, hv, invoke, run_callFunc c1.1]
  rw [show (FW r).round = r from rfl, sem_call _ _ _ ho, hrun, Oper.uponIn_enter]
  refine ⟨fun hd => by simp [FW] at hd, ?_⟩
  have hcl : CnL (en F w φ s'.h) (renL ρ as1) (xs ++ args.map ac.eval ++ ys).toList := by
    rw [← c3]
    simp only [Array.toList_append]
    exact cnL_append (cnL_append hxs hac) hys
  have := call_after c1 c2 c4 hs1.rd hs1.nw hp ra.heap hcl
  simp only [Array.toArray_toList] at this
  refine CallsIn.mono this ?_
  rintro e w' ⟨y, φ', rfl, g1, g2, g3⟩
  exact hn w' φ' y g1 g2 g3

/-- A call of a method of what is behind an interface, as one step that comes out alike. -/
theorem robust_inv {x : Operand} {name : String} {args : Array Operand} {ats : Array TypeId} {s : St} {t : TypeId} {v rv : V} {g : FuncId} {as : List V} {K : V → List Blk → List Nat → List Nat → Prop} (hf : ev s x = some (.iface t v))
    (has : evs s args.toList = some as) (hm : MethV P t v name g rv) (c : CallD P G g (rv :: as) s.h K) :
    ∃ v h' rd wr, K v h' rd wr ∧ Robust P G (.call { callee := .invoke x name, args, argTypes := ats }) s v h' rd wr := by
  obtain ⟨as1, hs, v1, hs', ρ, ρ', h', rd, wr, c1, c2, c3, c4, c5⟩ := c
  refine ⟨_, h', rd, wr, c5, c4.tidy, ?_⟩
  intro r n F w φ s' ac H' o' ho ra hs1 hp next Q hn
  refine ⟨fun _ _ => trivial, ?_⟩
  have hf' : ev s' x = some (.iface t v) := by
    rw [ev_congr fun k hk => hs1.tm k (mem_opTmps (by simp [Op.operands, Call.operands, hk]))]; exact hf
  have has' : evs s' args.toList = some as := by
    rw [evs_congr (s := s) fun k hk => hs1.tm k (mem_opTmps (by simp [Op.operands, Call.operands]; exact .inr (by simpa using hk)))]; exact has
  have hxc := ev_cn ra.rep hf'
  have hac := evs_map ra.rep has'
  simp only [Cn] at hxc
  obtain ⟨u, hu, hcu⟩ := hxc
  obtain ⟨y, hrunM, hcy⟩ := hm _ u w hcu
  have hrun : (execOp ac.eval o').run P w = .ok (.enter g (#[y] ++ args.map ac.eval)) w := by
    have h0 : ∀ (z : Value) (A : Array Value), (#[z] ++ A)[0]? = some z := fun z A => by simp [Array.getElem?_append]
    have h1 : ∀ (z : Value) (A : Array Value), (#[z] ++ A).extract 1 (#[z] ++ A).size = A := fun z A => by apply Array.ext'; simp
    have e : (execOp ac.eval o').run P w = (invoke (.fn (.method name) #[]) (#[ac.eval x] ++ args.map ac.eval)).run P w := by
      simp only [execOp, ho, resolve, Sem.run_bind, Sem.run_pure, Result.andThen_ok]
    rw [e, hu]
    unfold invoke
    simp only [h0, h1, callMethod, Sem.run_bind]
    simp [hrunM, run_callFunc c1.1]
  rw [show (FW r).round = r from rfl, sem_call _ _ _ ho, hrun, Oper.uponIn_enter]
  refine ⟨fun hd => by simp [FW] at hd, ?_⟩
  have hcl : CnL (en F w φ s'.h) (renL ρ as1) (#[y] ++ args.map ac.eval).toList := by
    rw [← c3]
    simp only [Array.toList_append, List.cons_append, List.nil_append, CnL]
    exact ⟨y, _, rfl, hcy, hac⟩
  have := call_after c1 c2 c4 hs1.rd hs1.nw hp ra.heap hcl
  simp only [Array.toArray_toList] at this
  refine CallsIn.mono this ?_
  rintro e w' ⟨y, φ', rfl, g1, g2, g3⟩
  exact hn w' φ' y g1 g2 g3

/-- One step, with what it looks at, and what it changes. -/
def stepD (P : Program) (G : Addr → Option Value) (o : Op) (s : St) (K : V → List Blk → List Nat → List Nat → Prop) [KTag K] : Prop :=
  match o with
  | .call { callee := .value f, args, .. } => bnd (ev s f) fun fv => bnd (evs s args.toList) fun as => match fv with
    | .fn (.func g) a b => CallD P G g (a ++ as ++ b) s.h K
    | _ => False
  | .call { callee := .invoke x name, args, .. } => bnd (ev s x) fun xv => bnd (evs s args.toList) fun as => match xv with
    | .iface t v => ∃ f r, MethV P t v name f r ∧ CallD P G f (r :: as) s.h K
    | _ => False
  | o => opV P G o s fun e => (effOk s.h e ∧ ∀ i ∈ heapOf o s, i < s.h.length) ∧ K (e.val s.h) (e.heap s.h) (heapOf o s) (wrOf e)

theorem stepD_robust {o : Op} {s : St} {K : V → List Blk → List Nat → List Nat → Prop} (hk : stepD P G o s K) : ∃ v h' rd wr, K v h' rd wr ∧ Robust P G o s v h' rd wr := by
  unfold stepD at hk
  split at hk
  · obtain ⟨fv, hf, as, has, hk⟩ := hk
    split at hk
    · exact robust_call hf has hk
    · exact hk.elim
  · obtain ⟨xv, hx, as, has, hk⟩ := hk
    split at hk
    · obtain ⟨f, r, hm, hk⟩ := hk
      exact robust_inv hx has hm hk
    · exact hk.elim
  · obtain ⟨e, ⟨⟨h1, h2⟩, h3⟩, hr⟩ := robust_op hk
    exact ⟨_, _, _, _, h3, hr h1 h2⟩

/-! ### Ways to make a call -/

/-- One that knows no blocks, and makes none. -/
theorem CallD.pure {f : FuncId} {xs : List V} {v : V} {K : V → List Blk → List Nat → List Nat → Prop} (c : Ct P G f xs [] v []) (ok : okL (fun _ => False) xs) (k : K v h [] []) : CallD P G f xs h K := by
  refine ⟨xs, [], v, [], fun i => i, fun i => i, h, [], [], c, okL_mono (fun _ h => h.elim) ok, (renL_id xs).symm, ?_, by rw [V.ren_id]; exact k⟩
  exact ⟨⟨by simp, by simp, by simp, by simp⟩, by simp, by simp, by simp, by simp, by simp, by simp, by simp, by simp, by simp⟩

/-- One that knows no blocks, and hands back new ones. -/
theorem CallD.fresh {f : FuncId} {xs : List V} {v : V} {bs : List Blk} {K : V → List Blk → List Nat → List Nat → Prop} (c : Ct P G f xs [] v bs) (ok : okL (fun _ => False) xs)
    (k : K (v.ren (h.length + ·)) (h ++ bs.map (Blk.ren (h.length + ·))) [] []) : CallD P G f xs h K := by
  refine ⟨xs, [], v, bs, fun i => i, (h.length + ·), h ++ bs.map (Blk.ren (h.length + ·)), [], [], c, okL_mono (fun _ h => h.elim) ok, (renL_id xs).symm, ?_, k⟩
  refine ⟨⟨by simp, by simp, by simp, by simp⟩, by simp, by simp, by simp, by simp, ?_, by simp, by simp, by simp, ?_⟩
  · intro i b hb
    rw [List.getElem?_append_right (by omega)]
    simp [hb]
  · intro j hj _
    rw [List.getElem?_append_left hj]

/-- One that knows one block, looks at it, and makes none. -/
theorem CallD.look {f : FuncId} {as xs : List V} {v : V} {b : Blk} {i : Nat} {K : V → List Blk → List Nat → List Nat → Prop} (c : Ct P G f as [b] v [b]) (hb : h[i]? = some (b.ren fun _ => i)) (hd : b.dm = true) (cl : b.ok (· < 1))
    (ok : okL (· < 1) as) (hx : xs = renL (fun _ => i) as) (k : K (v.ren fun _ => i) h [i] []) : CallD P G f xs h K := by
  refine ⟨as, [b], v, [b], fun _ => i, fun _ => i, h, [i], [], c, ok, hx, ?_, k⟩
  refine ⟨⟨?_, by intro i j h1 h2 _; simp at h1 h2; omega, by simpa using hd, by simpa using cl⟩, by simp, by simp, fun j h1 h2 => by simp at h1 h2; omega, by simp, ?_, by simp, by simpa using (List.getElem?_eq_some_iff.1 hb).1, by simp, by simp⟩
  · intro j k hk
    cases j with
    | zero => simp at hk; subst hk; exact hb
    | succ j => simp at hk
  · intro j k hk
    cases j with
    | zero => simp at hk; subst hk; exact hb
    | succ j => simp at hk

/-- One that knows one block, and changes it, and makes none. -/
theorem CallD.touch {f : FuncId} {as xs : List V} {v : V} {b b' : Blk} {i : Nat} {K : V → List Blk → List Nat → List Nat → Prop} (c : Ct P G f as [b] v [b']) (hb : h[i]? = some (b.ren fun _ => i)) (hd : b.dm = true) (cl : b.ok (· < 1))
    (ok : okL (· < 1) as) (hx : xs = renL (fun _ => i) as) (k : K (v.ren fun _ => i) (h.set i (b'.ren fun _ => i)) [i] [i]) : CallD P G f xs h K := by
  have hi := (List.getElem?_eq_some_iff.1 hb).1
  refine ⟨as, [b], v, [b'], fun _ => i, fun _ => i, _, [i], [i], c, ok, hx, ?_, k⟩
  refine ⟨⟨?_, by intro i j h1 h2 _; simp at h1 h2; omega, by simpa using hd, by simpa using cl⟩, by simp, by simp, fun j h1 h2 => by simp at h1 h2; omega, by simp, ?_, by simp, by simpa using hi, by simp, ?_⟩
  · intro j k hk
    cases j with
    | zero => simp at hk; subst hk; exact hb
    | succ j => simp at hk
  · intro j k hk
    cases j with
    | zero => simp at hk; subst hk; exact List.getElem?_set_self hi
    | succ j => simp at hk
  · intro j hj hn
    rw [List.getElem?_set_ne]
    simp at hn
    exact fun e => hn e.symm

end Go.Vm

namespace Go.Vm
open Go Go.RowKit
variable {P : Program} {G : Addr → Option Value} {F F' : Nat → Prop} {w w' : World} {φ φ1 : Nat → Option (Nat × Nat)} {h : List Blk}

/-! ### The last that wrote -/

def pick {α : Type} (E : Nat → Bool) (wt : Nat → Option α) (z : α) : Nat → α
  | 0 => z
  | j + 1 => if E j then (wt j).getD (pick E wt z j) else pick E wt z j

theorem pick_congr {α : Type} {E E' : Nat → Bool} {wt : Nat → Option α} {z : α} : ∀ {j : Nat}, (∀ i, i < j → (wt i).isSome = true → E i = E' i) → pick E wt z j = pick E' wt z j
  | 0, _ => rfl
  | j + 1, h => by
    simp only [pick]
    rw [pick_congr fun i hi => h i (by omega)]
    cases hw : wt j with
    | none => simp
    | some x => rw [h j (by omega) (by simp [hw])]

theorem pick_cut {α : Type} {E : Nat → Bool} {wt : Nat → Option α} {z : α} {j : Nat} : ∀ {m : Nat}, j ≤ m → (∀ i, j ≤ i → i < m → (wt i).isSome = true → E i = false) → pick E wt z m = pick E wt z j
  | 0, hj, _ => by have : j = 0 := by omega
                   subst this; rfl
  | m + 1, hj, h => by
    rcases Nat.lt_or_ge m j with hm | hm
    · have : j = m + 1 := by omega
      subst this; rfl
    · simp only [pick]
      rw [pick_cut hm fun i h1 h2 => h i h1 (by omega)]
      cases hw : wt m with
      | none => simp
      | some x => rw [h m hm (by omega) (by simp [hw])]; simp

theorem pick_top {α : Type} {E : Nat → Bool} {wt : Nat → Option α} {z x : α} {j m : Nat} (hj : j < m) (hE : E j = true) (hw : wt j = some x) (h : ∀ i, j < i → i < m → (wt i).isSome = true → E i = false) : pick E wt z m = x := by
  rw [pick_cut (j := j + 1) hj fun i h1 h2 => h i (by omega) h2]
  simp [pick, hE, hw]

theorem pick_none {α : Type} {E : Nat → Bool} {wt : Nat → Option α} {z : α} {m : Nat} (h : ∀ i, i < m → (wt i).isSome = true → E i = false) : pick E wt z m = z :=
  pick_cut (Nat.zero_le _) fun i _ => h i

/-! ### A region, walked in one order -/

structure Stp where
  s : St
  v : V
  h' : List Blk
  rd : List Nat
  wr : List Nat

def Stp.W (st : Stp) (b : Nat) : Bool := st.wr.contains b || (decide (st.s.h.length ≤ b) && decide (b < st.h'.length))

def GY (g : Option (Option Nat × Bool)) (s : St) : Prop :=
  g = none ∨ ∃ d want, g = some (some d, want) ∧ get s.t d = some (.c (.bool want))
def GN (g : Option (Option Nat × Bool)) (s : St) : Prop :=
  (∃ want, g = some (none, want)) ∨ ∃ d want, g = some (some d, want) ∧ ((∃ b, b ≠ want ∧ get s.t d = some (.c (.bool b))) ∨ ∃ x, get s.t d = some (.c (.tuple x)))

theorem guard_or {g : Option (Option Nat × Bool)} {s : St} {yes no : Prop} (h : guardV g s yes no) : (GY g s ∧ yes) ∨ (GN g s ∧ no) := by
  unfold guardV at h
  split at h
  · exact .inl ⟨.inl rfl, h⟩
  · exact .inr ⟨.inl ⟨_, rfl⟩, h⟩
  · rename_i d want
    split at h
    · rename_i b hb
      by_cases hbw : b = want
      · exact .inl ⟨.inr ⟨d, want, rfl, hbw ▸ hb⟩, h.1 (by simpa using hbw)⟩
      · exact .inr ⟨.inr ⟨d, want, rfl, .inl ⟨b, hbw, hb⟩⟩, h.2 (by simpa using hbw)⟩
    · rename_i x hx
      exact .inr ⟨.inr ⟨d, want, rfl, .inr ⟨x, hx⟩⟩, h⟩
    · exact h.elim

def gTmps (g : Option (Option Nat × Bool)) : List Nat := match g with | some (some d, _) => [d] | _ => []

/-- A step of the walk is what it says. -/
structure Fine (P : Program) (G : Addr → Option Value) (o : RO) (st : Stp) : Prop where
  tidy : Tidy st.s.h st.h' st.rd st.wr
  run : (GY o.guard st.s ∧ Robust P G o.op st.s st.v st.h' st.rd st.wr) ∨ (GN o.guard st.s ∧ st.v = .c undef ∧ st.h' = st.s.h ∧ st.rd = [] ∧ st.wr = [])

/-- The walk: each step begins where the one ahead of it ended. -/
inductive Chain (P : Program) (G : Addr → Option Value) : List RO → St → List Stp → St → Prop where
  | nil (s : St) : Chain P G [] s [] s
  | cons {o : RO} {os : List RO} {st : Stp} {L : List Stp} {fin : St} : Fine P G o st → Chain P G os (st.s.put o.dst st.v st.h') L fin → Chain P G (o :: os) st.s (st :: L) fin

abbrev Tr := List Nat × List Nat × Nat × Nat

def vcD (P : Program) (G : Addr → Option Value) : List RO → St → List Tr → (K : List Tr → St → Prop) → [KTag K] → Prop
  | [], s, tr, K, _ => K tr s
  | o :: os, s, tr, K, _ => guardV o.guard s (stepD P G o.op s fun v h' rd wr => vcD P G os (s.put o.dst v h') (tr ++ [(rd, wr, s.h.length, h'.length)]) K)
      (vcD P G os (s.put o.dst (.c undef) s.h) (tr ++ [([], [], s.h.length, s.h.length)]) K)

def Stp.tr (st : Stp) : Tr := (st.rd, st.wr, st.s.h.length, st.h'.length)

theorem vcD_chain : ∀ {os : List RO} {s : St} {tr : List Tr} {K : List Tr → St → Prop}, vcD P G os s tr K → ∃ L fin, Chain P G os s L fin ∧ K (tr ++ L.map Stp.tr) fin
  | [], s, tr, K, h => ⟨[], s, .nil s, by simpa [vcD] using h⟩
  | o :: os, s, tr, K, h => by
    rcases guard_or h with ⟨hg, h⟩ | ⟨hg, h⟩
    · obtain ⟨v, h', rd, wr, hk, hr⟩ := stepD_robust h
      obtain ⟨L, fin, hc, hK⟩ := vcD_chain hk
      refine ⟨⟨s, v, h', rd, wr⟩ :: L, fin, Chain.cons (st := ⟨s, v, h', rd, wr⟩) ⟨hr.1, .inl ⟨hg, hr⟩⟩ hc, ?_⟩
      simpa [Stp.tr] using hK
    · obtain ⟨L, fin, hc, hK⟩ := vcD_chain h
      refine ⟨⟨s, .c undef, s.h, [], []⟩ :: L, fin, Chain.cons (st := ⟨s, .c undef, s.h, [], []⟩) ⟨⟨fun _ h => (nomatch h), fun _ h => (nomatch h), Nat.le_refl _, fun _ _ _ => rfl⟩, .inr ⟨hg, rfl, rfl, rfl, rfl⟩⟩ hc, ?_⟩
      simpa [Stp.tr] using hK

theorem Chain.length {os : List RO} {s fin : St} {L : List Stp} (c : Chain P G os s L fin) : L.length = os.length := by
  induction c with
  | nil => rfl
  | cons _ _ ih => simp [ih]

theorem Chain.fine {os : List RO} {s fin : St} {L : List Stp} (c : Chain P G os s L fin) : ∀ {j : Nat} {o : RO} {st : Stp}, os[j]? = some o → L[j]? = some st → Fine P G o st := by
  induction c with
  | nil => intro j o st h; simp at h
  | cons hf _ ih =>
    intro j o st ho hst
    cases j with
    | zero => simp at ho hst; subst ho; subst hst; exact hf
    | succ j => simp at ho hst; exact ih ho hst

/-- The state ahead of each step, and behind the last one. -/
def stAt (L : List Stp) (fin : St) (j : Nat) : St := match L[j]? with | some st => st.s | none => fin

theorem Chain.zero {os : List RO} {s fin : St} {L : List Stp} (c : Chain P G os s L fin) : stAt L fin 0 = s := by cases c <;> rfl

theorem Chain.next {os : List RO} {s fin : St} {L : List Stp} (c : Chain P G os s L fin) : ∀ {j : Nat} {o : RO} {st : Stp}, os[j]? = some o → L[j]? = some st → stAt L fin (j + 1) = st.s.put o.dst st.v st.h' := by
  induction c with
  | nil => intro j o st h; simp at h
  | cons hf hc ih =>
    intro j o st ho hst
    cases j with
    | zero =>
      simp at ho hst; subst ho; subst hst
      have := hc.zero
      simpa [stAt] using this
    | succ j =>
      simp at ho hst
      have := ih ho hst
      simpa [stAt] using this

section
variable {os : List RO} {s0 fin : St} {L : List Stp}

/-- What the steps write at a place; into a slot. -/
def wh (L : List Stp) (b i : Nat) : Option Blk := match L[i]? with | some st => if st.W b then some (st.h'.getD b .rsv) else none | none => none
def wt (os : List RO) (L : List Stp) (k i : Nat) : Option (Option V) := match os[i]?, L[i]? with | some o, some st => if o.dst = some k then some (some st.v) else none | _, _ => none

theorem lens (c : Chain P G os s0 L fin) : ∀ {j : Nat}, j < L.length → (stAt L fin j).h.length ≤ (stAt L fin (j + 1)).h.length := by
  intro j hj
  have hj' : j < os.length := by rw [← c.length]; exact hj
  have h1 := c.next (List.getElem?_eq_getElem hj') (List.getElem?_eq_getElem hj)
  have h2 := (c.fine (List.getElem?_eq_getElem hj') (List.getElem?_eq_getElem hj)).tidy.len
  rw [h1]
  simpa [stAt, List.getElem?_eq_getElem hj, St.put] using h2

theorem lens_le (c : Chain P G os s0 L fin) {i : Nat} : ∀ {j : Nat}, i ≤ j → j ≤ L.length → (stAt L fin i).h.length ≤ (stAt L fin j).h.length
  | 0, h, _ => by have : i = 0 := by omega
                  subst this; exact Nat.le_refl _
  | j + 1, h, hj => by
    rcases Nat.lt_or_ge j i with hi | hi
    · have : i = j + 1 := by omega
      subst this; exact Nat.le_refl _
    · exact Nat.le_trans (lens_le c hi (by omega)) (lens c (by omega))

/-- In the walk's own order. -/
theorem chain_heap (c : Chain P G os s0 L fin) : ∀ {j : Nat}, j ≤ L.length → ∀ b, b < (stAt L fin j).h.length → (stAt L fin j).h[b]? = some (pick (fun i => decide (i < j)) (wh L b) (s0.h.getD b .rsv) j)
  | 0, _, b, hb => by
    rw [c.zero] at hb ⊢
    simp only [pick]
    rw [List.getElem?_eq_getElem hb, List.getD_eq_getElem?_getD, List.getElem?_eq_getElem hb]; rfl
  | j + 1, hj, b, hb => by
    have hj' : j < os.length := by rw [← c.length]; exact hj
    have h1 := c.next (List.getElem?_eq_getElem hj') (List.getElem?_eq_getElem (show j < L.length from hj))
    have hf := (c.fine (List.getElem?_eq_getElem hj') (List.getElem?_eq_getElem (show j < L.length from hj))).tidy
    rw [h1] at hb ⊢
    simp only [St.put] at hb ⊢
    have hsame : pick (fun i => decide (i < j + 1)) (wh L b) (s0.h.getD b .rsv) j = pick (fun i => decide (i < j)) (wh L b) (s0.h.getD b .rsv) j :=
      pick_congr fun i hi _ => by simp [hi, Nat.lt_succ_of_lt hi]
    simp only [pick, Nat.lt_succ_self, decide_true, if_true]
    rw [hsame]
    have hs : stAt L fin j = (L[j]'hj).s := by simp [stAt, List.getElem?_eq_getElem (show j < L.length from hj)]
    by_cases hW : (L[j]'hj).W b = true
    · simp only [wh, List.getElem?_eq_getElem (show j < L.length from hj), hW, if_true, Option.getD_some]
      rw [List.getD_eq_getElem?_getD, List.getElem?_eq_getElem hb]; rfl
    · simp only [wh, List.getElem?_eq_getElem (show j < L.length from hj), hW, Bool.false_eq_true, if_false, Option.getD_none]
      simp only [Stp.W, Bool.or_eq_true, List.contains_iff_mem, Bool.and_eq_true, decide_eq_true_eq, not_or, not_and] at hW
      have hbl : b < (L[j]'hj).s.h.length := by
        rcases Nat.lt_or_ge b (L[j]'hj).s.h.length with h | h
        · exact h
        · exact absurd hb (hW.2 h)
      rw [hf.keep b hbl hW.1, ← hs]
      exact chain_heap c (by omega) b (by rw [hs]; exact hbl)

theorem chain_tmps (c : Chain P G os s0 L fin) : ∀ {j : Nat}, j ≤ L.length → ∀ k, get (stAt L fin j).t k = pick (fun i => decide (i < j)) (wt os L k) (get s0.t k) j
  | 0, _, k => by rw [c.zero]; rfl
  | j + 1, hj, k => by
    have hj' : j < os.length := by rw [← c.length]; exact hj
    have h1 := c.next (List.getElem?_eq_getElem hj') (List.getElem?_eq_getElem (show j < L.length from hj))
    rw [h1]
    have hsame : pick (fun i => decide (i < j + 1)) (wt os L k) (get s0.t k) j = pick (fun i => decide (i < j)) (wt os L k) (get s0.t k) j :=
      pick_congr fun i hi _ => by simp [hi, Nat.lt_succ_of_lt hi]
    simp only [pick, Nat.lt_succ_self, decide_true, if_true]
    rw [hsame, ← chain_tmps c (by omega) k]
    have hs : stAt L fin j = (L[j]'hj).s := by simp [stAt, List.getElem?_eq_getElem (show j < L.length from hj)]
    rw [hs]
    simp only [wt, List.getElem?_eq_getElem hj', List.getElem?_eq_getElem (show j < L.length from hj), St.put]
    cases hd : (os[j]'hj').dst with
    | none => simp [putT]
    | some d =>
      simp only [putT, get, Option.some.injEq]
      by_cases hk : d = k
      · subst hk; simp
      · rw [if_neg (fun e => hk e.symm), if_neg hk]; rfl
end

end Go.Vm

namespace Go.Vm
open Go Go.RowKit
variable {P : Program} {G : Addr → Option Value} {F F' : Nat → Prop} {w w' : World} {φ φ1 : Nat → Option (Nat × Nat)} {h : List Blk}

/-- A drawn region's operations, with those that each waits for. -/
structure DOk (ops : Array Oper) (os : List RO) (n : Nat) : Prop where
  len : os.length = ops.size
  op : ∀ (j : Nat) (o : Oper) (q : RO), ops[j]? = some o → os[j]? = some q → q.dst = o.dst ∧ q.op = o.op ∧ q.guard = (toRO ops o).guard
  edge : ∀ (j : Nat) (o : Oper), ops[j]? = some o → ∀ e ∈ o.after, Region.binds .any e = true → e.on < j
  bef : ∀ (j : Nat) (o : Oper) (q : RO), ops[j]? = some o → os[j]? = some q → ∀ k ∈ q.bef, k < j ∧ ∃ e ∈ o.after, Region.binds .any e = true ∧ (k = e.on ∨ ∃ q' : RO, os[e.on]? = some q' ∧ k ∈ q'.bef)
  tm : ∀ (j : Nat) (q : RO), os[j]? = some q → ∀ k, k ∈ opTmps q.op ∨ k ∈ gTmps q.guard → ∀ (i : Nat) (q' : RO), os[i]? = some q' → q'.dst = some k → i ∈ q.bef ∨ j ∈ q'.bef
  uniq : ∀ (i j : Nat) (q q' : RO) (k : Nat), os[i]? = some q → os[j]? = some q' → q.dst = some k → q'.dst = some k → i = j
  dlt : ∀ (j : Nat) (q : RO) (k : Nat), os[j]? = some q → q.dst = some k → k < n

/-- Those that may come about in either order don't get in each other's way. -/
def Apart (os : List RO) (L : List Stp) : Prop :=
  ∀ (i j : Nat) (si sj : Stp) (q : RO), i < j → L[i]? = some si → L[j]? = some sj → os[j]? = some q → i ∉ q.bef →
    (∀ b, si.W b = true → b ∉ sj.rd ∧ sj.W b = false) ∧ ∀ b ∈ si.rd, sj.W b = false

def Closed (os : List RO) (E : Nat → Bool) : Prop := ∀ (j : Nat) (q : RO), E j = true → os[j]? = some q → ∀ i ∈ q.bef, E i = true

structure InE (os : List RO) (L : List Stp) (s0 fin : St) (E : Nat → Bool) (s : St) : Prop where
  d : s.d = s0.d
  len : s.h.length = fin.h.length
  h : ∀ b, b < fin.h.length → s.h[b]? = some (pick E (wh L b) (s0.h.getD b .rsv) L.length)
  t : ∀ k, get s.t k = pick E (wt os L k) (get s0.t k) L.length

theorem wh_some {L : List Stp} {b i : Nat} (h : (wh L b i).isSome = true) : ∃ st, L[i]? = some st ∧ st.W b = true := by
  unfold wh at h
  cases hL : L[i]? with
  | none => simp [hL] at h
  | some st =>
    simp only [hL] at h
    by_cases hW : st.W b = true
    · exact ⟨st, rfl, hW⟩
    · simp [hW] at h

theorem wt_some {os : List RO} {L : List Stp} {k i : Nat} (h : (wt os L k i).isSome = true) : ∃ (q : RO), os[i]? = some q ∧ q.dst = some k := by
  unfold wt at h
  cases ho : os[i]? with
  | none => simp [ho] at h
  | some q =>
    cases hL : L[i]? with
    | none => simp [ho, hL] at h
    | some st =>
      simp only [ho, hL] at h
      by_cases hd : q.dst = some k
      · exact ⟨q, rfl, hd⟩
      · simp [hd] at h

theorem wanted_of_GY {ops : Array Oper} {n : Nat} {o : Oper} {s : St} {a : Act} (ra : At G F w φ n s a) (hg : GY (toRO ops o).guard s) : Region.wanted o (yielded ops a.tmps) = true := by
  unfold Region.wanted
  cases h : o.guard with
  | none => rfl
  | some g =>
    obtain ⟨j, want⟩ := g
    rcases hg with hg | ⟨d, want', hg, hb⟩
    · simp [toRO, h] at hg
    · simp only [toRO, h, Option.map_some, Option.some.injEq, Prod.mk.injEq] at hg
      obtain ⟨x, hx, hc⟩ := ra.env d _ hb
      simp only [Cn] at hc; subst hc
      simp only [yielded, hg.1, Option.bind_some, hx]
      simp [hg.2]

theorem wanted_of_GN {ops : Array Oper} {n : Nat} {o : Oper} {s : St} {a : Act} (ra : At G F w φ n s a) (hg : GN (toRO ops o).guard s) : Region.wanted o (yielded ops a.tmps) = false := by
  unfold Region.wanted
  cases h : o.guard with
  | none => rcases hg with ⟨_, hg⟩ | ⟨d, want, hg, _⟩ <;> simp [toRO, h] at hg
  | some g =>
    obtain ⟨j, want⟩ := g
    rcases hg with ⟨_, hg⟩ | ⟨d, want', hg, hb⟩
    · simp only [toRO, h, Option.map_some, Option.some.injEq, Prod.mk.injEq] at hg
      simp [yielded, hg.1]
    · simp only [toRO, h, Option.map_some, Option.some.injEq, Prod.mk.injEq] at hg
      rcases hb with ⟨b, hne, hb⟩ | ⟨x, hb⟩
      · obtain ⟨y, hy, hc⟩ := ra.env d _ hb
        simp only [Cn] at hc; subst hc
        simp only [yielded, hg.1, Option.bind_some, hy]
        simp [hg.2, hne]
      · obtain ⟨y, hy, hc⟩ := ra.env d _ hb
        simp only [Cn] at hc; subst hc
        simp only [yielded, hg.1, Option.bind_some, hy]
        rfl

theorem GY.congr {g : Option (Option Nat × Bool)} {s s' : St} (h : ∀ k ∈ gTmps g, get s'.t k = get s.t k) (hg : GY g s) : GY g s' := by
  rcases hg with rfl | ⟨d, want, rfl, hb⟩
  · exact .inl rfl
  · exact .inr ⟨d, want, rfl, by rw [h d (by simp [gTmps])]; exact hb⟩

theorem GN.congr {g : Option (Option Nat × Bool)} {s s' : St} (h : ∀ k ∈ gTmps g, get s'.t k = get s.t k) (hg : GN g s) : GN g s' := by
  rcases hg with ⟨want, rfl⟩ | ⟨d, want, rfl, hb⟩
  · exact .inl ⟨want, rfl⟩
  · exact .inr ⟨d, want, rfl, by rw [h d (by simp [gTmps])]; exact hb⟩

section
variable {ops : Array Oper} {os : List RO} {s0 fin : St} {L : List Stp} {n : Nat} {r : Option Nat}

theorem any_step (hd : DOk ops os n) (c : Chain P G os s0 L fin) (ha : Apart os L) {E : Nat → Bool} {s : St} {a : Act} {j : Nat} {o : Oper} {q : RO} {st : Stp}
    (ho : ops[j]? = some o) (hq : os[j]? = some q) (hst : L[j]? = some st) (cl : Closed os E) (hE : E j = false) (hb : ∀ i ∈ q.bef, E i = true) (ie : InE os L s0 fin E s) (ra : At G F w φ n s a)
    {K : Act → World → Prop} {Q : Exit → Act → World → Prop}
    (hK : ∀ s' a' w' φ', InE os L s0 fin (fun i => E i || i == j) s' → At G F w' φ' n s' a' → Ext (en F w φ s.h) (en F w' φ' s'.h) → K a' w') : wpOpIn (FW r) 0 P ops Q j K a w := by
  have hjL : j < L.length := (List.getElem?_eq_some_iff.1 hst).1
  have hsj : stAt L fin j = st.s := by simp [stAt, hst]
  have hnext := c.next hq hst
  have hfine := c.fine hq hst
  have hlen' : (stAt L fin (j + 1)).h.length = st.h'.length := by rw [hnext]; rfl
  have hlast : stAt L fin L.length = fin := by simp [stAt]
  have hN : st.h'.length ≤ fin.h.length := by
    have := lens_le c (i := j + 1) (j := L.length) hjL (Nat.le_refl _)
    rw [hlast, hlen'] at this; exact this
  have hlenj : st.s.h.length ≤ st.h'.length := hfine.tidy.len
  have h0j : s0.h.length ≤ st.s.h.length := by
    have := lens_le c (i := 0) (j := j) (Nat.zero_le _) (by omega)
    rwa [c.zero, hsj] at this
  have befs : ∀ i ∈ q.bef, i < j := fun i hi => (hd.bef j o q ho hq i hi).1
  have key : ∀ b, (b ∈ st.rd ∨ st.W b = true) → ∀ i si, i ≠ j → L[i]? = some si → si.W b = true → E i = decide (i < j) := by
    intro b hb' i si hij hsi hW
    rcases Nat.lt_or_ge i j with h | h
    · rw [decide_eq_true h]
      by_cases hm : i ∈ q.bef
      · exact hb i hm
      · have := (ha i j si st q h hsi hst hq hm).1 b hW
        rcases hb' with hb' | hb'
        · exact absurd hb' this.1
        · rw [this.2] at hb'; cases hb'
    · have hji : j < i := by omega
      rw [decide_eq_false (by omega)]
      cases hEi : E i with
      | false => rfl
      | true =>
        have hil : i < os.length := by rw [← c.length]; exact (List.getElem?_eq_some_iff.1 hsi).1
        have hqi := List.getElem?_eq_getElem hil
        by_cases hm : j ∈ (os[i]).bef
        · rw [cl i _ hEi hqi j hm] at hE; cases hE
        · have := ha j i st si _ hji hst hsi hqi hm
          rcases hb' with hb' | hb'
          · rw [this.2 b hb'] at hW; cases hW
          · rw [(this.1 b hb').2] at hW; cases hW
  have heap : ∀ b, (b ∈ st.rd ∨ st.W b = true) → b < st.s.h.length → s.h[b]? = st.s.h[b]? := by
    intro b hb' hlt
    rw [ie.h b (by omega), ← hsj, chain_heap c (by omega) b (by rw [hsj]; exact hlt)]
    congr 1
    rw [pick_congr (E' := fun i => decide (i < j)) (j := L.length) (wt := wh L b), pick_cut (j := j) (by omega)]
    · intro i h1 h2 _; simp; omega
    · intro i hi hw
      obtain ⟨si, hsi, hW⟩ := wh_some hw
      by_cases hij : i = j
      · subst hij; rw [hE]; simp
      · exact key b hb' i si hij hsi hW
  have tms : ∀ k, k ∈ opTmps q.op ∨ k ∈ gTmps q.guard → get s.t k = get st.s.t k := by
    intro k hk
    rw [ie.t k, ← hsj, chain_tmps c (by omega) k]
    have wr : ∀ i, (wt os L k i).isSome = true → E i = decide (i < j) := by
      intro i hw
      obtain ⟨qi, hqi, hdi⟩ := wt_some hw
      rcases hd.tm j q hq k hk i qi hqi hdi with this | this
      · rw [hb i this, decide_eq_true (befs i this)]
      · have hil : i < ops.size := by
          have := (List.getElem?_eq_some_iff.1 hqi).1
          rw [hd.len] at this; exact this
        have hji := (hd.bef i ops[i] qi (by simp [hil]) hqi j this).1
        rw [decide_eq_false (by omega)]
        cases hEi : E i with
        | false => rfl
        | true => rw [cl i qi hEi hqi j this] at hE; cases hE
    rw [pick_congr (E' := fun i => decide (i < j)) (j := L.length) (wt := wt os L k), pick_cut (j := j) (by omega)]
    · intro i h1 h2 _; simp; omega
    · intro i hi hw
      exact wr i hw
  have inE' : ∀ (H' : List Blk), H'.length = fin.h.length → (∀ b, b < fin.h.length → H'[b]? = some (pick (fun i => E i || i == j) (wh L b) (s0.h.getD b .rsv) L.length)) →
      InE os L s0 fin (fun i => E i || i == j) (s.put q.dst st.v H') := by
    intro H' h1 h2
    refine ⟨ie.d, h1, h2, fun k => ?_⟩
    by_cases hk : q.dst = some k
    · rw [pick_top (j := j) (x := some st.v) hjL (by simp) (by simp [wt, hq, hst, hk])]
      · simp [St.put, hk, putT, get]
      · intro i hi hi' hw
        obtain ⟨qi, hqi, hdi⟩ := wt_some hw
        have := hd.uniq i j qi q k hqi hq hdi hk
        omega
    · have : get (putT s.t q.dst st.v) k = get s.t k := by
        cases hqd : q.dst with
        | none => rfl
        | some d =>
          simp only [putT, get]
          rw [if_neg]; rintro rfl; exact hk hqd
      simp only [St.put, this]
      rw [ie.t k]
      refine pick_congr fun i _ hw => ?_
      obtain ⟨qi, hqi, hdi⟩ := wt_some hw
      have : i ≠ j := by rintro rfl; rw [hq] at hqi; cases hqi; exact hk hdi
      simp [this]
  have patchAt : ∀ b, b < fin.h.length → pick (fun i => E i || i == j) (wh L b) (s0.h.getD b .rsv) L.length = if st.W b = true then st.h'.getD b .rsv else pick E (wh L b) (s0.h.getD b .rsv) L.length := by
    intro b hbN
    by_cases hW : st.W b = true
    · rw [if_pos hW, pick_top (j := j) (x := st.h'.getD b .rsv) hjL (by simp) (by simp [wh, hst, hW])]
      intro i hi hi' hw
      obtain ⟨si, hsi, hWi⟩ := wh_some hw
      have := key b (.inr hW) i si (by omega) hsi hWi
      simp [this]; omega
    · rw [if_neg hW]
      refine pick_congr fun i _ hw => ?_
      obtain ⟨si, hsi, hWi⟩ := wh_some hw
      have : i ≠ j := by rintro rfl; rw [hst] at hsi; cases hsi; exact hW hWi
      simp [this]
  obtain ⟨hdst, hop, hgd⟩ := hd.op j o q ho hq
  have hdl : ∀ k, o.dst = some k → k < n := fun k hk => hd.dlt j q k hq (by rw [hdst]; exact hk)
  unfold wpOpIn
  rw [ho]
  rcases hfine.run with ⟨hg, hrob⟩ | ⟨hg, hv, hh', hrd, hwr⟩
  · have hw : Region.wanted o (yielded ops a.tmps) = true := wanted_of_GY ra (by rw [← hgd]; exact GY.congr (fun k hk => tms k (.inr hk)) hg)
    simp only [hw, if_true]
    let H' := (List.range fin.h.length).map fun b => pick (fun i => E i || i == j) (wh L b) (s0.h.getD b .rsv) L.length
    have hH' : ∀ b, b < fin.h.length → H'[b]? = some (pick (fun i => E i || i == j) (wh L b) (s0.h.getD b .rsv) L.length) := fun b hb => by simp [H', hb]
    have hHl : H'.length = fin.h.length := by simp [H']
    refine hrob.2 r n F w φ s a H' o hop.symm ra ⟨fun k hk => tms k (.inl hk), fun i hi => heap i (.inl hi) (hfine.tidy.rlt i hi), fun i hi => heap i (.inr (by simp [Stp.W, hi])) (hfine.tidy.lt i hi), ?_⟩ ⟨by rw [hHl, ie.len], ?_⟩ _ _ ?_
    · intro b h1 h2
      have hW : st.W b = true := by simp [Stp.W, h1, h2]
      rw [ie.h b (by omega), pick_none]
      · rw [List.getD_eq_getElem?_getD, List.getElem?_eq_none (by omega)]; rfl
      · intro i hi hw
        obtain ⟨si, hsi, hWi⟩ := wh_some hw
        by_cases hij : i = j
        · subst hij; exact hE
        · rw [key b (.inr hW) i si hij hsi hWi, decide_eq_false]
          intro hlt
          have hil : i < os.length := by rw [← c.length]; exact (List.getElem?_eq_some_iff.1 hsi).1
          have t1 := (c.fine (List.getElem?_eq_getElem hil) hsi).tidy
          have l1 := lens_le c (i := i + 1) (j := j) hlt (by omega)
          rw [c.next (List.getElem?_eq_getElem hil) hsi, hsj] at l1
          simp only [St.put] at l1
          simp only [Stp.W, Bool.or_eq_true, List.contains_iff_mem, Bool.and_eq_true, decide_eq_true_eq] at hWi
          rcases hWi with h | h
          · have := t1.lt b h; have := t1.len; omega
          · omega
    · intro b
      rcases Nat.lt_or_ge b fin.h.length with hbN | hbN
      · rw [hH' b hbN, patchAt b hbN]
        have hWi : st.W b = true ↔ (b ∈ st.wr ∨ st.s.h.length ≤ b ∧ b < st.h'.length) := by simp [Stp.W]
        by_cases hW : st.W b = true
        · rw [if_pos hW, if_pos (hWi.1 hW)]
          have hbl : b < st.h'.length := by
            rcases hWi.1 hW with h | h
            · have := hfine.tidy.lt b h; omega
            · exact h.2
          rw [List.getD_eq_getElem?_getD, List.getElem?_eq_getElem hbl]; rfl
        · rw [if_neg hW, if_neg (fun h => hW (hWi.2 h)), ie.h b hbN]
      · have e1 : st.h'[b]? = none := List.getElem?_eq_none (by omega)
        have e2 : s.h[b]? = none := List.getElem?_eq_none (by rw [ie.len]; exact hbN)
        have e3 : H'[b]? = none := List.getElem?_eq_none (by rw [hHl]; exact hbN)
        rw [e1, e2, e3]; simp
    · intro w' φ' y h1 h2 h3
      have := hK (s.put q.dst st.v H') (a.put o.dst y) w' φ' (inE' H' hHl hH') (by rw [hdst]; exact ra.put h2 h3 h1 hdl) h3
      exact this
  · have hw : Region.wanted o (yielded ops a.tmps) = false := wanted_of_GN ra (by rw [← hgd]; exact GN.congr (fun k hk => tms k (.inr hk)) hg)
    simp only [hw, Bool.false_eq_true, if_false]
    refine ⟨fun _ _ => trivial, ?_⟩
    refine hK (s.put q.dst st.v s.h) (a.put o.dst undef) w φ (inE' s.h ie.len fun b hbN => ?_) (by rw [hdst]; exact ra.put ra.heap ext_refl (by rw [hv]; simp [Cn]) hdl) ext_refl
    rw [patchAt b hbN, if_neg, ie.h b hbN]
    simp [Stp.W, hwr, hh']

/-- How many are still to come. -/
def unl (l : Array Bool) : Nat → Nat
  | 0 => 0
  | j + 1 => unl l j + if l.getD j false then 0 else 1

theorem unl_set {l : Array Bool} {i : Nat} (hi : i < l.size) (hf : l.getD i false = false) : ∀ {m : Nat}, unl (l.setIfInBounds i true) m + (if i < m then 1 else 0) = unl l m
  | 0 => by simp [unl]
  | m + 1 => by
    have ih := unl_set hi hf (m := m)
    simp only [unl]
    by_cases hm : m = i
    · subst hm
      have h1 : (l.setIfInBounds m true).getD m false = true := by simp [Array.getD, hi]
      rw [h1, hf]
      simp at ih ⊢
      omega
    · have h1 : (l.setIfInBounds i true).getD m false = l.getD m false := by
        simp only [Array.getD_eq_getD_getElem?]
        rw [Array.getElem?_setIfInBounds_ne (fun e => hm e.symm)]
      rw [h1]
      by_cases hlt : i < m
      · simp [hlt, Nat.lt_succ_of_lt hlt] at ih ⊢; omega
      · have : ¬ i < m + 1 := by omega
        simp [hlt, this] at ih ⊢; omega

theorem unl_zero {l : Array Bool} : ∀ {m : Nat}, unl l m = 0 → ∀ i, i < m → l.getD i false = true
  | 0, _, i, hi => by omega
  | m + 1, h, i, hi => by
    simp only [unl] at h
    rcases Nat.lt_or_ge i m with h' | h'
    · exact unl_zero (by omega) i h'
    · have : i = m := by omega
      subst this
      by_cases hl : l.getD i false = true
      · exact hl
      · rw [if_neg hl] at h; omega

theorem unl_empty (k : Nat) : ∀ m, m ≤ k → unl (Array.replicate k false) m = m
  | 0, _ => rfl
  | m + 1, h => by
    simp only [unl]
    rw [unl_empty k m (by omega)]
    have : (Array.replicate k false).getD m false = false := by simp [Array.getD]
    simp [this]

/-- None is ready: all have come about. -/
theorem ready_nil (hd : DOk ops os n) {l : Array Bool} (hs : l.size = ops.size) (h : Region.ready .any ops l = []) : ∀ i, i < ops.size → l.getD i false = true := by
  intro i
  induction i using Nat.strongRecOn with
  | _ i ih =>
    intro hi
    cases hl : l.getD i false with
    | true => rfl
    | false =>
      have hm : i ∈ Region.ready .any ops l := by
        refine mem_ready.2 ⟨?_, ops[i], by simp [hi], fun e he hb => ?_⟩
        · have : i < l.size := by omega
          simp [Array.getD, this] at hl ⊢; exact hl
        · have hlt := hd.edge i ops[i] (by simp [hi]) e he hb
          exact ih e.on hlt (by omega)
      rw [h] at hm; cases hm

theorem any_all (hd : DOk ops os n) (c : Chain P G os s0 L fin) (ha : Apart os L) {Q : Exit → Act → World → Prop} {e0 : En}
    (hQ : ∀ s a w φ, InE os L s0 fin (fun _ => true) s → At G F w φ n s a → Ext e0 (en F w φ s.h) → Q .normal a w) :
    ∀ (fuel : Nat) (l : Array Bool) (s : St) (a : Act) (w : World) (φ : Nat → Option (Nat × Nat)), l.size = ops.size → unl l ops.size ≤ fuel → Closed os (fun i => l.getD i false) →
      InE os L s0 fin (fun i => l.getD i false) s → At G F w φ n s a → Ext e0 (en F w φ s.h) → wpAnyIn (FW r) 0 P .any ops Q fuel l a w := by
  have hL : L.length = ops.size := by rw [c.length, hd.len]
  have fin' : ∀ (l : Array Bool) (s : St) (a : Act) (w : World) (φ : Nat → Option (Nat × Nat)), l.size = ops.size → Region.ready .any ops l = [] →
      InE os L s0 fin (fun i => l.getD i false) s → At G F w φ n s a → Ext e0 (en F w φ s.h) → Q .normal a w := by
    intro l s a w φ hs hr ie ra he
    have hall := ready_nil hd hs hr
    refine hQ s a w φ ⟨ie.d, ie.len, fun b hb => ?_, fun k => ?_⟩ ra he
    · rw [ie.h b hb]; congr 1; exact pick_congr fun i hi _ => hall i (by omega)
    · rw [ie.t k]; exact pick_congr fun i hi _ => hall i (by omega)
  intro fuel
  induction fuel with
  | zero =>
    intro l s a w φ hs hu cl ie ra he
    have hall := unl_zero (by omega : unl l ops.size = 0)
    have hr : Region.ready .any ops l = [] := by
      apply List.eq_nil_iff_forall_not_mem.2
      intro i hi
      obtain ⟨h1, o, ho, _⟩ := mem_ready.1 hi
      have hi' := (Array.getElem?_eq_some_iff.1 ho).1
      have := hall i hi'
      have hil : i < l.size := by omega
      simp [Array.getD, hil] at h1 this
      rw [h1] at this; cases this
    exact ⟨hr, fin' l s a w φ hs hr ie ra he⟩
  | succ fuel ih =>
    intro l s a w φ hs hu cl ie ra he
    refine ⟨fun hr => fin' l s a w φ hs hr ie ra he, fun i hi => ?_⟩
    obtain ⟨h1, o, ho, hed⟩ := mem_ready.1 hi
    have hi' := (Array.getElem?_eq_some_iff.1 ho).1
    have hil : i < l.size := by omega
    have hE : l.getD i false = false := by simp [Array.getD, hil] at h1 ⊢; exact h1
    have hio : i < os.length := by rw [hd.len]; exact hi'
    have hiL : i < L.length := by omega
    have hq := List.getElem?_eq_getElem hio
    have hbef : ∀ k ∈ (os[i]).bef, l.getD k false = true := by
      intro k hk
      obtain ⟨_, e, hee, heb, hor⟩ := hd.bef i o _ ho hq k hk
      have := hed e hee heb
      rcases hor with rfl | ⟨q', hq', hk'⟩
      · exact this
      · exact cl e.on q' this hq' k hk'
    have upd' : ∀ k, (l.setIfInBounds i true).getD k false = (l.getD k false || k == i) := by
      intro k
      by_cases hk : k = i
      · subst hk; simp [Array.getD, hil]
      · simp only [Array.getD_eq_getD_getElem?]
        rw [Array.getElem?_setIfInBounds_ne (fun e => hk e.symm)]
        simp [hk]
    refine any_step hd c ha ho hq (List.getElem?_eq_getElem hiL) cl hE hbef ie ra ?_
    intro s' a' w' φ' ie' ra' he'
    have hfun : (fun k => (l.setIfInBounds i true).getD k false) = fun k => l.getD k false || k == i := funext upd'
    refine ih (l.setIfInBounds i true) s' a' w' φ' (by simpa using hs) ?_ ?_ (by rw [hfun]; exact ie') ra' (he.trans he')
    · have := unl_set hil hE (m := ops.size)
      rw [if_pos hi'] at this
      omega
    · rw [hfun]
      intro j q hj hqj k hk
      simp only [Bool.or_eq_true, beq_iff_eq] at hj ⊢
      rcases hj with hj | rfl
      · exact .inl (cl j q hj hqj k hk)
      · rw [hq] at hqj; cases hqj; exact .inl (hbef k hk)

/-- A region whose order is drawn, out of one walk. -/
theorem drawn_sound {id : Nat} {a : Act} {w : World} (hm : P.follows .mixedOrders = true) (hd : DOk ops os n) (c : Chain P G os s0 L fin) (ha : Apart os L) (ra : At G F w φ n s0 a) {Q : Exit → Act → World → Prop}
    (hQ : ∀ a' w' φ', At G F w' φ' n fin a' → Ext (en F w φ s0.h) (en F w' φ' fin.h) → Q .normal a' w') : (Code.region id ops true).wpIn (FW r) 0 P Q a w := by
  refine wpIn_region_any hm ?_
  have hlast : stAt L fin L.length = fin := by simp [stAt]
  have hle : s0.h.length ≤ fin.h.length := by
    have := lens_le c (i := 0) (j := L.length) (Nat.zero_le _) (Nat.le_refl _)
    rwa [c.zero, hlast] at this
  have hL : L.length = ops.size := by rw [c.length, hd.len]
  let sp : St := { s0 with h := s0.h ++ List.replicate (fin.h.length - s0.h.length) Blk.rsv }
  have hz : ∀ i, (Array.replicate ops.size false).getD i false = false := fun i => by
    simp [Array.getD]
  have ra1 : At G F w.drew φ n sp a := by
    have r1 := ra.pad (m := fin.h.length - s0.h.length)
    exact ⟨rh_drew r1.heap, r1.env.ext (ext_drew _ _ _ _), r1.defs, r1.dlt, r1.size⟩
  refine any_all (e0 := en F w φ s0.h) hd c ha ?_ ops.size _ sp a _ φ (by simp) (by rw [unl_empty _ _ (Nat.le_refl _)]; exact Nat.le_refl _) ?_ ?_ ra1 (ext_pad.trans (ext_drew _ _ _ _))
  · intro s a' w' φ' ie ra' he
    have hh : s.h = fin.h := by
      apply List.ext_getElem?
      intro b
      rcases Nat.lt_or_ge b fin.h.length with hb | hb
      · rw [ie.h b hb]
        have := chain_heap c (Nat.le_refl L.length) b (by rw [hlast]; exact hb)
        rw [hlast] at this
        rw [this]
        congr 1
        exact pick_congr fun i hi _ => by simp [hi]
      · rw [List.getElem?_eq_none (by rw [ie.len]; exact hb), List.getElem?_eq_none hb]
    have ht : ∀ k, get s.t k = get fin.t k := by
      intro k
      have := chain_tmps c (Nat.le_refl L.length) k
      rw [hlast] at this
      rw [ie.t k, this]
      exact pick_congr fun i hi _ => by simp [hi]
    have hdd : fin.d = s0.d := by
      clear hQ ie ra' he hh ht ra1 hz sp hL hle hlast ra ha hd
      induction c with
      | nil => rfl
      | cons _ _ ih => exact ih
    refine hQ a' w' φ' ⟨hh ▸ ra'.heap, ?_, ?_, ?_, ra'.size⟩ (hh ▸ he)
    · intro k v hv
      rw [← ht k] at hv
      rw [← hh]; exact ra'.env k v hv
    · rw [hdd, ← ie.d]; exact ra'.defs
    · rw [hdd, ← ie.d, ← hh]; exact ra'.dlt
  · intro j q hj
    have hj' : (Array.replicate ops.size false).getD j false = true := hj
    rw [hz j] at hj'; cases hj'
  · refine ⟨rfl, by simp [sp]; omega, fun b hb => ?_, fun k => ?_⟩
    · rw [pick_none fun i _ _ => hz i]
      simp only [sp]
      rcases Nat.lt_or_ge b s0.h.length with h | h
      · rw [List.getElem?_append_left h, List.getD_eq_getElem?_getD, List.getElem?_eq_getElem h]; rfl
      · rw [List.getElem?_append_right h, List.getElem?_replicate, if_pos (by omega), List.getD_eq_getElem?_getD, List.getElem?_eq_none h]; rfl
    · rw [pick_none fun i _ _ => hz i]

end

end Go.Vm

namespace Go.Vm
open Go Go.RowKit
variable {P : Program} {G : Addr → Option Value} {F F' : Nat → Prop} {w w' : World} {φ φ1 : Nat → Option (Nat × Nat)} {h : List Blk}

/-! ### What can be seen of a drawn region without walking it -/

def befs : List Oper → List (List Nat) → List (List Nat)
  | [], acc => acc
  | o :: os, acc => befs os (acc ++ [((o.after.toList.filter (Region.binds .any)).flatMap fun e => e.on :: acc.getD e.on []).eraseDups])

def toROD (ops : Array Oper) : List RO := List.zipWith (fun o b => { toRO ops o with bef := b }) ops.toList (befs ops.toList [])

def dOkB (ops : Array Oper) (os : List RO) : Bool :=
  (os.length == ops.size) &&
  (ops.toList.zipIdx.all fun x => x.1.after.toList.all fun e => !Region.binds .any e || decide (e.on < x.2)) &&
  (os.zipIdx.all fun x => x.1.bef.all fun k => decide (k < x.2) && ((ops[x.2]?).map fun o => o.after.toList.any fun e => Region.binds .any e && (k == e.on || ((os[e.on]?).map fun q => q.bef.contains k).getD false)).getD false) &&
  (os.zipIdx.all fun x => (opTmps x.1.op ++ gTmps x.1.guard).all fun k => os.zipIdx.all fun y => y.1.dst != some k || x.1.bef.contains y.2 || y.1.bef.contains x.2) &&
  (os.zipIdx.all fun x => x.1.dst.isNone || os.zipIdx.all fun y => x.2 == y.2 || x.1.dst != y.1.dst)

def dstB (n : Nat) (ops : Array Oper) : Bool := ops.toList.all fun o => match o.dst with | some d => decide (d < n) | none => true

theorem zipWith_at {α β γ : Type} {f : α → β → γ} : ∀ {as : List α} {bs : List β} {i : Nat} {a : α} {q : γ}, as[i]? = some a → (List.zipWith f as bs)[i]? = some q → ∃ b, q = f a b
  | [], _, _, _, _, h, _ => by simp at h
  | _ :: _, [], _, _, _, _, h => by simp at h
  | a :: as, b :: bs, 0, _, _, h, k => by simp at h k; subst h; exact ⟨b, k.symm⟩
  | a :: as, b :: bs, i + 1, _, _, h, k => by simp at h k; exact zipWith_at h (by simpa using k)

theorem dOk_of {ops : Array Oper} {n : Nat} (hb : dOkB ops (toROD ops) = true) (hn : dstB n ops = true) : DOk ops (toROD ops) n := by
  simp only [dOkB, Bool.and_eq_true, List.all_eq_true, beq_iff_eq] at hb
  obtain ⟨⟨⟨⟨hlen, hedge⟩, hbef⟩, htm⟩, huniq⟩ := hb
  have op : ∀ (j : Nat) (o : Oper) (q : RO), ops[j]? = some o → (toROD ops)[j]? = some q → q.dst = o.dst ∧ q.op = o.op ∧ q.guard = (toRO ops o).guard := by
    intro j o q ho hq
    obtain ⟨b, rfl⟩ := zipWith_at (by rw [Array.getElem?_toList]; exact ho) hq
    exact ⟨rfl, rfl, rfl⟩
  refine ⟨hlen, op, ?_, ?_, ?_, ?_, ?_⟩
  · intro j o ho e he hb
    have := hedge (o, j) (by rw [List.mem_zipIdx_iff_getElem?]; simpa using ho) e (by simpa using he)
    simpa [hb] using this
  · intro j o q ho hq k hk
    have := hbef (q, j) (by rw [List.mem_zipIdx_iff_getElem?]; exact hq) k hk
    simp only [ho, Option.map_some, Option.getD_some, Bool.and_eq_true, decide_eq_true_eq, List.any_eq_true, Bool.or_eq_true, beq_iff_eq] at this
    obtain ⟨h1, e, he, hb, hor⟩ := this
    refine ⟨h1, e, by simpa using he, hb, hor.imp id fun h => ?_⟩
    cases hq' : (toROD ops)[e.on]? with
    | none => simp [hq'] at h
    | some q' => simp [hq'] at h; exact ⟨q', rfl, h⟩
  · intro j q hq k hk i q' hq' hd
    have := htm (q, j) (by rw [List.mem_zipIdx_iff_getElem?]; exact hq) k (by simpa using hk) (q', i) (by rw [List.mem_zipIdx_iff_getElem?]; exact hq')
    simpa [hd] using this
  · intro i j q q' k hq hq' hd hd'
    have := huniq (q, i) (by rw [List.mem_zipIdx_iff_getElem?]; exact hq)
    simp only [hd, Option.isNone_some, Bool.false_or, List.all_eq_true] at this
    have := this (q', j) (by rw [List.mem_zipIdx_iff_getElem?]; exact hq')
    simpa [hd'] using this
  · intro j q k hq hd
    have hj : j < ops.size := by
      have := (List.getElem?_eq_some_iff.1 hq).1
      rw [← hlen]; exact this
    have ho : ops[j]? = some ops[j] := by simp [hj]
    have := (op j _ q ho hq).1
    simp only [dstB, List.all_eq_true] at hn
    have hx := hn ops[j] (by simp)
    rw [← this, hd] at hx
    simpa using hx

def clash (a b : Tr) : Bool :=
  (a.2.1.any fun x => b.1.contains x || b.2.1.contains x) ||
  (b.1.any fun x => decide (a.2.2.1 ≤ x) && decide (x < a.2.2.2)) || (b.2.1.any fun x => decide (a.2.2.1 ≤ x) && decide (x < a.2.2.2)) ||
  (a.1.any fun x => b.2.1.contains x)

def ordOk (os : List RO) (tr : List Tr) : Bool :=
  tr.zipIdx.all fun y => tr.zipIdx.all fun x => !decide (x.2 < y.2) || ((os[y.2]?).map fun q => q.bef.contains x.2).getD false || !clash x.1 y.1

theorem apart_of {os : List RO} {s fin : St} {L : List Stp} (c : Chain P G os s L fin) (h : ordOk os (L.map Stp.tr) = true) : Apart os L := by
  intro i j si sj q hij hsi hsj hq hm
  simp only [ordOk, List.all_eq_true] at h
  have := h (sj.tr, j) (by rw [List.mem_zipIdx_iff_getElem?]; simp [hsj]) (si.tr, i) (by rw [List.mem_zipIdx_iff_getElem?]; simp [hsi])
  simp only [hij, decide_true, Bool.not_true, hq, Option.map_some, Option.getD_some, Bool.false_or, Bool.or_eq_true, List.contains_iff_mem, hm, false_or, Bool.not_eq_true'] at this
  simp only [clash, Stp.tr, Bool.or_eq_false_iff, List.any_eq_false, Bool.and_eq_true, decide_eq_true_eq, not_and, Bool.or_eq_true, List.contains_iff_mem, not_or] at this
  obtain ⟨⟨⟨h1, h2⟩, h3⟩, h4⟩ := this
  have hiL := (List.getElem?_eq_some_iff.1 hsi).1
  have hjL := (List.getElem?_eq_some_iff.1 hsj).1
  have hio : i < os.length := by rw [← c.length]; exact hiL
  have ti := (c.fine (List.getElem?_eq_getElem hio) hsi).tidy
  have tj := (c.fine hq hsj).tidy
  have hle : si.h'.length ≤ sj.s.h.length := by
    have := lens_le c (i := i + 1) (j := j) hij (by omega)
    rw [c.next (List.getElem?_eq_getElem hio) hsi] at this
    simpa [stAt, hsj, St.put] using this
  have til := ti.len
  refine ⟨fun b hW => ?_, fun b hb => ?_⟩
  · simp only [Stp.W, Bool.or_eq_true, List.contains_iff_mem, Bool.and_eq_true, decide_eq_true_eq] at hW
    rcases hW with hW | hW
    · obtain ⟨k1, k2⟩ := h1 b hW
      refine ⟨k1, ?_⟩
      have hbl := ti.lt b hW
      simp [Stp.W, k2]; omega
    · refine ⟨fun hb => absurd (decide_eq_true hW.2) (h2 b hb (decide_eq_true hW.1)), ?_⟩
      have k2 : b ∉ sj.wr := fun hb => absurd (decide_eq_true hW.2) (h3 b hb (decide_eq_true hW.1))
      simp [Stp.W, k2]; omega
  · have hbl := ti.rlt b hb
    have k2 := h4 b hb
    simp [Stp.W, k2]; omega

/-! ### Code, as it is walked -/

inductive IC where
  | skip
  | ops (l : List RO)
  | opsD (l : List RO)
  | seq (a b : IC)
  | cond (c : Operand) (a b : IC)
  | block (id : Nat) (b : IC)
  | loop (b : IC)
  | range (g : Operand) (ps : Array Tmp) (assign body : IC)
  | exit (id : Nat)
  | scope (b : IC)
  | label (l : Nat)
  | goto (l : Nat)
  | ret
  | bad

def comp : Code → IC
  | .skip => .skip
  | .region _ ops draw => if draw then .opsD (toROD ops) else .ops (ops.toList.map (toRO ops))
  | .seq a b => .seq (comp a) (comp b)
  | .cond c a b => .cond c (comp a) (comp b)
  | .block id b => .block id (comp b)
  | .loop b => .loop (comp b)
  | .rangeFunc g ps a b => .range g ps (comp a) (comp b)
  | .exit id => .exit id
  | .scope b => .scope (comp b)
  | .label l => .label l
  | .goto l => .goto l
  | .ret => .ret
  | .refuse _ => .bad

def okC (n : Nat) : Code → Bool
  | .region _ ops draw => dstB n ops && (!draw || dOkB ops (toROD ops))
  | .seq a b => okC n a && okC n b
  | .cond _ a b => okC n a && okC n b
  | .block _ b => okC n b
  | .loop b => okC n b
  | .rangeFunc _ _ a b => okC n a && okC n b
  | .scope b => okC n b
  | _ => true

/-- How far back something may lean: blocks below m. -/
def Base (m : Nat) (e0 e : En) : Prop := Ext e0 e ∧ ∀ i, e0.dom i → i < m

/-- The round that the frame is of, if it is of one. -/
def Rd (r : Option Nat) (e0 : En) (rp : Option Nat) : Prop :=
  match r with
  | none => rp = none
  | some l => ∃ b, rp = some b ∧ e0.dom l ∧ e0.φ l = some (b, 0)

/-- A piece of code, from one state to others. -/
def T (P : Program) (G : Addr → Option Value) (r : Option Nat) (n m : Nat) (c : Code) (s : St) (Q : Exit → St → Prop) [KTag Q] : Prop :=
  ∀ (F : Nat → Prop) (w : World) (φ : Nat → Option (Nat × Nat)) (a : Act) (e0 : En) (rp : Option Nat), Rd r e0 rp → At G F w φ n s a → Base m e0 (en F w φ s.h) →
    c.wpIn (FW rp) 0 P (fun e a' w' => ∃ s' φ', Q e s' ∧ At G F w' φ' n s' a' ∧ Base m e0 (en F w' φ' s'.h)) a w

def Ti (P : Program) (G : Addr → Option Value) (r : Option Nat) (n m : Nat) (ic : IC) (s : St) (Q : Exit → St → Prop) [KTag Q] : Prop := ∀ c, comp c = ic → okC n c = true → T P G r n m c s Q

variable {r : Option Nat} {n m : Nat} {s : St} {Q : Exit → St → Prop}

theorem Base.ext {e0 e e' : En} (b : Base m e0 e) (h : Ext e e') : Base m e0 e' := ⟨b.1.trans h, b.2⟩

theorem T.mono {c : Code} {Q' : Exit → St → Prop} (h : T P G r n m c s Q) (hq : ∀ e s, Q e s → Q' e s) : T P G r n m c s Q' :=
  fun F w φ a e0 rp hr ra hb => wpIn_mono (h F w φ a e0 rp hr ra hb) fun _ _ _ ⟨s', φ', k, rest⟩ => ⟨s', φ', hq _ _ k, rest⟩

def thenQ (K : St → Prop) (Q : Exit → St → Prop) [KTag K] [KTag Q] : Exit → St → Prop
  | .normal, s => K s
  | e, s => Q e s

theorem T.skip (h : Q .normal s) : T P G r n m .skip s Q := fun F w φ a e0 rp hr ra hb => wpIn_skip ⟨s, φ, h, ra, hb⟩
theorem T.label {l : Nat} (h : Q .normal s) : T P G r n m (.label l) s Q := fun F w φ a e0 rp hr ra hb => wpIn_label ⟨s, φ, h, ra, hb⟩
theorem T.exit {id : Nat} (h : Q (.exit id) s) : T P G r n m (.exit id) s Q := fun F w φ a e0 rp hr ra hb => wpIn_exit ⟨s, φ, h, ra, hb⟩
theorem T.goto {l : Nat} (h : Q (.goto l) s) : T P G r n m (.goto l) s Q := fun F w φ a e0 rp hr ra hb => wpIn_goto ⟨s, φ, h, ra, hb⟩
theorem T.ret (h : Q .ret s) : T P G r n m .ret s Q := fun F w φ a e0 rp hr ra hb => wpIn_ret ⟨s, φ, h, ra, hb⟩

theorem T.seq {a b : Code} (h : T P G r n m a s (thenQ (fun s' => T P G r n m b s' Q) Q)) : T P G r n m (.seq a b) s Q := by
  intro F w φ ac e0 rp hr ra hb
  refine wpIn_seq (wpIn_mono (h F w φ ac e0 rp hr ra hb) ?_)
  rintro e a' w' ⟨s', φ', k, ra', hb'⟩
  cases e with
  | normal => exact k F w' φ' a' e0 rp hr ra' hb'
  | exit id => exact ⟨s', φ', k, ra', hb'⟩
  | goto l => exact ⟨s', φ', k, ra', hb'⟩
  | ret => exact ⟨s', φ', k, ra', hb'⟩
  | panic ch => exact ⟨s', φ', k, ra', hb'⟩
  | outgrown => exact ⟨s', φ', k, ra', hb'⟩

theorem T.cond {x : Operand} {a b : Code} (h : bnd (ev s x) fun v => match v with | .c (.bool t) => (t = true → T P G r n m a s Q) ∧ (t = false → T P G r n m b s Q) | _ => False) : T P G r n m (.cond x a b) s Q := by
  intro F w φ ac e0 rp hr ra hb
  obtain ⟨v, hv, h⟩ := h
  have hc := ev_cn ra.rep hv
  split at h
  · rename_i t
    simp only [Cn] at hc
    exact wpIn_cond_split hc (fun ht => h.1 ht F w φ ac e0 rp hr ra hb) (fun ht => h.2 ht F w φ ac e0 rp hr ra hb)
  · exact h.elim

def blockQ (id : Nat) (Q : Exit → St → Prop) [KTag Q] : Exit → St → Prop
  | .exit id', s => if id' = id then Q .normal s else Q (.exit id') s
  | e, s => Q e s

theorem T.block {id : Nat} {b : Code} (h : T P G r n m b s (blockQ id Q)) : T P G r n m (.block id b) s Q := by
  intro F w φ ac e0 rp hr ra hb
  refine wpIn_block (wpIn_mono (h F w φ ac e0 rp hr ra hb) ?_)
  rintro e a' w' ⟨s', φ', k, ra', hb'⟩
  cases e with
  | exit id' =>
    simp only [blockQ] at k
    simp only [Exit.inBlock]
    by_cases hid : id' = id
    · simp only [hid, if_true] at k ⊢; exact ⟨s', φ', k, ra', hb'⟩
    · simp only [hid, if_false] at k ⊢; exact ⟨s', φ', k, ra', hb'⟩
  | normal => exact ⟨s', φ', k, ra', hb'⟩
  | goto l => exact ⟨s', φ', k, ra', hb'⟩
  | ret => exact ⟨s', φ', k, ra', hb'⟩
  | panic ch => exact ⟨s', φ', k, ra', hb'⟩
  | outgrown => exact ⟨s', φ', k, ra', hb'⟩

theorem T.loop {c : Code} (I : Nat → St → Prop) {k : Nat} (h0 : I k s) (round : ∀ k s, I k s → T P G r n m c s (thenQ (fun s' => ∃ k', k' < k ∧ I k' s') Q)) : T P G r n m (.loop c) s Q := by
  intro F w φ ac e0 rp hr ra hb
  let J : Act → World → Prop := fun a w => ∃ k s φ, I k s ∧ At G F w φ n s a ∧ Base m e0 (en F w φ s.h)
  -- the measure: the least k
  have least : ∀ a w, J a w → ∃ k, (∃ s φ, I k s ∧ At G F w φ n s a ∧ Base m e0 (en F w φ s.h)) ∧ ∀ k', k' < k → ¬ ∃ s φ, I k' s ∧ At G F w φ n s a ∧ Base m e0 (en F w φ s.h) := by
    rintro a w ⟨k, hk⟩
    induction k using Nat.strongRecOn with
    | _ k ih =>
      by_cases hx : ∃ k', k' < k ∧ ∃ s φ, I k' s ∧ At G F w φ n s a ∧ Base m e0 (en F w φ s.h)
      · obtain ⟨k', hlt, hk'⟩ := hx
        exact ih k' hlt hk'
      · exact ⟨k, hk, fun k' hlt hk' => hx ⟨k', hlt, hk'⟩⟩
  classical
  let μ : Act → World → Nat := fun a w => if hj : J a w then Classical.choose (least a w hj) else 0
  have μ_le : ∀ a w k, (∃ s φ, I k s ∧ At G F w φ n s a ∧ Base m e0 (en F w φ s.h)) → μ a w ≤ k := by
    intro a w k hk
    have hj : J a w := ⟨k, hk⟩
    simp only [μ, dif_pos hj]
    have := (Classical.choose_spec (least a w hj)).2
    exact Nat.le_of_not_lt fun hlt => this k hlt hk
  have μ_at : ∀ a w, J a w → ∃ s φ, I (μ a w) s ∧ At G F w φ n s a ∧ Base m e0 (en F w φ s.h) := by
    intro a w hj
    simp only [μ, dif_pos hj]
    exact (Classical.choose_spec (least a w hj)).1
  refine wpIn_loop J μ ⟨k, s, φ, h0, ra, hb⟩ ?_
  intro a w hj
  obtain ⟨s1, φ1, hI, ra1, hb1⟩ := μ_at a w hj
  refine wpIn_mono (round _ s1 hI F w φ1 a e0 rp hr ra1 hb1) ?_
  rintro e a' w' ⟨s', φ', k', ra', hb'⟩
  cases e with
  | normal =>
    obtain ⟨k2, hlt, hI'⟩ := k'
    exact ⟨⟨k2, s', φ', hI', ra', hb'⟩, Nat.lt_of_le_of_lt (μ_le a' w' k2 ⟨s', φ', hI', ra', hb'⟩) hlt⟩
  | exit id => exact ⟨s', φ', k', ra', hb'⟩
  | goto l => exact ⟨s', φ', k', ra', hb'⟩
  | ret => exact ⟨s', φ', k', ra', hb'⟩
  | panic ch => exact ⟨s', φ', k', ra', hb'⟩
  | outgrown => exact ⟨s', φ', k', ra', hb'⟩

theorem T.ops {id : Nat} {ops : Array Oper} (hn : dstB n ops = true) (h : vcOps P G (ops.toList.map (toRO ops)) s (Q .normal)) : T P G r n m (.region id ops false) s Q := by
  intro F w φ a e0 rp hr ra hb
  refine wpIn_region ?_
  refine vcOps_sound (List.range ops.size) ops.toList ?_ ?_ ra h ?_
  · apply List.ext_getElem?
    intro i
    simp only [List.getElem?_map, List.getElem?_range]
    rcases Nat.lt_or_ge i ops.size with hi | hi
    · simp [hi]
    · simp [hi]
  · intro o ho d hd
    simp only [dstB, List.all_eq_true] at hn
    have := hn o ho
    rw [hd] at this
    simpa using this
  · intro w' φ' s' a' k ra' hx
    exact ⟨s', φ', k, ra', hb.ext hx⟩

theorem T.opsD {id : Nat} {ops : Array Oper} (hm : P.follows .mixedOrders = true) (hn : dstB n ops = true) (hd : dOkB ops (toROD ops) = true)
    (h : vcD P G (toROD ops) s [] fun tr s' => ordOk (toROD ops) tr = true ∧ Q .normal s') : T P G r n m (.region id ops true) s Q := by
  intro F w φ a e0 rp hr ra hb
  obtain ⟨L, fin, c, ho, hQ⟩ := vcD_chain h
  simp only [List.nil_append] at ho
  refine drawn_sound hm (dOk_of hd hn) c (apart_of c ho) ra ?_
  intro a' w' φ' ra' hx
  exact ⟨fin, φ', hQ, ra', hb.ext hx⟩

def vc (P : Program) (G : Addr → Option Value) (r : Option Nat) (n m : Nat) : IC → St → (Q : Exit → St → Prop) → [KTag Q] → Prop
  | .skip, s, Q, _ => Q .normal s
  | .ops l, s, Q, _ => vcOps P G l s (Q .normal)
  | .opsD l, s, Q, _ => vcD P G l s [] fun tr s' => ordOk l tr = true ∧ Q .normal s'
  | .seq a b, s, Q, _ => vc P G r n m a s (thenQ (fun s' => vc P G r n m b s' Q) Q)
  | .cond c a b, s, Q, _ => bnd (ev s c) fun v => match v with
    | .c (.bool t) => brV t (vc P G r n m a s Q) (vc P G r n m b s Q)
    | _ => False
  | .block id b, s, Q, _ => vc P G r n m b s (blockQ id Q)
  | .loop b, s, Q, _ => Ti P G r n m (.loop b) s Q
  | .range g ps a b, s, Q, _ => Ti P G r n m (.range g ps a b) s Q
  | .exit id, s, Q, _ => Q (.exit id) s
  | .scope b, s, Q, _ => Ti P G r n m (.scope b) s Q
  | .label _, s, Q, _ => Q .normal s
  | .goto l, s, Q, _ => Q (.goto l) s
  | .ret, s, Q, _ => Q .ret s
  | .bad, _, _, _ => False

theorem thenQ_mono {K K' : St → Prop} (h : ∀ s, K s → K' s) : ∀ e s, thenQ K Q e s → thenQ K' Q e s := by
  intro e s k
  cases e <;> first | exact h s k | exact k

theorem vc_sound (hm : P.follows .mixedOrders = true) : ∀ {c : Code} {s : St} {Q : Exit → St → Prop}, okC n c = true → vc P G r n m (comp c) s Q → T P G r n m c s Q
  | .skip, s, Q, _, h => T.skip h
  | .region id ops draw, s, Q, hk, h => by
    simp only [okC, Bool.and_eq_true] at hk
    cases draw with
    | true =>
      simp only [comp, if_true, vc] at h
      exact T.opsD hm hk.1 (by simpa using hk.2) h
    | false =>
      simp only [comp, Bool.false_eq_true, if_false, vc] at h
      exact T.ops hk.1 h
  | .seq a b, s, Q, hk, h => by
    simp only [okC, Bool.and_eq_true] at hk
    simp only [comp, vc] at h
    exact T.seq ((vc_sound hm hk.1 h).mono (thenQ_mono fun s' k => vc_sound hm hk.2 k))
  | .cond c a b, s, Q, hk, h => by
    simp only [okC, Bool.and_eq_true] at hk
    simp only [comp, vc] at h
    obtain ⟨v, hv, h⟩ := h
    refine T.cond ⟨v, hv, ?_⟩
    split at h
    · exact ⟨fun ht => vc_sound hm hk.1 (h.1 ht), fun ht => vc_sound hm hk.2 (h.2 ht)⟩
    · exact h.elim
  | .block id b, s, Q, hk, h => T.block (vc_sound hm hk h)
  | .loop b, s, Q, hk, h => h (.loop b) rfl hk
  | .rangeFunc g ps a b, s, Q, hk, h => h (.rangeFunc g ps a b) rfl hk
  | .exit id, s, Q, _, h => T.exit h
  | .scope b, s, Q, hk, h => h (.scope b) rfl hk
  | .label l, s, Q, _, h => T.label h
  | .goto l, s, Q, _, h => T.goto h
  | .ret, s, Q, _, h => T.ret h
  | .refuse _, s, Q, _, h => h.elim

/-- A loop, by what holds at its head, and how often it comes round. -/
theorem Ti.loop (hm : P.follows .mixedOrders = true) {b : IC} (I : Nat → St → Prop) {k : Nat} (h0 : I k s)
    (round : ∀ k s, I k s → vc P G r n m b s (thenQ (fun s' => ∃ k', k' < k ∧ I k' s') Q)) : Ti P G r n m (.loop b) s Q := by
  intro c hc hk
  cases c <;> simp only [comp] at hc <;> try (cases hc; done)
  · split at hc <;> cases hc
  · rename_i b'
    cases hc
    exact T.loop I h0 fun k s hI => vc_sound hm hk (round k s hI)

theorem Ti.mono {ic : IC} {Q' : Exit → St → Prop} (h : Ti P G r n m ic s Q) (hq : ∀ e s, Q e s → Q' e s) : Ti P G r n m ic s Q' := fun c h1 h2 => (h c h1 h2).mono hq

end Go.Vm

namespace Go.Vm
open Go Go.RowKit
variable {P : Program} {G : Addr → Option Value} {F F' : Nat → Prop} {w w' : World} {φ φ1 : Nat → Option (Nat × Nat)} {h : List Blk}
/-! ### What a function leaves behind -/

/-- Leaving: what is handed back, with as much of the heap as is still of use. -/
def exitV (G : Addr → Option Value) (m : Nat) (h : List Blk) (v : V) (K : V → List Blk → Prop) [KTag K] : Prop :=
  ∀ (F : Nat → Prop) (w : World) (φ : Nat → Option (Nat × Nat)) (y : Value) (e0 : En), RH G F w φ h → Cn (en F w φ h) v y → Base m e0 (en F w φ h) →
    ∃ φ2 v2 h2, K v2 h2 ∧ Cn (en F w φ2 h2) v2 y ∧ RH G F w φ2 h2 ∧ Ext e0 (en F w φ2 h2)

variable {m : Nat} {v : V} {K : V → List Blk → Prop}

theorem exitV.now (k : K v h) : exitV G m h v K := fun _ _ φ _ _ r hc hb => ⟨φ, v, h, k, hc, r, hb.1⟩

theorem exitV.freeze (i : Nat) (t : TypeId) (cs : List V) (g : Bool) (hi : h[i]? = some (.cells t cs)) (hf : v.fits i cs.length g) (k : exitV G m (h.set i .gone) (v.frz i cs g) K) : exitV G m h v K := by
  intro F w φ y e0 r hc hb
  have c := cold_of r hi
  exact k F w φ y e0 (set_gone r hi rfl).1 (Cn.frz c hf hc) (hb.ext c.ext)

theorem exitV.drop (small : List Blk) (ρ : Nat → Nat) (v2 : V) (hv : v = v2.ren ρ) (hl : m ≤ small.length) (h0 : ∀ i, i < m → ρ i = i) (inj : ∀ i j, i < small.length → j < small.length → ρ i = ρ j → i = j)
    (im : ∀ (i : Nat) (k : Blk), small[i]? = some k → h[ρ i]? = some (k.ren ρ)) (dm : ∀ k ∈ small, k.dm = true) (cl : ∀ k ∈ small, k.ok (· < small.length)) (ok : v2.ok (· < small.length)) (k : K v2 small) : exitV G m h v K := by
  intro F w φ y e0 r hc hb
  have dom : ∀ i, i < small.length → (en F w (fun i => φ (ρ i)) small).dom i := fun i hi => ⟨small[i], List.getElem?_eq_getElem hi, dm _ (List.getElem_mem hi)⟩
  have ow : ∀ b, owned (fun i => φ (ρ i)) small b → owned φ h b := by
    rintro b ⟨i, s, k, hk, hl, hf⟩
    exact ⟨ρ i, s, k.ren ρ, im i k hk, by rw [Blk.live_ren]; exact hl, hf⟩
  obtain ⟨r', un⟩ := RH.un (F' := F) (small := small) r (fun i k hk _ => im i k hk) (fun i k hk => Blk.ok_mono dom (cl k (List.mem_of_getElem? hk))) inj (fun _ h => h) (fun _ h => .inl h)
    (fun b hb ho => (r.flt b hb).2 (ow b ho))
  refine ⟨_, v2, small, k, Cn.un un (V.ok_mono dom ok) (hv ▸ hc), r', ?_⟩
  have e := hb.1
  refine ⟨e.sub, fun i hi => dom i (Nat.lt_of_lt_of_le (hb.2 i hi) hl), fun i hi => ?_, e.frame, fun b hs hm ho => e.mine b hs hm (ow b ho), fun b hs hm ho => e.own b hs hm (ho.imp (ow b) id), e.shape, e.size, e.os, e.tape, e.output⟩
  have := e.agree i hi
  simp only [en] at this ⊢
  rw [h0 i (hb.2 i hi)]; exact this

/-- All that came later is dropped. -/
theorem exitV.cut (dm : ∀ k ∈ h.take m, k.dm = true) (hl : m ≤ h.length) (cl : ∀ k ∈ h.take m, k.ok (· < m)) (ok : v.ok (· < m)) (k : K v (h.take m)) : exitV G m h v K := by
  have hlen : (h.take m).length = m := by simp; omega
  refine exitV.drop (h.take m) (fun i => i) v (V.ren_id v).symm (by omega) (fun _ _ => rfl) (fun _ _ _ _ e => e) ?_ dm (by rw [hlen]; exact cl) (by rw [hlen]; exact ok) k
  intro i k hk
  rw [Blk.ren_same (p := fun _ => True) (fun _ _ => rfl) ?_]
  · rw [List.getElem?_take] at hk
    split at hk
    · exact hk
    · cases hk
  · exact Blk.ok_mono (fun _ _ => trivial) (cl k (List.mem_of_getElem? hk))

end Go.Vm

namespace Go.Vm
open Go Go.RowKit
variable {P : Program} {G : Addr → Option Value} {F F' : Nat → Prop} {w w' : World} {φ φ1 : Nat → Option (Nat × Nat)} {h : List Blk}

/-- The marks of loops over functions are taken away. -/
def leaveD : List Nat → List Blk → (K : List Blk → Prop) → [KTag K] → Prop
  | [], h, K, _ => K h
  | i :: d, h, K, _ => h[i]? = some (.deferred true) ∧ leaveD d (h.set i (.deferred false)) K

/-- What a function's results are. -/
def resV (P : Program) (h : List Blk) (t : List (Nat × V)) : List ResultVar → (K : List V → Prop) → [KTag K] → Prop
  | [], K, _ => K []
  | .tmp d :: rs, K, _ => bnd (get t d) fun v => resV P h t rs fun vs => K (v :: vs)
  | .cell d ty :: rs, K, _ => bnd (get t d) fun a => match a with
    | .p i o => atC h[i]? fun _ cs => joinV P ty cs o fun v => resV P h t rs fun vs => K (v :: vs)
    | _ => False

def oneV : List V → V
  | [v] => v
  | vs => .tup vs

theorem join_run (r : RH G F w φ h) {K : V → Prop} {t : TypeId} {i o : Nat} {t' : TypeId} {cs : List V} {x : Value} (hx : Cn (en F w φ h) (.p i o) x) (hb : h[i]? = some (.cells t' cs))
    (hK : joinV P t cs o K) : ∃ y v, K v ∧ Cn (en F w φ h) v y ∧ (do loadVar t (← asAddr x) : Sem Value).run P w = .ok y w := by
  simp only [Cn] at hx
  obtain ⟨_, b, s, hf, rfl⟩ := hx
  obtain ⟨arr, harr, hc⟩ := cells_of r hb hf
  have hc' : ∀ k v, cs[k]? = some v → ∃ x, w.cell? ⟨b, s + k, none⟩ = some x ∧ x.oneCell' = true ∧ Cn (en F w φ h) v x := fun k v hv => by
    obtain ⟨x, hx, ho, hcn⟩ := hc k v hv
    exact ⟨x, by simp [World.cell?, harr, hx], ho, hcn⟩
  obtain ⟨g, hg, hK⟩ := hK
  cases g with
  | true =>
    simp only [if_true] at hK
    obtain ⟨n, hn, hle, hK⟩ := hK
    obtain ⟨ys, hyl, hcn, hall, hj⟩ := cnl_of_at (e := en F w φ h) (cs := cs.drop o) (f := fun k => w.cell? ⟨b, s + o + k, none⟩) n (by simpa using hle) (fun k v hv _ => by
      obtain ⟨x, hx, hy⟩ := hc' (o + k) v (by simpa using hv)
      exact ⟨x, by rw [← hx]; congr 2; omega, hy⟩)
    refine ⟨.agg ys.toArray, _, hK, ?_, ?_⟩
    · simp only [Cn]; exact ⟨ys.toArray, rfl, by simpa using hcn, by simpa using hall⟩
    · have := run_loadCells (P := P) (b := b) (o := s + o) (w := w) ys 0 #[] (by intro j hj'; rw [← hj j (by omega)]; rfl)
      rw [hyl] at this
      simp only [asAddr, Sem.run_bind, Sem.run_pure, Result.andThen_ok, loadVar, run_isAgg hg, run_sizeOf hn, if_true, loadCells]
      simp [this]
  | false =>
    simp only [Bool.false_eq_true, if_false] at hK
    obtain ⟨v, hv, hK⟩ := hK
    obtain ⟨x, hx, _, hcn⟩ := hc' o v hv
    exact ⟨x, v, hK, hcn, by simp [asAddr, loadVar, run_isAgg hg, hx]⟩

def resOf (tmps : Array Value) : ResultVar → Sem Value
  | .tmp t => pure (tmps.getD t undef)
  | .cell a t => do loadVar t (← asAddr (tmps.getD a undef))

theorem res_run {t : List (Nat × V)} {tmps : Array Value} (r : RH G F w φ h) (ce : CnEnv (en F w φ h) t tmps) : ∀ {rs : List ResultVar} {K : List V → Prop}, resV P h t rs K →
    ∃ vs ys, K vs ∧ CnL (en F w φ h) vs ys ∧ (rs.mapM (resOf tmps)).run P w = Result.ok ys w
  | [], K, k => ⟨[], [], k, by simp [CnL], by simp⟩
  | .tmp d :: rs, K, k => by
    obtain ⟨v, hv, k⟩ := k
    obtain ⟨x, hx, hc⟩ := ce d v hv
    obtain ⟨vs, ys, hK, hl, hrun⟩ := res_run r ce k
    have hd : tmps.getD d undef = x := by
      obtain ⟨hlt, he⟩ := Array.getElem?_eq_some_iff.1 hx
      simp [Array.getD, hlt, he]
    refine ⟨v :: vs, x :: ys, hK, ?_, ?_⟩
    · simp only [CnL]; exact ⟨x, ys, rfl, hc, hl⟩
    · simp only [List.mapM_cons, resOf, Sem.run_bind, hd, Sem.run_pure, Result.andThen_ok, hrun]
  | .cell d ty :: rs, K, k => by
    obtain ⟨a, ha, k⟩ := k
    obtain ⟨x, hx, hc⟩ := ce d a ha
    cases a <;> simp only at k <;> try exact k.elim
    rename_i i o
    obtain ⟨t', cs, hb, k⟩ := k
    obtain ⟨y, v, hk, hcv, hm⟩ := join_run (P := P) r hc hb k
    obtain ⟨vs, ys, hK, hl, hrun⟩ := res_run r ce hk
    have hd : tmps.getD d undef = x := by
      obtain ⟨hlt, he⟩ := Array.getElem?_eq_some_iff.1 hx
      simp [Array.getD, hlt, he]
    refine ⟨v :: vs, y :: ys, hK, ?_, ?_⟩
    · simp only [CnL]; exact ⟨y, ys, rfl, hcv, hl⟩
    · simp only [List.mapM_cons, resOf, hd]
      rw [Sem.run_bind, hm]
      simp only [Result.andThen_ok, Sem.run_bind, hrun, Sem.run_pure]

theorem results_eq (fn : Func) (tmps : Array Value) : results fn tmps = (do let vs ← fn.results.mapM (resOf tmps); pure (if h : vs.size = 1 then vs[0] else .tuple vs)) := by
  rfl

theorem results_run {fn : Func} {t : List (Nat × V)} {tmps : Array Value} (r : RH G F w φ h) (ce : CnEnv (en F w φ h) t tmps) {K : List V → Prop} (hk : resV P h t fn.results.toList K) :
    ∃ vs y, K vs ∧ Cn (en F w φ h) (oneV vs) y ∧ (results fn tmps).run P w = Result.ok y w := by
  obtain ⟨vs, ys, hK, hl, hrun⟩ := res_run r ce hk
  refine ⟨vs, (if h : ys.toArray.size = 1 then ys.toArray[0] else .tuple ys.toArray), hK, ?_, ?_⟩
  · have hlen := hl.length
    match vs, ys, hl with
    | [], [], _ => simp [oneV, Cn, CnL]
    | [v], [y], hl => simp only [CnL] at hl; obtain ⟨x, xs, he, hv, _⟩ := hl; cases he; simpa [oneV] using hv
    | v :: u :: vs, y :: z :: ys, hl => simp only [oneV, Cn]; exact ⟨(y :: z :: ys).toArray, by simp, by simpa using hl⟩
    | [], _ :: _, hl => simp [CnL] at hl
    | _ :: _, [], hl => simp [CnL] at hl
    | [_], _ :: _ :: _, _ => simp at hlen
    | _ :: _ :: _, [_], _ => simp at hlen
  · rw [results_eq, Sem.run_bind]
    have : (fn.results.mapM (resOf tmps)).run P w = Result.ok ys.toArray w := by
      rw [Array.mapM_eq_mapM_toList, ← bind_pure_comp, Sem.run_bind, hrun]
      simp
    rw [this]
    rfl

theorem leaves_of {fn : Func} {t : List (Nat × V)} {tmps : Array Value} {R : Ending → World → Prop} {KR : V → List Blk → Prop} :
    ∀ {d : List Nat} {h : List Blk} {w : World} {ds : List Deferred}, RH G F w φ h → CnEnv (en F w φ h) t tmps → (ds = d.map fun i => { target := .collected ((φ i).getD (0, 0)).1, args := #[] }) →
      leaveD d h (fun h1 => resV P h1 t fn.results.toList fun vs => KR (oneV vs) h1) →
      (∀ w' h1 v y, KR v h1 → Cn (en F w' φ h1) v y → RH G F w' φ h1 → Ext (en F w φ h) (en F w' φ h1) → R (.returned y) w') → LeavesInM (FW none) 0 P fn tmps R ds .returning w
  | [], h, w, ds, r, ce, hds, k, hR => by
    subst hds
    obtain ⟨vs, y, hK, hc, hrun⟩ := results_run r ce k
    exact ⟨y, hrun, hR w h _ y hK hc r ext_refl⟩
  | i :: d, h, w, ds, r, ce, hds, k, hR => by
    subst hds
    obtain ⟨hi, k⟩ := k
    refine ⟨by simp, .inl ?_⟩
    obtain ⟨b, hf, hb⟩ := r.rep i _ hi
    have hf' : φ i = some (b, 0) := hf
    have hb' : w.heap[b]? = some (.deferred (some [])) := hb
    have he := ext_put (F := F) (k' := .deferred false) hi rfl rfl hf' hb' (show oshape (.deferred none) = oshape (.deferred (some [])) from rfl)
    have hbl := (Array.getElem?_eq_some_iff.1 hb').1
    have r' := rh_put r hi rfl rfl hf' hb' (show oshape (.deferred none) = oshape (.deferred (some [])) from rfl) (k' := .deferred false) ⟨b, hf', World.putObj_heap_same hbl⟩
    refine ⟨b, _, by simp [hf'], run_takeDeferred hb', ?_⟩
    exact leaves_of r' (ce.ext he) rfl k fun w' h1 v y k1 k2 k3 k4 => hR w' h1 v y k1 k2 k3 (he.trans k4)

def env0 : Nat → List V → List (Nat × V)
  | _, [] => []
  | i, v :: vs => (i, v) :: env0 (i + 1) vs

theorem env0_get : ∀ {as : List V} {i k : Nat} {v : V}, get (env0 i as) k = some v → i ≤ k ∧ as[k - i]? = some v
  | [], i, k, v, h => by simp [env0, get] at h
  | a :: as, i, k, v, h => by
    simp only [env0, get] at h
    split at h
    · cases h; subst_vars; simp
    · obtain ⟨h1, h2⟩ := env0_get h
      refine ⟨by omega, ?_⟩
      rw [show k - i = (k - (i + 1)) + 1 by omega]; simpa using h2

/-- What the walk of a function's body must come to. -/
def leaveQ (P : Program) (G : Addr → Option Value) (m : Nat) (rs : List ResultVar) (K : V → List Blk → Prop) [KTag K] : Exit → St → Prop
  | .normal, s | .ret, s => leaveD s.d s.h fun h1 => resV P h1 s.t rs fun vs => exitV G m h1 (oneV vs) K
  | _, _ => False

/-- A function's contract, out of its body's walk. -/
theorem callV_of {f : FuncId} {fn : Func} {c : Code} {as : List V} {K : V → List Blk → Prop} (hm : P.follows .mixedOrders = true) (hf : P.funcs[f]? = some fn) (hb : fn.body = some c) (hn : (fn.name != "runtime.NumGoroutine") = true)
    (hk : okC fn.ntmps c = true) (hl : as.length ≤ fn.ntmps)
    (hv : vc P G none fn.ntmps h.length (comp c) { t := env0 0 as, d := [], h } (leaveQ P G h.length fn.results.toList K)) : CallV P G f as h K := by
  refine ⟨by simp [enters, hf, hb, hn], fun F w φ xs r hx => ?_⟩
  refine callsIn_of_wp_marks hf hb trivial ?_
  have hxl := hx.length
  have ra : At G F w φ fn.ntmps { t := env0 0 as, d := [], h } { tmps := xs.toArray ++ Array.replicate (fn.ntmps - xs.toArray.size) undef, defers := [] } := by
    refine ⟨r, ?_, rfl, by simp, by simp; omega⟩
    intro k v hv
    obtain ⟨_, hv⟩ := env0_get hv
    obtain ⟨x, hx', hc⟩ := hx.at hv
    refine ⟨x, ?_, hc⟩
    have hkl := (List.getElem?_eq_some_iff.1 hx').1
    rw [Array.getElem?_append_left (by simpa using hkl)]
    simpa using hx'
  refine wpIn_mono (vc_sound hm hk hv F w φ _ (en F w φ h) none rfl ra ⟨ext_refl, fun i ⟨k, hk, _⟩ => (List.getElem?_eq_some_iff.1 hk).1⟩) ?_
  rintro e a' w' ⟨s', φ', hq, ra', hbase⟩
  have fin : leaveD s'.d s'.h (fun h1 => resV P h1 s'.t fn.results.toList fun vs => exitV G h.length h1 (oneV vs) K) → LeavesInM (FW none) 0 P fn a'.tmps (Post G F w φ h K) a'.defers .returning w' := by
    intro hq
    refine leaves_of (KR := fun v h1 => exitV G h.length h1 v K) ra'.heap ra'.env ra'.defs hq ?_
    intro w2 h1 v y k1 k2 k3 k4
    obtain ⟨φ2, v2, h2, g1, g2, g3, g4⟩ := k1 F w2 φ' y (en F w φ h) k3 k2 (hbase.ext k4)
    exact ⟨y, φ2, v2, h2, rfl, g1, g2, g3, g4⟩
  cases e with
  | normal => exact fin hq
  | ret => exact fin hq
  | exit id => exact hq.elim
  | goto l => exact hq.elim
  | panic ch => exact hq.elim
  | outgrown => exact hq.elim

theorem callV_ic {f : FuncId} {fn : Func} {ic : IC} {as : List V} {K : V → List Blk → Prop} (hm : P.follows .mixedOrders = true) (hf : P.funcs[f]? = some fn) (hb : fn.body.map comp = some ic)
    (hn : (fn.name != "runtime.NumGoroutine") = true) (hk : fn.body.map (okC fn.ntmps) = some true) (hl : as.length ≤ fn.ntmps)
    (hv : vc P G none fn.ntmps h.length ic { t := env0 0 as, d := [], h } (leaveQ P G h.length fn.results.toList K)) : CallV P G f as h K := by
  cases hc : fn.body with
  | none => simp [hc] at hb
  | some c =>
    simp [hc] at hb hk
    subst hb
    exact callV_of hm hf hc hn hk hl hv

end Go.Vm

namespace Go.Vm
open Go Go.RowKit
variable {P : Program} {G : Addr → Option Value} {F F' : Nat → Prop} {w w' : World} {φ φ1 : Nat → Option (Nat × Nat)} {h : List Blk}

/-! ### Ranging over a function -/

/-- A round's end. -/
def roundQ (G : Addr → Option Value) (L m : Nat) (K : V → List Blk → Prop) [KTag K] : Exit → St → Prop
  | .normal, s => ∃ st pend env n ps a b, s.h[L]? = some (.loop st pend env n ps a b) ∧ exitV G m (s.h.set L (.loop .ready none env n ps a b)) (.c (.bool true)) K
  | .ret, s => ∃ st pend env n ps a b, s.h[L]? = some (.loop st pend env n ps a b) ∧ exitV G m (s.h.set L (.loop .done (some .ret) env n ps a b)) (.c (.bool false)) K
  | .exit id, s => ∃ st pend env n ps a b, s.h[L]? = some (.loop st pend env n ps a b) ∧ exitV G m (s.h.set L (.loop .done (some (.exit id)) env n ps a b)) (.c (.bool false)) K
  | .goto l, s => ∃ st pend env n ps a b, s.h[L]? = some (.loop st pend env n ps a b) ∧ exitV G m (s.h.set L (.loop .done (some (.goto l)) env n ps a b)) (.c (.bool false)) K
  | _, _ => False

def parT : List Nat → List V → List (Nat × V) → List (Nat × V)
  | p :: ps, a :: as, t => parT ps as ((p, a) :: t)
  | _, _, t => t

theorem par_env {e : En} : ∀ {ps : List Nat} {as : List V} {xs : List Value} {t : List (Nat × V)} {tm : Array Value}, CnL e as xs → CnEnv e t tm → (∀ p ∈ ps, p < tm.size) →
    CnEnv e (parT ps as t) ((ps.zip xs).foldl (fun tm (x : Nat × Value) => tm.setIfInBounds x.1 x.2) tm) ∧ ((ps.zip xs).foldl (fun tm (x : Nat × Value) => tm.setIfInBounds x.1 x.2) tm).size = tm.size
  | [], as, xs, t, tm, _, ce, _ => by cases as <;> exact ⟨by simpa [parT] using ce, by simp⟩
  | p :: ps, [], xs, t, tm, hl, ce, _ => by simp only [CnL] at hl; subst hl; exact ⟨by simpa [parT] using ce, by simp⟩
  | p :: ps, a :: as, xs, t, tm, hl, ce, hp => by
    simp only [CnL] at hl
    obtain ⟨x, xs', rfl, hx, hl⟩ := hl
    simp only [List.zip_cons_cons, List.foldl_cons, parT]
    have h1 : CnEnv e ((p, a) :: t) (tm.setIfInBounds p x) := by
      have := env_put (a := { tmps := tm, defers := [] }) (d := some p) ce hx (fun k hk => by cases hk; exact hp _ (List.mem_cons_self ..))
      exact this
    have h2 := par_env (ps := ps) hl h1 (fun q hq => by simpa using hp q (List.mem_cons_of_mem _ hq))
    exact ⟨h2.1, by rw [h2.2]; simp⟩

theorem loop_at (r : RH G F w φ h) {L b : Nat} {st : LoopState} {pend : Option Code} {env : Nat → Option V} {n : Nat} {ps : Array Tmp} {a c : Code} (hL : h[L]? = some (.loop st pend env n ps a c)) (hb : φ L = some (b, 0)) :
    ∃ fn tm D, w.heap[b]? = some (.loop { state := st, pending := pend, fn, tmps := tm, params := ps, assign := a, body := c, defers := D }) ∧ CnF (en F w φ h) env tm ∧ tm.size = n ∧
      ∀ st' pend', RH G F (w.putObj b (.loop { state := st', pending := pend', fn, tmps := tm, params := ps, assign := a, body := c, defers := D })) φ (h.set L (.loop st' pend' env n ps a c)) ∧
        Ext (en F w φ h) (en F (w.putObj b (.loop { state := st', pending := pend', fn, tmps := tm, params := ps, assign := a, body := c, defers := D })) φ (h.set L (.loop st' pend' env n ps a c))) := by
  obtain ⟨b', fn, tm, D, hf, hh, hc, hs⟩ := r.rep L _ hL
  have hf' : φ L = some (b', 0) := hf
  rw [hb] at hf'; cases hf'
  have hh' : w.heap[b]? = some (.loop { state := st, pending := pend, fn, tmps := tm, params := ps, assign := a, body := c, defers := D }) := hh
  refine ⟨fn, tm, D, hh', hc, hs, fun st' pend' => ?_⟩
  have he := ext_put (F := F) (o' := .loop { state := st', pending := pend', fn, tmps := tm, params := ps, assign := a, body := c, defers := D }) (k' := .loop st' pend' env n ps a c) hL rfl rfl hb hh' rfl
  exact ⟨rh_put r hL rfl rfl hb hh' rfl ⟨b, fn, tm, D, hb, World.putObj_heap_same (Array.getElem?_eq_some_iff.1 hh').1, hc.ext he, hs⟩, he⟩

theorem At.heap' {n : Nat} {s : St} {a : Act} {h' : List Blk} {φ' : Nat → Option (Nat × Nat)} (ra : At G F w φ n s a) (r : RH G F w' φ' h') (he : Ext (en F w φ s.h) (en F w' φ' h')) : At G F w' φ' n { s with h := h' } a :=
  ⟨r, ra.env.ext he, by
    rw [ra.defs]
    apply List.map_congr_left
    intro i hi
    rw [show φ' i = φ i from he.agree i (ra.dlt i hi)], fun i hi => he.dom i (ra.dlt i hi), ra.size⟩

/-- A call of yield, where the loop that it is of is at hand. -/
theorem YieldV.of {L : Nat} {as : List V} {K : V → List Blk → Prop} {pend : Option Code} {env : Nat → Option V} {n : Nat} {ps : Array Tmp} {assign body : Code} (hL : h[L]? = some (.loop .ready pend env n ps assign body))
    (hl : as.length = ps.size) (te : List (Nat × V)) (hte : ∀ k v, get te k = some v → env k = some v) (hps : ∀ p ∈ ps.toList, p < n)
    (ht : T P G (some L) n h.length assign { t := parT ps.toList as te, d := [], h } (thenQ (fun s1 => ∃ p2 env2 n2 ps2 a2 b2, s1.h[L]? = some (.loop .ready p2 env2 n2 ps2 a2 b2) ∧
      T P G (some L) n h.length body { s1 with h := s1.h.set L (.loop .busy p2 env2 n2 ps2 a2 b2) } (roundQ G L h.length K)) (fun _ _ => False))) : YieldV P G L as h K := by
  intro F w φ xs b r hx hb
  obtain ⟨fn, tm, D, hh, hc, hs, _⟩ := loop_at r hL hb
  have hxl := hx.length
  have hL' := (List.getElem?_eq_some_iff.1 hL).1
  refine ⟨fn, _, assign, body, run_yield hh (by simp; omega), roundIn_of_wpIn (F := FW none) trivial ?_⟩
  have hbase : Base h.length (en F w φ h) (en F w φ h) := ⟨ext_refl, fun i ⟨k, hk, _⟩ => (List.getElem?_eq_some_iff.1 hk).1⟩
  have hrd : Rd (some L) (en F w φ h) (some b) := ⟨b, rfl, ⟨_, hL, rfl⟩, hb⟩
  have hfold : ((ps.zip xs.toArray).foldl (fun (tmps : Array Value) (x : Nat × Value) => tmps.setIfInBounds x.1 x.2) tm) = ((ps.toList.zip xs).foldl (fun (tmps : Array Value) (x : Nat × Value) => tmps.setIfInBounds x.1 x.2) tm) := by
    rw [← Array.foldl_toList]; simp
  have hpe := par_env (ps := ps.toList) hx (t := te) (tm := tm) (fun k v hv => hc k v (hte k v hv)) (fun p hp => by rw [hs]; exact hps p hp)
  rw [← hfold] at hpe
  have ra : At G F w φ n { t := parT ps.toList as te, d := [], h } { tmps := (ps.zip xs.toArray).foldl (fun (tmps : Array Value) (x : Nat × Value) => tmps.setIfInBounds x.1 x.2) tm, defers := [] } :=
    ⟨r, hpe.1, rfl, by simp, by rw [hpe.2]; exact hs⟩
  refine wpIn_mono (ht F w φ _ (en F w φ h) (some b) hrd ra hbase) ?_
  rintro e a1 w1 ⟨s1, φ1, hq, ra1, hb1⟩
  have φL : ∀ {w2 φ2 h2}, Base h.length (en F w φ h) (en F w2 φ2 h2) → φ2 L = some (b, 0) := fun hb2 => (hb2.1.agree L ⟨_, hL, rfl⟩).trans hb
  cases e with
  | normal =>
    obtain ⟨p2, env2, n2, ps2, a2, b2, hL1, ht2⟩ := hq
    obtain ⟨fn1, tm1, D1, hh1, _, _, hput⟩ := loop_at ra1.heap hL1 (φL hb1)
    obtain ⟨r2, he2⟩ := hput .busy p2
    refine ⟨_, run_beginRound hh1 rfl, ?_⟩
    refine wpIn_mono (ht2 F _ φ1 _ (en F w φ h) (some b) hrd (ra1.heap' r2 he2) (hb1.ext he2)) ?_
    rintro e a3 w3 ⟨s3, φ3, hq3, ra3, hb3⟩
    have fin : ∀ (st' : LoopState) (j : Option Code) (v : V), (∃ st pend env n ps a b, s3.h[L]? = some (.loop st pend env n ps a b) ∧ exitV G h.length (s3.h.set L (.loop st' j env n ps a b)) v K) →
        st' = (if j.isNone then .ready else .done) → v = .c (.bool j.isNone) → ∃ y w4, (Instr.endRound b j).run P w3 = .ok y w4 ∧ Post G F w φ h K (.returned y) w4 := by
      rintro st' j v ⟨st, pend, env, n, ps, a, c, hL3, hex⟩ rfl rfl
      obtain ⟨fn4, tm4, D4, hh4, _, _, hput4⟩ := loop_at ra3.heap hL3 (φL hb3)
      obtain ⟨r4, he4⟩ := hput4 (if j.isNone then .ready else .done) j
      obtain ⟨φ5, v5, h5, g1, g2, g3, g4⟩ := hex F _ φ3 (.bool j.isNone) (en F w φ h) r4 (by simp [Cn]) (hb3.ext he4)
      exact ⟨_, _, run_endRound j hh4, _, φ5, v5, h5, rfl, g1, g2, g3, g4⟩
    cases e with
    | normal => exact fin .ready none _ hq3 rfl rfl
    | ret => exact fin .done (some .ret) _ hq3 rfl rfl
    | exit id => exact fin .done (some (.exit id)) _ hq3 rfl rfl
    | goto l => exact fin .done (some (.goto l)) _ hq3 rfl rfl
    | panic ch => exact hq3.elim
    | outgrown => exact hq3.elim
  | exit id => exact hq.elim
  | goto l => exact hq.elim
  | ret => exact hq.elim
  | panic ch => exact hq.elim
  | outgrown => exact hq.elim

/-- What the activation goes on with, behind such a loop. -/
def jumpQ (Q : Exit → St → Prop) [KTag Q] (s : St) : Option Code → Prop
  | none => Q .normal s
  | some .ret => Q .ret s
  | some (.exit id) => Q (.exit id) s
  | some (.goto l) => Q (.goto l) s
  | _ => False

theorem T.range {n m : Nat} {s : St} {Q : Exit → St → Prop} {g : Operand} {ps : Array Tmp} {ca cb : Code} {f : FuncId} {a b : List V} (hg : ev s g = some (.fn (.func f) a b))
    (hc : CallV P G f (a ++ [.yl (s.h.length + 1)] ++ b) (s.h ++ [.deferred true] ++ [.loop .ready none (get s.t) n ps ca cb]) fun _ h2 => ∃ st pend env n' ps' a' b', h2[s.h.length + 1]? = some (.loop st pend env n' ps' a' b') ∧ st ≠ .busy ∧
      jumpQ Q { t := s.t, d := s.h.length :: s.d, h := h2.set (s.h.length + 1) (.loop .exhausted pend env n' ps' a' b') } pend) : T P G none n m (.rangeFunc g ps ca cb) s Q := by
  intro F w φ ac e0 rp hr ra hb
  have hrp : rp = none := hr
  subst hrp
  refine wpIn_rangeFunc fun fn _ => ?_
  have hgc := ev_cn ra.rep hg
  simp only [Cn] at hgc
  obtain ⟨xs, ys, hv, hxs, hys⟩ := hgc
  -- the two new blocks
  let w1 := w.alloc (.deferred (some []))
  let φ1 := upd φ s.h.length (some (w.heap.size, 0))
  have r1 : RH G F w1 φ1 (s.h ++ [.deferred true]) := rh_push ra.heap _ _ ⟨w.heap.size, by simp [en], World.alloc_heap_new _ _⟩
  have e1 : Ext (en F w φ s.h) (en F w1 φ1 (s.h ++ [.deferred true])) := ext_alloc _ _
  let o2 : Obj := .loop { state := .ready, pending := none, fn, tmps := ac.tmps, params := ps, assign := ca, body := cb, defers := w.heap.size }
  let w2 := w1.alloc o2
  let φ2 := upd φ1 (s.h ++ [Blk.deferred true]).length (some (w1.heap.size, 0))
  have e2 : Ext (en F w1 φ1 (s.h ++ [.deferred true])) (en F w2 φ2 (s.h ++ [.deferred true] ++ [.loop .ready none (get s.t) n ps ca cb])) := ext_alloc _ _
  have r2 : RH G F w2 φ2 (s.h ++ [.deferred true] ++ [.loop .ready none (get s.t) n ps ca cb]) := rh_push r1 _ _
    ⟨w1.heap.size, fn, ac.tmps, w.heap.size, by simp [en], World.alloc_heap_new _ _, fun k v hk => ra.env.ext (e1.trans e2) k v hk, ra.size⟩
  have hsz : w1.heap.size = w.heap.size + 1 := World.size_alloc _ _
  have hlen : (s.h ++ [Blk.deferred true]).length = s.h.length + 1 := by simp
  have hargs : CnL (en F w2 φ2 (s.h ++ [.deferred true] ++ [.loop .ready none (get s.t) n ps ca cb])) (a ++ [.yl (s.h.length + 1)] ++ b) (xs ++ #[Value.func (.yield (w.heap.size + 1)) #[] #[]] ++ ys).toList := by
    simp only [Array.toList_append]
    refine cnL_append (cnL_append (hxs.ext (e1.trans e2)) ?_) (hys.ext (e1.trans e2))
    simp only [CnL, Cn]
    refine ⟨_, [], rfl, ⟨?_, w1.heap.size, ?_, ?_⟩, rfl⟩
    · exact ⟨.loop .ready none (get s.t) n ps ca cb, by simp, rfl⟩
    · simp only [en, φ2, hlen, upd_same]
    · rw [hsz]
  have hcall := hc.2 F w2 φ2 _ r2 hargs
  simp only [Array.toArray_toList] at hcall
  have henter : (Instr.enterLoop fn ac.tmps ps ca cb (FW none).round).run P w = .ok (w.heap.size + 1, [{ target := .collected w.heap.size, args := #[] }]) w2 := run_enterLoop_outer fn ac.tmps ps ca cb
  refine ⟨w.heap.size + 1, [{ target := .collected w.heap.size, args := #[] }], w2, { target := .fn (.func f) ys, args := xs ++ #[Value.func (.yield (w.heap.size + 1)) #[] #[]] }, w2, f, xs ++ #[Value.func (.yield (w.heap.size + 1)) #[] #[]] ++ ys, w2,
    henter, ?_, fun _ _ => trivial, ?_, fun hd => by simp [FW] at hd, ?_⟩
  · have hce : ac.eval (.const (Value.func (.yield (w.heap.size + 1)) #[] #[])) = Value.func (.yield (w.heap.size + 1)) #[] #[] := rfl
    simp [resolve, rangeCall, hv, hce, Deferred.ofValue]
  · simp [invoke, run_callFunc hc.1]
  · refine CallsIn.mono hcall ?_
    rintro e w3 ⟨y, φ3, v3, h3, rfl, ⟨st, pend, env, n', ps', a', b', hL3, hst, hj⟩, _, r3, e3⟩
    have eall := (e1.trans e2).trans e3
    have φL : φ3 (s.h.length + 1) = some (w.heap.size + 1, 0) := by
      have := e3.agree (s.h.length + 1) ⟨.loop .ready none (get s.t) n ps ca cb, by simp, rfl⟩
      simp only [en] at this
      rw [this]
      simp only [φ2, hlen, upd_same, hsz]
    have φD : φ3 s.h.length = some (w.heap.size, 0) := by
      have := (e2.trans e3).agree s.h.length ⟨.deferred true, by simp, rfl⟩
      simp only [en] at this
      rw [this]
      simp only [φ1, upd_same]
    obtain ⟨fn4, tm4, D4, hh4, _, _, hput4⟩ := loop_at r3 hL3 φL
    obtain ⟨r4, e4⟩ := hput4 .exhausted pend
    refine ⟨pend, _, run_endLoop hh4 hst, ?_⟩
    have ra4 : At G F (w3.putObj (w.heap.size + 1) (.loop { state := .exhausted, pending := pend, fn := fn4, tmps := tm4, params := ps', assign := a', body := b', defers := D4 })) φ3 n
        { t := s.t, d := s.h.length :: s.d, h := h3.set (s.h.length + 1) (.loop .exhausted pend env n' ps' a' b') } { ac with defers := [{ target := .collected w.heap.size, args := #[] }] ++ ac.defers } := by
      refine ⟨r4, ra.env.ext (eall.trans e4), ?_, ?_, ra.size⟩
      · simp only [List.map_cons, φD, List.singleton_append, Option.getD_some]
        rw [ra.defs]
        congr 1
        apply List.map_congr_left
        intro i hi
        rw [show φ3 i = φ i from eall.agree i (ra.dlt i hi)]
      · intro i hi
        rcases List.mem_cons.1 hi with rfl | hi
        · exact (e3.trans e4).dom _ (e2.dom _ ⟨.deferred true, by simp, rfl⟩)
        · exact (eall.trans e4).dom i (ra.dlt i hi)
    have hb4 := hb.ext (eall.trans e4)
    cases pend with
    | none => exact ⟨_, φ3, hj, ra4, hb4⟩
    | some c =>
      cases c <;> simp only [jumpQ] at hj <;> try exact hj.elim
      · exact wpIn_exit ⟨_, φ3, hj, ra4, hb4⟩
      · exact wpIn_goto ⟨_, φ3, hj, ra4, hb4⟩
      · exact wpIn_ret ⟨_, φ3, hj, ra4, hb4⟩

theorem Ti.range {n m : Nat} {s : St} {Q : Exit → St → Prop} {g : Operand} {ps : Array Tmp} {ia ib : IC} {f : FuncId} {a b : List V} (hg : ev s g = some (.fn (.func f) a b))
    (hc : ∀ ca cb, comp ca = ia → comp cb = ib → okC n ca = true → okC n cb = true →
      CallV P G f (a ++ [.yl (s.h.length + 1)] ++ b) (s.h ++ [.deferred true] ++ [.loop .ready none (get s.t) n ps ca cb]) fun _ h2 => ∃ st pend env n' ps' a' b', h2[s.h.length + 1]? = some (.loop st pend env n' ps' a' b') ∧ st ≠ .busy ∧
      jumpQ Q { t := s.t, d := s.h.length :: s.d, h := h2.set (s.h.length + 1) (.loop .exhausted pend env n' ps' a' b') } pend) : Ti P G none n m (.range g ps ia ib) s Q := by
  intro c hcc hk
  cases c <;> simp only [comp] at hcc <;> try (cases hcc; done)
  · split at hcc <;> cases hcc
  · rename_i g' ps' ca cb
    cases hcc
    simp only [okC, Bool.and_eq_true] at hk
    exact T.range hg (hc ca cb rfl rfl hk.1 hk.2)

end Go.Vm
