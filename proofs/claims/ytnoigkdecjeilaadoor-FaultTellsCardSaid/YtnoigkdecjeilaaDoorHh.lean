/- Contracts of functions of the seat's program, and what follows of them: Hh. Conditions are in each statement. -/
import Derived.Test.YtnoigkdecjeilaaDoorHd
import Derived.Test.YtnoigkdecjeilaaDoorFp
set_option linter.unusedSimpArgs false
set_option linter.unusedVariables false
namespace Go.Proofs.YtnoigkdecjeilaaDoor
open Go Go.Proofs Go.Vm Go.Extern
set_option maxRecDepth 100000
variable {G : Addr → Option Value}

/-! ### The text that is told -/
def txt (l : List (List UInt8)) : List UInt8 := l.flatMap (· ++ [58, 32])
theorem txt_app (a b : List (List UInt8)) : txt (a ++ b) = txt a ++ txt b := by simp [txt]
theorem txt_succ {l : List (List UInt8)} {q : Nat} (h : q < l.length) : txt (l.take q) ++ (l[q] ++ [58, 32]) = txt (l.take (q + 1)) := by
  rw [List.take_add_one, List.getElem?_eq_getElem h, txt_app]
  simp [txt]
theorem txt_len : ∀ (l : List (List UInt8)), (∀ w ∈ l, w.length ≤ 30) → (txt l).length ≤ 32 * l.length
  | [], _ => by simp [txt]
  | w :: l, h => by
    have := txt_len l fun u hu => h u (List.mem_cons_of_mem _ hu)
    have h0 := h w (List.mem_cons_self ..)
    have e : txt (w :: l) = w ++ [58, 32] ++ txt l := rfl
    rw [e]; simp; omega
theorem wrapE_text (F : List UInt8) : ∀ (p : List (List UInt8)) (e : Er), (wrapE p e).text F = txt p.reverse ++ e.text F
  | [], e => by simp [wrapE, txt]
  | w :: p, e => by
    show (wrapE p (.f w e)).text F = _
    rw [wrapE_text F p (.f w e), List.reverse_cons, txt_app]
    simp [Er.text, txt]
theorem wrapE_path : ∀ (p : List (List UInt8)) (e : Er), (wrapE p e).path = p.reverse ++ e.path
  | [], e => by simp [wrapE]
  | w :: p, e => by
    show (wrapE p (.f w e)).path = _
    rw [wrapE_path p (.f w e)]
    simp [Er.path]
theorem wrapE_deep : ∀ (p : List (List UInt8)) (e : Er), (wrapE p e).deep = p.length + e.deep
  | [], e => by simp [wrapE]
  | w :: p, e => by
    show (wrapE p (.f w e)).deep = _
    rw [wrapE_deep p (.f w e)]
    simp [Er.deep]; omega
theorem wrapE_short : ∀ (p : List (List UInt8)) (e : Er), (∀ w ∈ p, w.length ≤ 30) → e.short → (wrapE p e).short
  | [], _, _, h => h
  | w :: p, e, hp, h => wrapE_short p (.f w e) (fun u hu => hp u (List.mem_cons_of_mem _ hu)) ⟨by have := hp w (List.mem_cons_self ..); omega, h⟩
theorem wrapE_f : ∀ (p : List (List UInt8)) (e : Er), p ≠ [] → ∃ w e', wrapE p e = .f w e'
  | [], _, h => absurd rfl h
  | [w], e, _ => ⟨w, e, rfl⟩
  | w :: u :: p, e, _ => wrapE_f (u :: p) (.f w e) (by simp)
theorem ct_Text {k t : Int} {F : List UInt8} (hF : F.length ≤ 500) (cF : Ct Tryd.prog G 31 [.agg [vi k, vi t]] [] (vs F) []) (l : List (List UInt8)) (h : ∀ w ∈ l, w.length ≤ 30) (hl : l.length ≤ 8) :
    Ct Tryd.prog G 16 [.agg [vb true, vi k, vi t, .ro 1 (strs l)]] [] (vs (txt l ++ F)) [] := by
  have hsl : (strs l).length = l.length := by simp [strs]
  have hb : l.length < top := by unfold top; omega
  refine callV_ic hm (fn := Tryd.f16) rfl ic16_eq ic16_nm ic16_ok (by simp) ?_
  simp -dsimp [ic16]
  repeat' first
    | simp -dsimp [hsl]
    | (with_reducible refine ordI (by kernel_rfl) ?_)
  refine Ti.loopW hm (fun j s => ∃ q : Nat, q + j = l.length ∧ s = { t := [(8, vi q), (7, vi l.length), (1, .p 0 0), (2, vs []), (3, vs (txt (l.take q)))], d := [], h := [.cells 32 [vb true, vi k, vi t, .ro 1 (strs l)]] }) (k := l.length) ?_ ?_
  · exact Wk.sub [(8, vi (0 : Nat)), (7, vi l.length), (1, .p 0 0), (2, vs []), (3, vs [])] (by simp [hsl]) (Wk.now ⟨0, by omega, rfl⟩)
  rintro j s ⟨q, hq, rfl⟩
  simp -dsimp
  refine brV.intro (fun hlt => ?_) (fun hlt => ?_)
  · have hlt : q < l.length := by simpa using hlt
    have hlt2 : q < (strs l).length := by omega
    have hw := wq hlt hb
    have h1 := txt_len (l.take q) fun u hu => h u (List.mem_of_mem_take hu)
    have h1l : (l.take q).length ≤ 8 := by simp; omega
    have h2 := h l[q] (List.getElem_mem hlt)
    have ts := txt_succ hlt
    generalize txt (l.take q) = A at *
    generalize hB : txt (l.take (q + 1)) = B at *
    generalize hwq : l[q] = W at *
    have l1 : A.length + W.length ≤ 9223372036854775807 := by omega
    have l2 : A.length + W.length + 2 ≤ 9223372036854775807 := by omega
    repeat' first
      | simp -dsimp [hlt, hlt2, hsl, hw, ba_size, ba_app, hwq, ts]
      | (with_reducible refine ordI (by kernel_rfl) ?_)
    exact ⟨by omega, by omega, j - 1, by omega, Wk.sub [(8, vi (q + 1 : Nat)), (7, vi l.length), (1, .p 0 0), (2, vs []), (3, vs B)] (by simp) (Wk.now ⟨q + 1, by omega, by rw [hB]⟩)⟩
  · have hqe : q = l.length := by simp at hlt; omega
    have h1 := txt_len l h
    rw [hqe, List.take_length]
    generalize txt l = A at *
    repeat' first
      | simp -dsimp [ba_size, ba_app]
      | (with_reducible refine (CallD.pure (cF) (by simp) ?_).callV)
      | (with_reducible refine ordI (by kernel_rfl) ?_)
    exact ⟨by omega, exitV.cut (by simp) (by simp) (by simp) (by simp) ⟨rfl, by simp⟩⟩
theorem ct_TextNil {k t : Int} {F : List UInt8} (hF : F.length ≤ 500) (cF : Ct Tryd.prog G 31 [.agg [vi k, vi t]] [] (vs F) []) :
    Ct Tryd.prog G 16 [.agg [vb true, vi k, vi t, .c (.slice none 0 0)]] [] (vs F) [] := by
  refine callV_ic hm (fn := Tryd.f16) rfl ic16_eq ic16_nm ic16_ok (by simp) ?_
  simp -dsimp [ic16]
  repeat' first
    | simp -dsimp
    | (with_reducible refine ordI (by kernel_rfl) ?_)
  refine Ti.loopW hm (fun j s => s = { t := [(8, vi (0 : Nat)), (7, vi (0 : Nat)), (1, .p 0 0), (2, vs []), (3, vs [])], d := [], h := [.cells 32 [vb true, vi k, vi t, .c (.slice none 0 0)]] }) (k := 0) ?_ ?_
  · exact Wk.sub [(8, vi (0 : Nat)), (7, vi (0 : Nat)), (1, .p 0 0), (2, vs []), (3, vs [])] (by simp) (Wk.now rfl)
  rintro j s rfl
  repeat' first
    | simp -dsimp [ba_size, ba_app]
    | (with_reducible refine (CallD.pure (cF) (by simp) ?_).callV)
    | (with_reducible refine ordI (by kernel_rfl) ?_)
  exact ⟨by omega, exitV.cut (by simp) (by simp) (by simp) (by simp) ⟨rfl, by simp⟩⟩
end Go.Proofs.YtnoigkdecjeilaaDoor
