/- Contracts of functions of the seat's program, and what follows of them: Db. Conditions are in each statement. -/
import Derived.Test.YtofdhldillmbdaaDa
set_option linter.unusedSimpArgs false
set_option linter.unusedVariables false
namespace Go.Proofs.Ytofdhldillmbdaa
open Go Go.Proofs Go.Vm

theorem ct_List2 (x : Int) : Ct Try.prog G0 12 [vi x] [] (.ro 1 (ints (listR x 16))) [] := by
  refine callV_ic hm (fn := Try.f12) rfl ic12_eq ic12_nm ic12_ok (by simp) ?_
  simp -dsimp [ic12]
  refine (CallD.fresh (ct_each _) (by simp) ?_).callV
  simp -dsimp
  refine CallV.mono (ct_Collect x) ?_
  rintro v h' ⟨rfl, rfl⟩
  simp -dsimp
  unfold listV
  by_cases h0 : listR x 16 = []
  · rw [if_pos h0, h0]
    refine exitV.roNil 1 ?_
    exact exitV.cut (by simp) (by simp) (by simp) (by simp) ⟨rfl, by simp⟩
  · rw [if_neg h0]
    exact exitV.cut (by simp) (by simp) (by simp) (by simp) ⟨rfl, by simp⟩

theorem ints_one (x : Int) : [vi x] = ints [x] := rfl

def onP (at' way : Int) (n : Int) : Bool := decide (0 < (n - at') * way)
def onL (x at' way : Int) : List Int := (listR x 16).filter (onP at' way)
def onR (x at' way : Int) : List Int := match onL x at' way with
  | [] => []
  | l => [nearR at' l]
theorem onR_ne {x at' way : Int} (h : onL x at' way ≠ []) : onR x at' way = [nearR at' (onL x at' way)] := by
  unfold onR
  cases hl : onL x at' way with
  | nil => exact absurd hl h
  | cons a l => rfl
theorem listR_near {x : Int} {m : Nat} (hm : m ≤ 16) {n : Int} (h : n ∈ listR x m) : 0 ≤ n ∧ n < 16 := by
  obtain ⟨k, h1, _, rfl⟩ := mem_listR.1 h; omega
theorem filter_snoc {l : List Int} {q : Nat} (h : q < l.length) (p : Int → Bool) : (l.take (q + 1)).filter p = if p (at0 l q) = true then (l.take q).filter p ++ [at0 l q] else (l.take q).filter p := by
  rw [take_succ_at h, List.filter_append]
  by_cases hp : p (at0 l q) = true
  · simp [hp]
  · simp [hp]
theorem mul_way {d way : Int} (hd : -4294967296 ≤ d ∧ d ≤ 4294967296) (hw : way = 1 ∨ way = -1 ∨ way = 0) : -9223372036854775808 ≤ d * way ∧ d * way ≤ 9223372036854775807 := by
  rcases hw with rfl | rfl | rfl <;> omega

set_option maxHeartbeats 2000000 in
theorem ct_on (x a way : Int) (ha : nearI a) (hw : way = 1 ∨ way = -1 ∨ way = 0) :
    Ct Try.prog G0 33 [vi x, vi a, vi way] [] (.sl 1 0 0 (onR x a way).length) [.cells 3 (ints (onR x a way))] := by
  refine callV_ic hm (fn := Try.f33) rfl ic33_eq ic33_nm ic33_ok (by simp) ?_
  simp -dsimp [ic33]
  have sL := ct_List2 x
  have hle := listR_le x 16
  have hb : ∀ n ∈ listR x 16, 0 ≤ n ∧ n < 16 := fun n hn => listR_near (by omega) hn
  obtain ⟨l, hl⟩ : ∃ l, l = listR x 16 := ⟨_, rfl⟩
  rw [← hl] at sL hle hb
  have hon : onL x a way = l.filter (onP a way) := by rw [hl]; rfl
  (with_reducible refine (CallD.pure (sL) (by simp) ?_).callV)
  simp -dsimp
  refine Ti.loopW hm (fun k s => ∃ q : Nat, q + k = l.length ∧ s = { t := [(15, vi q), (7, .sl 1 0 0 ((l.take q).filter (onP a way)).length), (0, vi x), (1, vi a), (2, vi way), (13, .ro 1 (ints l)), (14, vi l.length)], d := [], h := [.cells 3 (ints ((l.take q).filter (onP a way)))] }) (k := l.length) ?_ ?_
  · refine Wk.sub [(15, vi (0 : Nat)), (7, .c (.slice none 0 0)), (0, vi x), (1, vi a), (2, vi way), (13, .ro 1 (ints l)), (14, vi l.length)] (by simp) (Wk.nil 7 1 3 (by simp) (Wk.sub [(15, vi (0 : Nat)), (7, .sl 1 0 0 0), (0, vi x), (1, vi a), (2, vi way), (13, .ro 1 (ints l)), (14, vi l.length)] (by simp) (Wk.now ⟨0, by omega, rfl⟩)))
  rintro k s ⟨q, hq, rfl⟩
  simp -dsimp
  (with_reducible refine brV.intro (fun h => ?_) (fun h => ?_))
  · have hlt : q < l.length := by simp at h; omega
    have w1 := wq hlt (by unfold top; omega)
    have hbq := ints_at hlt
    have hn := hb _ (at0_mem hlt)
    have hs := filter_snoc hlt (onP a way)
    unfold nearI at ha
    have w2 : IntKind.wrap .i64 (at0 l q - a) = at0 l q - a := w64_of (by omega) (by omega)
    have mw := mul_way (d := at0 l q - a) (by omega) hw
    have w3 : IntKind.wrap .i64 ((at0 l q - a) * way) = (at0 l q - a) * way := w64_of mw.1 mw.2
    have hlen : ((l.take q).filter (onP a way)).length ≤ 16 := Nat.le_trans (List.length_filter_le ..) (by simp; omega)
    have y1 : (((l.take q).filter (onP a way)).length + 1) * 8 ≤ 140737488355328 := by omega
    have y2 : ((l.take q).filter (onP a way)).length + 1 ≤ 9223372036854775807 := by omega
    have hby : Try.prog.bytesOf 3 = 8 := by kernel_rfl
    simp -dsimp [h, hbq, hlt, w2, w3]
    (with_reducible refine brV.intro (fun h2 => ?_) (fun h2 => ?_))
    · have hp : onP a way (at0 l q) = true := h2
      rw [if_pos hp] at hs
      simp -dsimp [y1, y2, hby]
      refine ⟨by decide, k - 1, by omega, Wk.one (.cells 3 (ints ((l.take q).filter (onP a way) ++ [at0 l q]))) 2 [(15, vi (q + 1 : Nat)), (7, .sl 1 0 0 (((l.take q).filter (onP a way)).length + 1)), (0, vi x), (1, vi a), (2, vi way), (13, .ro 1 (ints l)), (14, vi l.length)] rfl ?_ rfl (by simp) ?_ (by simp) (Wk.now ⟨q + 1, by omega, ?_⟩)⟩
      · simp [ints_snoc]
      · simp [w1]
      · rw [hs]; simp
    · have hp : onP a way (at0 l q) = false := h2
      rw [hp] at hs
      simp -dsimp
      refine ⟨k - 1, by omega, Wk.sub [(15, vi (q + 1 : Nat)), (7, .sl 1 0 0 ((l.take q).filter (onP a way)).length), (0, vi x), (1, vi a), (2, vi way), (13, .ro 1 (ints l)), (14, vi l.length)] (by simp [w1]) (Wk.now ⟨q + 1, by omega, ?_⟩)⟩
      rw [hs]; simp
  · have hge : q = l.length := by simp at h; omega
    subst hge
    have hlen : (l.filter (onP a way)).length ≤ 16 := Nat.le_trans (List.length_filter_le ..) hle
    rw [List.take_length]
    have hb2 : ∀ n ∈ l.filter (onP a way), 0 ≤ n ∧ n < 16 := fun n hn => hb n (List.mem_filter.1 hn).1
    obtain ⟨f, hf⟩ : ∃ f, f = l.filter (onP a way) := ⟨_, rfl⟩
    rw [← hf] at hlen hon hb2 ⊢
    have sN := ct_near a f ha (fun n hn => by have := hb2 n hn; unfold nearI; omega) (by unfold top; omega)
    simp -dsimp
    refine (CallD.look (i := 0) sN (by simp) rfl (by simp) (by simp) (by simp) ?_).callV
    simp -dsimp
    by_cases h0 : f = []
    · have e : onR x a way = [] := by unfold onR; rw [hon, h0]
      simp -dsimp [h0]
      refine exitV.nil 1 3 (exitV.one (.cells 3 []) 1 (.sl 1 0 0 0) (by simp) (by simp) rfl (by simp) (by simp) ?_)
      rw [e]; exact ⟨rfl, rfl⟩
    · have e : onR x a way = [nearR a f] := by
        rw [onR_ne (by rw [hon]; exact h0), hon]
      simp -dsimp [h0]
      refine exitV.one (.cells 3 (ints [nearR a f])) 1 (.sl 1 0 0 1) (by simp) (by simp [ints]) rfl (by simp) (by simp) ?_
      rw [e]; exact ⟨rfl, rfl⟩
end Go.Proofs.Ytofdhldillmbdaa
