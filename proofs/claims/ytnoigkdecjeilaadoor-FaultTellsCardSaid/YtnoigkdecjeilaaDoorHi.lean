/- Contracts of functions of the seat's program, and what follows of them: Hi. Conditions are in each statement. -/
import Derived.Test.YtnoigkdecjeilaaDoorHe
import Derived.Test.YtnoigkdecjeilaaDoorHh
set_option linter.unusedSimpArgs false
set_option linter.unusedVariables false
namespace Go.Proofs.YtnoigkdecjeilaaDoor
open Go Go.Proofs Go.Vm Go.Extern
set_option maxRecDepth 100000
set_option linter.unusedSimpArgs false
variable {G : Addr → Option Value}

theorem fewB_true {p : List (List UInt8)} (h : fewB p = true) : p.length ≤ 8 ∧ ∀ w ∈ p, w.length ≤ 30 := by
  simp only [fewB, Bool.and_eq_true, decide_eq_true_eq] at h
  refine ⟨h.2, fun w hw => ?_⟩
  obtain ⟨i, hi, rfl⟩ := List.getElem_of_mem hw
  have := allB_iff.1 h.1 i hi
  simpa [List.getD, hi] using this
set_option maxHeartbeats 8000000 in
theorem law_FaultTells (g : GoodG G) (kind tick : Int) (p : List (List UInt8)) (other : Int) (hb : p.length < top) : CallV Tryd.prog G 3 [vi kind, vi tick, .ro 1 (strs p), vi other] [] fun v _ => v = .c (.bool true) := by
  have aw := ct_law02_awake.moreG g.1
  have fw := (ct_few p hb).moreG g.1
  refine callV_ic hm (fn := Tryd.f3) rfl ic3_eq ic3_nm ic3_ok (by simp) ?_
  cases hf : fewB p
  · rw [hf] at fw
    repeat' first
      | simp -dsimp [ic3]
      | (with_reducible refine (CallD.pure (aw) (by simp) ?_).callV)
      | (with_reducible refine (CallD.pure (fw) (by simp) ?_).callV)
      | (with_reducible refine ordI (by kernel_rfl) ?_)
    exact exitV.now rfl
  rw [hf] at fw
  obtain ⟨hp, hs⟩ := fewB_true hf
  cases c : canP kind
  · have md := (ct_madeNo kind tick p hb c).moreG g.1
    have mk := (ct_MakeNo kind tick p c).moreG g.1
    have o0 := ct_Of0.moreG g.1
    have i0 := (ct_fault_IsNo other).moreG g.1
    have p0 := ct_Path0.moreG g.1
    repeat' first
      | simp -dsimp [ic3]
      | (with_reducible refine (CallD.pure (aw) (by simp) ?_).callV)
      | (with_reducible refine (CallD.pure (fw) (by simp) ?_).callV)
      | (with_reducible refine (CallD.pure (md) (by simp) ?_).callV)
      | (with_reducible refine (CallD.pure (mk) (by simp) ?_).callV)
      | (with_reducible refine (CallD.pure (o0) (by simp) ?_).callV)
      | (with_reducible refine (CallD.pure (i0) (by simp) ?_).callV)
      | (with_reducible refine (CallD.pure (p0) (by simp) ?_).callV)
      | (with_reducible refine (CallD.pure (i0) (by simp) ?_))
      | (with_reducible refine ordI (by kernel_rfl) ?_)
    refine Ti.loopW hm (fun j s => s = { t := [(78, vi (0 : Nat)), (77, vi (0 : Nat)), (10, .p 0 0), (9, .c .nilIface)], d := [], h := [.cells 32 [vb false, vi 0, vi 0, .c (.slice none 0 0)], .cells 30 [vi 0, vi 0]] }) (k := 0) ?_ ?_
    · exact Wk.sub [(78, vi (0 : Nat)), (77, vi (0 : Nat)), (10, .p 0 0), (9, .c .nilIface)] (by simp) (Wk.now rfl)
    rintro j s rfl
    repeat' first
      | simp -dsimp
      | (with_reducible refine ordI (by kernel_rfl) ?_)
    exact exitV.now rfl
  obtain ⟨j, hj, j1, j2⟩ := canP_nat c
  obtain ⟨m0, m1⟩ := mid_range tick
  obtain ⟨t, ht⟩ : ∃ t : Nat, mid tick = t := ⟨(mid tick).toNat, by omega⟩
  obtain ⟨F, hF, cF⟩ := ex_FaultError g j t (by omega) (by omega)
  rw [← hj, ← ht] at cF
  have md := (ct_made kind tick p hb c).moreG g.1
  have mk := (ct_Make kind tick p (by omega) c).moreG g.1
  obtain ⟨E, hE⟩ : ∃ E, E = wrapE p (Er.s kind (mid tick)) := ⟨_, rfl⟩
  have hdp : E.deep = p.length := by rw [hE, wrapE_deep]; simp [Er.deep]
  have hsh : E.short := by rw [hE]; exact wrapE_short p _ hs trivial
  have hlf : E.leaf = (kind, mid tick) := by rw [hE, wrapE_leaf]; rfl
  have hpt : E.path = p.reverse := by rw [hE, wrapE_path]; simp [Er.path]
  have htx : E.text F = txt p.reverse ++ F := by rw [hE, wrapE_text]; rfl
  have oe := (ct_Of E).moreG g.1
  have ie := (ct_fault_Is E other).moreG g.1
  have pe := (ct_Path E (by omega)).moreG g.1
  have ee := ct_Err_text hF E (by rw [hlf]; exact cF) hsh (by omega)
  rw [hlf] at oe ie
  rw [hpt] at pe
  rw [htx] at ee
  rw [← hE] at md
  by_cases hp0 : p = []
  · subst hp0
    have hEs : E = Er.s kind (mid tick) := hE
    subst hEs
    have tx := ct_TextNil hF cF
    simp only [CtErr, Er.v, if_pos, txt, pathV, strs, List.map_nil, List.reverse_nil, List.flatMap_nil, List.nil_append] at fw ee oe ie pe md mk
    repeat' first
      | simp -dsimp [ic3, strs]
      | (with_reducible refine (CallD.pure (aw) (by simp) ?_).callV)
      | (with_reducible refine (CallD.pure (fw) (by simp) ?_).callV)
      | (with_reducible refine (CallD.pure (md) (by simp) ?_).callV)
      | (with_reducible refine (CallD.pure (mk) (by simp) ?_).callV)
      | (with_reducible refine (CallD.pure (oe) (by simp) ?_).callV)
      | (with_reducible refine (CallD.pure (ie) (by simp) ?_).callV)
      | (with_reducible refine (CallD.pure (pe) (by simp) ?_).callV)
      | (with_reducible refine (CallD.pure (ie) (by simp) ?_))
      | (with_reducible refine ordI (by kernel_rfl) ?_)
    refine Ti.loopW hm (fun j s => s = { t := [(78, vi (0 : Nat)), (77, vi (0 : Nat)), (10, .p 0 0), (9, .iface 65 (.agg [vi kind, vi (mid tick)]))], d := [], h := [.cells 32 [vb true, vi kind, vi (mid tick), .c (.slice none 0 0)], .cells 30 [vi kind, vi (mid tick)]] }) (k := 0) ?_ ?_
    · exact Wk.sub [(78, vi (0 : Nat)), (77, vi (0 : Nat)), (10, .p 0 0), (9, .iface 65 (.agg [vi kind, vi (mid tick)]))] (by simp) (Wk.now rfl)
    rintro j s rfl
    repeat' first
      | simp -dsimp
      | (with_reducible refine ordI (by kernel_rfl) ?_)
    refine ⟨_, _, mErrorS _, ?_⟩
    repeat' first
      | simp -dsimp
      | (with_reducible refine (CallD.pure (ee) (by simp) ?_))
      | (with_reducible refine (CallD.pure (tx) (by simp) ?_))
      | (with_reducible refine ordI (by kernel_rfl) ?_)
    exact exitV.now rfl
  obtain ⟨w, e', hE'⟩ := wrapE_f p (Er.s kind (mid tick)) hp0
  rw [← hE] at hE'
  subst hE'
  have tx := ct_Text hF cF p.reverse (fun u hu => hs u (by simpa using hu)) (by simpa using hp)
  simp only [CtErr, Er.v, if_neg hp0, pathV] at ee oe ie pe md mk
  have okE : ∀ q : Nat → Prop, e'.v.ok q := fun q => by simp
  have renE : ∀ ρ : Nat → Nat, e'.v.ren ρ = e'.v := fun ρ => by simp
  have oneE : e'.v.one = true := by simp
  have fillsE : e'.v.fills = true := by simp
  have cellsE : e'.v.cells = [e'.v] := by simp
  generalize e'.v = x at *
  have hrl : p.reverse.length = p.length := by simp
  generalize p.reverse = r at *
  have hsr : (strs r).length = r.length := by simp
  repeat' first
    | simp -dsimp [ic3, okE, renE, oneE, fillsE, cellsE, hsr]
    | (with_reducible refine (CallD.pure (aw) (by simp) ?_).callV)
    | (with_reducible refine (CallD.pure (fw) (by simp) ?_).callV)
    | (with_reducible refine (CallD.pure (md) (by simp) ?_).callV)
    | (with_reducible refine (CallD.pure (mk) (by simp) ?_).callV)
    | (with_reducible refine (CallD.pure (oe) (by simp [okE]) ?_).callV)
    | (with_reducible refine (CallD.pure (ie) (by simp [okE]) ?_).callV)
    | (with_reducible refine (CallD.pure (pe) (by simp [okE]) ?_).callV)
    | (with_reducible refine (CallD.pure (ie) (by simp [okE]) ?_))
    | (with_reducible refine ordI (by kernel_rfl) ?_)
  refine Ti.loopW hm (fun j s => ∃ q : Nat, q + j = r.length ∧ s = { t := [(78, vi q), (77, vi r.length), (13, .ro 1 (strs r)), (10, .p 0 0), (9, .iface 70 (.agg [vs w, x]))], d := [], h := [.cells 32 [vb true, vi kind, vi (mid tick), .ro 1 (strs r)], .cells 30 [vi kind, vi (mid tick)]] }) (k := r.length) ?_ ?_
  · exact Wk.sub [(78, vi (0 : Nat)), (77, vi r.length), (13, .ro 1 (strs r)), (10, .p 0 0), (9, .iface 70 (.agg [vs w, x]))] (by simp [okE]) (Wk.now ⟨0, by omega, rfl⟩)
  rintro j s ⟨q, hq, rfl⟩
  simp -dsimp
  refine brV.intro (fun hlt => ?_) (fun hlt => ?_)
  · have hlt : q < r.length := by simpa using hlt
    have hlt2 : q < (strs r).length := by omega
    have hw := wq hlt (by omega : r.length < top)
    repeat' first
      | simp -dsimp [hlt, hlt2, hsr, hw]
      | (with_reducible refine ordI (by kernel_rfl) ?_)
    exact ⟨j - 1, by omega, Wk.sub [(78, vi (q + 1 : Nat)), (77, vi r.length), (13, .ro 1 (strs r)), (10, .p 0 0), (9, .iface 70 (.agg [vs w, x]))] (by simp [okE]) (Wk.now ⟨q + 1, by omega, rfl⟩)⟩
  repeat' first
    | simp -dsimp [okE, renE, oneE, fillsE, cellsE]
    | (with_reducible refine ordI (by kernel_rfl) ?_)
  refine ⟨_, _, mErrorF _, ?_⟩
  repeat' first
    | simp -dsimp [okE, renE, oneE, fillsE, cellsE]
    | (with_reducible refine (CallD.pure (ee) (by simp [okE]) ?_))
    | (with_reducible refine (CallD.pure (tx) (by simp) ?_))
    | (with_reducible refine ordI (by kernel_rfl) ?_)
  exact exitV.now rfl
end Go.Proofs.YtnoigkdecjeilaaDoor
