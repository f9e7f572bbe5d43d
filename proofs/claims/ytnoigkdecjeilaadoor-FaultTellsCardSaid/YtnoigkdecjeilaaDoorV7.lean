/- A walk of the model's code on logical values, with its proofs: part 7. No condition. -/
import Derived.Test.YtnoigkdecjeilaaDoorV6
import Derived.SizedLaws
set_option linter.unusedSimpArgs false
set_option linter.unusedVariables false
namespace Go.Vm
open Go Go.RowKit Go.ChangeShapes Go.WideShapes
variable {P : Program} {G G' : Addr → Option Value} {F : Nat → Prop} {w w' : World} {φ φ' : Nat → Option (Nat × Nat)} {h h' : List Blk}

/-! ### More cells are known -/
theorem RH.fewer (hg : ∀ a x, G a = some x → G' a = some x) (r : RH G' F w φ h) : RH G F w φ h := { r with glob := fun a x e => r.glob a x (hg a x e) }
theorem RH.backG (r0 : RH G' F w φ h) (r : RH G F w' φ' h') (e : Ext (en F w φ h) (en F w' φ' h')) : RH G' F w' φ' h' where
  rep := r.rep
  inj := r.inj
  lt := r.lt
  flt := r.flt
  glob a x hx := by
    obtain ⟨h1, h2, h3, h4⟩ := r0.glob a x hx
    have hf : w'.heap[a.block]? = w.heap[a.block]? := e.frame a.block h2 h3
    have hs : w.heap.size ≤ w'.heap.size := e.size
    refine ⟨?_, by omega, e.mine a.block h2 h3, h4⟩
    unfold World.cell? at h1 ⊢
    rw [hf]; exact h1
theorem CallV.moreG {f : FuncId} {as : List V} {K : V → List Blk → Prop} (hg : ∀ a x, G a = some x → G' a = some x) (c : CallV P G f as h K) : CallV P G' f as h K :=
  ⟨c.1, fun F w φ xs hr hx => (c.2 F w φ xs (hr.fewer hg) hx).mono fun _ _ ⟨y, φ', v, h', he, hK, hc, r, ex⟩ => ⟨y, φ', v, h', he, hK, hc, hr.backG r ex, ex⟩⟩
theorem Ct.moreG {f : FuncId} {as : List V} {v : V} (hg : ∀ a x, G a = some x → G' a = some x) (c : Ct P G f as h v h') : Ct P G' f as h v h' := CallV.moreG hg c

/-- A LAW, where something holds of the world: which cells are known, and how, is told by the world's shape. -/
theorem law_liftedS {H : Type} {enc : TypeId × Value → H} {C : Checked} {os : Os} {f : FuncId} {fn : Func} {s : ChangeSpec} {conds : List PathCond} {apart fresh handsOn again : Bool} {T : TypeId → Prop} {n : Nat} {tb : TypeId} {X : World → Array Value → Prop} {Good : (Addr → Option Value) → Prop}
    (hX : ∀ (w w' : World) (args : Array Value), w.heap = w'.heap → X w args → X w' args)
    (hG : ∀ w args, X w args → w.ShapedOpen C.prog → ∃ G, Good G ∧ ∀ a x, G a = some x → w.cell? a = some x)
    (own : ownKnob C.prog.godebug = none) (started : os.Started) (noInit : C.prog.inits.idxOf? f = none) (hfn : C.prog.funcs[f]? = some fn)
    (witness : ∃ (w : World) (tape : Tape) (i : Input), w.os = os ∧ (w.forCall tape i).Shaped C.prog ∧ i.vars = [] ∧ Input.okWide C.prog (w.forCall tape i) .any w.heap.size f i ∧
      ((s.pre enc C.prog fn conds apart (w.forCall tape i).memory i.args ∧ X (w.forCall tape i).memory i.args) ∧ sizedMet enc C.prog fn (OpenSpec.ofChange s) apart (w.forCall tape i).memory i.args) ∧ ({} : Assume).holds C.prog (lone (Frame.enter C.prog f i.args .normal) [] (w.forCall tape i)))
    (hv : s.vars = []) (hsp : ∀ ds : List (DataW H), ds.length = fn.params.toList.length → s.fn H ds = { results := [.lit (.bool true)], args := ds })
    (hres : fn.resultTypes = #[tb]) (htb : C.prog.underlying tb = some .bool) (K : Kids C.prog T) (hz : ∀ t e, T t → C.prog.underlying t = some (.slice e) → 0 < C.prog.cellsOf e)
    (hT : ∀ t ∈ fn.params.toList, T t) (hp : ∀ t ∈ fn.params.toList, plainT C.prog n t = true)
    (law : ∀ G, Good G → ∀ us, ShpA C.prog n fn.params.toList us → CallV C.prog G f us [] fun v _ => v = .c (.bool true)) :
    ReturnsInHanded {} C os f .any (fun w args => (s.pre enc C.prog fn conds apart w args ∧ X w args) ∧ sizedMet enc C.prog fn (OpenSpec.ofChange s) apart w args) (s.post enc C.prog fn apart fresh handsOn again) := by
  refine returnsInHanded_of_calls own started noInit witness ?_
  intro w tape i _ hsh _ hok hpre hholds
  obtain ⟨_, _, _, fn', hfn', _, _, _, _, hval⟩ := hok
  have e : fn' = fn := Option.some.inj (hfn'.symm.trans hfn)
  subst e
  obtain ⟨⟨⟨ds, gs, before, hw, hc⟩, hx⟩, hz'⟩ := hpre
  have hW := DataW.Whole.of_heap (w' := w.forCall tape i) (by rfl) hw
  have hXW := hX _ (w.forCall tape i) _ (by rfl) hx
  obtain ⟨G, hGood, hGc⟩ := hG _ _ hXW hsh
  generalize hWW : w.forCall tape i = W at *
  generalize hargs' : i.args = args at *
  suffices hmain : Calls C.prog f args W fun e W' => ∃ v, e = .returned v ∧ s.post enc C.prog fn' apart fresh handsOn again W args v W' by
    refine hmain.mono fun e W' ⟨v, he, hp⟩ => ?_
    subst he
    exact ChangeSpec.post_blind hp
  have hW0 := hW
  obtain ⟨p, q, hA, hV, rfl, hfz, hnd⟩ := hW
  rw [hv] at hV
  obtain ⟨rfl, rfl⟩ := trodVars_none hV
  simp only [List.append_nil] at hW0 hfz hnd
  obtain ⟨us, hs, hc⟩ := shpA_of (φ := fun _ => none) K hz n _ _ _ _ hT hp (fun j t v hj hvj => Value.okWide_any_base (hval j t v (by simpa using hj) (by simpa using hvj))) hA
  have hcall := (law G hGood us hs).2 (fun _ => False) W (fun _ => none) args.toList (rh_nilG hGc) hc
  simp only [Array.toArray_toList] at hcall
  refine (hcall.calls (room_FW none)).mono ?_
  rintro e W' ⟨y, φ', v, h', rfl, rfl, hcn, _, he⟩
  simp only [Cn] at hcn
  subst hcn
  refine ⟨_, rfl, ?_⟩
  have hsame : ∀ b, b < W.heap.size → W'.heap[b]? = W.heap[b]? := fun b hb => same_of_ext he hb
  have hlt : ∀ x ∈ p, x.block < W.heap.size := fun x hx => hW0.lt x hx
  have hargs : ∀ sp : Nat → Bool, (∀ x ∈ p, sp x.block = true) → DataW.TrodAll enc C.prog W' 0 sp true fn'.params.toList args.toList ds p := fun sp hsp' =>
    trodAll_carry (DataW.TrodAll.respare K hz hT hA hsp') fun x hx => sameAt_of (hsame _ (hlt x hx))
  have hl := trodAll_length hA
  have hleft : s.fn H (ds ++ []) = { results := [.lit (.bool true)], args := ds } := by rw [List.append_nil]; exact hsp ds hl
  have hR : ∀ (b : Nat) (sp : Nat → Bool) (hd : Bool), DataW.TrodAll enc C.prog W' b sp hd fn'.resultTypes.toList ((Value.bool true).resultList fn'.resultTypes.size) [.lit (.bool true)] [] := by
    intro b sp hd
    rw [hres]
    exact trodAll_cons_mk (shut_bool htb true) rfl
  have hold : ∀ x ∈ p, (fun b => decide (b < W.heap.size)) x.block = true := fun x hx => by simpa using hlt x hx
  refine ⟨ds, [], p, [], p, [], hW0, ?_, ?_, ?_, World.keptBut_mono (fun _ h => h.elim) (keptBut_of hsame he.os he.output), fun _ => ⟨?_, ?_⟩⟩
  · rw [hleft]; exact hR _ _ _
  · rw [hleft]; exact hargs _ hold
  · rw [hleft, hv]; rfl
  · exact ok_one hres rfl (okWide_bool_mk htb true)
  · refine ⟨_, [], ([] ++ p) ++ [], ⟨[] ++ p, [], trodAll_append (hargs _ (fun _ _ => rfl)) (hR _ _ _), ?_, by simp, ?_, ?_⟩, ?_⟩
    · rw [hv]; rfl
    · intro b off hpb
      have hpb' : MemPlace.cell b off ∈ p := by simpa using hpb
      have := hfz b off hpb'
      rw [← this]
      simp only [World.frozen?]
      rw [hsame b (hlt _ hpb')]
    · intro ha; simpa using hnd ha
    · intro x hx _; simpa using hx

/-- Each cell of a variable that is an array of integers holds one. -/
theorem cells_of_shapedOpen_ints {P : Program} {w : World} {g : Nat} {t u : TypeId} {zero : Array Value} {k : IntKind} {n : Nat}
    (h : w.ShapedOpen P) (hg : g < P.globals.size)
    (h0 : ((begin P (fun _ _ => 0) default).world.heap[g]?).bind Obj.row? = some (zero, t)) (hz : zero.size = n)
    (hb : P.buildable t = true) (hc : P.cellTypes P.depth t = some (List.replicate n u)) (hu : P.underlying u = some (.int k)) {j : Nat} (hj : j < n) :
    ∃ m, w.cell? ⟨g, j, none⟩ = some (.int k m) := by
  obtain ⟨cs, hh, hs, hr⟩ := h.1 g zero t hg h0
  obtain ⟨ts, hts, _, hall⟩ := hr hb
  rw [hc] at hts
  cases hts
  have h1 : j < cs.size := by omega
  obtain ⟨u', hu', hok⟩ := hall j cs[j] (by simp [h1])
  have : u' = u := by
    rw [List.getElem?_replicate] at hu'
    split at hu'
    · exact (Option.some.inj hu').symm
    · cases hu'
  subst this
  have hcell : w.cell? ⟨g, j, none⟩ = some cs[j] := by simp [World.cell?, hh, h1]
  rw [hcell]
  unfold Cell.ok at hok
  rw [hu] at hok
  cases hv : cs[j] <;> rw [hv] at hok <;> simp at hok
  case int k' n => exact ⟨n, by rw [hok.1]⟩
end Go.Vm
