/- Contracts of functions of the seat's program, and what follows of them: Hd. Conditions are in each statement. -/
import Derived.Test.YtnoigkdecjeilaaDoorHc
set_option linter.unusedSimpArgs false
set_option linter.unusedVariables false
namespace Go.Proofs.YtnoigkdecjeilaaDoor
open Go Go.Proofs Go.Vm Go.Extern
set_option maxRecDepth 100000
variable {G : Addr → Option Value}

theorem vs_of (B : ByteArray) : vs B.data.toList = .c (.string B) := rfl
theorem ex_small (i : Nat) (hi : i < 100) : ∃ s : List UInt8, s.length ≤ 200 ∧ Ct Tryd.prog G 44 [vi i] [] (vs s) [] := by
  have hlen : ∀ (B : ByteArray) (a b : Nat), (B.extract a b).data.toList.length ≤ B.size := fun B a b => by
    rw [Array.length_toList]
    show (B.extract a b).size ≤ B.size
    rw [ByteArray.size_extract]; omega
  by_cases c : i < 10
  · have c' : (i : Int) < 10 := by omega
    obtain ⟨j, hj⟩ : ∃ j : Nat, j = i + 1 := ⟨_, rfl⟩
    have w : IntKind.wrap .i64 ((i : Int) + 1) = (j : Int) := by rw [w64_of (by omega) (by omega)]; omega
    have b1 : i ≤ j := by omega
    have b2 : j ≤ 36 := by omega
    have b1' : (i : Int) ≤ j := by omega
    have b2' : (j : Int) ≤ 36 := by omega
    refine ⟨(lit2.extract i j).data.toList, by have := hlen lit2 i j; have := lit2_size; omega, ?_⟩
    rw [vs_of]
    refine callV_ic hm (fn := Tryd.f44) rfl ic44_eq ic44_nm ic44_ok (by simp) ?_
    simp -dsimp [ic44]
    repeat' first
      | simp -dsimp [c, c', w, b1, b2, b1', b2']
      | (with_reducible refine ordI (by kernel_rfl) ?_)
    exact exitV.cut (by simp) (by simp) (by simp) (by simp) ⟨rfl, by simp⟩
  · have c' : ¬ (i : Int) < 10 := by omega
    obtain ⟨p, hp⟩ : ∃ p : Nat, p = i * 2 := ⟨_, rfl⟩
    obtain ⟨j, hj⟩ : ∃ j : Nat, j = p + 2 := ⟨_, rfl⟩
    have w1 : IntKind.wrap .i64 ((i : Int) * 2) = (p : Int) := by rw [w64_of (by omega) (by omega)]; omega
    have w : IntKind.wrap .i64 ((p : Int) + 2) = (j : Int) := by rw [w64_of (by omega) (by omega)]; omega
    have b1 : p ≤ j := by omega
    have b2 : j ≤ 200 := by omega
    have b1' : (p : Int) ≤ j := by omega
    have b2' : (j : Int) ≤ 200 := by omega
    refine ⟨(lit3.extract p j).data.toList, by have := hlen lit3 p j; have := lit3_size; omega, ?_⟩
    rw [vs_of]
    refine callV_ic hm (fn := Tryd.f44) rfl ic44_eq ic44_nm ic44_ok (by simp) ?_
    simp -dsimp [ic44]
    repeat' first
      | simp -dsimp [c, c', w1, w, b1, b2, b1', b2']
      | (with_reducible refine ordI (by kernel_rfl) ?_)
    exact exitV.cut (by simp) (by simp) (by simp) (by simp) ⟨rfl, by simp⟩
@[simp] theorem tbytes_u8s : tbytes Tryd.prog 107 = true := by kernel_rfl
theorem z24b : byL (List.replicate 24 0) = [.c (.int .u8 0), .c (.int .u8 0), .c (.int .u8 0), .c (.int .u8 0), .c (.int .u8 0), .c (.int .u8 0), .c (.int .u8 0), .c (.int .u8 0), .c (.int .u8 0), .c (.int .u8 0), .c (.int .u8 0), .c (.int .u8 0), .c (.int .u8 0), .c (.int .u8 0), .c (.int .u8 0), .c (.int .u8 0), .c (.int .u8 0), .c (.int .u8 0), .c (.int .u8 0), .c (.int .u8 0), .c (.int .u8 0), .c (.int .u8 0), .c (.int .u8 0), .c (.int .u8 0)] := rfl
set_option maxHeartbeats 4000000 in
theorem ex_FormatInt (g : GoodG G) (t : Nat) (ht : t ≤ 9223372036854775807) : ∃ s : List UInt8, s.length ≤ 200 ∧ Ct Tryd.prog G 43 [vi t, vi 10] [] (vs s) [] := by
  by_cases c : t < 100
  · have c' : (t : Int) < 100 := by omega
    obtain ⟨s, hs, sm⟩ := ex_small (G := G) t c
    refine ⟨s, hs, ?_⟩
    refine callV_ic hm (fn := Tryd.f43) rfl ic43_eq ic43_nm ic43_ok (by simp) ?_
    simp -dsimp [ic43]
    repeat' first
      | simp -dsimp [c, c']
      | (with_reducible refine (CallD.pure (sm) (by simp) ?_).callV)
      | (with_reducible refine ordI (by kernel_rfl) ?_)
    exact exitV.cut (by simp) (by simp) (by simp) (by simp) ⟨rfl, by simp⟩
  · have c' : ¬ (t : Int) < 100 := by omega
    have c0 : ¬ (t : Int) < 0 := by omega
    have w : IntKind.wrap .u64 (t : Int) = (t : Int) := wu_of (by omega) (by omega)
    obtain ⟨nd, hnd, cd⟩ := ex_numDigits g (t : Int) (by omega)
    have fm := ct_formatBase10 (G := G) nd t (List.replicate 24 0) hnd rfl (by omega)
    have hR : (en8 (nd / 8) nd t (List.replicate 24 0)).length = 24 := by rw [en8_length]; rfl
    generalize en8 (nd / 8) nd t (List.replicate 24 0) = R at *
    rw [z24b] at fm
    obtain ⟨e, he⟩ : ∃ e : Nat, e = 1 + nd := ⟨_, rfl⟩
    have w1 : IntKind.wrap .i64 (1 + (nd : Int)) = (e : Int) := by rw [w64_of (by omega) (by omega)]; omega
    have b1 : 1 ≤ e := by omega
    have b1' : (1 : Int) ≤ e := by omega
    have b2 : e ≤ 24 := by omega
    have b2' : (e : Int) ≤ 24 := by omega
    have b3 : ((e : Int) - 1).toNat = nd := by omega
    refine ⟨(R.drop 1).take nd, by simp; omega, ?_⟩
    refine callV_ic hm (fn := Tryd.f43) rfl ic43_eq ic43_nm ic43_ok (by simp) ?_
    simp -dsimp [ic43]
    repeat' first
      | simp -dsimp [c, c', c0, w, w1, b1, b1', b2, b2', b3]
      | (with_reducible refine (CallD.pure (cd) (by simp) ?_).callV)
      | (with_reducible refine ordI (by kernel_rfl) ?_)
    refine (CallD.touch (i := 0) fm (by simp) rfl (by simp) (by simp) (by simp) ?_).callV
    repeat' first
      | simp -dsimp [c, c', c0, w, w1, b1, b1', b2, b2', b3, hR]
      | (with_reducible refine ordI (by kernel_rfl) ?_)
    exact ⟨by kernel_rfl, (R.drop 1).take nd, by simp; omega, by simp [byL, List.map_take], exitV.cut (by simp) (by simp) (by simp) (by simp) ⟨rfl, by simp⟩⟩
theorem ex_iItoa (g : GoodG G) (t : Nat) (ht : t ≤ 9223372036854775807) : ∃ s : List UInt8, s.length ≤ 200 ∧ Ct Tryd.prog G 42 [vi t] [] (vs s) [] := by
  obtain ⟨s, hs, c⟩ := ex_FormatInt g t ht
  refine ⟨s, hs, ?_⟩
  refine callV_ic hm (fn := Tryd.f42) rfl ic42_eq ic42_nm ic42_ok (by simp) ?_
  simp -dsimp [ic42]
  repeat' first
    | simp -dsimp
    | (with_reducible refine (CallD.pure (c) (by simp) ?_).callV)
    | (with_reducible refine ordI (by kernel_rfl) ?_)
  exact exitV.cut (by simp) (by simp) (by simp) (by simp) ⟨rfl, by simp⟩
theorem ex_Itoa (g : GoodG G) (t : Nat) (ht : t ≤ 9223372036854775807) : ∃ s : List UInt8, s.length ≤ 200 ∧ Ct Tryd.prog G 39 [vi t] [] (vs s) [] := by
  obtain ⟨s, hs, c⟩ := ex_iItoa g t ht
  refine ⟨s, hs, ?_⟩
  refine callV_ic hm (fn := Tryd.f39) rfl ic39_eq ic39_nm ic39_ok (by simp) ?_
  simp -dsimp [ic39]
  repeat' first
    | simp -dsimp
    | (with_reducible refine (CallD.pure (c) (by simp) ?_).callV)
    | (with_reducible refine ordI (by kernel_rfl) ?_)
  exact exitV.cut (by simp) (by simp) (by simp) (by simp) ⟨rfl, by simp⟩
/-- The text of a fault: some text, always the same one. -/
theorem ex_FaultError (g : GoodG G) (k t : Nat) (hk : k ≤ 9223372036854775807) (ht : t ≤ 9223372036854775807) : ∃ s : List UInt8, s.length ≤ 500 ∧ Ct Tryd.prog G 31 [.agg [vi k, vi t]] [] (vs s) [] := by
  obtain ⟨a, ha, ca⟩ := ex_Itoa g k hk
  obtain ⟨b, hb, cb⟩ := ex_Itoa g t ht
  have l1 : 6 + a.length ≤ 9223372036854775807 := by omega
  have l1' : (6 : Int) + a.length ≤ 9223372036854775807 := by omega
  have l2 : 6 + a.length + 4 ≤ 9223372036854775807 := by omega
  have l2' : (6 : Int) + a.length + 4 ≤ 9223372036854775807 := by omega
  have l3 : 6 + a.length + 4 + b.length ≤ 9223372036854775807 := by omega
  have l3' : (6 : Int) + a.length + 4 + b.length ≤ 9223372036854775807 := by omega
  refine ⟨[102, 97, 117, 108, 116, 32] ++ a ++ [32, 97, 116, 32] ++ b, by simp; omega, ?_⟩
  refine callV_ic hm (fn := Tryd.f31) rfl ic31_eq ic31_nm ic31_ok (by simp) ?_
  simp -dsimp [ic31]
  repeat' first
    | simp -dsimp [ba_size, ba_app, l1, l1', l2, l2', l3, l3']
    | (with_reducible refine (CallD.pure (ca) (by simp) ?_))
    | (with_reducible refine (CallD.pure (cb) (by simp) ?_))
    | (with_reducible refine ordI (by kernel_rfl) ?_)
  refine ⟨by omega, ?_⟩
  repeat' first
    | simp -dsimp [ba_size, ba_app]
    | (with_reducible refine (CallD.pure (ca) (by simp) ?_))
    | (with_reducible refine (CallD.pure (cb) (by simp) ?_))
    | (with_reducible refine ordI (by kernel_rfl) ?_)
  refine ⟨by omega, ?_⟩
  repeat' first
    | simp -dsimp
    | (with_reducible refine ordI (by kernel_rfl) ?_)
  exact exitV.cut (by simp) (by simp) (by simp) (by simp) ⟨by simp, by simp⟩
theorem ct_singleErr {k t : Int} {s : List UInt8} (c : Ct Tryd.prog G 31 [.agg [vi k, vi t]] [] (vs s) []) : Ct Tryd.prog G 72 [.agg [vi k, vi t]] [] (vs s) [] := by
  refine callV_ic hm (fn := Tryd.f72) rfl ic72_eq ic72_nm ic72_ok (by simp) ?_
  simp -dsimp [ic72]
  repeat' first
    | simp -dsimp
    | (with_reducible refine (CallD.pure (c) (by simp) ?_).callV)
    | (with_reducible refine ordI (by kernel_rfl) ?_)
  exact exitV.cut (by simp) (by simp) (by simp) (by simp) ⟨rfl, by simp⟩
/-- The text of an error, F being its fault's. -/
def Er.text (F : List UInt8) : Er → List UInt8
  | .s _ _ => F
  | .f w e => w ++ [58, 32] ++ e.text F
/-- All its places are short. -/
def Er.short : Er → Prop
  | .s _ _ => True
  | .f w e => w.length ≤ 200 ∧ e.short
theorem Er.text_len {F : List UInt8} (hF : F.length ≤ 500) : ∀ {e : Er}, e.short → (e.text F).length ≤ 500 + 202 * e.deep
  | .s _ _, _ => by simp [Er.text, Er.deep]; exact hF
  | .f w e, h => by
    have := Er.text_len hF h.2
    have := h.1
    simp [Er.text, Er.deep]; omega
def CtErr (G : Addr → Option Value) (e : Er) (s : List UInt8) : Prop := match e with
  | .s k t => Ct Tryd.prog G 72 [.agg [vi k, vi t]] [] (vs s) []
  | .f w e => Ct Tryd.prog G 74 [.agg [vs w, e.v]] [] (vs s) []
theorem ct_Err_text {F : List UInt8} (hF : F.length ≤ 500) : ∀ (e : Er), Ct Tryd.prog G 31 [.agg [vi e.leaf.1, vi e.leaf.2]] [] (vs F) [] → e.short → e.deep ≤ 1000 → CtErr G e (e.text F)
  | .s k t, c, _, _ => ct_singleErr c
  | .f w (.s k t), c, h, _ => by
    have f : Ct Tryd.prog G 72 [.agg [vi k, vi t]] [] (vs F) [] := ct_singleErr c
    have hw := h.1
    show Ct Tryd.prog G 74 [.agg [vs w, .iface 65 (.agg [vi k, vi t])]] [] (vs (w ++ [58, 32] ++ F)) []
    have l1 : w.length + 2 ≤ 9223372036854775807 := by omega
    have l1' : (w.length : Int) + 2 ≤ 9223372036854775807 := by omega
    refine callV_ic hm (fn := Tryd.f74) rfl ic74_eq ic74_nm ic74_ok (by simp) ?_
    simp -dsimp [ic74]
    repeat' first
      | simp -dsimp [ba_size, ba_app, l1, l1']
      | (with_reducible refine ordI (by kernel_rfl) ?_)
    refine ⟨_, _, mErrorS _, ?_⟩
    repeat' first
      | simp -dsimp [ba_size, ba_app]
      | (with_reducible refine (CallD.pure (f) (by simp) ?_))
      | (with_reducible refine ordI (by kernel_rfl) ?_)
    refine ⟨by omega, ?_⟩
    repeat' first
      | simp -dsimp
      | (with_reducible refine ordI (by kernel_rfl) ?_)
    exact exitV.cut (by simp) (by simp) (by simp) (by simp) ⟨by simp, by simp⟩
  | .f w (.f w2 e), c, h, hd => by
    have f := ct_Err_text hF (.f w2 e) c h.2 (by simp [Er.deep] at hd ⊢; omega)
    have lt := Er.text_len hF h.2
    have hw := h.1
    change Ct Tryd.prog G 74 [.agg [vs w2, e.v]] [] (vs ((Er.f w2 e).text F)) [] at f
    show Ct Tryd.prog G 74 [.agg [vs w, .iface 70 (.agg [vs w2, e.v])]] [] (vs (w ++ [58, 32] ++ (Er.f w2 e).text F)) []
    have hlt : ((Er.f w2 e).text F).length ≤ 10000000 := by simp [Er.deep] at hd lt ⊢; omega
    generalize (Er.f w2 e).text F = T at *
    have okE : ∀ p : Nat → Prop, e.v.ok p := fun p => by simp
    have renE : ∀ ρ : Nat → Nat, e.v.ren ρ = e.v := fun ρ => by simp
    have oneE : e.v.one = true := by simp
    have fillsE : e.v.fills = true := by simp
    have cellsE : e.v.cells = [e.v] := by simp
    generalize e.v = E at *
    have l1 : w.length + 2 ≤ 9223372036854775807 := by omega
    have l1' : (w.length : Int) + 2 ≤ 9223372036854775807 := by omega
    refine callV_ic hm (fn := Tryd.f74) rfl ic74_eq ic74_nm ic74_ok (by simp) ?_
    simp -dsimp [ic74]
    repeat' first
      | simp -dsimp [ba_size, ba_app, l1, l1', okE, renE, oneE, fillsE, cellsE]
      | (with_reducible refine ordI (by kernel_rfl) ?_)
    refine ⟨_, _, mErrorF _, ?_⟩
    repeat' first
      | simp -dsimp [ba_size, ba_app, okE, renE]
      | (with_reducible refine (CallD.pure (f) (by simp [okE]) ?_))
      | (with_reducible refine ordI (by kernel_rfl) ?_)
    refine ⟨by omega, ?_⟩
    repeat' first
      | simp -dsimp
      | (with_reducible refine ordI (by kernel_rfl) ?_)
    exact exitV.cut (by simp) (by simp) (by simp) (by simp) ⟨by simp, by simp⟩
end Go.Proofs.YtnoigkdecjeilaaDoor
