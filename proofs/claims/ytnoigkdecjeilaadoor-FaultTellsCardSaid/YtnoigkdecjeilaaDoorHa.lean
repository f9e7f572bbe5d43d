/- Contracts of functions of the seat's program, and what follows of them: Ha. Conditions are in each statement. -/
import Derived.Test.YtnoigkdecjeilaaDoorFe
import Derived.Test.YtnoigkdecjeilaaDoorV7
set_option linter.unusedSimpArgs false
set_option linter.unusedVariables false
namespace Go.Proofs.YtnoigkdecjeilaaDoor
open Go Go.Proofs Go.Vm Go.Extern
set_option maxRecDepth 100000

/-! ### How many digits: whatever the table of powers holds -/
/-- What is known of the world: the handle of error's type, and numbers in the table. -/
def GoodG (G : Addr → Option Value) : Prop := (∀ a x, G0 a = some x → G a = some x) ∧ ∀ k : Nat, k < 20 → ∃ m, G ⟨1, k, none⟩ = some (.int .u64 m)
variable {G : Addr → Option Value}
abbrev vu (x : Int) : V := .c (.int .u64 x)
theorem wu_of {x : Int} (h1 : 0 ≤ x) (h2 : x ≤ 18446744073709551615) : IntKind.wrap .u64 x = x := by
  simp only [IntKind.wrap, IntKind.signed, IntKind.bits]
  simp; omega
theorem w32_of {x : Int} (h1 : 0 ≤ x) (h2 : x ≤ 4294967295) : IntKind.wrap .u32 x = x := by
  simp only [IntKind.wrap, IntKind.signed, IntKind.bits]
  simp; omega
theorem w8_bound (x : Int) : 0 ≤ IntKind.wrap .u8 x ∧ IntKind.wrap .u8 x < 256 := by
  simp only [IntKind.wrap, IntKind.signed, IntKind.bits]
  simp; omega
theorem lit5_le (n : Nat) : 0 ≤ byteAt lit5 n ∧ byteAt lit5 n ≤ 8 := by
  have h : ∀ k : Fin 256, byteAt lit5 k.val ≤ 8 := by decide +kernel
  refine ⟨by unfold byteAt; omega, ?_⟩
  rcases Nat.lt_or_ge n 256 with hn | hn
  · exact h ⟨n, hn⟩
  · unfold byteAt
    have : lit5.data.size = 256 := lit5_size
    rw [Array.getD, dif_neg (by omega)]; decide
theorem ex_Len64 (x : Int) (h0 : 0 ≤ x) : ∃ r : Int, 0 ≤ r ∧ r ≤ 64 ∧ Ct Tryd.prog G 49 [vu x] [] (vi r) [] := by
  have key : ∀ (n y : Int), 0 ≤ n → n ≤ 56 → ∃ r : Int, 0 ≤ r ∧ r ≤ 64 ∧ IntKind.wrap .i64 (n + IntKind.wrap .i64 (byteAt lit5 (IntKind.wrap .u8 y).toNat)) = r := by
    intro n y hn0 hn1
    obtain ⟨b0, b1⟩ := lit5_le (IntKind.wrap .u8 y).toNat
    exact ⟨n + byteAt lit5 (IntKind.wrap .u8 y).toNat, by omega, by omega, by rw [w64_of (x := byteAt lit5 (IntKind.wrap .u8 y).toNat) (by omega) (by omega), w64_of (by omega) (by omega)]⟩
  have hb := w8_bound
  have hb1 := fun y => (hb y).1
  have hb2 := fun y => (hb y).2
  have s1 : (2 : Int) ^ min 32 (IntKind.bits .u64) = 4294967296 := by decide
  have s2 : (2 : Int) ^ min 16 (IntKind.bits .u64) = 65536 := by decide
  have s3 : (2 : Int) ^ min 8 (IntKind.bits .u64) = 256 := by decide
  have a1 : IntKind.wrap .i64 48 = 48 := by decide
  have a2 : IntKind.wrap .i64 40 = 40 := by decide
  have a3 : IntKind.wrap .i64 56 = 56 := by decide
  have a4 : IntKind.wrap .i64 16 = 16 := by decide
  have a5 : IntKind.wrap .i64 8 = 8 := by decide
  have a6 : IntKind.wrap .i64 24 = 24 := by decide
  by_cases c1 : 4294967296 ≤ x
  · obtain ⟨y, hy⟩ : ∃ y, x / 4294967296 = y := ⟨_, rfl⟩
    by_cases c2 : 65536 ≤ y
    · obtain ⟨z, hz⟩ : ∃ z, y / 65536 = z := ⟨_, rfl⟩
      by_cases c3 : 256 ≤ z
      · obtain ⟨t, ht⟩ : ∃ t, z / 256 = t := ⟨_, rfl⟩
        obtain ⟨r, r0, r1, hr⟩ := key 56 t (by omega) (by omega)
        refine ⟨r, r0, r1, ?_⟩
        refine callV_ic hm (fn := Tryd.f49) rfl ic49_eq ic49_nm ic49_ok (by simp) ?_
        simp -dsimp [ic49]
        repeat' first
          | simp -dsimp [c1, c2, c3, hy, hz, ht, s1, s2, s3, a1, a2, a3, a4, a5, a6, hb1, hb2, hr]
          | (with_reducible refine ordI (by kernel_rfl) ?_)
        exact exitV.cut (by simp) (by simp) (by simp) (by simp) ⟨rfl, by simp⟩
      · obtain ⟨t, ht⟩ : ∃ t, z = t := ⟨_, rfl⟩
        subst ht
        obtain ⟨r, r0, r1, hr⟩ := key 48 z (by omega) (by omega)
        refine ⟨r, r0, r1, ?_⟩
        refine callV_ic hm (fn := Tryd.f49) rfl ic49_eq ic49_nm ic49_ok (by simp) ?_
        simp -dsimp [ic49]
        repeat' first
          | simp -dsimp [c1, c2, c3, hy, hz, s1, s2, s3, a1, a2, a3, a4, a5, a6, hb1, hb2, hr]
          | (with_reducible refine ordI (by kernel_rfl) ?_)
        exact exitV.cut (by simp) (by simp) (by simp) (by simp) ⟨rfl, by simp⟩
    · obtain ⟨z, hz⟩ : ∃ z, y = z := ⟨_, rfl⟩
      subst hz
      by_cases c3 : 256 ≤ y
      · obtain ⟨t, ht⟩ : ∃ t, y / 256 = t := ⟨_, rfl⟩
        obtain ⟨r, r0, r1, hr⟩ := key 40 t (by omega) (by omega)
        refine ⟨r, r0, r1, ?_⟩
        refine callV_ic hm (fn := Tryd.f49) rfl ic49_eq ic49_nm ic49_ok (by simp) ?_
        simp -dsimp [ic49]
        repeat' first
          | simp -dsimp [c1, c2, c3, hy, ht, s1, s2, s3, a1, a2, a3, a4, a5, a6, hb1, hb2, hr]
          | (with_reducible refine ordI (by kernel_rfl) ?_)
        exact exitV.cut (by simp) (by simp) (by simp) (by simp) ⟨rfl, by simp⟩
      · obtain ⟨t, ht⟩ : ∃ t, y = t := ⟨_, rfl⟩
        subst ht
        obtain ⟨r, r0, r1, hr⟩ := key 32 y (by omega) (by omega)
        refine ⟨r, r0, r1, ?_⟩
        refine callV_ic hm (fn := Tryd.f49) rfl ic49_eq ic49_nm ic49_ok (by simp) ?_
        simp -dsimp [ic49]
        repeat' first
          | simp -dsimp [c1, c2, c3, hy, s1, s2, s3, a1, a2, a3, a4, a5, a6, hb1, hb2, hr]
          | (with_reducible refine ordI (by kernel_rfl) ?_)
        exact exitV.cut (by simp) (by simp) (by simp) (by simp) ⟨rfl, by simp⟩
  · obtain ⟨y, hy⟩ : ∃ y, x = y := ⟨_, rfl⟩
    subst hy
    by_cases c2 : 65536 ≤ x
    · obtain ⟨z, hz⟩ : ∃ z, x / 65536 = z := ⟨_, rfl⟩
      by_cases c3 : 256 ≤ z
      · obtain ⟨t, ht⟩ : ∃ t, z / 256 = t := ⟨_, rfl⟩
        obtain ⟨r, r0, r1, hr⟩ := key 24 t (by omega) (by omega)
        refine ⟨r, r0, r1, ?_⟩
        refine callV_ic hm (fn := Tryd.f49) rfl ic49_eq ic49_nm ic49_ok (by simp) ?_
        simp -dsimp [ic49]
        repeat' first
          | simp -dsimp [c1, c2, c3, hz, ht, s1, s2, s3, a1, a2, a3, a4, a5, a6, hb1, hb2, hr]
          | (with_reducible refine ordI (by kernel_rfl) ?_)
        exact exitV.cut (by simp) (by simp) (by simp) (by simp) ⟨rfl, by simp⟩
      · obtain ⟨t, ht⟩ : ∃ t, z = t := ⟨_, rfl⟩
        subst ht
        obtain ⟨r, r0, r1, hr⟩ := key 16 z (by omega) (by omega)
        refine ⟨r, r0, r1, ?_⟩
        refine callV_ic hm (fn := Tryd.f49) rfl ic49_eq ic49_nm ic49_ok (by simp) ?_
        simp -dsimp [ic49]
        repeat' first
          | simp -dsimp [c1, c2, c3, hz, s1, s2, s3, a1, a2, a3, a4, a5, a6, hb1, hb2, hr]
          | (with_reducible refine ordI (by kernel_rfl) ?_)
        exact exitV.cut (by simp) (by simp) (by simp) (by simp) ⟨rfl, by simp⟩
    · obtain ⟨z, hz⟩ : ∃ z, x = z := ⟨_, rfl⟩
      subst hz
      by_cases c3 : 256 ≤ x
      · obtain ⟨t, ht⟩ : ∃ t, x / 256 = t := ⟨_, rfl⟩
        obtain ⟨r, r0, r1, hr⟩ := key 8 t (by omega) (by omega)
        refine ⟨r, r0, r1, ?_⟩
        refine callV_ic hm (fn := Tryd.f49) rfl ic49_eq ic49_nm ic49_ok (by simp) ?_
        simp -dsimp [ic49]
        repeat' first
          | simp -dsimp [c1, c2, c3, ht, s1, s2, s3, a1, a2, a3, a4, a5, a6, hb1, hb2, hr]
          | (with_reducible refine ordI (by kernel_rfl) ?_)
        exact exitV.cut (by simp) (by simp) (by simp) (by simp) ⟨rfl, by simp⟩
      · obtain ⟨t, ht⟩ : ∃ t, x = t := ⟨_, rfl⟩
        subst ht
        obtain ⟨r, r0, r1, hr⟩ := key 0 x (by omega) (by omega)
        rw [Int.zero_add] at hr
        refine ⟨r, r0, r1, ?_⟩
        refine callV_ic hm (fn := Tryd.f49) rfl ic49_eq ic49_nm ic49_ok (by simp) ?_
        simp -dsimp [ic49]
        repeat' first
          | simp -dsimp [c1, c2, c3, s1, s2, s3, a1, a2, a3, a4, a5, a6, hb1, hb2, hr]
          | (with_reducible refine ordI (by kernel_rfl) ?_)
        exact exitV.cut (by simp) (by simp) (by simp) (by simp) ⟨rfl, by simp⟩
end Go.Proofs.YtnoigkdecjeilaaDoor
