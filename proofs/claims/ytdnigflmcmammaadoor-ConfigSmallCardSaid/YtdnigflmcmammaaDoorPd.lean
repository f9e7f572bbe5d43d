/- Contracts of functions of the seat's program, and what follows of them: Pd. Conditions are in each statement. -/
import Derived.Test.YtdnigflmcmammaaDoorPc
set_option linter.unusedSimpArgs false
set_option linter.unusedVariables false
namespace Go.Proofs.YtdnigflmcmammaaDoor
open Go Go.Proofs Go.Vm

def checks (c : Cfg) : List (List UInt8 × Bool) := [([108, 101, 118, 101, 108, 115], levels1 c.lv), ([111, 112, 101, 110], openB c), ([115, 112, 101, 101, 100, 115], speedsP c), ([114, 97, 109, 112], rampP c), ([108, 101, 97, 107], leakP c), ([115, 116, 97, 114], starP c), ([108, 101, 118, 101, 108], levelP c), ([99, 114, 101, 101, 112], creepP c), ([118, 97, 110, 101], vaneP c), ([104, 97, 108, 102], halfP c), ([110, 101, 97, 114], nearP c), ([99, 111, 110, 116, 97, 99, 116, 115], contactsP c), ([114, 117, 110], runP c), ([115, 116, 97, 114, 116, 115], startsP c), ([103, 97, 116, 101, 115], gatesP c)]
def firstBad : List (List UInt8 × Bool) → List UInt8
  | [] => []
  | (n, b) :: l => if b then firstBad l else n
def wrongP (c : Cfg) : List UInt8 := firstBad (checks c)
def tblV : List V := [vs [108, 101, 118, 101, 108, 115], .fn (.func 30) [] [], vs [111, 112, 101, 110], .fn (.func 31) [] [], vs [115, 112, 101, 101, 100, 115], .fn (.func 32) [] [], vs [114, 97, 109, 112], .fn (.func 33) [] [], vs [108, 101, 97, 107], .fn (.func 35) [] [], vs [115, 116, 97, 114], .fn (.func 36) [] [], vs [108, 101, 118, 101, 108], .fn (.func 37) [] [], vs [99, 114, 101, 101, 112], .fn (.func 38) [] [], vs [118, 97, 110, 101], .fn (.func 39) [] [], vs [104, 97, 108, 102], .fn (.func 40) [] [], vs [110, 101, 97, 114], .fn (.func 41) [] [], vs [99, 111, 110, 116, 97, 99, 116, 115], .fn (.func 42) [] [], vs [114, 117, 110], .fn (.func 43) [] [], vs [115, 116, 97, 114, 116, 115], .fn (.func 44) [] [], vs [103, 97, 116, 101, 115], .fn (.func 45) [] []]
theorem rep15 (a b : V) : repV 15 [a, b] = [a, b, a, b, a, b, a, b, a, b, a, b, a, b, a, b, a, b, a, b, a, b, a, b, a, b, a, b, a, b] := rfl
set_option maxRecDepth 100000 in
set_option maxHeartbeats 4000000 in
theorem ct_config_wrong (c : Cfg) (hb : c.lv.length < top) (hb2 : c.op.length < top) : Ct Tryd.prog G0 16 [c.enc] [] (.tup [vs (wrongP c), vb (wrongP c != [])]) [] := by
  refine callV_ic hm (fn := Tryd.f16) rfl ic16_eq ic16_nm ic16_ok (by simp) ?_
  simp -dsimp [ic16]
  simp -dsimp [rep15]
  refine Ti.loopW hm (fun k s => ∃ q : Nat, q + k = 15 ∧ firstBad ((checks c).drop q) = wrongP c ∧ s = { t := [(23, vi q), (22, vi 15), (21, .sl 2 1 0 15), (1, .p 0 0)], d := [], h := [.cells 31 c.cells, .cells 60 tblV] }) (k := 15) ?_ ?_
  · exact Wk.sub [(23, vi (0 : Nat)), (22, vi 15), (21, .sl 2 1 0 15), (1, .p 0 0)] (by simp) (Wk.now ⟨0, by omega, rfl, rfl⟩)
  rintro k s ⟨q, hq, ha, rfl⟩
  have hs : q = 15 ∨ q = 0 ∨ q = 1 ∨ q = 2 ∨ q = 3 ∨ q = 4 ∨ q = 5 ∨ q = 6 ∨ q = 7 ∨ q = 8 ∨ q = 9 ∨ q = 10 ∨ q = 11 ∨ q = 12 ∨ q = 13 ∨ q = 14 := by omega
  rcases hs with hs | hs | hs | hs | hs | hs | hs | hs | hs | hs | hs | hs | hs | hs | hs | hs
  · subst hs
    simp -dsimp
    refine exitV.cut (by simp) (by simp) (by simp) (by simp) ⟨?_, by simp⟩
    rw [← ha]
    simp [checks, firstBad]
  · subst hs
    simp -dsimp [tblV]
    refine (CallD.pure (ct_config_levels _ hb) (by simp) ?_).callV
    simp -dsimp
    refine brV.intro (fun h => ?_) (fun h => ?_)
    rotate_left
    · simp -dsimp
      refine exitV.cut (by simp) (by simp) (by simp) (by simp) ⟨?_, by simp⟩
      rw [← ha]
      simp [checks, firstBad, h]
    · simp -dsimp
      exact ⟨k - 1, by omega, Wk.sub [(23, vi (1 : Nat)), (22, vi 15), (21, .sl 2 1 0 15), (1, .p 0 0)] (by simp; decide) (Wk.cut 2 (by simp) (by simp) (by simp [tblV]) (by simp [tblV]) (by simp) (by simp) (Wk.now ⟨1, by omega, by rw [← ha]; simp [checks, firstBad, h], rfl⟩))⟩
  · subst hs
    simp -dsimp [tblV]
    refine (CallD.pure (ct_config_open _ hb2) (by simp) ?_).callV
    simp -dsimp
    refine brV.intro (fun h => ?_) (fun h => ?_)
    rotate_left
    · simp -dsimp
      refine exitV.cut (by simp) (by simp) (by simp) (by simp) ⟨?_, by simp⟩
      rw [← ha]
      simp [checks, firstBad, h]
    · simp -dsimp
      exact ⟨k - 1, by omega, Wk.sub [(23, vi (2 : Nat)), (22, vi 15), (21, .sl 2 1 0 15), (1, .p 0 0)] (by simp; decide) (Wk.cut 2 (by simp) (by simp) (by simp [tblV]) (by simp [tblV]) (by simp) (by simp) (Wk.now ⟨2, by omega, by rw [← ha]; simp [checks, firstBad, h], rfl⟩))⟩
  · subst hs
    simp -dsimp [tblV]
    refine (CallD.pure (ct_config_speeds _) (by simp) ?_).callV
    simp -dsimp
    refine brV.intro (fun h => ?_) (fun h => ?_)
    rotate_left
    · simp -dsimp
      refine exitV.cut (by simp) (by simp) (by simp) (by simp) ⟨?_, by simp⟩
      rw [← ha]
      simp [checks, firstBad, h]
    · simp -dsimp
      exact ⟨k - 1, by omega, Wk.sub [(23, vi (3 : Nat)), (22, vi 15), (21, .sl 2 1 0 15), (1, .p 0 0)] (by simp; decide) (Wk.cut 2 (by simp) (by simp) (by simp [tblV]) (by simp [tblV]) (by simp) (by simp) (Wk.now ⟨3, by omega, by rw [← ha]; simp [checks, firstBad, h], rfl⟩))⟩
  · subst hs
    simp -dsimp [tblV]
    refine (CallD.pure (ct_config_wrong1 _) (by simp) ?_).callV
    simp -dsimp
    refine brV.intro (fun h => ?_) (fun h => ?_)
    rotate_left
    · simp -dsimp
      refine exitV.cut (by simp) (by simp) (by simp) (by simp) ⟨?_, by simp⟩
      rw [← ha]
      simp [checks, firstBad, h]
    · simp -dsimp
      exact ⟨k - 1, by omega, Wk.sub [(23, vi (4 : Nat)), (22, vi 15), (21, .sl 2 1 0 15), (1, .p 0 0)] (by simp; decide) (Wk.cut 2 (by simp) (by simp) (by simp [tblV]) (by simp [tblV]) (by simp) (by simp) (Wk.now ⟨4, by omega, by rw [← ha]; simp [checks, firstBad, h], rfl⟩))⟩
  · subst hs
    simp -dsimp [tblV]
    refine (CallD.pure (ct_config_wrong2 _) (by simp) ?_).callV
    simp -dsimp
    refine brV.intro (fun h => ?_) (fun h => ?_)
    rotate_left
    · simp -dsimp
      refine exitV.cut (by simp) (by simp) (by simp) (by simp) ⟨?_, by simp⟩
      rw [← ha]
      simp [checks, firstBad, h]
    · simp -dsimp
      exact ⟨k - 1, by omega, Wk.sub [(23, vi (5 : Nat)), (22, vi 15), (21, .sl 2 1 0 15), (1, .p 0 0)] (by simp; decide) (Wk.cut 2 (by simp) (by simp) (by simp [tblV]) (by simp [tblV]) (by simp) (by simp) (Wk.now ⟨5, by omega, by rw [← ha]; simp [checks, firstBad, h], rfl⟩))⟩
  · subst hs
    simp -dsimp [tblV]
    refine (CallD.pure (ct_config_wrong3 _) (by simp) ?_).callV
    simp -dsimp
    refine brV.intro (fun h => ?_) (fun h => ?_)
    rotate_left
    · simp -dsimp
      refine exitV.cut (by simp) (by simp) (by simp) (by simp) ⟨?_, by simp⟩
      rw [← ha]
      simp [checks, firstBad, h]
    · simp -dsimp
      exact ⟨k - 1, by omega, Wk.sub [(23, vi (6 : Nat)), (22, vi 15), (21, .sl 2 1 0 15), (1, .p 0 0)] (by simp; decide) (Wk.cut 2 (by simp) (by simp) (by simp [tblV]) (by simp [tblV]) (by simp) (by simp) (Wk.now ⟨6, by omega, by rw [← ha]; simp [checks, firstBad, h], rfl⟩))⟩
  · subst hs
    simp -dsimp [tblV]
    refine (CallD.pure (ct_config_wrong4 _) (by simp) ?_).callV
    simp -dsimp
    refine brV.intro (fun h => ?_) (fun h => ?_)
    rotate_left
    · simp -dsimp
      refine exitV.cut (by simp) (by simp) (by simp) (by simp) ⟨?_, by simp⟩
      rw [← ha]
      simp [checks, firstBad, h]
    · simp -dsimp
      exact ⟨k - 1, by omega, Wk.sub [(23, vi (7 : Nat)), (22, vi 15), (21, .sl 2 1 0 15), (1, .p 0 0)] (by simp; decide) (Wk.cut 2 (by simp) (by simp) (by simp [tblV]) (by simp [tblV]) (by simp) (by simp) (Wk.now ⟨7, by omega, by rw [← ha]; simp [checks, firstBad, h], rfl⟩))⟩
  · subst hs
    simp -dsimp [tblV]
    refine (CallD.pure (ct_config_wrong5 _) (by simp) ?_).callV
    simp -dsimp
    refine brV.intro (fun h => ?_) (fun h => ?_)
    rotate_left
    · simp -dsimp
      refine exitV.cut (by simp) (by simp) (by simp) (by simp) ⟨?_, by simp⟩
      rw [← ha]
      simp [checks, firstBad, h]
    · simp -dsimp
      exact ⟨k - 1, by omega, Wk.sub [(23, vi (8 : Nat)), (22, vi 15), (21, .sl 2 1 0 15), (1, .p 0 0)] (by simp; decide) (Wk.cut 2 (by simp) (by simp) (by simp [tblV]) (by simp [tblV]) (by simp) (by simp) (Wk.now ⟨8, by omega, by rw [← ha]; simp [checks, firstBad, h], rfl⟩))⟩
  · subst hs
    simp -dsimp [tblV]
    refine (CallD.pure (ct_config_vane _) (by simp) ?_).callV
    simp -dsimp
    refine brV.intro (fun h => ?_) (fun h => ?_)
    rotate_left
    · simp -dsimp
      refine exitV.cut (by simp) (by simp) (by simp) (by simp) ⟨?_, by simp⟩
      rw [← ha]
      simp [checks, firstBad, h]
    · simp -dsimp
      exact ⟨k - 1, by omega, Wk.sub [(23, vi (9 : Nat)), (22, vi 15), (21, .sl 2 1 0 15), (1, .p 0 0)] (by simp; decide) (Wk.cut 2 (by simp) (by simp) (by simp [tblV]) (by simp [tblV]) (by simp) (by simp) (Wk.now ⟨9, by omega, by rw [← ha]; simp [checks, firstBad, h], rfl⟩))⟩
  · subst hs
    simp -dsimp [tblV]
    refine (CallD.pure (ct_config_wrong6 _) (by simp) ?_).callV
    simp -dsimp
    refine brV.intro (fun h => ?_) (fun h => ?_)
    rotate_left
    · simp -dsimp
      refine exitV.cut (by simp) (by simp) (by simp) (by simp) ⟨?_, by simp⟩
      rw [← ha]
      simp [checks, firstBad, h]
    · simp -dsimp
      exact ⟨k - 1, by omega, Wk.sub [(23, vi (10 : Nat)), (22, vi 15), (21, .sl 2 1 0 15), (1, .p 0 0)] (by simp; decide) (Wk.cut 2 (by simp) (by simp) (by simp [tblV]) (by simp [tblV]) (by simp) (by simp) (Wk.now ⟨10, by omega, by rw [← ha]; simp [checks, firstBad, h], rfl⟩))⟩
  · subst hs
    simp -dsimp [tblV]
    refine (CallD.pure (ct_config_near _ hb) (by simp) ?_).callV
    simp -dsimp
    refine brV.intro (fun h => ?_) (fun h => ?_)
    rotate_left
    · simp -dsimp
      refine exitV.cut (by simp) (by simp) (by simp) (by simp) ⟨?_, by simp⟩
      rw [← ha]
      simp [checks, firstBad, h]
    · simp -dsimp
      exact ⟨k - 1, by omega, Wk.sub [(23, vi (11 : Nat)), (22, vi 15), (21, .sl 2 1 0 15), (1, .p 0 0)] (by simp; decide) (Wk.cut 2 (by simp) (by simp) (by simp [tblV]) (by simp [tblV]) (by simp) (by simp) (Wk.now ⟨11, by omega, by rw [← ha]; simp [checks, firstBad, h], rfl⟩))⟩
  · subst hs
    simp -dsimp [tblV]
    refine (CallD.pure (ct_config_wrong7 _) (by simp) ?_).callV
    simp -dsimp
    refine brV.intro (fun h => ?_) (fun h => ?_)
    rotate_left
    · simp -dsimp
      refine exitV.cut (by simp) (by simp) (by simp) (by simp) ⟨?_, by simp⟩
      rw [← ha]
      simp [checks, firstBad, h]
    · simp -dsimp
      exact ⟨k - 1, by omega, Wk.sub [(23, vi (12 : Nat)), (22, vi 15), (21, .sl 2 1 0 15), (1, .p 0 0)] (by simp; decide) (Wk.cut 2 (by simp) (by simp) (by simp [tblV]) (by simp [tblV]) (by simp) (by simp) (Wk.now ⟨12, by omega, by rw [← ha]; simp [checks, firstBad, h], rfl⟩))⟩
  · subst hs
    simp -dsimp [tblV]
    refine (CallD.pure (ct_config_wrong8 _) (by simp) ?_).callV
    simp -dsimp
    refine brV.intro (fun h => ?_) (fun h => ?_)
    rotate_left
    · simp -dsimp
      refine exitV.cut (by simp) (by simp) (by simp) (by simp) ⟨?_, by simp⟩
      rw [← ha]
      simp [checks, firstBad, h]
    · simp -dsimp
      exact ⟨k - 1, by omega, Wk.sub [(23, vi (13 : Nat)), (22, vi 15), (21, .sl 2 1 0 15), (1, .p 0 0)] (by simp; decide) (Wk.cut 2 (by simp) (by simp) (by simp [tblV]) (by simp [tblV]) (by simp) (by simp) (Wk.now ⟨13, by omega, by rw [← ha]; simp [checks, firstBad, h], rfl⟩))⟩
  · subst hs
    simp -dsimp [tblV]
    refine (CallD.pure (ct_config_wrong9 _) (by simp) ?_).callV
    simp -dsimp
    refine brV.intro (fun h => ?_) (fun h => ?_)
    rotate_left
    · simp -dsimp
      refine exitV.cut (by simp) (by simp) (by simp) (by simp) ⟨?_, by simp⟩
      rw [← ha]
      simp [checks, firstBad, h]
    · simp -dsimp
      exact ⟨k - 1, by omega, Wk.sub [(23, vi (14 : Nat)), (22, vi 15), (21, .sl 2 1 0 15), (1, .p 0 0)] (by simp; decide) (Wk.cut 2 (by simp) (by simp) (by simp [tblV]) (by simp [tblV]) (by simp) (by simp) (Wk.now ⟨14, by omega, by rw [← ha]; simp [checks, firstBad, h], rfl⟩))⟩
  · subst hs
    simp -dsimp [tblV]
    refine (CallD.pure (ct_config_wrong10 _) (by simp) ?_).callV
    simp -dsimp
    refine brV.intro (fun h => ?_) (fun h => ?_)
    rotate_left
    · simp -dsimp
      refine exitV.cut (by simp) (by simp) (by simp) (by simp) ⟨?_, by simp⟩
      rw [← ha]
      simp [checks, firstBad, h]
    · simp -dsimp
      exact ⟨k - 1, by omega, Wk.sub [(23, vi (15 : Nat)), (22, vi 15), (21, .sl 2 1 0 15), (1, .p 0 0)] (by simp; decide) (Wk.cut 2 (by simp) (by simp) (by simp [tblV]) (by simp [tblV]) (by simp) (by simp) (Wk.now ⟨15, by omega, by rw [← ha]; simp [checks, firstBad, h], rfl⟩))⟩
end Go.Proofs.YtdnigflmcmammaaDoor
