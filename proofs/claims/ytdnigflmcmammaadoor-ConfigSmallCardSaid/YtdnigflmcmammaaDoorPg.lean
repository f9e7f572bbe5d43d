/- Contracts of functions of the seat's program, and what follows of them: Pg. Conditions are in each statement. -/
import Derived.Test.YtdnigflmcmammaaDoorPf
set_option linter.unusedSimpArgs false
set_option linter.unusedVariables false
namespace Go.Proofs.YtdnigflmcmammaaDoor
open Go Go.Proofs Go.Vm

/-- All that is looked at is right. -/
structure Fine (c : Cfg) : Prop where
  a1 : levels1 c.lv = true
  a2 : openB c = true
  a3 : speedsP c = true
  a4 : rampP c = true
  a5 : leakP c = true
  a6 : starP c = true
  a7 : levelP c = true
  a8 : creepP c = true
  a9 : vaneP c = true
  a10 : halfP c = true
  a11 : nearP c = true
  a12 : contactsP c = true
  a13 : runP c = true
  a14 : startsP c = true
  a15 : gatesP c = true
theorem firstBad_nil : ∀ {l : List (List UInt8 × Bool)}, (∀ x ∈ l, x.1 ≠ []) → (firstBad l = [] ↔ ∀ x ∈ l, x.2 = true)
  | [], _ => by simp [firstBad]
  | (n, b) :: l, h => by
    have ih := firstBad_nil (l := l) fun x hx => h x (by simp [hx])
    have hn : n ≠ [] := h (n, b) (by simp)
    cases b <;> simp [firstBad, hn, ih]
theorem fine_iff {c : Cfg} : wrongP c = [] ↔ Fine c := by
  unfold wrongP
  rw [firstBad_nil (by simp [checks])]
  constructor
  · intro h
    simp [checks] at h
    obtain ⟨h1, h2, h3, h4, h5, h6, h7, h8, h9, h10, h11, h12, h13, h14, h15⟩ := h
    exact ⟨h1, h2, h3, h4, h5, h6, h7, h8, h9, h10, h11, h12, h13, h14, h15⟩
  · rintro ⟨h1, h2, h3, h4, h5, h6, h7, h8, h9, h10, h11, h12, h13, h14, h15⟩
    simp [checks, h1, h2, h3, h4, h5, h6, h7, h8, h9, h10, h11, h12, h13, h14, h15]

/-- Speeds, and how they change. -/
structure Sp (c : Cfg) : Prop where
  sl : 1 ≤ c.sl
  sh : c.sl ≤ c.sh
  fl : c.sh ≤ c.fl
  fh : c.fl ≤ c.fh
  fh2 : c.fh ≤ 1000
  r1 : 1 ≤ c.ramp
  r2 : c.ramp ≤ 1000
theorem sp_of {c : Cfg} (h3 : speedsP c = true) (h4 : rampP c = true) : Sp c := by
  simp [speedsP] at h3
  simp [rampP, withinB] at h4
  obtain ⟨⟨⟨⟨s1, s2⟩, s3⟩, s4⟩, s5⟩ := h3
  exact ⟨s1, s2, s3, s4, s5, h4.1, h4.2⟩
theorem rise_eq {c : Cfg} (s : Sp c) : riseP c = riseR c := by
  obtain ⟨s1, s2, s3, s4, s5, r1, r2⟩ := s
  unfold riseP riseR
  rw [coast_eq r1 r2 (by omega) (by omega)]
theorem start_eq {c : Cfg} (s : Sp c) : startP c = tickR c.ramp 2000 c.sh 0 := by
  obtain ⟨s1, s2, s3, s4, s5, r1, r2⟩ := s
  unfold startP
  rw [ticks_eq r1 (by omega) (by omega), tickR_eq r1 r2 2000 _ _ (by omega) (by omega) (by omega)]; omega
theorem start_tk {c : Cfg} (s : Sp c) : startP c = Tk c.ramp c.sh := by
  obtain ⟨s1, s2, s3, s4, s5, r1, r2⟩ := s
  unfold startP
  rw [ticks_eq r1 (by omega) (by omega)]
theorem settle_tk {c : Cfg} (s : Sp c) : settleP c = Tk c.ramp c.fh + 1 := by
  obtain ⟨s1, s2, s3, s4, s5, r1, r2⟩ := s
  have := tk_le r1 (show 0 ≤ c.fh by omega)
  have := tk_pos r1 (show 0 < c.fh by omega)
  unfold settleP
  rw [ticks_eq r1 (by omega) (by omega), w64_id (by omega) (by omega)]
theorem coast_bd {c : Cfg} (s : Sp c) {x : Int} (h0 : 0 ≤ x) (h1 : x ≤ 1000) : 0 ≤ coastR c.ramp 2000 x 0 ∧ coastR c.ramp 2000 x 0 ≤ 2000000 := by
  obtain ⟨s1, s2, s3, s4, s5, r1, r2⟩ := s
  have := coastR_bd r1 r2 2000 x 0 h1 (by omega) (by omega)
  omega
theorem fine_wrongR {c : Cfg} (h : Fine c) (hn : c.half ≤ 2147483648 ∧ -2147483648 ≤ c.half) : wrongR c = [] := by
  have s := sp_of h.a3 h.a4
  have e1 := rise_eq s
  have e2 := start_eq s
  have e3 : w64 (c.half + brakeP c) = nearNeed c := by
    obtain ⟨s1, s2, s3, s4, s5, r1, r2⟩ := id s
    obtain ⟨d1, d2⟩ := coast_bd s (x := c.fh) (by omega) (by omega)
    unfold brakeP nearNeed
    rw [coast_eq r1 r2 (by omega) (by omega), w64_id (x := c.fh + _) (by omega) (by omega), w64_id (x := c.half + c.fh) (by omega) (by omega), Int.add_assoc]
  have a1 := h.a1; have a2 := h.a2; have a3 := h.a3; have a4 := h.a4; have a5 := h.a5; have a6 := h.a6; have a7 := h.a7; have a8 := h.a8; have a9 := h.a9; have a10 := h.a10; have a11 := h.a11; have a12 := h.a12; have a13 := h.a13; have a14 := h.a14; have a15 := h.a15
  rw [levels1_eq] at a1
  simp only [rampP, leakP, starP, levelP, creepP, vaneP, halfP, nearP, contactsP, runP, startsP, gatesP, e1, e2, e3, Bool.and_eq_true, decide_eq_true_eq] at a4 a5 a6 a7 a8 a9 a10 a11 a12 a13 a14 a15
  have b3 : (decide (c.sl < 1) || decide (c.sh < c.sl) || decide (c.fl < c.sh) || decide (c.fh < c.fl) || decide (1000 < c.fh)) = false := by
    obtain ⟨s1, s2, s3, s4, s5, r1, r2⟩ := id s
    simp; omega
  have b9 : decide (w64 (2 * c.vane) < c.fh) = false := by have := a9.2; simp; omega
  have a9' : withinB c.vane (vaneR c) 1000000 = true := a9.1
  simp only [wrongR, a1, a2, b3, a4, a5, a6, a7, a8, a9', b9, a10, a11.1, a11.2, a12.1, a12.2, a13, a14.1, a14.2, a15.1, a15.2]
  simp
theorem fine_good {c : Cfg} (h : Fine c) (hn : c.half ≤ 2147483648 ∧ -2147483648 ≤ c.half) : Good c := good_of (fine_wrongR h hn)
end Go.Proofs.YtdnigflmcmammaaDoor
