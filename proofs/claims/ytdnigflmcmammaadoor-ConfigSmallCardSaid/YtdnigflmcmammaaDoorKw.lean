/- Contracts of functions of the seat's program, and what follows of them: Kw. Conditions are in each statement. -/
import Derived.Test.YtdnigflmcmammaaDoorKr
set_option linter.unusedSimpArgs false
set_option linter.unusedVariables false
namespace Go.Proofs.YtdnigflmcmammaaDoor
open Go Go.Proofs Go.Vm

def riseR (c : Cfg) : Int := w64 (c.sh + coastR c.ramp 2000 c.sh 0)
def vaneR (c : Cfg) : Int := w64 (c.creep + w64 (c.leak * w64 (w64 (c.star + 4) + tickR c.ramp 2000 c.sh 0)))
def nearNeed (c : Cfg) : Int := w64 (w64 (c.half + c.fh) + coastR c.ramp 2000 c.fh 0)
def wrongR (c : Cfg) : List UInt8 :=
  if levelsB c.lv = false then [108, 101, 118, 101, 108, 115] else
  if openB c = false then [111, 112, 101, 110] else
  if (decide (c.sl < 1) || decide (c.sh < c.sl) || decide (c.fl < c.sh) || decide (c.fh < c.fl) || decide (1000 < c.fh)) = true then [115, 112, 101, 101, 100, 115] else
  if withinB c.ramp 1 1000 = false then [114, 97, 109, 112] else
  if withinB c.leak 0 (w64 (c.sl - 1)) = false then [108, 101, 97, 107] else
  if withinB c.star 0 500 = false then [115, 116, 97, 114] else
  if withinB c.level (riseR c) 1000000 = false then [108, 101, 118, 101, 108] else
  if withinB c.creep c.level 1000000 = false then [99, 114, 101, 101, 112] else
  if (!withinB c.vane (vaneR c) 1000000 || decide (w64 (2 * c.vane) < c.fh)) = true then [118, 97, 110, 101] else
  if withinB c.half (w64 (c.vane + riseR c)) 1000000 = false then [104, 97, 108, 102] else
  if (!withinB c.near (nearNeed c) 1000000 || !apartB c) = true then [110, 101, 97, 114] else
  if (!withinB c.bounce 0 100 || !withinB c.look (w64 (c.bounce + 1)) 200) = true then [99, 111, 110, 116, 97, 99, 116, 115] else
  if withinB c.run 1 1000000 = false then [114, 117, 110] else
  if (!withinB c.starts 1 100 || !withinB c.within 1 1000000) = true then [115, 116, 97, 114, 116, 115] else
  if (!withinB c.patience 1 1000000 || !withinB c.tries 1 20) = true then [103, 97, 116, 101, 115] else
  []
theorem levelsB_len {lv : List Int} (h : levelsB lv = true) : 2 ≤ lv.length ∧ lv.length ≤ 16 := by
  simp [levelsB] at h
  exact ⟨h.1.1.1, h.1.1.2⟩
@[simp] theorem bytes_int : Tryd.prog.bytesOf 3 = 8 := by kernel_rfl
@[simp] theorem tslice_ints : tslice Tryd.prog 27 = true := by kernel_rfl
@[simp] theorem ints_fills (l : List Int) : (ints l).all V.fills = true := by
  rw [List.all_eq_true]
  intro v hv
  obtain ⟨x, _, rfl⟩ := List.mem_map.1 hv
  rfl
@[simp] theorem ints_cells (l : List Int) : ((ints l).map V.cells).flatten = ints l := by
  induction l with
  | nil => rfl
  | cons x l ih => simp [ints] at ih ⊢; exact ih
theorem ints_append (a b : List Int) : ints a ++ ints b = ints (a ++ b) := by simp [ints]
theorem ints_lit (l : List Int) : l.map vi = ints l := rfl
def Cfg.nums (c : Cfg) : List Int := [c.half, c.vane, c.level, c.creep, c.near, c.fl, c.fh, c.sl, c.sh, c.leak, c.ramp, c.bounce, c.look, c.star, c.run, c.starts, c.within, c.patience, c.tries]
def Cfg.all (c : Cfg) : List Int := c.lv ++ c.op ++ c.nums
def nearC (c : Cfg) : Bool := decide (c.lv.length ≤ 20) && decide (c.op.length ≤ 20) && allB (fun k => near31 (at0 c.all k)) c.all.length
end Go.Proofs.YtdnigflmcmammaaDoor
