/- Contracts of functions of the seat's program, and what follows of them: Ka. Conditions are in each statement. -/
import Derived.Test.YtnoigkdecjeilaaDoorV3
import Derived.Test.YtnoigkdecjeilaaDoorTy
set_option linter.unusedSimpArgs false
set_option linter.unusedVariables false
namespace Go.Proofs.YtnoigkdecjeilaaDoor
open Go Go.Proofs Go.Vm

def G0 : Addr → Option Value := fun a => if a = ⟨0, 0, none⟩ then some (.iface 89 (.agg #[.pointer (some ⟨4, 27, none⟩)])) else none
theorem hm : Tryd.prog.follows .mixedOrders = true := by kernel_rfl

abbrev vi (x : Int) : V := .c (.int .i64 x)
abbrev vb (x : Bool) : V := .c (.bool x)
abbrev vs (l : List UInt8) : V := .c (.string ⟨⟨l⟩⟩)
def ints (l : List Int) : List V := l.map vi
abbrev w64 (x : Int) : Int := IntKind.wrap .i64 x

def top : Nat := 9223372036854775808
theorem wq {q n : Nat} (h : q < n) (hn : n < top) : IntKind.wrap .i64 ((q : Int) + 1) = ((q + 1 : Nat) : Int) := by
  unfold top at hn
  simp only [IntKind.wrap, IntKind.signed, IntKind.bits]
  simp; omega
theorem w64_of {x : Int} (h1 : -9223372036854775808 ≤ x) (h2 : x ≤ 9223372036854775807) : IntKind.wrap .i64 x = x := by
  simp only [IntKind.wrap, IntKind.signed, IntKind.bits]
  simp; omega

@[simp] theorem ints_length (l : List Int) : (ints l).length = l.length := by simp [ints]
@[simp] theorem okL_ints (p : Nat → Prop) (l : List Int) : okL p (ints l) := by
  induction l with
  | nil => trivial
  | cons x l ih => exact ⟨trivial, ih⟩
@[simp] theorem renL_ints (ρ : Nat → Nat) (l : List Int) : renL ρ (ints l) = ints l := by
  induction l with
  | nil => rfl
  | cons x l ih => simp [ints, renL] at ih ⊢; exact ih
/-- An element, 0 beyond. -/
def at0 (l : List Int) (k : Nat) : Int := l.getD k 0
theorem ints_at {l : List Int} {k : Nat} (h : k < l.length) : (ints l)[k]? = some (vi (at0 l k)) := by simp [ints, at0, List.getD, h]
@[simp] theorem ints_get (l : List Int) (k : Nat) (h : k < (ints l).length) : (ints l)[k] = vi (at0 l k) := by
  have : k < l.length := by simpa using h
  simp [ints, at0, List.getD, this]

theorem ordI {l : List RO} {tr : List Tr} {Q : Prop} (h : ordOk l tr = true) (q : Q) : ordOk l tr = true ∧ Q := ⟨h, q⟩

@[simp] theorem repV_one (v : V) : ∀ n : Nat, repV n [v] = List.replicate n v
  | 0 => rfl
  | n + 1 => by simp [repV, repV_one v n, List.replicate_succ]
@[simp] theorem cells_int (k : IntKind) (x : Int) : (Value.int k x).cells.size = 1 := rfl
@[simp] theorem cells_bool (x : Bool) : (Value.bool x).cells.size = 1 := rfl

/-- It holds of all below. -/
def allB (p : Nat → Bool) : Nat → Bool
  | 0 => true
  | n + 1 => allB p n && p n
theorem allB_iff {p : Nat → Bool} : ∀ {n : Nat}, allB p n = true ↔ ∀ k, k < n → p k = true
  | 0 => by simp [allB]
  | n + 1 => by
    simp only [allB, Bool.and_eq_true, allB_iff (n := n)]
    constructor
    · rintro ⟨h, k⟩ j hj
      rcases Nat.lt_or_ge j n with h' | h'
      · exact h j h'
      · have : j = n := by omega
        subst this; exact k
    · intro h; exact ⟨fun j hj => h j (by omega), h n (by omega)⟩
theorem allB_false {p : Nat → Bool} {q n : Nat} (hq : q < n) (h : p q = false) : allB p n = false := by
  cases hb : allB p n with
  | false => rfl
  | true => rw [allB_iff.1 hb q hq] at h; cases h
theorem allB_succ {p : Nat → Bool} {n : Nat} (h : allB p n = true) (k : p n = true) : allB p (n + 1) = true := by simp [allB, h, k]

/-- A lift. -/
structure Cfg where
  lv : List Int
  op : List Int
  half : Int
  vane : Int
  level : Int
  creep : Int
  near : Int
  fl : Int
  fh : Int
  sl : Int
  sh : Int
  leak : Int
  ramp : Int
  bounce : Int
  look : Int
  star : Int
  run : Int
  starts : Int
  within : Int
  patience : Int
  tries : Int

def Cfg.cells (c : Cfg) : List V := [.ro 1 (ints c.lv), .ro 1 (ints c.op), vi c.half, vi c.vane, vi c.level, vi c.creep, vi c.near, vi c.fl, vi c.fh, vi c.sl, vi c.sh, vi c.leak, vi c.ramp, vi c.bounce, vi c.look, vi c.star, vi c.run, vi c.starts, vi c.within, vi c.patience, vi c.tries]
abbrev Cfg.enc (c : Cfg) : V := .agg c.cells
@[simp] theorem okL_cells (p : Nat → Prop) (c : Cfg) : okL p c.cells := by simp [Cfg.cells]
@[simp] theorem renL_cells (ρ : Nat → Nat) (c : Cfg) : renL ρ c.cells = c.cells := by simp [Cfg.cells]
@[simp] theorem cells_length (c : Cfg) : c.cells.length = 21 := rfl
@[simp] theorem cells_take (c : Cfg) : c.cells.take 21 = c.cells := rfl
@[simp] theorem cells_0 (c : Cfg) : c.cells[0]? = some (.ro 1 (ints c.lv)) := rfl
@[simp] theorem cells_1 (c : Cfg) : c.cells[1]? = some (.ro 1 (ints c.op)) := rfl
@[simp] theorem cells_2 (c : Cfg) : c.cells[2]? = some (vi c.half) := rfl
@[simp] theorem cells_3 (c : Cfg) : c.cells[3]? = some (vi c.vane) := rfl
@[simp] theorem cells_4 (c : Cfg) : c.cells[4]? = some (vi c.level) := rfl
@[simp] theorem cells_5 (c : Cfg) : c.cells[5]? = some (vi c.creep) := rfl
@[simp] theorem cells_6 (c : Cfg) : c.cells[6]? = some (vi c.near) := rfl
@[simp] theorem cells_7 (c : Cfg) : c.cells[7]? = some (vi c.fl) := rfl
@[simp] theorem cells_8 (c : Cfg) : c.cells[8]? = some (vi c.fh) := rfl
@[simp] theorem cells_9 (c : Cfg) : c.cells[9]? = some (vi c.sl) := rfl
@[simp] theorem cells_10 (c : Cfg) : c.cells[10]? = some (vi c.sh) := rfl
@[simp] theorem cells_11 (c : Cfg) : c.cells[11]? = some (vi c.leak) := rfl
@[simp] theorem cells_12 (c : Cfg) : c.cells[12]? = some (vi c.ramp) := rfl
@[simp] theorem cells_13 (c : Cfg) : c.cells[13]? = some (vi c.bounce) := rfl
@[simp] theorem cells_14 (c : Cfg) : c.cells[14]? = some (vi c.look) := rfl
@[simp] theorem cells_15 (c : Cfg) : c.cells[15]? = some (vi c.star) := rfl
@[simp] theorem cells_16 (c : Cfg) : c.cells[16]? = some (vi c.run) := rfl
@[simp] theorem cells_17 (c : Cfg) : c.cells[17]? = some (vi c.starts) := rfl
@[simp] theorem cells_18 (c : Cfg) : c.cells[18]? = some (vi c.within) := rfl
@[simp] theorem cells_19 (c : Cfg) : c.cells[19]? = some (vi c.patience) := rfl
@[simp] theorem cells_20 (c : Cfg) : c.cells[20]? = some (vi c.tries) := rfl

theorem putV_go : ∀ (vs : List V) (pre cs : List V), vs.length ≤ cs.length → putV (pre ++ cs) pre.length vs = pre ++ vs ++ cs.drop vs.length
  | [], pre, cs, _ => by simp [putV]
  | v :: vs, pre, [], h => by simp at h
  | v :: vs, pre, c :: cs, h => by
    have := putV_go vs (pre ++ [v]) cs (by simpa using h)
    simp [putV] at this ⊢
    simpa using this
theorem putV_all {cs vs : List V} (h : vs.length = cs.length) : putV cs 0 vs = vs := by
  have := putV_go vs [] cs (by omega)
  simpa [h] using this
@[simp] theorem putV_cfg (a0 a1 a2 a3 a4 a5 a6 a7 a8 a9 a10 a11 a12 a13 a14 a15 a16 a17 a18 a19 a20 : V) (c : Cfg) : putV [a0, a1, a2, a3, a4, a5, a6, a7, a8, a9, a10, a11, a12, a13, a14, a15, a16, a17, a18, a19, a20] 0 c.cells = c.cells := putV_all rfl

@[simp] theorem isBool_bool : isBool Tryd.prog 4 = true := by kernel_rfl
attribute [simp] eqVs eqv
@[simp] theorem fitsL_ints (i n : Nat) (g : Bool) (l : List Int) : fitsL i n g (ints l) := by
  induction l with
  | nil => trivial
  | cons x l ih => exact ⟨trivial, ih⟩
@[simp] theorem frzL_ints (i : Nat) (cs : List V) (g : Bool) (l : List Int) : frzL i cs g (ints l) = ints l := by
  induction l with
  | nil => rfl
  | cons x l ih => simp [ints, frzL] at ih ⊢; exact ih
@[simp] theorem take_ints (l : List Int) : (ints l).take l.length = ints l := List.take_of_length_le (by simp)
theorem beq_f {a b : Int} (h : ¬ a = b) : (a == b) = false := by simpa using h
theorem bne_t {a b : Int} (h : ¬ a = b) : (a != b) = true := by simpa using h
theorem beq_t {a b : Int} (h : a = b) : (a == b) = true := by simpa using h
theorem bne_f {a b : Int} (h : a = b) : (a != b) = false := by simpa using h
theorem take_succ_at {l : List Int} {q : Nat} (h : q < l.length) : l.take (q + 1) = l.take q ++ [at0 l q] := by
  rw [List.take_add_one]
  simp [at0, List.getD, h]
theorem at0_mem {l : List Int} {q : Nat} (h : q < l.length) : at0 l q ∈ l := by
  simp only [at0, List.getD, List.getElem?_eq_getElem h, Option.getD_some]; exact List.getElem_mem h
theorem ints_app (a b : List Int) : ints a ++ ints b = ints (a ++ b) := by simp [ints]
theorem ints_snoc (a : List Int) (x : Int) : ints a ++ [vi x] = ints (a ++ [x]) := by simp [ints]
theorem rows_ints' : ∀ (l : List Int), rows false 1 l.length (ints l) = ints l
  | [] => rfl
  | x :: l => by
    have := rows_ints' l
    simp [ints, rows] at this ⊢; exact this

end Go.Proofs.YtnoigkdecjeilaaDoor
