/-
  The judgements over the small separation logic of SlCore, and their rules: operations (TL), code (TC), functions (FnE). Holds under no condition.
-/
import Derived.Test.YtebllgcaenpdgaaSlCore
set_option linter.all false
namespace Go.Sl
open Go

/-! ### facts on types and functions, found by instances -/
class IsAgg (P : Program) (t : TypeId) (b : outParam Bool) : Prop where
  run : ∀ w, (isAgg t).run P w = .ok b w
class Siz (P : Program) (t : TypeId) (n : outParam Nat) : Prop where
  run : ∀ w, (sizeOf t).run P w = .ok n w
class Zero (P : Program) (t : TypeId) (v : outParam Value) : Prop where
  run : ∀ w, (zeroValue t).run P w = .ok v w
class Und (P : Program) (t : TypeId) (d : outParam TypeDesc) : Prop where
  run : ∀ w, (underlying t).run P w = .ok d w
class Fld (P : Program) (s : TypeId) (i : Nat) (off : outParam Nat) : Prop where
  run : ∀ b o w, (Instr.fieldAt s (.pointer (some ⟨b, o, none⟩)) i).run P w = .ok (.pointer (some ⟨b, o + off, none⟩)) w
class Fun (P : Program) (f : FuncId) : Prop where
  run : ∀ args w, (callFunc f args).run P w = .ok (.enter f args) w

theorem Addr.add_plain (b o n : Nat) : (Addr.mk b o none).add n = ⟨b, o + n, none⟩ := by
  unfold Addr.add; split
  · rename_i h; subst h; rfl
  · rfl

theorem Fld.mk' {P : Program} {s : TypeId} {i : Nat} {off sz : Nat} {fs : Array Field} {f : Field} (hu : ∀ w, (underlying s).run P w = .ok (.struct fs) w) (hf : fs[i]? = some f) (ho : f.offset = off)
    (hs : ∀ w, (sizeOf f.type).run P w = .ok sz w) (hz : sz ≠ 0) : Fld P s i off := ⟨fun b o w => by
  simp [Instr.fieldAt, hu, hf, Instr.sureAddr, fieldPlace, hs, hz, Addr.add_plain, ho]⟩

/-! ### what an operation yields -/
def Agrees (l : List (Nat × Value)) (ρ : Operand → Value) : Prop := ∀ x v, ev l x = some v → ρ x = v

/-- A value, whatever the world is. -/
def Pu (P : Program) (l : List (Nat × Value)) (op : Op) (v : Value) : Prop :=
  ∀ ρ, Agrees l ρ → ∀ (o : Oper), o.op = op → ∀ w, (execOp ρ o).run P w = .ok (.value v) w

/-- A value, where memory holds this. -/
def Rd (P : Program) (l : List (Nat × Value)) (hs : HS) (op : Op) (v : Value) : Prop :=
  ∀ ρ, Agrees l ρ → ∀ (o : Oper), o.op = op → ∀ w, Held hs w → (execOp ρ o).run P w = .ok (.value v) w

def evs (l : List (Nat × Value)) : List Operand → Option (List Value)
  | [] => some []
  | x :: r => match ev l x, evs l r with
    | some v, some vs => some (v :: vs)
    | _, _ => none

theorem Agrees.map {l : List (Nat × Value)} {ρ : Operand → Value} (h : Agrees l ρ) : ∀ {xs : List Operand} {vs : List Value}, evs l xs = some vs → xs.map ρ = vs
  | [], vs, e => by simp [evs] at e; simp [e]
  | x :: r, vs, e => by
    unfold evs at e
    cases hx : ev l x with
    | none => simp [hx] at e
    | some v =>
      cases hr : evs l r with
      | none => simp [hx, hr] at e
      | some us =>
        simp only [hx, hr, Option.some.injEq] at e
        rw [← e, List.map_cons, h x v hx, h.map hr]

section
variable {P : Program} {l : List (Nat × Value)} {hs : HS}

theorem Pu.rd {op : Op} {v : Value} (h : Pu P l op v) : Rd P l hs op v := fun ρ hρ o ho w _ => h ρ hρ o ho w

theorem Pu.move {x : Operand} {v : Value} (h : ev l x = some v) : Pu P l (.move x) v := fun ρ hρ o ho w => by
  simp [execOp, ho, hρ x v h]
theorem Pu.assign {x : Operand} {v : Value} (h : ev l x = some v) : Pu P l (.assign x) v := fun ρ hρ o ho w => by
  simp [execOp, ho, hρ x v h]
theorem Pu.pick {c x y : Operand} {b : Bool} {v u : Value} (hc : ev l c = some (.bool b)) (hx : ev l x = some v) (hy : ev l y = some u) : Pu P l (.pick c x y) (if b then v else u) := fun ρ hρ o ho w => by
  simp [execOp, ho, hρ c _ hc, hρ x _ hx, hρ y _ hy, asBool]
theorem Pu.pick_t {c x y : Operand} {v : Value} (hc : ev l c = some (.bool true)) (hx : ev l x = some v) : Pu P l (.pick c x y) v := fun ρ hρ o ho w => by
  simp [execOp, ho, hρ c _ hc, hρ x _ hx, asBool]
theorem Pu.pick_f {c x y : Operand} {v : Value} (hc : ev l c = some (.bool false)) (hy : ev l y = some v) : Pu P l (.pick c x y) v := fun ρ hρ o ho w => by
  simp [execOp, ho, hρ c _ hc, hρ y _ hy, asBool]

/-- The operators on two integers of one kind that cannot panic. -/
def intOp (op : BinOp) (k : IntKind) (x y : Int) : Option Value :=
  match op with
  | .add => some (.int k (k.wrap (x + y)))
  | .sub => some (.int k (k.wrap (x - y)))
  | .mul => some (.int k (k.wrap (x * y)))
  | .and => some (.int k (k.wrap (BitVec.ofInt k.bits x &&& BitVec.ofInt k.bits y).toNat))
  | .or => some (.int k (k.wrap (BitVec.ofInt k.bits x ||| BitVec.ofInt k.bits y).toNat))
  | .xor => some (.int k (k.wrap (BitVec.ofInt k.bits x ^^^ BitVec.ofInt k.bits y).toNat))
  | .andNot => some (.int k (k.wrap (BitVec.ofInt k.bits x &&& ~~~ BitVec.ofInt k.bits y).toNat))
  | .eql => some (.bool (decide (x = y)))
  | .neq => some (.bool (decide (¬ x = y)))
  | .lss => some (.bool (decide (x < y)))
  | .leq => some (.bool (decide (x ≤ y)))
  | .gtr => some (.bool (decide (x > y)))
  | .geq => some (.bool (decide (x ≥ y)))
  | _ => none

theorem Pu.int {op : BinOp} {t u : TypeId} {x y : Operand} {k : IntKind} {a b : Int} {v : Value} (hx : ev l x = some (.int k a)) (hy : ev l y = some (.int k b)) (hv : intOp op k a b = some v) :
    Pu P l (.binOp op t x y u) v := fun ρ hρ o ho w => by
  have hx' := hρ x _ hx
  have hy' := hρ y _ hy
  cases op <;> simp [intOp] at hv <;> subst hv <;>
    simp [execOp, ho, hx', hy', eqGuard, binOp, Op.intArith, Op.intBits, Op.intCmp, bne, BEq.beq]

theorem Pu.shl {t u : TypeId} {x y : Operand} {k ky : IntKind} {a b : Int} (hx : ev l x = some (.int k a)) (hy : ev l y = some (.int ky b)) (hb : ¬ b < 0) :
    Pu P l (.binOp .shl t x y u) (.int k (k.wrap (a * 2 ^ (min b.toNat k.bits)))) := fun ρ hρ o ho w => by
  simp [execOp, ho, hρ x _ hx, hρ y _ hy, eqGuard, binOp, Op.shift, hb]
theorem Pu.shr {t u : TypeId} {x y : Operand} {k ky : IntKind} {a b : Int} (hx : ev l x = some (.int k a)) (hy : ev l y = some (.int ky b)) (hb : ¬ b < 0) :
    Pu P l (.binOp .shr t x y u) (.int k (a.fdiv (2 ^ (min b.toNat k.bits)))) := fun ρ hρ o ho w => by
  simp [execOp, ho, hρ x _ hx, hρ y _ hy, eqGuard, binOp, Op.shift, hb]
theorem Pu.quo {t u : TypeId} {x y : Operand} {k : IntKind} {a b : Int} (hx : ev l x = some (.int k a)) (hy : ev l y = some (.int k b)) (hb : ¬ b = 0) :
    Pu P l (.binOp .quo t x y u) (.int k (k.wrap (a.tdiv b))) := fun ρ hρ o ho w => by
  simp [execOp, ho, hρ x _ hx, hρ y _ hy, eqGuard, binOp, Op.intDiv, hb]
theorem Pu.rem {t u : TypeId} {x y : Operand} {k : IntKind} {a b : Int} (hx : ev l x = some (.int k a)) (hy : ev l y = some (.int k b)) (hb : ¬ b = 0) :
    Pu P l (.binOp .rem t x y u) (.int k (a.tmod b)) := fun ρ hρ o ho w => by
  simp [execOp, ho, hρ x _ hx, hρ y _ hy, eqGuard, binOp, Op.intDiv, hb]

theorem run_equal_bool {t : TypeId} [ut : Und P t .bool] (a b : Bool) (w : World) (d : Nat) : (Op.equalIn (d + 1) t (.bool a) (.bool b)).run P w = .ok (a == b) w := by
  simp [Op.equalIn, ut.run]
theorem run_eql_bool {t : TypeId} [ut : Und P t .bool] (a b : Bool) (w : World) : (binOp .eql t (.bool a) (.bool b)).run P w = .ok (.bool (a == b)) w := by
  simp only [binOp]
  simp [Op.equal, Op.maxDepth, run_equal_bool (P := P) (t := t) a b w 9999]
theorem run_neq_bool {t : TypeId} [ut : Und P t .bool] (a b : Bool) (w : World) : (binOp .neq t (.bool a) (.bool b)).run P w = .ok (.bool (a != b)) w := by
  simp only [binOp]
  simp [Op.equal, Op.maxDepth, run_equal_bool (P := P) (t := t) a b w 9999, bne]
theorem Pu.beq {t u : TypeId} {x y : Operand} {a b : Bool} [ut : Und P t .bool] (hx : ev l x = some (.bool a)) (hy : ev l y = some (.bool b)) :
    Pu P l (.binOp .eql t x y u) (.bool (a == b)) := fun ρ hρ o ho w => by
  simp [execOp, ho, hρ x _ hx, hρ y _ hy, eqGuard, run_eql_bool]
theorem Pu.bne {t u : TypeId} {x y : Operand} {a b : Bool} [ut : Und P t .bool] (hx : ev l x = some (.bool a)) (hy : ev l y = some (.bool b)) :
    Pu P l (.binOp .neq t x y u) (.bool (a != b)) := fun ρ hρ o ho w => by
  simp [execOp, ho, hρ x _ hx, hρ y _ hy, eqGuard, run_neq_bool]
theorem Pu.not {t : TypeId} {x : Operand} {a : Bool} (hx : ev l x = some (.bool a)) : Pu P l (.unOp .not t x) (.bool (!a)) := fun ρ hρ o ho w => by
  simp [execOp, ho, hρ x _ hx, Op.unary]
theorem Pu.neg {t : TypeId} {x : Operand} {k : IntKind} {a : Int} (hx : ev l x = some (.int k a)) : Pu P l (.unOp .neg t x) (.int k (k.wrap (0 - a))) := fun ρ hρ o ho w => by
  simp [execOp, ho, hρ x _ hx, Op.unary, Op.intArith]

theorem Pu.conv {src dst : TypeId} {d : TypeDesc} {x : Operand} {k j : IntKind} {a : Int} [us : Und P src d] [ud : Und P dst (.int k)] (hx : ev l x = some (.int j a)) :
    Pu P l (.convert src dst x) (.int k (k.wrap a)) := fun ρ hρ o ho w => by
  simp [execOp, ho, hρ x _ hx, convert, us.run, ud.run, Conv.intToInt]

def notIface : TypeDesc → Bool
  | .interface _ => false
  | _ => true
theorem Pu.iface {t : TypeId} {d : TypeDesc} {x : Operand} {v : Value} [ut : Und P t d] (hd : notIface d = true) (hx : ev l x = some v) : Pu P l (.makeInterface t x) (.iface t v) := fun ρ hρ o ho w => by
  cases d <;> simp [notIface] at hd <;> simp [execOp, ho, hρ x _ hx, Instr.makeInterface, ut.run]

theorem Pu.func {fn : Fn} {xs ys : List Operand} {us vs : List Value} (hx : evs l xs = some us) (hy : evs l ys = some vs) :
    Pu P l (.makeFunc fn xs.toArray ys.toArray) (.func fn us.toArray vs.toArray) := fun ρ hρ o ho w => by
  simp [execOp, ho, Instr.makeFunc, hρ.map hx, hρ.map hy]

theorem Pu.fieldAddr {s : TypeId} {i b o off m : Nat} {x : Operand} [f : Fld P s i off] (hx : ev l x = some (.pointer (some ⟨b, o, none⟩))) (hm : o + off = m) :
    Pu P l (.fieldAddr s x i) (.pointer (some ⟨b, m, none⟩)) := fun ρ hρ o' ho w => by
  subst hm
  simp [execOp, ho, hρ x _ hx, f.run]

theorem Pu.nilCheck {a : Addr} {x : Operand} (hx : ev l x = some (.pointer (some a))) : Pu P l (.nilCheck x) (.pointer (some a)) := fun ρ hρ o' ho w => by
  simp [execOp, ho, hρ x _ hx]
theorem Pu.nilCheckF {f : FuncId} {us vs : Array Value} {x : Operand} (hx : ev l x = some (.func (.func f) us vs)) : Pu P l (.nilCheck x) (.func (.func f) us vs) := fun ρ hρ o' ho w => by
  simp [execOp, ho, hρ x _ hx]

theorem Pu.indexAddr {t e : TypeId} {x y : Operand} {b o len cap sz m : Nat} {k : IntKind} {i : Int} [ut : Und P t (.slice e)] [se : Siz P e sz]
    (hx : ev l x = some (.slice (some ⟨b, o, none⟩) len cap)) (hy : ev l y = some (.int k i)) (h0 : 0 ≤ i) (h1 : i < len) (hm : o + i.toNat * sz = m) :
    Pu P l (.indexAddr t x y) (.pointer (some ⟨b, m, none⟩)) := fun ρ hρ o' ho w => by
  subst hm
  simp [execOp, ho, hρ x _ hx, hρ y _ hy, Instr.indexAt, asIntOf, ut.run, h0, h1, se.run, Addr.add_plain]
theorem Pu.indexAddrA {t e : TypeId} {x y : Operand} {b o len sz m : Nat} {k : IntKind} {i : Int} [ut : Und P t (.array len e)] [se : Siz P e sz]
    (hx : ev l x = some (.pointer (some ⟨b, o, none⟩))) (hy : ev l y = some (.int k i)) (h0 : 0 ≤ i) (h1 : i < len) (hm : o + i.toNat * sz = m) :
    Pu P l (.indexAddr t x y) (.pointer (some ⟨b, m, none⟩)) := fun ρ hρ o' ho w => by
  subst hm
  simp [execOp, ho, hρ x _ hx, hρ y _ hy, Instr.indexAt, asIntOf, ut.run, h0, h1, se.run, Addr.add_plain, Instr.sureAddr]

theorem Pu.lenSlice {t e : TypeId} {x : Operand} {a : Option Addr} {len cap : Nat} {ts : Array TypeId} [ut : Und P t (.slice e)] (hx : ev l x = some (.slice a len cap)) (ht : ts = #[t]) :
    Pu P l (.call { callee := .builtin .len, args := #[x], argTypes := ts }) (.int .i64 len) := fun ρ hρ o' ho w => by
  subst ht
  simp [execOp, ho, hρ x _ hx, resolve, invoke, builtin, Builtin.len_, ut.run, goInt]
theorem Pu.lenString {t : TypeId} {x : Operand} {s : ByteArray} {ts : Array TypeId} [ut : Und P t .string] (hx : ev l x = some (.string s)) (ht : ts = #[t]) :
    Pu P l (.call { callee := .builtin .len, args := #[x], argTypes := ts }) (.int .i64 s.size) := fun ρ hρ o' ho w => by
  subst ht
  simp [execOp, ho, hρ x _ hx, resolve, invoke, builtin, Builtin.len_, ut.run, goInt]

def nth : List Value → Nat → Option Value
  | [], _ => none
  | v :: _, 0 => some v
  | _ :: r, n + 1 => nth r n
theorem nth_eq : ∀ (l : List Value) (n : Nat), nth l n = l[n]?
  | [], _ => by simp [nth]
  | _ :: _, 0 => by simp [nth]
  | _ :: r, n + 1 => by simp [nth, nth_eq r n]

theorem Pu.extract {x : Operand} {vs : List Value} {i : Nat} {v : Value} (hx : ev l x = some (.tuple vs.toArray)) (hv : nth vs i = some v) : Pu P l (.extract x i) v := fun ρ hρ o' ho w => by
  have : vs[i]? = some v := by rw [← nth_eq]; exact hv
  simp [execOp, ho, hρ x _ hx, Instr.extract, this]

theorem run_loadCells {w : World} {b : Nat} {c : List Value} {t : TypeId} {z : Nat × Nat} (h : w.heap[b]? = some (.cells c.toArray t z)) : ∀ (n off i : Nat) (acc : Array Value), off + i + n ≤ c.length →
    (loadCellsFrom ⟨b, off, none⟩ i n acc).run P w = .ok (acc ++ ((c.drop (off + i)).take n).toArray) w
  | 0, off, i, acc, _ => by simp [loadCellsFrom]
  | n + 1, off, i, acc, hl => by
    have hi : off + i < c.length := by omega
    have hc : w.cell? ⟨b, off + i, none⟩ = some c[off + i] := by rw [cell_of h]; simp [hi]
    simp only [loadCellsFrom, Sem.run_bind, run_load, Addr.add_plain, hc, Result.andThen_ok]
    rw [run_loadCells h n off (i + 1) _ (by omega)]
    have : c.drop (off + i) = c[off + i] :: c.drop (off + (i + 1)) := by rw [List.drop_eq_getElem_cons hi]; rfl
    rw [this]
    simp

theorem Rd.load1 {t : TypeId} {x : Operand} {b off : Nat} {c : List Value} {e : TypeId} {z : Nat × Nat} {r : Bool} {v : Value} [ia : IsAgg P t false]
    (hx : ev l x = some (.pointer (some ⟨b, off, none⟩))) (hh : Has hs b (.cells c.toArray e z) r) (hv : nth c off = some v) : Rd P l hs (.load t x) v := fun ρ hρ o' ho w hw => by
  have hb := hw.at_ _ hh.mem
  have hc : w.cell? ⟨b, off, none⟩ = some v := by rw [cell_of hb]; simpa [nth_eq] using hv
  simp [execOp, ho, hρ x _ hx, Instr.loadAt, Instr.sureAddr, loadVar, ia.run, hc]

def cut (c : List Value) (off n : Nat) : List Value := (c.drop off).take n

/-! lists of cells in normal form, found by instances -/
class SetN (c : List Value) (off : Nat) (v : Value) (c' : outParam (List Value)) : Prop where
  eq : c.set off v = c'
instance (priority := 1100) SetN.zero (x : Value) (l : List Value) (v : Value) : SetN (x :: l) 0 v (v :: l) := ⟨rfl⟩
instance (priority := 1000) SetN.succ (x : Value) (l l' : List Value) (n : Nat) (v : Value) [h : SetN l n v l'] : SetN (x :: l) (n + 1) v (x :: l') := ⟨by rw [List.set_cons_succ, h.eq]⟩
instance (priority := 10) SetN.other (c : List Value) (off : Nat) (v : Value) : SetN c off v (c.set off v) := ⟨rfl⟩
class CutN (c : List Value) (off n : Nat) (r : outParam (List Value)) : Prop where
  eq : cut c off n = r
instance (priority := 1100) CutN.nil (c : List Value) : CutN c 0 0 [] := ⟨by simp [cut]⟩
instance (priority := 1000) CutN.take (x : Value) (l r : List Value) (n : Nat) [h : CutN l 0 n r] : CutN (x :: l) 0 (n + 1) (x :: r) := ⟨by have := h.eq; simp only [cut, List.drop_zero] at this ⊢; rw [List.take_succ_cons, this]⟩
instance (priority := 1000) CutN.drop (x : Value) (l r : List Value) (off n : Nat) [h : CutN l off n r] : CutN (x :: l) (off + 1) n r := ⟨by have := h.eq; simpa only [cut, List.drop_succ_cons] using this⟩
instance (priority := 10) CutN.other (c : List Value) (off n : Nat) : CutN c off n (cut c off n) := ⟨rfl⟩

theorem Rd.loadA' {t : TypeId} {x : Operand} {b off n : Nat} {c : List Value} {e : TypeId} {z : Nat × Nat} {r : Bool} [ia : IsAgg P t true] [sz : Siz P t n]
    (hx : ev l x = some (.pointer (some ⟨b, off, none⟩))) (hh : Has hs b (.cells c.toArray e z) r) (hv : Nat.ble (off + n) c.length = true) : Rd P l hs (.load t x) (.agg (cut c off n).toArray) := fun ρ hρ o' ho w hw => by
  have hb := hw.at_ _ hh.mem
  have := run_loadCells (P := P) hb n off 0 #[] (by have := Nat.le_of_ble_eq_true hv; omega)
  simp [execOp, ho, hρ x _ hx, Instr.loadAt, Instr.sureAddr, loadVar, ia.run, sz.run, loadCells, this, cut]
theorem Rd.loadA {t : TypeId} {x : Operand} {b off n : Nat} {c r' : List Value} {e : TypeId} {z : Nat × Nat} {r : Bool} [ia : IsAgg P t true] [sz : Siz P t n]
    (hx : ev l x = some (.pointer (some ⟨b, off, none⟩))) (hh : Has hs b (.cells c.toArray e z) r) (hv : Nat.ble (off + n) c.length = true) [cn : CutN c off n r'] : Rd P l hs (.load t x) (.agg r'.toArray) := by
  rw [← cn.eq]; exact Rd.loadA' hx hh hv
/-- A whole block. -/
theorem Rd.loadAll {t : TypeId} {x : Operand} {b n : Nat} {c : List Value} {e : TypeId} {z : Nat × Nat} {r : Bool} [ia : IsAgg P t true] [sz : Siz P t n]
    (hx : ev l x = some (.pointer (some ⟨b, 0, none⟩))) (hh : Has hs b (.cells c.toArray e z) r) (hv : c.length = n) : Rd P l hs (.load t x) (.agg c.toArray) := fun ρ hρ o' ho w hw => by
  subst hv
  have hb := hw.at_ _ hh.mem
  have := run_loadCells (P := P) hb c.length 0 0 #[] (by omega)
  simp [execOp, ho, hρ x _ hx, Instr.loadAt, Instr.sureAddr, loadVar, ia.run, sz.run, loadCells, this]
end

/-! ### lists of operations -/
section
variable {P : Program} {w0 : World} {W : Nat → Prop} {Q : Exit → Act → World → Prop} {D : List Deferred} {ops : Array Oper} {n : Nat} {l : List (Nat × Value)} {hs : HS} {rest : List Oper}

def TL (P : Program) (w0 : World) (W : Nat → Prop) (Q : Exit → Act → World → Prop) (D : List Deferred) (ops : Array Oper) (n : Nat) (l : List (Nat × Value)) (hs : HS) (rest : List Oper) : Prop :=
  ∀ a w, Knows n D l a → Hd w0 W hs w → wpList P ops Q rest a w

theorem Knows.agrees {a : Act} (h : Knows n D l a) : Agrees l a.eval := fun _ _ e => h.eval e

theorem TL.mk {X : Type} {o : Oper} {d : Nat} {v : X → Value} {ks : X → HS} (hg : o.guard = none) (hd : o.dst = some d) (hdn : Nat.blt d n = true)
    (h : ∀ ρ, Agrees l ρ → ∀ w, Hd w0 W hs w → ∃ x w', (execOp ρ o).run P w = .ok (.value (v x)) w' ∧ Hd w0 W (ks x) w')
    (k : ∀ x, TL P w0 W Q D ops n ((d, v x) :: l) (ks x) rest) : TL P w0 W Q D ops n l hs (o :: rest) := fun a w ha hw => by
  refine wpList_plain hg (fun K hK => ?_)
  obtain ⟨x, w', hr, hh⟩ := h a.eval ha.agrees w hw
  simp only [Oper.wp, hr, Oper.upon, hd]
  exact hK _ _ (k x _ _ (ha.put hdn) hh)

theorem TL.rd {op : Op} {d : Nat} {v : Value} {ty : TypeId} {pos : String} {af : Array Edge} (h : Rd P l hs op v) (hdn : Nat.blt d n = true)
    (k : TL P w0 W Q D ops n ((d, v) :: l) hs rest) : TL P w0 W Q D ops n l hs (⟨some d, op, ty, pos, af, none⟩ :: rest) :=
  TL.mk (X := Unit) (v := fun _ => v) (ks := fun _ => hs) rfl rfl hdn (fun ρ hρ w hw => ⟨(), w, h ρ hρ _ rfl w hw.held, hw⟩) (fun _ => k)

theorem TL.pu {op : Op} {d : Nat} {v : Value} {ty : TypeId} {pos : String} {af : Array Edge} (h : Pu P l op v) (hdn : Nat.blt d n = true)
    (k : TL P w0 W Q D ops n ((d, v) :: l) hs rest) : TL P w0 W Q D ops n l hs (⟨some d, op, ty, pos, af, none⟩ :: rest) := TL.rd h.rd hdn k

theorem TL.box {t : TypeId} {x : Operand} {d : Nat} {v : Value} {c : List Value} {ty : TypeId} {pos : String} {af : Array Edge} (hx : ev l x = some v) (hc : v.cells = c.toArray) (hdn : Nat.blt d n = true)
    (k : ∀ b, TL P w0 W Q D ops n ((d, .pointer (some ⟨b, 0, none⟩)) :: l) (⟨b, cel c t, true⟩ :: hs) rest) : TL P w0 W Q D ops n l hs (⟨some d, .box t x, ty, pos, af, none⟩ :: rest) :=
  TL.mk (X := Nat) (v := fun b => .pointer (some ⟨b, 0, none⟩)) (ks := fun b => ⟨b, cel c t, true⟩ :: hs) rfl rfl hdn (fun ρ hρ w hw =>
    ⟨w.heap.size, _, by simp [execOp, hρ x _ hx, Instr.box, newVar, newRow, hc], hw.alloc _⟩) k

theorem TL.alloc {t : TypeId} {d : Nat} {v : Value} {c : List Value} {ty : TypeId} {pos : String} {af : Array Edge} [z : Zero P t v] (hc : v.cells = c.toArray) (hdn : Nat.blt d n = true)
    (k : ∀ b, TL P w0 W Q D ops n ((d, .pointer (some ⟨b, 0, none⟩)) :: l) (⟨b, cel c t, true⟩ :: hs) rest) : TL P w0 W Q D ops n l hs (⟨some d, .alloc t, ty, pos, af, none⟩ :: rest) :=
  TL.mk (X := Nat) (v := fun b => .pointer (some ⟨b, 0, none⟩)) (ks := fun b => ⟨b, cel c t, true⟩ :: hs) rfl rfl hdn (fun ρ _ w hw =>
    ⟨w.heap.size, _, by simp [execOp, Instr.alloc, z.run, newVar, newRow, hc], hw.alloc _⟩) k

theorem TL.skip {o : Oper} {ks : HS} (hg : o.guard = none) (hd : o.dst = none)
    (h : ∀ ρ, Agrees l ρ → ∀ w, Hd w0 W hs w → ∃ w', (execOp ρ o).run P w = .ok .skip w' ∧ Hd w0 W ks w')
    (k : TL P w0 W Q D ops n l ks rest) : TL P w0 W Q D ops n l hs (o :: rest) := fun a w ha hw => by
  refine wpList_plain hg (fun K hK => ?_)
  obtain ⟨w', hr, hh⟩ := h a.eval ha.agrees w hw
  simp only [Oper.wp, hr, Oper.upon, hd]
  exact hK _ _ (k _ _ ha hh)

def one : Value → Bool
  | .agg _ | .tuple _ => false
  | _ => true
theorem one_cells {v : Value} (h : one v = true) : v.cells = #[v] := by cases v <;> simp_all [one, Value.cells]

theorem run_store1 {w : World} {b off : Nat} {c : List Value} {e : TypeId} {v : Value} (h : w.heap[b]? = some (.cells c.toArray e (0, 0))) (h1 : one v = true) (hl : off < c.length) :
    (store ⟨b, off, none⟩ v).run P w = .ok () (w.setCell ⟨b, off, none⟩ v) := by
  have hv : v.oneCell' = true := by cases v <;> simp_all [one, Value.oneCell']
  have hc : w.cell? ⟨b, off, none⟩ = some c[off] := by rw [cell_of h]; simp [hl]
  rw [run_store P w _ v _ hv]
  simp [hc, frozen_of h]

theorem TL.store1' {t : TypeId} {x y : Operand} {b off : Nat} {c : List Value} {e : TypeId} {v old : Value} {ks : HS} {ty : TypeId} {pos : String} {af : Array Edge} [sz : Siz P t 1]
    (hx : ev l x = some (.pointer (some ⟨b, off, none⟩))) (hy : ev l y = some v) (h1 : one v = true) (tk : Take hs b (cel c e) ks) (hb : nth c off = some old)
    (k : TL P w0 W Q D ops n l (⟨b, cel (c.set off v) e, true⟩ :: ks) rest) : TL P w0 W Q D ops n l hs (⟨none, .store t x y, ty, pos, af, none⟩ :: rest) :=
  TL.skip rfl rfl (fun ρ hρ w hw => by
    have hl : off < c.length := by
      rw [nth_eq] at hb
      rcases Nat.lt_or_ge off c.length with h | h
      · exact h
      · simp [List.getElem?_eq_none h] at hb
    have hbk := (hw.perm tk.perm).held.at_ _ List.mem_cons_self
    exact ⟨_, by
      simp [execOp, hρ x _ hx, hρ y _ hy, Instr.storeAt, Instr.sureAddr, storeVar, one_cells h1, sz.run, storeCells, Addr.add_plain, run_store1 hbk h1 hl], hw.setCell off v⟩) k

theorem TL.store1 {t : TypeId} {x y : Operand} {b off : Nat} {c c' : List Value} {e : TypeId} {v old : Value} {ks : HS} {ty : TypeId} {pos : String} {af : Array Edge} [sz : Siz P t 1]
    (hx : ev l x = some (.pointer (some ⟨b, off, none⟩))) (hy : ev l y = some v) (h1 : one v = true) (tk : Take hs b (cel c e) ks) (hb : nth c off = some old) [sn : SetN c off v c']
    (k : TL P w0 W Q D ops n l (⟨b, cel c' e, true⟩ :: ks) rest) : TL P w0 W Q D ops n l hs (⟨none, .store t x y, ty, pos, af, none⟩ :: rest) := by
  rw [← sn.eq] at k; exact TL.store1' hx hy h1 tk hb k

/-- A row of cells with others laid over it from a place on. -/
def lay : List Value → Nat → List Value → List Value
  | c, _, [] => c
  | c, off, v :: vs => lay (c.set off v) (off + 1) vs
theorem lay_length : ∀ (vs c : List Value) (off : Nat), (lay c off vs).length = c.length
  | [], _, _ => rfl
  | v :: vs, c, off => by simp [lay, lay_length vs]

class LayN (c : List Value) (off : Nat) (vs : List Value) (c' : outParam (List Value)) : Prop where
  eq : lay c off vs = c'
instance (priority := 1200) LayN.nil (c : List Value) (off : Nat) : LayN c off [] c := ⟨rfl⟩
theorem lay_succ (x : Value) : ∀ (vs c : List Value) (off : Nat), lay (x :: c) (off + 1) vs = x :: lay c off vs
  | [], _, _ => rfl
  | v :: vs, c, off => by simp only [lay, List.set_cons_succ]; exact lay_succ x vs (c.set off v) (off + 1)
instance (priority := 1000) LayN.zero (x v : Value) (c vs c' : List Value) [h : LayN c 0 vs c'] : LayN (x :: c) 0 (v :: vs) (v :: c') := ⟨by
  simp only [lay, List.set_cons_zero]; rw [lay_succ, h.eq]⟩
instance (priority := 1000) LayN.succ (x : Value) (c vs c' : List Value) (off : Nat) [h : LayN c off vs c'] : LayN (x :: c) (off + 1) vs (x :: c') := ⟨by rw [lay_succ, h.eq]⟩
instance (priority := 10) LayN.other (c : List Value) (off : Nat) (vs : List Value) : LayN c off vs (lay c off vs) := ⟨rfl⟩

theorem run_storeCells {b off : Nat} {e : TypeId} : ∀ (vs : List Value) (i : Nat) (hs ks : HS) (c : List Value) (w : World), Hd w0 W hs w → (tk : Take hs b (cel c e) ks) → vs.all one = true → off + i + vs.length ≤ c.length →
    ∃ w', (storeCells ⟨b, off, none⟩ vs i).run P w = .ok () w' ∧ Hd w0 W (⟨b, cel (lay c (off + i) vs) e, true⟩ :: ks) w'
  | [], i, hs, ks, c, w, hw, tk, _, _ => ⟨w, by simp [storeCells], hw.perm tk.perm⟩
  | v :: vs, i, hs, ks, c, w, hw, tk, h1, hl => by
    simp only [List.all_cons, Bool.and_eq_true] at h1
    simp only [List.length_cons] at hl
    have hbk := (hw.perm tk.perm).held.at_ _ List.mem_cons_self
    have hlen : off + (i + 1) + vs.length ≤ (c.set (off + i) v).length := by rw [List.length_set]; omega
    obtain ⟨w', hr, hh⟩ := run_storeCells (b := b) (off := off) (e := e) vs (i + 1) (⟨b, cel (c.set (off + i) v) e, true⟩ :: ks) ks (c.set (off + i) v) (w.setCell ⟨b, off + i, none⟩ v) (hw.setCell (off + i) v) (Take.head _ _ _) h1.2 hlen
    exact ⟨w', by simp [storeCells, Addr.add_plain, run_store1 hbk h1.1 (show off + i < c.length by omega), hr], by simpa [lay, Nat.add_assoc] using hh⟩

theorem TL.storeA' {t : TypeId} {x y : Operand} {b off m : Nat} {c vs : List Value} {e : TypeId} {ks : HS} {ty : TypeId} {pos : String} {af : Array Edge} [sz : Siz P t m]
    (hx : ev l x = some (.pointer (some ⟨b, off, none⟩))) (hy : ev l y = some (.agg vs.toArray)) (hm : vs.length = m) (h1 : vs.all one = true) (tk : Take hs b (cel c e) ks) (hb : Nat.ble (off + m) c.length = true)
    (k : TL P w0 W Q D ops n l (⟨b, cel (lay c off vs) e, true⟩ :: ks) rest) : TL P w0 W Q D ops n l hs (⟨none, .store t x y, ty, pos, af, none⟩ :: rest) :=
  TL.skip rfl rfl (fun ρ hρ w hw => by
    obtain ⟨w', hr, hh⟩ := run_storeCells (P := P) (off := off) vs 0 hs ks c w hw tk h1 (by have := Nat.le_of_ble_eq_true hb; omega)
    exact ⟨w', by simp [execOp, hρ x _ hx, hρ y _ hy, Instr.storeAt, Instr.sureAddr, storeVar, Value.cells, sz.run, hm, hr], by simpa using hh⟩) k

theorem TL.storeA {t : TypeId} {x y : Operand} {b off m : Nat} {c vs c' : List Value} {e : TypeId} {ks : HS} {ty : TypeId} {pos : String} {af : Array Edge} [sz : Siz P t m]
    (hx : ev l x = some (.pointer (some ⟨b, off, none⟩))) (hy : ev l y = some (.agg vs.toArray)) (hm : vs.length = m) (h1 : vs.all one = true) (tk : Take hs b (cel c e) ks) (hb : Nat.ble (off + m) c.length = true) [ln : LayN c off vs c']
    (k : TL P w0 W Q D ops n l (⟨b, cel c' e, true⟩ :: ks) rest) : TL P w0 W Q D ops n l hs (⟨none, .store t x y, ty, pos, af, none⟩ :: rest) := by
  rw [← ln.eq] at k; exact TL.storeA' hx hy hm h1 tk hb k

/-- An operation under a test that holds: as if there were none. -/
theorem TL.guard_yes {op : Op} {dst : Option Tmp} {ty : TypeId} {pos : String} {af : Array Edge} {j dj : Nat} {b : Bool} (hj : (ops[j]?).bind (·.dst) = some dj) (hv : look l dj = some (.bool b))
    (k : TL P w0 W Q D ops n l hs (⟨dst, op, ty, pos, af, none⟩ :: rest)) : TL P w0 W Q D ops n l hs (⟨dst, op, ty, pos, af, some (j, b)⟩ :: rest) := fun a w ha hw => by
  have h := k a w ha hw
  have hy : yielded ops a.tmps j = some b := by simp [yielded, hj, ha.slot dj _ hv]
  simp only [wpList, Region.wanted, hy, beq_self_eq_true, if_true] at h ⊢
  exact h
theorem TL.guard_no {op : Op} {d : Nat} {ty : TypeId} {pos : String} {af : Array Edge} {j dj : Nat} {b c : Bool} (hj : (ops[j]?).bind (·.dst) = some dj) (hv : look l dj = some (.bool c)) (hbc : b = !c) (hdn : Nat.blt d n = true)
    (k : TL P w0 W Q D ops n ((d, undef) :: l) hs rest) : TL P w0 W Q D ops n l hs (⟨some d, op, ty, pos, af, some (j, b)⟩ :: rest) := fun a w ha hw => by
  have hy : yielded ops a.tmps j = some c := by simp [yielded, hj, ha.slot dj _ hv]
  have h := k _ w (ha.put hdn) hw
  subst hbc
  simp only [wpList, Region.wanted, hy]
  rw [if_neg (by cases c <;> simp)]
  exact h
theorem TL.guard_no' {op : Op} {ty : TypeId} {pos : String} {af : Array Edge} {j dj : Nat} {b c : Bool} (hj : (ops[j]?).bind (·.dst) = some dj) (hv : look l dj = some (.bool c)) (hbc : b = !c)
    (k : TL P w0 W Q D ops n l hs rest) : TL P w0 W Q D ops n l hs (⟨none, op, ty, pos, af, some (j, b)⟩ :: rest) := fun a w ha hw => by
  have hy : yielded ops a.tmps j = some c := by simp [yielded, hj, ha.slot dj _ hv]
  have h := k _ w ha hw
  subst hbc
  simp only [wpList, Region.wanted, hy]
  rw [if_neg (by cases c <;> simp)]
  exact h

theorem Knows.over {a : Act} {t : Nat} {v : Value} (h : Knows n D l a) (hv : look l t = some v) : Knows n D ((t, v) :: l) a :=
  ⟨h.size, h.defers, fun s u e => by
    rw [look_cons] at e
    by_cases hts : t = s
    · subst hts; simp only [if_true] at e; exact h.slot t u (by rw [hv, e])
    · rw [if_neg hts] at e; exact h.slot s u e⟩

/-- A slot that holds a test's answer: both ways, the answer written out. -/
theorem TL.split {t : Nat} {c : Bool} (hv : look l t = some (.bool c)) (kt : c = true → TL P w0 W Q D ops n ((t, .bool true) :: l) hs rest) (kf : c = false → TL P w0 W Q D ops n ((t, .bool false) :: l) hs rest) :
    TL P w0 W Q D ops n l hs rest := fun a w ha hw => by
  cases c
  · exact kf rfl a w (ha.over hv) hw
  · exact kt rfl a w (ha.over hv) hw
theorem TL.splitd {t : Nat} {p : Prop} {i : Decidable p} (hv : look l t = some (.bool (@decide p i))) (kt : p → TL P w0 W Q D ops n ((t, .bool true) :: l) hs rest) (kf : ¬ p → TL P w0 W Q D ops n ((t, .bool false) :: l) hs rest) :
    TL P w0 W Q D ops n l hs rest :=
  TL.split hv (fun h => kt (of_decide_eq_true h)) (fun h => kf (of_decide_eq_false h))
/-- A test that is not decided: both ways. -/
theorem TL.guard_d {op : Op} {dst : Option Tmp} {ty : TypeId} {pos : String} {af : Array Edge} {j dj : Nat} {b : Bool} {p : Prop} {i : Decidable p} (_hj : (ops[j]?).bind (·.dst) = some dj) (hv : look l dj = some (.bool (@decide p i)))
    (kt : p → TL P w0 W Q D ops n ((dj, .bool true) :: l) hs (⟨dst, op, ty, pos, af, some (j, b)⟩ :: rest)) (kf : ¬ p → TL P w0 W Q D ops n ((dj, .bool false) :: l) hs (⟨dst, op, ty, pos, af, some (j, b)⟩ :: rest)) :
    TL P w0 W Q D ops n l hs (⟨dst, op, ty, pos, af, some (j, b)⟩ :: rest) := TL.splitd hv kt kf
theorem TL.guard_b {op : Op} {dst : Option Tmp} {ty : TypeId} {pos : String} {af : Array Edge} {j dj : Nat} {b c : Bool} (_hj : (ops[j]?).bind (·.dst) = some dj) (hv : look l dj = some (.bool c))
    (kt : c = true → TL P w0 W Q D ops n ((dj, .bool true) :: l) hs (⟨dst, op, ty, pos, af, some (j, b)⟩ :: rest)) (kf : c = false → TL P w0 W Q D ops n ((dj, .bool false) :: l) hs (⟨dst, op, ty, pos, af, some (j, b)⟩ :: rest)) :
    TL P w0 W Q D ops n l hs (⟨dst, op, ty, pos, af, some (j, b)⟩ :: rest) := TL.split hv kt kf
/-- A slot's value said otherwise. -/
theorem TL.say (t : Nat) {v : Value} (u : Value) (hv : look l t = some v) (he : v = u) (k : TL P w0 W Q D ops n ((t, u) :: l) hs rest) : TL P w0 W Q D ops n l hs rest := fun a w ha hw =>
  k a w (ha.over (he ▸ hv)) hw
theorem TL.keep (r : List (Nat × Value)) (s : Sub r l) (k : TL P w0 W Q D ops n r hs rest) : TL P w0 W Q D ops n l hs rest := fun a w ha hw => k a w (ha.sub s) hw

/-! ### code -/
def TC (P : Program) (w0 : World) (W : Nat → Prop) (Q : Exit → Act → World → Prop) (D : List Deferred) (n : Nat) (l : List (Nat × Value)) (hs : HS) (c : Code) : Prop :=
  ∀ a w, Knows n D l a → Hd w0 W hs w → c.wp P Q a w
/-- A way out. -/
def AQ (w0 : World) (W : Nat → Prop) (Q : Exit → Act → World → Prop) (D : List Deferred) (n : Nat) (l : List (Nat × Value)) (hs : HS) (e : Exit) : Prop :=
  ∀ a w, Knows n D l a → Hd w0 W hs w → Q e a w

theorem TL.nil (k : AQ w0 W Q D n l hs .normal) : TL P w0 W Q D ops n l hs [] := fun a w ha hw => wpList_nil (k a w ha hw)

theorem TC.seq {x y : Code} (k : TC P w0 W (Exit.then (y.wp P Q) Q) D n l hs x) : TC P w0 W Q D n l hs (.seq x y) := fun a w ha hw => wp_seq (k a w ha hw)
theorem TC.skip (k : AQ w0 W Q D n l hs .normal) : TC P w0 W Q D n l hs .skip := fun a w ha hw => wp_skip (k a w ha hw)
theorem TC.ret (k : AQ w0 W Q D n l hs .ret) : TC P w0 W Q D n l hs .ret := fun a w ha hw => wp_ret (k a w ha hw)
theorem TC.exit {i : Nat} (k : AQ w0 W Q D n l hs (.exit i)) : TC P w0 W Q D n l hs (.exit i) := fun a w ha hw => wp_exit (k a w ha hw)
theorem TC.block {i : Nat} {c : Code} (k : TC P w0 W (Exit.inBlock i Q) D n l hs c) : TC P w0 W Q D n l hs (.block i c) := fun a w ha hw => wp_block (k a w ha hw)
theorem TC.region {i : Nat} {os : List Oper} (k : TL P w0 W Q D os.toArray n l hs os) : TC P w0 W Q D n l hs (.region i os.toArray false) := fun a w ha hw => wp_region_lit (k a w ha hw)
theorem TC.cond_t {c : Operand} {x y : Code} (hc : ev l c = some (.bool true)) (k : TC P w0 W Q D n l hs x) : TC P w0 W Q D n l hs (.cond c x y) := fun a w ha hw => wp_cond_true (ha.eval hc) (k a w ha hw)
theorem TC.cond_f {c : Operand} {x y : Code} (hc : ev l c = some (.bool false)) (k : TC P w0 W Q D n l hs y) : TC P w0 W Q D n l hs (.cond c x y) := fun a w ha hw => wp_cond_false (ha.eval hc) (k a w ha hw)
theorem TC.cond {c : Operand} {x y : Code} {b : Bool} (hc : ev l c = some (.bool b)) (kt : b = true → TC P w0 W Q D n l hs x) (kf : b = false → TC P w0 W Q D n l hs y) : TC P w0 W Q D n l hs (.cond c x y) := fun a w ha hw =>
  wp_cond_split (ha.eval hc) (fun h => kt h a w ha hw) (fun h => kf h a w ha hw)
theorem TC.condd {c : Operand} {x y : Code} {p : Prop} {i : Decidable p} (hc : ev l c = some (.bool (@decide p i))) (kt : p → TC P w0 W Q D n l hs x) (kf : ¬ p → TC P w0 W Q D n l hs y) : TC P w0 W Q D n l hs (.cond c x y) :=
  TC.cond hc (fun h => kt (of_decide_eq_true h)) (fun h => kf (of_decide_eq_false h))
theorem TC.keep {c : Code} (r : List (Nat × Value)) (s : Sub r l) (k : TC P w0 W Q D n r hs c) : TC P w0 W Q D n l hs c := fun a w ha hw => k a w (ha.sub s) hw

theorem AQ.then_n {K : Code} {Q' : Exit → Act → World → Prop} (k : TC P w0 W Q D n l hs K) : AQ w0 W (Exit.then (K.wp P Q) Q') D n l hs .normal := fun a w ha hw => k a w ha hw
theorem AQ.then_r {K : Act → World → Prop} (k : AQ w0 W Q D n l hs .ret) : AQ w0 W (Exit.then K Q) D n l hs .ret := fun a w ha hw => k a w ha hw
theorem AQ.then_x {K : Act → World → Prop} {i : Nat} (k : AQ w0 W Q D n l hs (.exit i)) : AQ w0 W (Exit.then K Q) D n l hs (.exit i) := fun a w ha hw => k a w ha hw
theorem AQ.block_n {i : Nat} (k : AQ w0 W Q D n l hs .normal) : AQ w0 W (Exit.inBlock i Q) D n l hs .normal := fun a w ha hw => k a w ha hw
theorem AQ.block_r {i : Nat} (k : AQ w0 W Q D n l hs .ret) : AQ w0 W (Exit.inBlock i Q) D n l hs .ret := fun a w ha hw => k a w ha hw
theorem AQ.block_x {i : Nat} (k : AQ w0 W Q D n l hs .normal) : AQ w0 W (Exit.inBlock i Q) D n l hs (.exit i) := fun a w ha hw => by
  simp only [Exit.inBlock, if_true]; exact k a w ha hw
theorem AQ.block_y {i j : Nat} (h : Nat.beq j i = false) (k : AQ w0 W Q D n l hs (.exit j)) : AQ w0 W (Exit.inBlock i Q) D n l hs (.exit j) := fun a w ha hw => by
  have : j ≠ i := fun e => by rw [e, Nat.beq_refl] at h; cases h
  simp only [Exit.inBlock, if_neg this]; exact k a w ha hw

/-! ### functions -/
def wr (hs : HS) (k : Nat) : Prop := ∃ e ∈ hs, e.rw = true ∧ e.id = k

/-- What a call comes to, said of the blocks that it was handed. -/
def Lift (R : Ending → HS → Prop) (hs : HS) (w : World) (e : Ending) (w' : World) : Prop :=
  e ≠ .outgrown ∧ ∃ ks, R e ks ∧ Frm (wr hs) w w' ∧ Held ks w' ∧ ∀ x ∈ ks, wr hs x.id ∨ w.heap.size ≤ x.id

def FnE (P : Program) (f : FuncId) (args : Array Value) (hs : HS) (R : Ending → HS → Prop) : Prop := ∀ w, Held hs w → Calls P f args w (Lift R hs w)

def enum : Nat → List Value → List (Nat × Value)
  | _, [] => []
  | k, v :: vs => (k, v) :: enum (k + 1) vs

theorem look_enum : ∀ (vs : List Value) (k t : Nat) (v : Value), look (enum k vs) t = some v → k ≤ t ∧ vs[t - k]? = some v
  | [], _, _, _, e => by simp [enum, look] at e
  | u :: vs, k, t, v, e => by
    rw [enum, look_cons] at e
    by_cases h : k = t
    · subst h; simp only [if_true] at e; simpa using e
    · rw [if_neg h] at e
      obtain ⟨h1, h2⟩ := look_enum vs (k + 1) t v e
      refine ⟨by omega, ?_⟩
      rw [show t - k = (t - (k + 1)) + 1 by omega]
      simpa using h2

theorem Knows.start (vs : List Value) (n : Nat) (h : vs.length ≤ n) : Knows n [] (enum 0 vs) { tmps := vs.toArray ++ Array.replicate (n - vs.toArray.size) undef, defers := [] } where
  size := by simp; omega
  defers := rfl
  slot t v e := by
    obtain ⟨_, h2⟩ := look_enum vs 0 t v e
    have ht : t < vs.length := by
      rcases Nat.lt_or_ge t vs.length with h' | h'
      · exact h'
      · simp [List.getElem?_eq_none h'] at h2
    simp only [Nat.sub_zero] at h2
    rw [Array.getElem?_append_left (by simpa using ht)]
    simpa using h2

theorem FnE.enter {f : FuncId} {fn : Func} {c : Code} {vs : List Value} {R : Ending → HS → Prop} (hf : P.funcs[f]? = some fn) (hb : fn.body = some c) (hn : fn.ntmps = n) (hl : Nat.ble vs.length n = true)
    (k : ∀ w, TC P w (wr hs) (bodyPost P fn (Lift R hs w)) [] n (enum 0 vs) hs c) : FnE P f vs.toArray hs R := fun w hw => by
  refine calls_of_wp hf hb ?_
  subst hn
  exact k w _ w (Knows.start vs fn.ntmps (Nat.le_of_ble_eq_true hl)) ⟨Frm.refl _ _, hw, fun e he hr => .inl ⟨e, he, hr, rfl⟩⟩

/-- Some blocks, taken out together. -/
class TakeS (hs : HS) (ks : HS) (rest : outParam HS) : Prop where
  perm : hs.Perm (ks ++ rest)
instance (priority := 1100) TakeS.head (ks r : HS) : TakeS (ks ++ r) ks r := ⟨.refl _⟩
instance (priority := 1050) TakeS.all (ks : HS) : TakeS ks ks [] := ⟨by simp⟩
instance (priority := 900) TakeS.tail (hs ks rest : HS) (e : Ent) [h : TakeS hs ks rest] : TakeS (e :: hs) ks (e :: rest) := ⟨(h.perm.cons e).trans List.perm_middle.symm⟩
instance (priority := 800) TakeS.appR (a c ks rest : HS) [h : TakeS c ks rest] : TakeS (a ++ c) ks (a ++ rest) :=
  ⟨(h.perm.append_left a).trans (by rw [← List.append_assoc, ← List.append_assoc]; exact List.Perm.append_right _ List.perm_append_comm)⟩
instance (priority := 800) TakeS.appL (a c ks rest : HS) [h : TakeS a ks rest] : TakeS (a ++ c) ks (rest ++ c) :=
  ⟨by rw [← List.append_assoc]; exact h.perm.append_right c⟩

/-- What a caller keeps of what it holds. -/
inductive KSub : HS → HS → Prop
  | nil (hs : HS) : KSub hs []
  | cons {hs rest ks : HS} {b : Nat} {o o' : Obj} (t : Take hs b o rest) (ho : o = o') (k : KSub rest ks) : KSub hs (⟨b, o', true⟩ :: ks)
  | seg {hs rest sg ks : HS} (t : TakeS hs sg rest) (hr : ∀ e ∈ sg, e.rw = true) (k : KSub rest ks) : KSub hs (sg ++ ks)

theorem Hd.both {hs sg r ks : HS} {w : World} (h : Hd w0 W hs w) (p : hs.Perm (sg ++ r)) (hk : Hd w0 W ks w) (hm : ∀ x ∈ ks, x ∈ r) : Hd w0 W (sg ++ ks) w := by
  have hp := h.perm p
  have hpw := List.pairwise_append.1 hp.held.pair
  refine ⟨h.frm, ⟨fun e he => ?_, List.pairwise_append.2 ⟨hpw.1, hk.held.pair, fun a ha b hb => hpw.2.2 a ha b (hm b hb)⟩⟩, fun e he hr => ?_⟩
  · rcases List.mem_append.1 he with he | he
    · exact hp.held.at_ e (List.mem_append_left _ he)
    · exact hk.held.at_ e he
  · rcases List.mem_append.1 he with he | he
    · exact hp.own e (List.mem_append_left _ he) hr
    · exact hk.own e he hr

theorem KSub.hd {hs ks : HS} (h : KSub hs ks) : ∀ {w : World}, Hd w0 W hs w → Hd w0 W ks w ∧ (∀ x ∈ ks, x.rw = true) ∧ (∀ x ∈ ks, x ∈ hs) := by
  induction h with
  | nil hs => exact fun {w} hw => ⟨hw.sub (List.nil_sublist _), by simp, by simp⟩
  | @cons hs rest ks b o o' t ho k ih =>
    intro w hw
    subst ho
    have hp := hw.perm t.perm
    obtain ⟨h1, h2, h3⟩ := ih (hp.sub (List.sublist_cons_self _ _))
    have hpw := List.pairwise_cons.1 hp.held.pair
    refine ⟨⟨hw.frm, ⟨fun e he => ?_, List.pairwise_cons.2 ⟨fun f hf => hpw.1 f (h3 f hf), h1.held.pair⟩⟩, fun e he hr => ?_⟩, fun x hx => ?_, fun x hx => ?_⟩
    · rcases List.mem_cons.1 he with rfl | he
      · exact hp.held.at_ _ List.mem_cons_self
      · exact h1.held.at_ e he
    · rcases List.mem_cons.1 he with rfl | he
      · exact hp.own _ List.mem_cons_self rfl
      · exact h1.own e he hr
    · rcases List.mem_cons.1 hx with rfl | hx
      · rfl
      · exact h2 x hx
    · rcases List.mem_cons.1 hx with rfl | hx
      · exact t.perm.mem_iff.2 List.mem_cons_self
      · exact t.perm.mem_iff.2 (List.mem_cons_of_mem _ (h3 x hx))
  | @seg hs rest sg ks t hr k ih =>
    intro w hw
    have hp := hw.perm t.perm
    obtain ⟨h1, h2, h3⟩ := ih (hp.sub (List.sublist_append_right _ _))
    refine ⟨hw.both t.perm h1 h3, fun x hx => ?_, fun x hx => ?_⟩
    · rcases List.mem_append.1 hx with hx | hx
      · exact hr x hx
      · exact h2 x hx
    · rcases List.mem_append.1 hx with hx | hx
      · exact t.perm.mem_iff.2 (List.mem_append_left _ hx)
      · exact t.perm.mem_iff.2 (List.mem_append_right _ (h3 x hx))
theorem KSub.last {hs rest sg : HS} (t : TakeS hs sg rest) (hr : ∀ e ∈ sg, e.rw = true) : KSub hs sg := by
  have := KSub.seg t hr (.nil _); rwa [List.append_nil] at this

/-- The results in a frame's slots. -/
def resv (l : List (Nat × Value)) : List ResultVar → Option (List Value)
  | [] => some []
  | .tmp t :: r => match look l t, resv l r with
    | some v, some vs => some (v :: vs)
    | _, _ => none
  | .cell _ _ :: _ => none
def tup : List Value → Value
  | [v] => v
  | vs => .tuple vs.toArray

def resFn (tmps : Array Value) : ResultVar → Sem Value
  | .tmp t => pure (tmps.getD t undef)
  | .cell a t => do loadVar t (← asAddr (tmps.getD a undef))
theorem results_eq (fn : Func) (tmps : Array Value) : results fn tmps = (do
    let vs ← fn.results.mapM (resFn tmps)
    pure (if h : vs.size = 1 then vs[0] else .tuple vs)) := rfl

theorem resv_run {a : Act} (ha : Knows n D l a) {w : World} : ∀ {rs : List ResultVar} {vs : List Value}, resv l rs = some vs →
    (rs.mapM (m := Sem) (resFn a.tmps)).run P w = .ok vs w
  | [], vs, e => by simp [resv] at e; simp [e]
  | .tmp t :: r, vs, e => by
    unfold resv at e
    cases ht : look l t with
    | none => simp [ht] at e
    | some v =>
      cases hr : resv l r with
      | none => simp [ht, hr] at e
      | some us =>
        simp only [ht, hr, Option.some.injEq] at e
        have h1 : a.tmps.getD t undef = v := by simp [ha.slot t v ht]
        rw [List.mapM_cons]
        simp only [Sem.run_bind, Sem.run_pure, Result.andThen_ok, resFn, h1, resv_run ha hr, ← e]
  | .cell _ _ :: _, vs, e => by simp [resv] at e

theorem results_run {fn : Func} {rs : List ResultVar} {vs : List Value} {a : Act} (ha : Knows n D l a) (w : World) (hr : fn.results = rs.toArray) (e : resv l rs = some vs) : (results fn a.tmps).run P w = .ok (tup vs) w := by
  have h := resv_run (P := P) (w := w) ha e
  rw [results_eq, hr, List.mapM_toArray]
  simp only [Sem.run_bind, Sem.run_map, h, Result.andThen_ok, Sem.run_pure]
  congr 1
  match vs with
  | [] => simp [tup]
  | [v] => simp [tup]
  | v :: u :: r => simp [tup]

theorem AQ.ret {R : Ending → HS → Prop} {hs0 ks : HS} {fn : Func} {rs : List ResultVar} {vs : List Value} (hr : fn.results = rs.toArray) (he : resv l rs = some vs) (hR : R (.returned (tup vs)) ks) (hk : KSub hs ks) :
    AQ w0 (wr hs0) (bodyPost P fn (Lift R hs0 w0)) [] n l hs .ret := fun a w ha hw => by
  refine ⟨ha.defers, _, results_run ha w hr he, by simp, ks, hR, hw.frm, ?_⟩
  obtain ⟨h1, h2, _⟩ := hk.hd hw
  exact ⟨h1.held, fun x hx => h1.own x hx (h2 x hx)⟩
theorem AQ.end_ {R : Ending → HS → Prop} {hs0 ks : HS} {fn : Func} {rs : List ResultVar} {vs : List Value} (hr : fn.results = rs.toArray) (he : resv l rs = some vs) (hR : R (.returned (tup vs)) ks) (hk : KSub hs ks) :
    AQ w0 (wr hs0) (bodyPost P fn (Lift R hs0 w0)) [] n l hs .normal := fun a w ha hw => by
  refine ⟨ha.defers, _, results_run ha w hr he, by simp, ks, hR, hw.frm, ?_⟩
  obtain ⟨h1, h2, _⟩ := hk.hd hw
  exact ⟨h1.held, fun x hx => h1.own x hx (h2 x hx)⟩
theorem AQ.panic {R : Ending → HS → Prop} {hs0 ks : HS} {fn : Func} {ch : List PanicEntry} (hR : R (.panicked ch) ks) (hk : KSub hs ks) :
    AQ w0 (wr hs0) (bodyPost P fn (Lift R hs0 w0)) [] n l hs (.panic ch) := fun a w ha hw => by
  refine ⟨ha.defers, by simp, ks, hR, hw.frm, ?_⟩
  obtain ⟨h1, h2, _⟩ := hk.hd hw
  exact ⟨h1.held, fun x hx => h1.own x hx (h2 x hx)⟩

/-- A block that is spoken of, taken out, its own or not. -/
class TakeA (hs : HS) (b : Nat) (o : outParam Obj) (r : outParam Bool) (rest : outParam HS) : Prop where
  perm : hs.Perm (⟨b, o, r⟩ :: rest)
instance (priority := 1100) TakeA.head (hs : HS) (b : Nat) (o : Obj) (r : Bool) : TakeA (⟨b, o, r⟩ :: hs) b o r hs := ⟨.refl _⟩
instance (priority := 900) TakeA.tail (hs rest : HS) (b : Nat) (o : Obj) (r : Bool) (e : Ent) [h : TakeA hs b o r rest] : TakeA (e :: hs) b o r (e :: rest) :=
  ⟨(h.perm.cons e).trans (.swap _ _ _)⟩
instance TakeA.appL (a c rest : HS) (b : Nat) (o : Obj) (r : Bool) [h : TakeA a b o r rest] : TakeA (a ++ c) b o r (rest ++ c) := ⟨h.perm.append_right c⟩
instance TakeA.appR (a c rest : HS) (b : Nat) (o : Obj) (r : Bool) [h : TakeA c b o r rest] : TakeA (a ++ c) b o r (a ++ rest) := ⟨(h.perm.append_left a).trans List.perm_middle⟩
instance Has.appL (a c : HS) (b : Nat) (o : Obj) (r : Bool) [h : Has a b o r] : Has (a ++ c) b o r := ⟨List.mem_append_left _ h.mem⟩
instance Has.appR (a c : HS) (b : Nat) (o : Obj) (r : Bool) [h : Has c b o r] : Has (a ++ c) b o r := ⟨List.mem_append_right _ h.mem⟩
instance Take.appL (a c rest : HS) (b : Nat) (o : Obj) [h : Take a b o rest] : Take (a ++ c) b o (rest ++ c) := ⟨h.perm.append_right c⟩
instance Take.appR (a c rest : HS) (b : Nat) (o : Obj) [h : Take c b o rest] : Take (a ++ c) b o (a ++ rest) := ⟨(h.perm.append_left a).trans List.perm_middle⟩

/-- What a callee is handed out of what its caller holds; what the caller keeps beside it. -/
def roS (sg : HS) : HS := sg.map fun e => ⟨e.id, e.obj, false⟩
theorem roS_ro {sg : HS} : ∀ e ∈ roS sg, e.rw = false := by
  intro e he; simp only [roS, List.mem_map] at he; obtain ⟨f, _, rfl⟩ := he; rfl
theorem roS_pair : ∀ sg : HS, (roS sg).Pairwise apart
  | [] => .nil
  | e :: r => by
    refine List.pairwise_cons.2 ⟨fun f hf h => ?_, roS_pair r⟩
    rcases h with h | h
    · cases h
    · rw [roS_ro f hf] at h; cases h
inductive Gives : HS → HS → HS → Prop
  | nil (hs : HS) : Gives hs [] hs
  | rw {hs h1 ks rest : HS} {b : Nat} {o : Obj} (t : Take hs b o h1) (g : Gives h1 ks rest) : Gives hs (⟨b, o, true⟩ :: ks) rest
  | ro {hs h1 ks rest : HS} {b : Nat} {o : Obj} {r : Bool} (t : TakeA hs b o r h1) (g : Gives h1 ks rest) : Gives hs (⟨b, o, false⟩ :: ks) (⟨b, o, r⟩ :: rest)
  | seg {hs h1 sg ks rest : HS} (t : TakeS hs sg h1) (hr : ∀ e ∈ sg, e.rw = true) (g : Gives h1 ks rest) : Gives hs (sg ++ ks) rest
  | sgr {hs h1 sg ks rest : HS} (t : TakeS hs sg h1) (g : Gives h1 ks rest) : Gives hs (roS sg ++ ks) (sg ++ rest)
  | sro {hs h1 sg ks rest : HS} (t : TakeS hs sg h1) (hr : ∀ e ∈ sg, e.rw = false) (g : Gives h1 ks rest) : Gives hs (sg ++ ks) (sg ++ rest)
theorem Gives.last {hs h1 sg : HS} (t : TakeS hs sg h1) (hr : ∀ e ∈ sg, e.rw = true) : Gives hs sg h1 := by
  have := Gives.seg t hr (.nil h1); rwa [List.append_nil] at this
theorem Gives.lastro {hs h1 sg : HS} (t : TakeS hs sg h1) (hr : ∀ e ∈ sg, e.rw = false) : Gives hs sg (sg ++ h1) := by
  have := Gives.sro t hr (.nil h1); rwa [List.append_nil] at this
theorem Gives.lastr {hs h1 sg : HS} (t : TakeS hs sg h1) : Gives hs (roS sg) (sg ++ h1) := by
  have := Gives.sgr t (.nil h1); rwa [List.append_nil] at this

/-- Fewer blocks, in another order. -/
inductive HSub : HS → HS → Prop
  | nil (hs : HS) : HSub hs []
  | cons {hs rest ks : HS} {b : Nat} {o o' : Obj} {r : Bool} (t : TakeA hs b o r rest) (ho : o = o') (k : HSub rest ks) : HSub hs (⟨b, o', r⟩ :: ks)
  | seg {hs rest sg ks : HS} (t : TakeS hs sg rest) (k : HSub rest ks) : HSub hs (sg ++ ks)
theorem HSub.last {hs rest sg : HS} (t : TakeS hs sg rest) : HSub hs sg := by
  have := HSub.seg t (.nil _); rwa [List.append_nil] at this

theorem HSub.mem {hs ks : HS} (h : HSub hs ks) : ∀ x ∈ ks, x ∈ hs := by
  induction h with
  | nil hs => simp
  | @cons hs rest ks b o o' r t ho k ih =>
    subst ho
    intro x hx
    rcases List.mem_cons.1 hx with rfl | hx
    · exact t.perm.mem_iff.2 List.mem_cons_self
    · exact t.perm.mem_iff.2 (List.mem_cons_of_mem _ (ih x hx))
  | @seg hs rest sg ks t k ih =>
    intro x hx
    rcases List.mem_append.1 hx with hx | hx
    · exact t.perm.mem_iff.2 (List.mem_append_left _ hx)
    · exact t.perm.mem_iff.2 (List.mem_append_right _ (ih x hx))
theorem HSub.hd {hs ks : HS} (h : HSub hs ks) : ∀ {w : World}, Hd w0 W hs w → Hd w0 W ks w := by
  induction h with
  | nil hs => exact fun {w} hw => hw.sub (List.nil_sublist _)
  | @cons hs rest ks b o o' r t ho k ih =>
    intro w hw
    subst ho
    have hp := hw.perm t.perm
    have h1 := ih (hp.sub (List.sublist_cons_self _ _))
    have hpw := List.pairwise_cons.1 hp.held.pair
    refine ⟨hw.frm, ⟨fun e he => ?_, List.pairwise_cons.2 ⟨fun f hf => hpw.1 f (k.mem f hf), h1.held.pair⟩⟩, fun e he hr => ?_⟩
    · rcases List.mem_cons.1 he with rfl | he
      · exact hp.held.at_ _ List.mem_cons_self
      · exact h1.held.at_ e he
    · rcases List.mem_cons.1 he with rfl | he
      · exact hp.own _ List.mem_cons_self hr
      · exact h1.own e he hr
  | @seg hs rest sg ks t k ih =>
    intro w hw
    have hp := hw.perm t.perm
    exact hw.both t.perm (ih (hp.sub (List.sublist_append_right _ _))) k.mem

/-- What is held, said otherwise. -/
theorem TL.re (ks : HS) (s : HSub hs ks) (k : TL P w0 W Q D ops n l ks rest) : TL P w0 W Q D ops n l hs rest := fun a w ha hw => k a w ha (s.hd hw)
theorem TC.re (ks : HS) {c : Code} (s : HSub hs ks) (k : TC P w0 W Q D n l ks c) : TC P w0 W Q D n l hs c := fun a w ha hw => k a w ha (s.hd hw)

end
end Go.Sl
