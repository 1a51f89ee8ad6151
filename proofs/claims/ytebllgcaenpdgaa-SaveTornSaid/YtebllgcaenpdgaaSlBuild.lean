/-
  The small logic: structs, arrays and slices written out, cuts of slices, conversions. Holds under no condition.
-/
import Derived.Test.YtebllgcaenpdgaaSlMem
set_option linter.all false
namespace Go.Sl
open Go

theorem fold_lay (vs : List Value) : ∀ (j off : Nat) (cs : Array Value), ((vs.zipIdx j).foldl (fun cs (p : Value × Nat) => cs.setIfInBounds (off + p.2) p.1) cs).toList = lay cs.toList (off + j) vs := by
  induction vs with
  | nil => intro j off cs; simp [lay]
  | cons v vs ih =>
    intro j off cs
    simp only [List.zipIdx_cons, List.foldl_cons, lay]
    rw [ih (j + 1) off, Array.toList_setIfInBounds]
    rfl

def pnth : List (Nat × Nat) → Nat → Option (Nat × Nat)
  | [], _ => none
  | p :: _, 0 => some p
  | _ :: r, n + 1 => pnth r n
theorem pnth_eq : ∀ (l : List (Nat × Nat)) (n : Nat), pnth l n = l[n]?
  | [], _ => by simp [pnth]
  | _ :: _, 0 => by simp [pnth]
  | _ :: r, n + 1 => by simp [pnth, pnth_eq r n]

/-- A composite's cells: those of its parts laid over its zero's. -/
def fillL (pl : Nat → Option (Nat × Nat)) : List Value → List (Nat × Value) → Option (List Value)
  | z, [] => some z
  | z, (i, v) :: r => match pl i with
    | none => none
    | some (off, n) => match Nat.beq v.cells.toList.length n, Nat.ble (off + n) z.length with
      | true, true => fillL pl (lay z off v.cells.toList) r
      | _, _ => none

/-- The parts fit. -/
def okL (ps : List (Nat × Nat)) : Nat → List (Nat × Value) → Bool
  | _, [] => true
  | m, (i, v) :: r => match pnth ps i with
    | none => false
    | some (off, n) => Nat.beq v.cells.toList.length n && Nat.ble (off + n) m && okL ps m r
/-- The same in normal form. -/
class CellsN (v : Value) (l : outParam (List Value)) : Prop where
  eq : v.cells.toList = l
instance CellsN.agg (l : List Value) : CellsN (.agg l.toArray) l := ⟨rfl⟩
instance CellsN.int (k : IntKind) (n : Int) : CellsN (.int k n) [.int k n] := ⟨rfl⟩
instance CellsN.bool (b : Bool) : CellsN (.bool b) [.bool b] := ⟨rfl⟩
instance CellsN.string (b : ByteArray) : CellsN (.string b) [.string b] := ⟨rfl⟩
instance CellsN.pointer (b : Option Addr) : CellsN (.pointer b) [.pointer b] := ⟨rfl⟩
instance CellsN.slice (b : Option Addr) (m n : Nat) : CellsN (.slice b m n) [.slice b m n] := ⟨rfl⟩
instance CellsN.func (fn : Fn) (a b : Array Value) : CellsN (.func fn a b) [.func fn a b] := ⟨rfl⟩
instance CellsN.map (r : Option Nat) : CellsN (.map r) [.map r] := ⟨rfl⟩
instance (priority := 10) CellsN.other (v : Value) : CellsN v v.cells.toList := ⟨rfl⟩
class PlN (ps : List (Nat × Nat)) (i : Nat) (off n : outParam Nat) : Prop where
  eq : pnth ps i = some (off, n)
instance PlN.zero (off n : Nat) (r : List (Nat × Nat)) : PlN ((off, n) :: r) 0 off n := ⟨rfl⟩
instance PlN.succ (p : Nat × Nat) (r : List (Nat × Nat)) (i off n : Nat) [h : PlN r i off n] : PlN (p :: r) (i + 1) off n := ⟨h.eq⟩
class FillN (ps : List (Nat × Nat)) (z : List Value) (vs : List (Nat × Value)) (c : outParam (List Value)) : Prop where
  eq : (okL ps z.length vs) = true → fillL (pnth ps) z vs = some c
instance FillN.nil (ps : List (Nat × Nat)) (z : List Value) : FillN ps z [] z := ⟨fun _ => rfl⟩
instance FillN.cons (ps : List (Nat × Nat)) (z z' c l : List Value) (i off n : Nat) (v : Value) (r : List (Nat × Value)) [h1 : PlN ps i off n] [h2 : CellsN v l] [h3 : LayN z off l z'] [h4 : FillN ps z' r c] : FillN ps z ((i, v) :: r) c := ⟨fun h => by
  simp only [okL, h1.eq, Bool.and_eq_true] at h
  have hl : z'.length = z.length := by rw [← h3.eq, lay_length]
  simp only [fillL, h1.eq, h.1.1, h.1.2]
  rw [h2.eq, h3.eq]
  exact h4.eq (by rw [hl]; exact h.2)⟩

theorem fill_eq (pl : Nat → Option (Nat × Nat)) : ∀ (ps : List (Nat × Value)) (z c : List Value), fillL pl z ps = some c → Instr.fill pl z.toArray ps = some c.toArray
  | [], z, c, h => by simp only [fillL, Option.some.injEq] at h; simp [Instr.fill, h]
  | (i, v) :: r, z, c, h => by
    simp only [fillL] at h
    cases hp : pl i with
    | none => simp [hp] at h
    | some p =>
      obtain ⟨off, n⟩ := p
      simp only [hp] at h
      split at h
      · rename_i h1 h2
        have h1' : v.cells.size = n := by simpa using Nat.eq_of_beq_eq_true h1
        have h2' : off + n ≤ z.length := Nat.le_of_ble_eq_true h2
        simp only [Instr.fill, hp]
        rw [if_neg (by simp; omega)]
        have hf : v.cells.zipIdx.foldl (fun cs (c, j) => cs.setIfInBounds (off + j) c) z.toArray = (lay z off v.cells.toList).toArray := by
          apply Array.toList_inj.1
          have := fold_lay v.cells.toList 0 off z.toArray
          rw [← Array.foldl_toList, Array.toList_zipIdx]
          simpa using this
        rw [hf]
        exact fill_eq pl r _ c h
      · cases h

def evp (l : List (Nat × Value)) : List (Nat × Operand) → Option (List (Nat × Value))
  | [] => some []
  | (i, x) :: r => match ev l x, evp l r with
    | some v, some vs => some ((i, v) :: vs)
    | _, _ => none
theorem Agrees.mapp {l : List (Nat × Value)} {ρ : Operand → Value} (h : Agrees l ρ) : ∀ {xs : List (Nat × Operand)} {vs : List (Nat × Value)}, evp l xs = some vs → xs.map (fun (i, x) => (i, ρ x)) = vs
  | [], vs, e => by simp [evp] at e; simp [e]
  | (i, x) :: r, vs, e => by
    unfold evp at e
    cases hx : ev l x with
    | none => simp [hx] at e
    | some v =>
      cases hr : evp l r with
      | none => simp [hx, hr] at e
      | some us =>
        simp only [hx, hr, Option.some.injEq] at e
        rw [← e, List.map_cons, h.mapp hr]
        show (i, ρ x) :: us = _
        rw [h x v hx]

/-- How a struct or an array is built. -/
class Bld (P : Program) (t : TypeId) (z : outParam (List Value)) (ps : outParam (List (Nat × Nat))) : Prop where
  run : ∀ (vs : List (Nat × Value)) (c : List Value) w, fillL (pnth ps) z vs = some c → (Instr.build t vs.toArray).run P w = .ok (.agg c.toArray) w
inductive Szs (P : Program) : List Field → List (Nat × Nat) → Prop
  | nil : Szs P [] []
  | cons {f : Field} {n : Nat} {fs : List Field} {ps : List (Nat × Nat)} (h : ∀ w, (sizeOf f.type).run P w = .ok n w) (r : Szs P fs ps) : Szs P (f :: fs) ((f.offset, n) :: ps)
theorem Szs.run {P : Program} {fs : List Field} {ps : List (Nat × Nat)} (h : Szs P fs ps) (w : World) : (fs.mapM (m := Sem) fun f => do pure (f.offset, ← sizeOf f.type)).run P w = .ok ps w := by
  induction h with
  | nil => simp
  | cons h r ih => simp only [List.mapM_cons, Sem.run_bind, h, Result.andThen_ok, Sem.run_pure, ih]
theorem Bld.struct {P : Program} {t : TypeId} {fs : List Field} {ps : List (Nat × Nat)} {z : List Value} (hu : ∀ w, (underlying t).run P w = .ok (.struct fs.toArray) w) (hz : ∀ w, (zeroValue t).run P w = .ok (.agg z.toArray) w) (hs : Szs P fs ps) :
    Bld P t z ps := ⟨fun qs c w h => by
  have h' : Instr.fill (fun x => ps[x]?) z.toArray qs = some c.toArray := by
    rw [← fill_eq _ _ _ _ h]; congr 1; funext x; exact (pnth_eq ps x).symm
  have := hs.run w
  simp only [Instr.build, Sem.run_bind, hz, Result.andThen_ok, hu, List.mapM_toArray, Sem.run_map, this]
  simp only [Value.cells, List.getElem?_toArray, h', Sem.run_pure]⟩
theorem fillL_mono {pl pl' : Nat → Option (Nat × Nat)} (hp : ∀ i p, pl i = some p → pl' i = some p) : ∀ (vs : List (Nat × Value)) (z c : List Value), fillL pl z vs = some c → fillL pl' z vs = some c
  | [], _, _, h => h
  | (i, v) :: r, z, c, h => by
    simp only [fillL] at h ⊢
    cases hi : pl i with
    | none => simp [hi] at h
    | some p =>
      simp only [hi] at h
      simp only [hp i p hi]
      split at h
      · exact fillL_mono hp r _ _ h
      · cases h
def arrPl (sz : Nat) : List (Nat × Nat) → Nat → Bool
  | [], _ => true
  | (off, n) :: r, i => Nat.beq off (i * sz) && Nat.beq n sz && arrPl sz r (i + 1)
theorem arrPl_spec {sz : Nat} : ∀ {ps : List (Nat × Nat)} {k : Nat}, arrPl sz ps k = true → ∀ i p, pnth ps i = some p → p = ((k + i) * sz, sz)
  | [], _, _, i, p, e => by simp [pnth] at e
  | (off, n) :: r, k, h, 0, p, e => by
    simp only [arrPl, Bool.and_eq_true] at h
    simp only [pnth, Option.some.injEq] at e
    rw [← e, Nat.eq_of_beq_eq_true h.1.1, Nat.eq_of_beq_eq_true h.1.2]; simp
  | (off, n) :: r, k, h, i + 1, p, e => by
    simp only [arrPl, Bool.and_eq_true] at h
    have := arrPl_spec h.2 i p e
    rw [this]; congr 2; omega
theorem Bld.array {P : Program} {t e : TypeId} {n sz : Nat} {z : List Value} {ps : List (Nat × Nat)} (hu : ∀ w, (underlying t).run P w = .ok (.array n e) w) (hz : ∀ w, (zeroValue t).run P w = .ok (.agg z.toArray) w) (hs : ∀ w, (sizeOf e).run P w = .ok sz w) (hp : arrPl sz ps 0 = true) :
    Bld P t z ps := ⟨fun qs c w h => by
  have h' := fill_eq _ _ _ _ (fillL_mono (pl' := fun i => some (i * sz, sz)) (fun i p hi => by rw [arrPl_spec hp i p hi]; simp) qs z c h)
  simp only [Instr.build, Sem.run_bind, hz, Result.andThen_ok, hu, hs]
  simp only [Value.cells, h', Sem.run_pure]⟩

section
variable {P : Program} {w0 : World} {W : Nat → Prop} {Q : Exit → Act → World → Prop} {D : List Deferred} {ops : Array Oper} {n : Nat} {l : List (Nat × Value)} {hs : HS} {rest : List Oper}

theorem Pu.build {t : TypeId} {z c : List Value} {pl : List (Nat × Nat)} {ps : List (Nat × Operand)} {vs : List (Nat × Value)} [b : Bld P t z pl] (hp : evp l ps = some vs) (ho : okL pl z.length vs = true) [hf : FillN pl z vs c] : Pu P l (.build t ps.toArray) (.agg c.toArray) := fun ρ hρ o ho' w => by
  have h1 := b.run vs c w (hf.eq ho)
  have h2 : (ps.toArray.map fun (i, x) => (i, ρ x)) = vs.toArray := by simpa using congrArg List.toArray (hρ.mapp hp)
  simp only [execOp, ho', h2, Sem.run_bind, h1, Result.andThen_ok, Sem.run_pure]

/-- A composite, its cells given. -/
theorem Pu.buildR {t : TypeId} {z : List Value} {pl : List (Nat × Nat)} {ps : List (Nat × Operand)} {vs : List (Nat × Value)} [b : Bld P t z pl] (c : List Value) (hp : evp l ps = some vs) (hc : fillL (pnth pl) z vs = some c) : Pu P l (.build t ps.toArray) (.agg c.toArray) := fun ρ hρ o ho' w => by
  have h1 := b.run vs c w hc
  have h2 : (ps.toArray.map fun (i, x) => (i, ρ x)) = vs.toArray := by simpa using congrArg List.toArray (hρ.mapp hp)
  simp only [execOp, ho', h2, Sem.run_bind, h1, Result.andThen_ok, Sem.run_pure]

/-- The first part alone. -/
theorem fillL_first {ps : List (Nat × Nat)} {m : Nat} {z vs : List Value} (hn : vs.length = m) (hz : m ≤ z.length) : fillL (pnth ((0, m) :: ps)) z [(0, .agg vs.toArray)] = some (vs ++ z.drop m) := by
  subst hn
  have h1 : Nat.beq (Value.agg vs.toArray).cells.toList.length vs.length = true := by simp [Value.cells]
  have h2 : Nat.ble (0 + vs.length) z.length = true := Nat.ble_eq_true_of_le (by omega)
  simp only [fillL, pnth, h1, h2]
  rw [lay_eq _ _ _ (by simp [Value.cells]; omega)]
  simp [Value.cells]

/-- Values' cells, one behind the other. -/
def flat : List (Nat × Value) → List Value
  | [] => []
  | (_, v) :: r => v.cells.toList ++ flat r
class AppN (l c : List Value) (r : outParam (List Value)) : Prop where
  eq : l ++ c = r
instance AppN.nil (c : List Value) : AppN [] c c := ⟨rfl⟩
instance AppN.cons (x : Value) (l c r : List Value) [h : AppN l c r] : AppN (x :: l) c (x :: r) := ⟨by rw [List.cons_append, h.eq]⟩
instance (priority := 10) AppN.other (l c : List Value) : AppN l c (l ++ c) := ⟨rfl⟩
class FlatN (vs : List (Nat × Value)) (c : outParam (List Value)) : Prop where
  eq : flat vs = c
instance FlatN.nil : FlatN [] [] := ⟨rfl⟩
instance FlatN.cons (i : Nat) (v : Value) (r : List (Nat × Value)) (l c d : List Value) [h1 : CellsN v l] [h2 : FlatN r c] [h3 : AppN l c d] : FlatN ((i, v) :: r) d := ⟨by rw [flat, h1.eq, h2.eq, h3.eq]⟩
instance (priority := 10) FlatN.other (vs : List (Nat × Value)) : FlatN vs (flat vs) := ⟨rfl⟩
def inOrder (sz : Nat) : Nat → List (Nat × Value) → Bool
  | _, [] => true
  | k, (i, v) :: r => Nat.beq i k && Nat.beq v.cells.toList.length sz && inOrder sz (k + 1) r
theorem flat_length (sz : Nat) : ∀ (vs : List (Nat × Value)) (k : Nat), inOrder sz k vs = true → (flat vs).length = vs.length * sz
  | [], _, _ => by simp [flat]
  | (i, v) :: r, k, h => by
    simp only [inOrder, Bool.and_eq_true] at h
    have := flat_length sz r (k + 1) h.2
    have h2 := Nat.eq_of_beq_eq_true h.1.2
    simp only [flat, List.length_append, this, h2, List.length_cons, Nat.add_mul]; omega
theorem fill_all (sz : Nat) : ∀ (vs : List (Nat × Value)) (k : Nat) (pre z : List Value), inOrder sz k vs = true → pre.length = k * sz → z.length = vs.length * sz → Instr.fill (fun i => some (i * sz, sz)) (pre ++ z).toArray vs = some (pre ++ flat vs).toArray
  | [], k, pre, z, _, _, hz => by
    have : z = [] := List.length_eq_zero_iff.1 (by simpa using hz)
    simp [Instr.fill, flat, this]
  | (i, v) :: r, k, pre, z, h, hp, hz => by
    simp only [inOrder, Bool.and_eq_true] at h
    obtain rfl := Nat.eq_of_beq_eq_true h.1.1
    have h2 := Nat.eq_of_beq_eq_true h.1.2
    have hv : v.cells.size = sz := by simpa using h2
    simp only [List.length_cons, Nat.add_mul, Nat.one_mul] at hz
    simp only [Instr.fill]
    rw [if_neg (by simp; omega)]
    have hf : v.cells.zipIdx.foldl (fun cs (c, j) => cs.setIfInBounds (i * sz + j) c) (pre ++ z).toArray = (pre ++ v.cells.toList ++ z.drop sz).toArray := by
      apply Array.toList_inj.1
      have := fold_lay v.cells.toList 0 (i * sz) (pre ++ z).toArray
      rw [← Array.foldl_toList, Array.toList_zipIdx]
      rw [this, lay_eq _ _ _ (by simp; omega)]
      have e1 : (i * sz + 0 + v.cells.toList.length) = pre.length + sz := by rw [h2, hp]; omega
      rw [e1]
      have e2 : i * sz + 0 = pre.length := by omega
      rw [e2]
      simp
    rw [hf, fill_all sz r (i + 1) (pre ++ v.cells.toList) (z.drop sz) h.2 (by rw [List.length_append, hp, h2, Nat.add_mul]; omega) (by rw [List.length_drop]; omega)]
    simp [flat]

theorem TL.buildSlice' {t e : TypeId} {len sz d : Nat} {zv : Value} {ps : List (Nat × Operand)} {vs : List (Nat × Value)} {ty : TypeId} {pos : String} {af : Array Edge} [ut : Und P t (.slice e)] [se : Siz P e sz] [ze : Zero P e zv]
    (hp : evp l ps = some vs) (ho : inOrder sz 0 vs = true) (hl : vs.length = len) (hb : Nat.ble (len * sz) 16777216 = true) (hdn : Nat.blt d n = true)
    (k : ∀ b, TL P w0 W Q D ops n ((d, .slice (some ⟨b, 0, none⟩) len len) :: l) (⟨b, cel (flat vs) e, true⟩ :: hs) rest) : TL P w0 W Q D ops n l hs (⟨some d, .buildSlice t len ps.toArray, ty, pos, af, none⟩ :: rest) :=
  TL.mk (X := Nat) (v := fun b => .slice (some ⟨b, 0, none⟩) len len) (ks := fun b => ⟨b, cel (flat vs) e, true⟩ :: hs) rfl rfl hdn (fun ρ hρ w hw => by
    have h2 : (ps.toArray.map fun (i, x) => (i, ρ x)) = vs.toArray := by simpa using congrArg List.toArray (hρ.mapp hp)
    have hb' : ¬ len * sz > 2 ^ 24 := by have := Nat.le_of_ble_eq_true hb; omega
    refine ⟨w.heap.size, _, ?_, hw.alloc _⟩
    have hz : ∀ zc : Array Value, Instr.fill (fun i => some (i * sz, sz)) ((Array.range (len * sz)).map (zc[· % zc.size]!)) vs = some (flat vs).toArray := by
      intro zc
      have := fill_all sz vs 0 [] ((Array.range (len * sz)).map (zc[· % zc.size]!)).toList ho (by simp) (by simp [hl])
      simpa only [List.nil_append, Array.toArray_toList] using this
    by_cases h0 : len * sz = 0
    · simp only [execOp, h2, Instr.buildSlice, Sem.run_bind, ut.run, Result.andThen_ok, se.run, if_neg hb', if_pos h0, Sem.run_pure, hz, newRow, run_newObj]
    · simp only [execOp, h2, Instr.buildSlice, Sem.run_bind, ut.run, Result.andThen_ok, se.run, if_neg hb', if_neg h0, Sem.run_pure, ze.run, hz, newRow, run_newObj]) k

theorem TL.buildSlice {t e : TypeId} {len sz d : Nat} {zv : Value} {ps : List (Nat × Operand)} {vs : List (Nat × Value)} {c : List Value} {ty : TypeId} {pos : String} {af : Array Edge} [ut : Und P t (.slice e)] [se : Siz P e sz] [ze : Zero P e zv]
    (hp : evp l ps = some vs) (ho : inOrder sz 0 vs = true) (hl : vs.length = len) (hb : Nat.ble (len * sz) 16777216 = true) (hdn : Nat.blt d n = true) [fl : FlatN vs c]
    (k : ∀ b, TL P w0 W Q D ops n ((d, .slice (some ⟨b, 0, none⟩) len len) :: l) (⟨b, cel c e, true⟩ :: hs) rest) : TL P w0 W Q D ops n l hs (⟨some d, .buildSlice t len ps.toArray, ty, pos, af, none⟩ :: rest) := by
  rw [← fl.eq] at k; exact TL.buildSlice' hp ho hl hb hdn k

theorem Pu.slice_hi {t e : TypeId} {x h : Operand} {a : Option Addr} {len cap sz : Nat} {k : IntKind} {i : Int} [ut : Und P t (.slice e)] [se : Siz P e sz] (hx : ev l x = some (.slice a len cap)) (hh : ev l h = some (.int k i)) (h0 : 0 ≤ i) (h1 : i ≤ cap) :
    Pu P l (.slice t x none (some h) none) (.slice a i.toNat cap) := fun ρ hρ o ho w => by
  have ha : (a.map fun y => y.add 0) = a := by cases a <;> simp [Addr.add]
  simp [execOp, ho, hρ x _ hx, hρ h _ hh, Instr.sliceAt, Instr.slice, Instr.sliceBounds, Instr.sliceBound, asIntOf, ut.run, se.run, h0, h1, ha]
theorem Pu.slice_lo {t e : TypeId} {x y : Operand} {b o len cap sz : Nat} {k : IntKind} {i : Int} [ut : Und P t (.slice e)] [se : Siz P e sz] (hx : ev l x = some (.slice (some ⟨b, o, none⟩) len cap)) (hy : ev l y = some (.int k i)) (h0 : 0 ≤ i) (h1 : i ≤ len) :
    Pu P l (.slice t x (some y) none none) (.slice (some ⟨b, if cap = i.toNat then o else o + i.toNat * sz, none⟩) (len - i.toNat) (cap - i.toNat)) := fun ρ hρ o' ho w => by
  simp [execOp, ho, hρ x _ hx, hρ y _ hy, Instr.sliceAt, Instr.slice, Instr.sliceBounds, Instr.sliceBound, asIntOf, ut.run, se.run, h0, h1, Addr.add_plain]
  split <;> simp
theorem Pu.slice_lohi {t e : TypeId} {x y h : Operand} {b o len cap sz : Nat} {k k' : IntKind} {i j : Int} [ut : Und P t (.slice e)] [se : Siz P e sz] (hx : ev l x = some (.slice (some ⟨b, o, none⟩) len cap)) (hy : ev l y = some (.int k i)) (hh : ev l h = some (.int k' j))
    (h0 : 0 ≤ i) (h1 : i ≤ j) (h2 : j ≤ cap) :
    Pu P l (.slice t x (some y) (some h) none) (.slice (some ⟨b, if cap = i.toNat then o else o + i.toNat * sz, none⟩) (j.toNat - i.toNat) (cap - i.toNat)) := fun ρ hρ o' ho w => by
  have h3 : 0 ≤ j := by omega
  have h4 : i ≤ max j 0 := by omega
  simp [execOp, ho, hρ x _ hx, hρ y _ hy, hρ h _ hh, Instr.sliceAt, Instr.slice, Instr.sliceBounds, Instr.sliceBound, asIntOf, ut.run, se.run, h0, h2, h3, h4, Addr.add_plain]
  split <;> simp
/-- The whole of an array, through its address. -/
theorem Pu.slice_arr {t e : TypeId} {x : Operand} {b o len sz : Nat} [ut : Und P t (.array len e)] [se : Siz P e sz] (hx : ev l x = some (.pointer (some ⟨b, o, none⟩))) :
    Pu P l (.slice t x none none none) (.slice (some ⟨b, o, none⟩) len len) := fun ρ hρ o' ho w => by
  simp [execOp, ho, hρ x _ hx, Instr.sliceAt, Instr.sliceBounds, ut.run, se.run, Instr.sureAddr, Addr.add]

/-- An element of an array that lies in no variable. -/
theorem Pu.index {t e : TypeId} {x y : Operand} {len sz m : Nat} {cs r : List Value} {k : IntKind} {i : Int} [ut : Und P t (.array len e)] [se : Siz P e sz] [ia : IsAgg P e true] (hx : ev l x = some (.agg cs.toArray)) (hy : ev l y = some (.int k i)) (h0 : 0 ≤ i) (h1 : i < len) (hm : i.toNat * sz = m) [cn : CutN cs m sz r] :
    Pu P l (.index t x y) (.agg r.toArray) := fun ρ hρ o' ho w => by
  rw [← cn.eq, ← hm]
  simp [execOp, ho, hρ x _ hx, hρ y _ hy, Instr.index, asIntOf, ut.run, se.run, h0, h1, part, ia.run, cut, List.extract]
theorem Pu.index1 {t e : TypeId} {x y : Operand} {len : Nat} {cs : List Value} {k : IntKind} {i : Int} {v : Value} [ut : Und P t (.array len e)] [se : Siz P e 1] [ia : IsAgg P e false] (hx : ev l x = some (.agg cs.toArray)) (hy : ev l y = some (.int k i)) (h0 : 0 ≤ i) (h1 : i < len) (hv : cs[i.toNat]? = some v) :
    Pu P l (.index t x y) v := fun ρ hρ o' ho w => by
  simp [execOp, ho, hρ x _ hx, hρ y _ hy, Instr.index, asIntOf, ut.run, se.run, h0, h1, part, ia.run, hv]

/-- '[]byte' of a constant: its row's end is marked as a string's. -/
theorem TL.mark {t e : TypeId} {x : Operand} {b len cap d : Nat} {c : List Value} {r : HS} {ty : TypeId} {pos : String} {af : Array Edge} [ut : Und P t (.slice e)] [ue : Und P e (.int .u8)]
    (hx : ev l x = some (.slice (some ⟨b, 0, none⟩) len cap)) (tk : Take hs b (cel c e) r) (hdn : Nat.blt d n = true)
    (k : TL P w0 W Q D ops n ((d, .slice (some ⟨b, 0, none⟩) len cap) :: l) (⟨b, .cells c.toArray e (c.length, c.length + 1), true⟩ :: r) rest) :
    TL P w0 W Q D ops n l hs (⟨some d, .convert t t x, ty, pos, af, none⟩ :: rest) :=
  TL.mk (X := Unit) (v := fun _ => .slice (some ⟨b, 0, none⟩) len cap) (ks := fun _ => ⟨b, .cells c.toArray e (c.length, c.length + 1), true⟩ :: r) rfl rfl hdn (fun ρ hρ w hw => by
    have hb := (hw.perm tk.perm).held.at_ _ List.mem_cons_self
    simp only at hb
    refine ⟨(), w.freeze ⟨b, c.length, none⟩ 1, ?_, ?_⟩
    · simp [execOp, hρ x _ hx, convert, ut.run, ue.run, markStringish, World.shape?, hb]
    · refine hw.setObj (o := cel c e) _ (by simp [World.freeze]) rfl rfl rfl ?_ ?_
      · simp [World.freeze, Array.getElem?_modify, hb]
      · intro k hk
        simp only [World.freeze, Nat.one_ne_zero, if_false, Array.getElem?_modify]
        rw [if_neg (fun hh => hk hh.symm)]) (fun _ => k)

end
end Go.Sl
