/-
  The small logic: deferred calls, recover, interfaces against nil, type assertions, strings of bytes. Holds under no condition.
-/
import Derived.Test.YtebllgcaenpdgaaSlSeg
import Derived.Recover
set_option linter.all false
namespace Go.Sl
open Go

section
variable {P : Program} {w0 : World} {W : Nat → Prop} {Q : Exit → Act → World → Prop} {D : List Deferred} {ops : Array Oper} {n : Nat} {l : List (Nat × Value)} {hs : HS} {rest : List Oper}

theorem run_equal_nil {t : TypeId} {ms : Array (String × TypeId)} [ut : Und P t (.interface ms)] (w : World) (d : Nat) : (Op.equalIn (d + 1) t .nilIface .nilIface).run P w = .ok true w := by
  simp [Op.equalIn, ut.run]
theorem run_equal_ifn {t tx : TypeId} {v : Value} {ms : Array (String × TypeId)} [ut : Und P t (.interface ms)] (w : World) (d : Nat) : (Op.equalIn (d + 1) t (.iface tx v) .nilIface).run P w = .ok false w := by
  simp [Op.equalIn, ut.run]
theorem run_nilNe_f {t : TypeId} {ms : Array (String × TypeId)} [ut : Und P t (.interface ms)] (w : World) : (binOp .neq t .nilIface .nilIface).run P w = .ok (.bool false) w := by
  simp only [binOp]
  simp [Op.equal, Op.maxDepth, run_equal_nil (P := P) (t := t) w 9999]
theorem run_nilNe_t {t tx : TypeId} {v : Value} {ms : Array (String × TypeId)} [ut : Und P t (.interface ms)] (w : World) : (binOp .neq t (.iface tx v) .nilIface).run P w = .ok (.bool true) w := by
  simp only [binOp]
  simp [Op.equal, Op.maxDepth, run_equal_ifn (P := P) (t := t) (tx := tx) (v := v) w 9999]
theorem run_strNe {t : TypeId} {a b : ByteArray} (w : World) : (binOp .neq t (.string a) (.string b)).run P w = .ok (.bool (!(a.toList == b.toList))) w := by
  simp only [binOp]
  simp [Op.stringOp]
theorem run_strEq {t : TypeId} {a b : ByteArray} (w : World) : (binOp .eql t (.string a) (.string b)).run P w = .ok (.bool (a.toList == b.toList)) w := by
  simp only [binOp]
  simp [Op.stringOp]
theorem Pu.nilNe_f {t u : TypeId} {x : Operand} {ms : Array (String × TypeId)} [ut : Und P t (.interface ms)] (hx : ev l x = some .nilIface) : Pu P l (.binOp .neq t x (.const .nilIface) u) (.bool false) := fun ρ hρ o ho w => by
  simp [execOp, ho, hρ x _ hx, hρ (.const .nilIface) .nilIface rfl, eqGuard, run_nilNe_f]
theorem Pu.nilNe_t {t u tx : TypeId} {x : Operand} {v : Value} {ms : Array (String × TypeId)} [ut : Und P t (.interface ms)] (hx : ev l x = some (.iface tx v)) : Pu P l (.binOp .neq t x (.const .nilIface) u) (.bool true) := fun ρ hρ o ho w => by
  simp [execOp, ho, hρ x _ hx, hρ (.const .nilIface) .nilIface rfl, eqGuard, run_nilNe_t]
theorem Pu.strNe {t u : TypeId} {x y : Operand} {a b : ByteArray} (hx : ev l x = some (.string a)) (hy : ev l y = some (.string b)) : Pu P l (.binOp .neq t x y u) (.bool (!(a.toList == b.toList))) := fun ρ hρ o ho w => by
  simp [execOp, ho, hρ x _ hx, hρ y _ hy, eqGuard, run_strNe]
theorem Pu.strEq {t u : TypeId} {x y : Operand} {a b : ByteArray} (hx : ev l x = some (.string a)) (hy : ev l y = some (.string b)) : Pu P l (.binOp .eql t x y u) (.bool (a.toList == b.toList)) := fun ρ hρ o ho w => by
  simp [execOp, ho, hρ x _ hx, hρ y _ hy, eqGuard, run_strEq]
theorem run_equal_sl {t e : TypeId} {a : Option Addr} {m c : Nat} [ut : Und P t (.slice e)] (w : World) (d : Nat) : (Op.equalIn (d + 1) t (.slice a m c) (.slice none 0 0)).run P w = .ok a.isNone w := by
  cases a <;> simp [Op.equalIn, ut.run]
theorem run_slNil {t e : TypeId} {a : Option Addr} {m c : Nat} [ut : Und P t (.slice e)] (w : World) : (binOp .eql t (.slice a m c) (.slice none 0 0)).run P w = .ok (.bool a.isNone) w := by
  simp only [binOp]
  simp [Op.equal, Op.maxDepth, run_equal_sl (P := P) (t := t) (a := a) (m := m) (c := c) w 9999]
theorem Pu.slNil {t u e : TypeId} {x : Operand} {a : Option Addr} {m c : Nat} [ut : Und P t (.slice e)] (hx : ev l x = some (.slice a m c)) : Pu P l (.binOp .eql t x (.const (.slice none 0 0)) u) (.bool a.isNone) := fun ρ hρ o ho w => by
  simp [execOp, ho, hρ x _ hx, hρ (.const (.slice none 0 0)) _ rfl, eqGuard, run_slNil]
theorem Pu.assertOk {t u : TypeId} {d : TypeDesc} {x : Operand} {v : Value} [ut : Und P u d] (hd : notIface d = true) (hx : ev l x = some (.iface u v)) : Pu P l (.typeAssert x t u true) (.tuple #[v, .bool true]) := fun ρ hρ o ho w => by
  cases d <;> simp [notIface] at hd <;> simp [execOp, ho, hρ x _ hx, Instr.typeAssert, ut.run]

def u8v (x : Int) : Value := .int .u8 x
def bytesOf (xs : List Int) : ByteArray := ⟨(xs.map fun n => UInt8.ofNat n.toNat).toArray⟩
theorem run_push {g : Value → ByteArray → Sem (ForInStep ByteArray)} (hg : ∀ n s, g (.int .u8 n) s = pure (.yield (s.push (UInt8.ofNat n.toNat)))) (w : World) : ∀ (xs : List Int) (s : ByteArray),
    (forIn (m := Sem) (xs.map u8v) s g).run P w = .ok ⟨s.data ++ (xs.map fun n => UInt8.ofNat n.toNat).toArray⟩ w
  | [], s => by simp
  | x :: xs, s => by
    have := run_push hg w xs (s.push (UInt8.ofNat x.toNat))
    rw [List.map_cons, List.forIn_cons]
    rw [show u8v x = .int .u8 x from rfl, hg]
    simp only [Sem.run_bind, Sem.run_pure, Result.andThen_ok]
    rw [this]
    simp [ByteArray.push]
theorem Rd.str {t u e : TypeId} {x : Operand} {v : Value} {m : Nat} {xs : List Int} [ut : Und P t (.slice e)] [uu : Und P u .string] [ue : Und P e (.int .u8)] (hx : ev l x = some v) (hS : Src hs 1 v m (xs.map u8v)) :
    Rd P l hs (.convert t u x) (.string (bytesOf xs)) := fun ρ hρ o ho w hw => by
  cases hS with
  | nil h1 h2 h3 =>
    subst h1
    have : xs = [] := by simpa using h3
    subst this
    simp [execOp, ho, hρ x _ hx, convert, ut.run, uu.run, ue.run, Conv.bytesToString, bytesOf]; rfl
  | @zero a cap h1 h2 h3 =>
    subst h1
    have : xs = [] := by simpa using h3
    subst this
    simp [execOp, ho, hρ x _ hx, convert, ut.run, uu.run, ue.run, Conv.bytesToString, bytesOf, loadCells, loadCellsFrom]; rfl
  | @row b off cap c t' z r h1 h2 h3 h4 =>
    subst h1
    have hb := hw.at_ _ h2.mem
    have hl := run_loadCells (P := P) hb m off 0 #[] (by omega)
    have h4' : (c.drop off).take m = xs.map u8v := by rw [h4]; simp [cut]
    simp only [Nat.add_zero, h4'] at hl
    simp only [execOp, ho, hρ x _ hx, convert, Sem.run_bind, ut.run, uu.run, ue.run, Result.andThen_ok, Conv.bytesToString, loadCells, hl, Array.empty_append, Array.forIn_toList, List.forIn_toArray]
    rw [run_push (P := P) (fun n s => rfl)]
    have he : ByteArray.empty.data = #[] := rfl
    simp [bytesOf, he]

theorem TL.defer {F : Operand} {xs : List Operand} {fn : Fn} {us vs cs : List Value} {dst : Option Tmp} {ts : Array TypeId} {ty : TypeId} {pos : String} {af : Array Edge}
    (hF : ev l F = some (.func fn us.toArray cs.toArray)) (ha : evs l xs = some vs) (hd : dst = none)
    (k : TL P w0 W Q ({ target := .fn fn cs.toArray, args := (us ++ vs).toArray } :: D) ops n l hs rest) :
    TL P w0 W Q D ops n l hs (⟨dst, .defer { callee := .value F, args := xs.toArray, argTypes := ts }, ty, pos, af, none⟩ :: rest) := fun a w hk hw => by
  subst hd
  refine wpList_plain rfl (fun K hK => ?_)
  have hr : (execOp a.eval ⟨none, .defer { callee := .value F, args := xs.toArray, argTypes := ts }, ty, pos, af, none⟩).run P w = .ok (.defer { target := .fn fn cs.toArray, args := (us ++ vs).toArray }) w := by
    simp [execOp, resolve, hk.eval hF, hk.agrees.map ha, Deferred.ofValue]
  simp only [Oper.wp, hr, Oper.upon]
  exact hK _ _ (k _ w ⟨hk.size, by simp [Act.put, hk.defers], fun t v e => hk.slot t v e⟩ hw)

theorem range_map_one (z : Value) (m : Nat) : ((Array.range m).map fun i => (#[z] : Array Value)[i % (#[z] : Array Value).size]!) = (List.replicate m z).toArray := by
  apply Array.toList_inj.1
  simp only [Array.toList_map, List.toList_toArray]
  apply List.ext_getElem
  · simp
  · intro i h1 h2
    simp [Nat.mod_one]
/-- A new slice of one-cell elements. -/
theorem TL.makeSlice {t e : TypeId} {x y : Operand} {d m bytes : Nat} {zv : Value} {ty : TypeId} {pos : String} {af : Array Edge} [ut : Und P t (.slice e)] [se : Siz P e 1] [ze : Zero P e zv] [by_ : Byt P e bytes]
    (hx : ev l x = some (.int .i64 (m : Int))) (hy : ev l y = some (.int .i64 (m : Int))) (hz : zv.cells = #[zv]) (hm : Nat.ble m 16777216 = true) (hb : Nat.ble bytes 1024 = true) (hdn : Nat.blt d n = true)
    (k : ∀ b, TL P w0 W Q D ops n ((d, .slice (some ⟨b, 0, none⟩) m m) :: l) (⟨b, cel (List.replicate m zv) e, true⟩ :: hs) rest) : TL P w0 W Q D ops n l hs (⟨some d, .makeSlice t x y, ty, pos, af, none⟩ :: rest) := by
  obtain ⟨ti, hti, htb⟩ := by_.run
  refine TL.mk (X := Nat) (v := fun b => .slice (some ⟨b, 0, none⟩) m m) (ks := fun b => ⟨b, cel (List.replicate m zv) e, true⟩ :: hs) rfl rfl hdn (fun ρ hρ w hw => ?_) k
  have hm' : m ≤ 16777216 := Nat.le_of_ble_eq_true hm
  have hb' : bytes ≤ 1024 := Nat.le_of_ble_eq_true hb
  have hw1 : IntKind.i64.wrap (m : Int) = (m : Int) := IntWalk.i64_in _ (by omega)
  have h1 : bytes * m ≤ 17179869184 := Nat.le_trans (Nat.mul_le_mul hb' hm') (by decide)
  have h2 : ¬ ((bytes : Int) * (m : Int) > 2 ^ 48) := by
    have h4 := Int.ofNat_le.2 h1
    rw [Int.natCast_mul] at h4; omega
  have h3 : ¬ ((m : Int) < 0) := by omega
  refine ⟨w.heap.size, _, ?_, hw.alloc _⟩
  have hrow : (newRow e ((Array.range m).map fun i => (#[zv] : Array Value)[i % (#[zv] : Array Value).size]!)).run P w = .ok ⟨w.heap.size, 0, none⟩ { w with heap := w.heap.push (cel (List.replicate m zv) e) } := by
    rw [range_map_one]; simp only [newRow, run_newObj, Sem.run_bind, Result.andThen_ok, Sem.run_pure]
  have hask : (askRoom ((m : Int).toNat * bytes)).run P w = .ok () w := by
    have : ¬ (m * bytes > roomBytes) := by rw [Nat.mul_comm]; unfold roomBytes; omega
    simp [askRoom, this]
  by_cases h0 : m = 0
  · subst h0
    simp only [execOp, hρ x _ hx, hρ y _ hy, Instr.makeSlice, Sem.run_bind, ut.run, Result.andThen_ok, asInt, asIntOf, Sem.run_pure, hti, htb, hw1, h2, h3, hask, se.run]
    simp [newRow, run_newObj, h2, se.run, show Array.range 0 = #[] from rfl]
  · simp only [execOp, hρ x _ hx, hρ y _ hy, Instr.makeSlice, Sem.run_bind, ut.run, Result.andThen_ok, asInt, asIntOf, Sem.run_pure, hti, htb, hw1, se.run]
    have h5 : ¬ ((281474976710656 : Int) < bytes * m) := by intro h; exact h2 h
    have h6 : (Array.range m).map (fun _ => zv) = Array.replicate m zv := by
      apply Array.ext <;> simp
    simp [h5, h3, h0, hask, ze.run, hz, newRow, run_newObj, Nat.mod_one, se.run, h6]
    rw [show (Array.replicate m zv) = (List.replicate m zv).toArray by apply Array.toList_inj.1; simp]

/-- The whole of a block. -/
theorem TL.storeAll {t : TypeId} {x y : Operand} {b m : Nat} {c vs : List Value} {e : TypeId} {ks : HS} {ty : TypeId} {pos : String} {af : Array Edge} [sz : Siz P t m]
    (hx : ev l x = some (.pointer (some ⟨b, 0, none⟩))) (hy : ev l y = some (.agg vs.toArray)) (hm : vs.length = m) (h1 : vs.all one = true) (tk : Take hs b (cel c e) ks) (hl : c.length = m)
    (k : TL P w0 W Q D ops n l (⟨b, cel vs e, true⟩ :: ks) rest) : TL P w0 W Q D ops n l hs (⟨none, .store t x y, ty, pos, af, none⟩ :: rest) := by
  have hlay : lay c 0 vs = vs := by
    rw [lay_eq _ _ _ (by omega)]
    simp; omega
  refine TL.storeA' hx hy hm h1 tk (Nat.ble_eq_true_of_le (by omega)) ?_
  rw [hlay]; exact k

/-! ### deferred calls -/
/-- What a deferred call comes to, said of the blocks that it was handed. -/
def FnDf (P : Program) (f : FuncId) (args : List Value) (u : FrameMode) (hs : HS) (R : Ending → FrameMode → HS → Prop) : Prop :=
  ∀ w, Held hs w → CallsD P f args.toArray u w (fun e u' w' => Lift (fun e ks => R e u' ks) hs w e w')

/-- What 'recover' gives, by how the caller goes, and how it goes on. -/
inductive Rec : FrameMode → Value → FrameMode → Prop
  | ret : Rec .returning .nilIface .returning
  | pan (v : Value) (older : List PanicEntry) : Rec (.panicking ({ v := v, recovered := false } :: older)) v (.panicking ({ v := v, recovered := true } :: older))

theorem Rec.spec {u u' : FrameMode} {v : Value} (h : Rec u v u') (c : Frame) (cs : List Frame) (hu : c.mode = u) :
    (recoverD (c :: cs) = some (v, { c with mode := u' } :: cs)) ∨ (recoverD (c :: cs) = none ∧ v = .nilIface ∧ ({ c with mode := u' } : Frame) = c) := by
  cases h with
  | ret => exact .inr ⟨by simp [recoverD, hu], rfl, by rw [← hu]⟩
  | pan v older => exact .inl (by simp [recoverD, hu])

/-- A deferred function that begins with 'x := recover()'. -/
theorem FnDf.enter {f : FuncId} {fn : Func} {i d d2 : Nat} {y : Code} {vs : List Value} {u u' : FrameMode} {v : Value} {R : Ending → FrameMode → HS → Prop} {ts ts' : TypeId} {pos pos' : String} {af af' : Array Edge} (hf : P.funcs[f]? = some fn)
    (hb : fn.body = some (.seq (.region i [⟨some d, .call { callee := .builtin .recover, args := #[], argTypes := #[] }, ts, pos, af, none⟩, ⟨some d2, .assign (.tmp d), ts', pos', af', none⟩].toArray false) y))
    (hn : fn.ntmps = n) (hl : Nat.ble vs.length n = true) (hd : Nat.blt d n = true) (hd2 : Nat.blt d2 n = true) (hr : Rec u v u')
    (k : ∀ w, TC P w (wr hs) (bodyPost P fn (Lift (fun e ks => R e u' ks) hs w)) [] n ((d2, v) :: (d, v) :: enum 0 vs) hs y) : FnDf P f vs u hs R := fun w hw => by
  refine callsD_of_wpS hf hb (fun c₀ cs hu => ?_)
  subst hn
  refine wpS_seq (wpS_region ?_)
  have hk0 := Knows.start vs fn.ntmps (Nat.le_of_ble_eq_true hl)
  generalize hA : ({ tmps := vs.toArray ++ Array.replicate (fn.ntmps - vs.toArray.size) undef, defers := [] } : Act) = A at hk0 ⊢
  have hk1 := hk0.put (v := v) hd
  have hk2 := hk1.put (v := v) hd2
  have hgo := k w _ w hk2 ⟨Frm.refl _ _, hw, fun e he hr => .inl ⟨e, he, hr, rfl⟩⟩
  have hfin : (y.wpS P (bodyPostS P fn c₀ cs (fun e u' w' => Lift (fun e ks => R e u' ks) hs w e w'))) ((A.put (some d) v).put (some d2) v) ({ c₀ with mode := u' } :: cs) w := by
    refine wpS_of_wp (wp_mono hgo (fun e a' w' hq => ?_))
    cases e with
    | normal => obtain ⟨h1, x, h2, h3⟩ := hq; exact ⟨h1, u', rfl, x, h2, h3⟩
    | ret => obtain ⟨h1, x, h2, h3⟩ := hq; exact ⟨h1, u', rfl, x, h2, h3⟩
    | panic ch => obtain ⟨h1, h3⟩ := hq; exact ⟨h1, u', rfl, h3⟩
    | outgrown => exact ⟨u', hq⟩
    | _ => exact hq.elim
  have hev : (A.put (some d) v).eval (.tmp d) = v := hk1.eval (by simp [ev, look])
  have hexec : (execOp A.eval ⟨some d, .call { callee := .builtin .recover, args := #[], argTypes := #[] }, ts, pos, af, none⟩).run P w = .ok .recover w := by
    simp [execOp, resolve, invoke, builtin]
  have hexec2 : (execOp (A.put (some d) v).eval ⟨some d2, .assign (.tmp d), ts', pos', af', none⟩).run P w = .ok (.value v) w := by
    simp [execOp, hev]
  rcases hr.spec c₀ cs hu with h | ⟨h, hv, hm⟩
  · simp only [List.size_toArray, List.length_cons, List.length_nil, List.range, List.range.loop, wpOpsS, List.getElem?_toArray, List.getElem?_cons_zero, List.getElem?_cons_succ, Region.wanted, if_true, hexec, h, hexec2, Oper.upon]
    exact hfin
  · rw [hm] at hfin
    subst hv
    simp only [List.size_toArray, List.length_cons, List.length_nil, List.range, List.range.loop, wpOpsS, List.getElem?_toArray, List.getElem?_cons_zero, List.getElem?_cons_succ, Region.wanted, if_true, hexec, h, hexec2, Oper.upon]
    exact hfin

/-- A function that defers. -/
theorem FnE.enterD {f : FuncId} {fn : Func} {c : Code} {vs : List Value} {R : Ending → HS → Prop} (hf : P.funcs[f]? = some fn) (hb : fn.body = some c) (hn : fn.ntmps = n) (hl : Nat.ble vs.length n = true)
    (k : ∀ w, TC P w (wr hs) (bodyPostD P fn (Lift R hs w)) [] n (enum 0 vs) hs c) : FnE P f vs.toArray hs R := fun w hw => by
  refine calls_of_wp_defers hf hb ?_
  subst hn
  exact k w _ w (Knows.start vs fn.ntmps (Nat.le_of_ble_eq_true hl)) ⟨Frm.refl _ _, hw, fun e he hr => .inl ⟨e, he, hr, rfl⟩⟩

/-- One deferred call is left, and the frame returns behind it. -/
theorem AQ.leave {R : Ending → HS → Prop} {Rd : Ending → FrameMode → HS → Prop} {hs0 ks r : HS} {fn : Func} {rs : List ResultVar} {f : FuncId} {as us vs : List Value} {u : FrameMode} {e : Exit} [Fun P f] (hu : (e = .ret ∧ u = .returning) ∨ (e = .normal ∧ u = .returning) ∨ (∃ ch, e = .panic ch ∧ u = .panicking ch))
    (has : vs ++ us = as) (hc : FnDf P f as u ks Rd) (g : Gives hs ks r) (hr : fn.results = rs.toArray)
    (k : ∀ e' u' js, Rd e' u' js → ∃ v xs k2, e' = .returned v ∧ settle u' = .returning ∧ ResV P l (js ++ r) rs xs ∧ R (.returned (tup xs)) k2 ∧ KSub (js ++ r) k2) :
    AQ w0 (wr hs0) (bodyPostD P fn (Lift R hs0 w0)) [{ target := .fn (.func f) us.toArray, args := vs.toArray }] n l hs e := fun a w hk hw => by
  have key : Leaves P fn a.tmps (Lift R hs0 w0) a.defers u w := by
    rw [hk.defers]
    refine leaves_cons (f := f) (args := as.toArray) ?_ ?_ ?_
    · rcases hu with ⟨_, h⟩ | ⟨_, h⟩ | ⟨ch, _, h⟩ <;> subst h <;> simp
    · subst has
      simp [invoke, (inferInstance : Fun P f).run]
    · refine (hc w (g.spec hw).1).mono ?_
      rintro e' u' w' ⟨hne, js, hR, hf, hj, ho⟩
      have hb := g.back hw hf hj ho
      obtain ⟨v, xs, k2, h1, h2, h3, h4, h5⟩ := k e' u' js hR
      subst h1
      show Leaves P fn a.tmps (Lift R hs0 w0) [] (settle u') w'
      rw [h2]
      obtain ⟨i1, i2, _⟩ := h5.hd hb
      exact ⟨_, h3.results hk hb.held hr, by simp, k2, h4, hb.frm, i1.held, fun x hx => i1.own x hx (i2 x hx)⟩
  rcases hu with ⟨rfl, rfl⟩ | ⟨rfl, rfl⟩ | ⟨ch, rfl, rfl⟩ <;> exact key
end
end Go.Sl
