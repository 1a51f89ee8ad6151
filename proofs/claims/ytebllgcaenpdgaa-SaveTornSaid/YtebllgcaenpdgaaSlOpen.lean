/-
  The small logic and the rows: a law's statement out of a contract over what is only read; arguments opened by their leaves. Holds under no condition.
-/
import Derived.Test.YtebllgcaenpdgaaSlDefer
import Derived.ProofKit
set_option linter.all false
namespace Go.Sl
open Go Go.ChangeShapes Go.WideShapes Go.RowKit

theorem below_of {hs : HS} {W W' : World} (h : Frm (wr hs) W W') (hro : ∀ e ∈ hs, e.rw = false) : Below W.heap.size W W' :=
  ⟨h.os, h.tape, h.output, h.size, fun k hk => h.block k hk (fun ⟨e, he, hr, _⟩ => by rw [hro e he] at hr; cases hr)⟩

section
variable {H : Type} {enc : TypeId × Value → H} {P : Program}

theorem trodAll_below (hl : laidOutB P = true) {W W' : World} (hb : Below W.heap.size W W') {sp : Nat → Bool} : ∀ {ts : List TypeId} {vs : List Value} {ds : List (DataW H)} {ps : List MemPlace},
    (ts.all fun t => P.readableRec t && decide (t < P.types.size)) = true → DataW.TrodAll enc P W 0 (fun _ => true) true ts vs ds ps → (∀ x ∈ ps, x.block < W.heap.size) → (∀ x ∈ ps, sp x.block = true) →
    DataW.TrodAll enc P W' 0 sp true ts vs ds ps
  | [], vs, ds, ps, _, h, _, _ => by
    obtain ⟨rfl, rfl, rfl⟩ := trodAll_nil h
    exact trodAll_mk0
  | t :: ts, vs, ds, ps, ht, h, hlt, hsp => by
    obtain ⟨v, vs', d, ds', p, q, rfl, rfl, rfl, h1, h2⟩ := trodAll_cons h
    simp only [List.all_cons, Bool.and_eq_true, decide_eq_true_eq] at ht
    exact ⟨p, q, WideElems.Trod_stays hl ht.1.1 ht.1.2 h1 (fun x hx => hb.same (hlt x (List.mem_append_left _ hx))) (fun x hx => hsp x (List.mem_append_left _ hx)),
      trodAll_below hl hb (by simpa using ht.2) h2 (fun x hx => hlt x (List.mem_append_right _ hx)) (fun x hx => hsp x (List.mem_append_right _ hx)), rfl⟩

/-- A law's statement, lifted: the call answers true and only reads. -/
theorem law_lifted {C : Checked} {os : Os} {f : FuncId} {fn : Func} {s : ChangeSpec} (own : ownKnob C.prog.godebug = none) (started : os.Started) (noInit : C.prog.inits.idxOf? f = none) (hfn : C.prog.funcs[f]? = some fn)
    (witness : ∃ (w : World) (tape : Tape) (i : Input), w.os = os ∧ (w.forCall tape i).Shaped C.prog ∧ i.vars = [] ∧ Input.okWide C.prog (w.forCall tape i) .any w.heap.size f i ∧
      s.pre6 enc C.prog fn [] false (w.forCall tape i).memory i.args ∧ Assume.holds {} C.prog (lone (Frame.enter C.prog f i.args .normal) [] (w.forCall tape i)))
    (hv : s.vars = []) (hl : laidOutB C.prog = true) (hr : (fn.params.toList.all fun t => C.prog.readableRec t && decide (t < C.prog.types.size)) = true) {t : TypeId} (hres : fn.resultTypes = #[t]) (ht : C.prog.underlying t = some .bool)
    (contract : ∀ (W : World) (base : Nat) (args : Array Value) (ds : List (DataW H)) (p : List MemPlace), (∀ (j : Nat) t v, fn.params[j]? = some t → args[j]? = some v → Value.okWide C.prog W .any base t v) →
      DataW.TrodAll enc C.prog W 0 (fun _ => true) true fn.params.toList args.toList ds p →
      s.fn H (ds ++ []) = { results := [.lit (.bool true)], args := ds } ∧ ∃ hs, (∀ e ∈ hs, e.rw = false) ∧ Held hs W ∧ FnE C.prog f args hs (fun e j => e = .returned (.bool true) ∧ j = [])) :
    ReturnsInHanded {} C os f .any (s.pre6 enc C.prog fn [] false) (s.post enc C.prog fn false true false false) := by
  refine returnsInHanded_of_change own started noInit hfn witness ?_
  intro W base args ds gs before hval hW _ _
  have hW0 := hW
  obtain ⟨p, q, hA, hV, rfl, hfz, hnd⟩ := hW
  rw [hv] at hV
  obtain ⟨rfl, rfl⟩ := trodVars_none hV
  obtain ⟨hs, hblocks, hro, hheld, hcall⟩ := contract W base args ds p hval hA
  refine (hcall W hheld).mono ?_
  rintro e W' ⟨_, ks, ⟨rfl, rfl⟩, hfrm, _, _⟩
  have hb := below_of hfrm hro
  have hlt : ∀ x ∈ p, x.block < W.heap.size := fun x hx => by simpa using hW0.lt x (by simpa using hx)
  refine ⟨_, rfl, ds, [], p ++ [], [], p, [], hW0, ?_, ?_, ?_, hb.frame _, fun h => by cases h⟩
  · rw [hs, hres]
    exact trodAll_mk1 (shut_bool ht true)
  · rw [hs]
    exact trodAll_below hl hb hr hA hlt (fun x hx => by simpa using hlt x hx)
  · rw [hv, hs]
    exact rfl

/-! ### leaves -/
inductive LK | i (k : IntKind) | b | s (e : TypeId)
def LKty (P : Program) (u : TypeId) : LK → Prop
  | .i k => P.underlying u = some (.int k)
  | .b => P.underlying u = some .bool
  | .s e => P.underlying u = some (.slice e)
def LKok : LK → Value → Prop
  | .i k, v => ∃ n, v = .int k n ∧ k.has n
  | .b, v => ∃ b, v = .bool b
  | .s _, v => v = .slice none 0 0 ∨ ∃ b off len cap, v = .slice (some ⟨b, off, none⟩) len cap ∧ len ≤ cap
def AllTy (P : Program) : List TypeId → List LK → Prop
  | [], [] => True
  | u :: us, k :: ks => LKty P u k ∧ AllTy P us ks
  | _, _ => False
def AllLK : List LK → List Value → Prop
  | [], [] => True
  | k :: ks, v :: vs => LKok k v ∧ AllLK ks vs
  | _, _ => False
theorem AllLK.nil {cs : List Value} (h : AllLK [] cs) : cs = [] := by cases cs <;> simp_all [AllLK]
theorem AllLK.i {k : IntKind} {ks : List LK} {cs : List Value} (h : AllLK (.i k :: ks) cs) : ∃ n vs, cs = .int k n :: vs ∧ k.has n ∧ AllLK ks vs := by
  cases cs with
  | nil => exact h.elim
  | cons v vs => obtain ⟨⟨n, rfl, hn⟩, h⟩ := h; exact ⟨n, vs, rfl, hn, h⟩
theorem AllLK.b {ks : List LK} {cs : List Value} (h : AllLK (.b :: ks) cs) : ∃ b vs, cs = .bool b :: vs ∧ AllLK ks vs := by
  cases cs with
  | nil => exact h.elim
  | cons v vs => obtain ⟨⟨n, rfl⟩, h⟩ := h; exact ⟨n, vs, rfl, h⟩
theorem AllLK.s {e : TypeId} {ks : List LK} {cs : List Value} (h : AllLK (.s e :: ks) cs) : ∃ v vs, cs = v :: vs ∧ LKok (.s e) v ∧ AllLK ks vs := by
  cases cs with
  | nil => exact h.elim
  | cons v vs => obtain ⟨h1, h⟩ := h; exact ⟨v, vs, rfl, h1, h⟩

theorem leaf_ok {W : World} {base : Nat} {u : TypeId} {v : Value} {k : LK} (ht : LKty P u k) (h : Cell.okWide P W .any base u v) : LKok k v := by
  cases k with
  | i k =>
    simp only [LKty] at ht
    simp only [Cell.okWide, ht, Cell.ok] at h
    cases v <;> simp_all [LKok]
  | b =>
    simp only [LKty] at ht
    simp only [Cell.okWide, ht, Cell.ok] at h
    cases v <;> simp_all [LKok]
  | s e =>
    simp only [LKty] at ht
    simp only [Cell.okWide, ht, Cell.ok] at h
    cases v with
    | slice a len cap =>
      cases a with
      | none =>
        cases len <;> cases cap <;> simp_all [LKok]
      | some a =>
        simp only at h
        obtain ⟨b, off, sp⟩ := a
        obtain ⟨h1, _, _, h2, _⟩ := h
        simp only at h2
        subst h2
        exact .inr ⟨_, _, _, _, rfl, h1⟩
    | _ => simp_all

theorem leaves_ok {W : World} {base : Nat} : ∀ {ts : List TypeId} {lks : List LK} {cs : List Value}, AllTy P ts lks → cs.length = ts.length → (∀ (i : Nat) (v : Value), cs[i]? = some v → ∃ u, ts[i]? = some u ∧ Cell.okWide P W .any base u v) → AllLK lks cs
  | [], [], [], _, _, _ => trivial
  | [], [], _ :: _, _, h, _ => by simp at h
  | [], _ :: _, _, h, _, _ => h.elim
  | _ :: _, [], _, h, _, _ => h.elim
  | _ :: _, _ :: _, [], _, h, _ => by simp at h
  | u :: ts, k :: lks, v :: cs, ht, hl, h => by
    obtain ⟨u', hu, hc⟩ := h 0 v rfl
    simp only [List.getElem?_cons_zero, Option.some.injEq] at hu
    subst hu
    exact ⟨leaf_ok ht.1 hc, leaves_ok ht.2 (by simpa using hl) (fun i w hw => by simpa using h (i + 1) w (by simpa using hw))⟩

/-- A struct by value, by its leaves. -/
theorem open_leaves {W : World} {base : Nat} {t : TypeId} {fs : Array Field} {ts : List TypeId} {lks : List LK} {v : Value} (hu : P.underlying t = some (.struct fs)) (hts : P.cellTypes P.depth t = some ts) (hc : P.cellsOf t = ts.length)
    (hl : AllTy P ts lks) (hv : Value.okWide P W .any base t v) : ∃ cs : List Value, v = .agg cs.toArray ∧ AllLK lks cs := by
  simp only [Value.okWide, hu] at hv
  obtain ⟨cs, rfl, hsz, ts', hts', _, h⟩ := hv
  obtain rfl : ts = ts' := Option.some.inj (hts.symm.trans hts')
  refine ⟨cs.toList, by simp, leaves_ok (W := W) (base := base) hl (by simp [hsz, hc]) (fun i v hv => ?_)⟩
  have hi : i < ts.length := by
    have := (List.getElem?_eq_some_iff.1 hv).1
    simp at this; omega
  have := h i v (by simpa using hv)
  rwa [Nat.mod_eq_of_lt hi] at this

/-- A slice of numbers that came in. -/
theorem open_nums {W : World} {t e : TypeId} {k : IntKind} {c : Value} {n : Nat} {x : DataW H × List MemPlace} (ht : P.underlying t = some (.slice e)) (he : P.underlying e = some (.int k)) (hc : P.cellsOf e = 1)
    (h : DataW.trod enc P W 0 (fun _ => true) true n t [c] = some x) : ∃ (ys : List Int) (sg : HS), Ro 1 c ys.length (ys.map (Value.int k)) sg ∧ (∀ x ∈ ys, (Lit.int k x).wf = true) ∧ Held sg W ∧ ys.length ≤ maxLen := by
  rcases open_ints ht he hc h with ⟨hcs, _⟩ | ⟨a, len, cap, zs, hcs, _, hl, hm, hz, _, hcell, hwf⟩
  · simp only [List.cons.injEq, and_true] at hcs
    exact ⟨[], [], .nil hcs rfl rfl, by simp, ⟨by simp, .nil⟩, by simp⟩
  · simp only [List.cons.injEq, and_true] at hcs
    simp only [if_true] at hz
    by_cases h0 : len = 0
    · subst h0
      exact ⟨[], [], .zero hcs rfl rfl, by simp, ⟨by simp, .nil⟩, by simp⟩
    · have hget : ∀ i, i < zs.length → ∃ cl T z, W.heap[a.block]? = some (.cells cl T z) ∧ a.spot = none ∧ cl[a.off + i]? = some (.int k (zs.getD i 0)) := by
        intro i hi
        have := hcell i hi
        simp only [World.cell?] at this
        have hb : (a.add i).block = a.block := by unfold Addr.add; split <;> rfl
        rw [hb] at this
        cases hh : W.heap[a.block]? with
        | none => simp [hh] at this
        | some o =>
          cases o with
          | cells cl T z =>
            simp only [hh] at this
            by_cases hsp : (a.add i).spot.isSome
            · simp [hsp] at this
            · rw [if_neg hsp] at this
              by_cases hi0 : i = 0
              · subst hi0
                have e0 : a.add 0 = a := by simp [Addr.add]
                rw [e0] at this hsp
                exact ⟨cl, T, z, rfl, by simpa using hsp, by simpa using this⟩
              · have hoff : (a.add i).off = a.off + i := by unfold Addr.add; rw [if_neg hi0]
                rw [hoff] at this
                have hspn : a.spot = none := by
                  have h1 := hcell 0 (by omega)
                  have e0 : a.add 0 = a := by simp [Addr.add]
                  rw [e0] at h1
                  simp only [World.cell?, hh] at h1
                  by_cases h2 : a.spot.isSome
                  · simp [h2] at h1
                  · simpa using h2
                exact ⟨cl, T, z, rfl, hspn, this⟩
          | _ => simp [hh] at this
      obtain ⟨cl, T, z, hheap, hspot, _⟩ := hget 0 (by omega)
      have hcl : ∀ i, i < zs.length → cl[a.off + i]? = some (.int k (zs.getD i 0)) := by
        intro i hi
        obtain ⟨cl', T', z', h1, _, h2⟩ := hget i hi
        rw [hheap] at h1
        simp only [Option.some.injEq, Obj.cells.injEq] at h1
        obtain ⟨rfl, -, -⟩ := h1
        exact h2
      have hlen : a.off + len ≤ cl.toList.length := by
        have := (Array.getElem?_eq_some_iff.1 (hcl (len - 1) (by omega))).1
        simp; omega
      have hyl : (zs.take len).length = len := by rw [List.length_take]; omega
      obtain ⟨b, off, sp⟩ := a
      simp only at hspot hheap hcl hlen
      subst hspot
      refine ⟨zs.take len, [⟨b, .cells cl.toList.toArray T z, false⟩], ?_, fun x hx => hwf x (List.mem_of_mem_take hx), ⟨by simpa using hheap, List.pairwise_singleton _ _⟩, by rw [hyl]; exact Nat.le_trans hl hm⟩
      rw [hyl]
      refine .row hcs (by omega) ?_ hl
      apply List.ext_getElem?
      intro i
      simp only [cut, Nat.mul_one, List.getElem?_map, List.getElem?_take, List.getElem?_drop]
      by_cases hi : i < len
      · rw [if_pos hi, if_pos hi]
        have h1 := hcl i (by omega)
        rw [← Array.getElem?_toList] at h1
        rw [h1]
        simp [List.getElem?_eq_getElem (show i < zs.length by omega)]
      · rw [if_neg hi, if_neg hi]; rfl

theorem Held.app {a b : HS} {w : World} (ha : Held a w) (hb : Held b w) (ra : ∀ e ∈ a, e.rw = false) (rb : ∀ e ∈ b, e.rw = false) : Held (a ++ b) w :=
  ⟨fun e he => (List.mem_append.1 he).elim (ha.at_ e) (hb.at_ e), List.pairwise_append.2 ⟨ha.pair, hb.pair, fun e he f hf h => by rw [ra e he, rb f hf] at h; rcases h with h | h <;> cases h⟩⟩

/-- A field of a struct, as it reads. -/
theorem open_field {W : World} {t : TypeId} {fs : Array Field} {cs : List Value} {d : DataW H} {p : List MemPlace} {u : TypeId} {o : Nat} {c : Value} (i : Nat) (hu : P.underlying t = some (.struct fs)) (h : DataW.Trod enc P W 0 (fun _ => true) true t (.agg cs.toArray) d p)
    (hf : (fs[i]?).map (fun f => (f.type, f.offset)) = some (u, o)) (hc : P.cellsOf u = 1) (hn : nth cs o = some c) : ∃ n x, DataW.trod enc P W 0 (fun _ => true) true n u [c] = some x := by
  obtain ⟨n, hn'⟩ := h
  obtain ⟨xs, m, _, _, _, hlen, hfs⟩ := DataW.trod_struct hu hn'
  cases hfi : fs[i]? with
  | none => simp [hfi] at hf
  | some f =>
    simp only [hfi, Option.map_some, Option.some.injEq, Prod.mk.injEq] at hf
    obtain ⟨rfl, rfl⟩ := hf
    have h1 := hfs i f hfi
    simp only [Value.cells, hc] at h1
    rw [nth_eq] at hn
    have ho : f.offset < cs.length := (List.getElem?_eq_some_iff.1 hn).1
    have h2 : (cs.drop f.offset).take 1 = [c] := by
      rw [List.drop_eq_getElem_cons ho, List.take_succ_cons, List.take_zero]
      rw [List.getElem?_eq_getElem ho] at hn
      rw [Option.some.inj hn]
    rw [h2] at h1
    have hi : i < xs.length := by rw [hlen]; exact (Array.getElem?_eq_some_iff.1 hfi).1
    exact ⟨m, xs[i], by rw [h1, List.getElem?_eq_getElem hi]⟩
end
end Go.Sl
