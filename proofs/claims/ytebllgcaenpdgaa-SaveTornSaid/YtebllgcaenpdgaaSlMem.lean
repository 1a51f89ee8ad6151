/-
  The small logic: slices that a call owns, append, new rows, cuts of slices. Holds under no condition.
-/
import Derived.Test.YtebllgcaenpdgaaSlDraw
set_option linter.all false
namespace Go.Sl
open Go

class Byt (P : Program) (t : TypeId) (n : outParam Nat) : Prop where
  run : ∃ i : TypeInfo, (∀ w, (typeInfo t).run P w = .ok i w) ∧ i.bytes = n

/-- Cells that a string shares: none of the first n. -/
def clear (z : Nat × Nat) (n : Nat) : Prop := ∀ k, k < n → ¬ (z.1 ≤ k ∧ k < z.2)
theorem clear_zero (n : Nat) : clear (0, 0) n := fun k _ h => by simp at h

/-- A slice of one's own: its value, what it holds, the block where it lies. -/
inductive Buf (T : TypeId) (sz : Nat) (v : Value) (xs : List Value) : HS → Prop
  | nil : v = .slice none 0 0 → xs = [] → Buf T sz v xs []
  | own {b len cap : Nat} {c : List Value} {z : Nat × Nat} : v = .slice (some ⟨b, 0, none⟩) len cap → xs.length = len * sz → c.length = cap * sz → len ≤ cap → c.take (len * sz) = xs → clear z c.length →
      Buf T sz v xs [⟨b, .cells c.toArray T z, true⟩]

theorem Buf.own' {T sz : Nat} {v : Value} {xs : List Value} {hs : HS} (h : Buf T sz v xs hs) : ∀ e ∈ hs, e.rw = true := by
  cases h <;> simp

theorem Buf.one {T sz : Nat} {v : Value} {xs : List Value} {hs : HS} (h : Buf T sz v xs hs) : one v = true := by
  cases h <;> (rename_i h1 _; subst_vars; rfl)

/-- What a slice's elements are, n of them. -/
inductive Src (hs : HS) (sz : Nat) (v : Value) (n : Nat) (ys : List Value) : Prop
  | nil : v = .slice none 0 0 → n = 0 → ys = [] → Src hs sz v n ys
  | zero {a : Addr} {cap : Nat} : v = .slice (some a) 0 cap → n = 0 → ys = [] → Src hs sz v n ys
  | row {b off cap : Nat} {c : List Value} {t : TypeId} {z : Nat × Nat} {r : Bool} : v = .slice (some ⟨b, off, none⟩) n cap → Has hs b (.cells c.toArray t z) r → off + n * sz ≤ c.length → ys = cut c off (n * sz) → Src hs sz v n ys

section
variable {P : Program} {w0 : World} {W : Nat → Prop} {Q : Exit → Act → World → Prop} {D : List Deferred} {ops : Array Oper} {n : Nat} {l : List (Nat × Value)} {hs : HS} {rest : List Oper}

theorem run_store1z {w : World} {b off : Nat} {c : List Value} {e : TypeId} {z : Nat × Nat} {v : Value} (h : w.heap[b]? = some (.cells c.toArray e z)) (hz : ¬ (z.1 ≤ off ∧ off < z.2)) (h1 : one v = true) (hl : off < c.length) :
    (store ⟨b, off, none⟩ v).run P w = .ok () (w.setCell ⟨b, off, none⟩ v) := by
  have hv : v.oneCell' = true := by cases v <;> simp_all [one, Value.oneCell']
  have hc : w.cell? ⟨b, off, none⟩ = some c[off] := by rw [cell_of h]; simp [hl]
  have hf : w.frozen? ⟨b, off, none⟩ = false := by
    obtain ⟨lo, hi⟩ := z
    simp only [World.frozen?, h]
    simp only at hz
    simp; omega
  rw [run_store P w _ v _ hv]
  simp [hc, hf]

theorem run_storeCellsz {b off : Nat} {e : TypeId} {z : Nat × Nat} : ∀ (vs : List Value) (i : Nat) (hs ks : HS) (c : List Value) (w : World), Hd w0 W hs w → (tk : Take hs b (.cells c.toArray e z) ks) → clear z c.length → vs.all one = true → off + i + vs.length ≤ c.length →
    ∃ w', (storeCells ⟨b, off, none⟩ vs i).run P w = .ok () w' ∧ Hd w0 W (⟨b, .cells (lay c (off + i) vs).toArray e z, true⟩ :: ks) w'
  | [], i, hs, ks, c, w, hw, tk, _, _, _ => ⟨w, by simp [storeCells], hw.perm tk.perm⟩
  | v :: vs, i, hs, ks, c, w, hw, tk, hz, h1, hl => by
    simp only [List.all_cons, Bool.and_eq_true] at h1
    simp only [List.length_cons] at hl
    have hbk := (hw.perm tk.perm).held.at_ _ List.mem_cons_self
    have hlen : off + (i + 1) + vs.length ≤ (c.set (off + i) v).length := by rw [List.length_set]; omega
    obtain ⟨w', hr, hh⟩ := run_storeCellsz (b := b) (off := off) (e := e) (z := z) vs (i + 1) (⟨b, .cells (c.set (off + i) v).toArray e z, true⟩ :: ks) ks (c.set (off + i) v) (w.setCell ⟨b, off + i, none⟩ v) (hw.setCell (off + i) v) (Take.head _ _ _) (by rw [List.length_set]; exact hz) h1.2 hlen
    exact ⟨w', by simp [storeCells, Addr.add_plain, run_store1z hbk (hz _ (show off + i < c.length by omega)) h1.1 (show off + i < c.length by omega), hr], by simpa [lay, Nat.add_assoc] using hh⟩

theorem lay_eq : ∀ (vs c : List Value) (off : Nat), off + vs.length ≤ c.length → lay c off vs = c.take off ++ vs ++ c.drop (off + vs.length)
  | [], c, off, _ => by simp [lay]
  | v :: vs, c, off, h => by
    simp only [List.length_cons] at h
    rw [lay, lay_eq vs _ _ (by rw [List.length_set]; omega)]
    have h1 : (c.set off v).take (off + 1) = c.take off ++ [v] := by
      rw [List.take_set, List.take_succ_eq_append_getElem (by omega), List.set_append_right _ _ (by simp; omega)]
      simp [Nat.min_eq_left (show off ≤ c.length by omega)]
    have h2 : (c.set off v).drop (off + 1 + vs.length) = c.drop (off + (vs.length + 1)) := by
      rw [List.drop_set_of_lt (by omega)]; congr 1; omega
    rw [h1, h2]; simp

theorem nextcap_le (need old : Nat) (h : old < need) : Builtin.nextslicecap need old ≤ 4 * need + 4000 := by
  have key : ∀ r c, c ≤ 4 * need + 4000 → (c ≤ need + (need + 768) / 4 ∨ True) → c < need ∨ c ≤ 2 * need + 1000 → Builtin.growBy need r c ≤ 4 * need + 4000 := by
    intro r
    induction r with
    | zero => intro c h1 _ _; simpa [Builtin.growBy] using h1
    | succ r ih =>
      intro c h1 _ h3
      unfold Builtin.growBy
      split
      · exact h1
      · rename_i hc
        exact ih _ (by omega) (.inr trivial) (.inr (by omega))
  unfold Builtin.nextslicecap
  split
  · omega
  · split
    · omega
    · exact key 4 old (by omega) (.inr trivial) (.inl h)

theorem Src.read {sz n : Nat} {v : Value} {ys : List Value} (s : Src hs sz v n ys) {w : World} (hw : Held hs w) : (Builtin.lenOf v).run P w = .ok n w ∧ (Builtin.firstCells sz n v).run P w = .ok ys.toArray w ∧ ys.length = n * sz := by
  cases s with
  | nil h1 h2 h3 => subst h1; subst h2; subst h3; simp [Builtin.lenOf, Builtin.firstCells]
  | zero h1 h2 h3 => subst h1; subst h2; subst h3; simp [Builtin.lenOf, Builtin.firstCells, loadCells, loadCellsFrom]
  | @row b off cap c t z r h1 h2 h3 h4 =>
    subst h1; subst h4
    have hb := hw.at_ _ h2.mem
    have := run_loadCells (P := P) hb (n * sz) off 0 #[] (by omega)
    refine ⟨by simp [Builtin.lenOf], by simp [Builtin.firstCells, loadCells, this, cut], by simp [cut]; omega⟩

theorem zeroCells_size (zc : Array Value) (k : Nat) : (Builtin.zeroCells zc k).size = k * zc.size := by simp [Builtin.zeroCells]

theorem run_append_fits {sT xT elem e2 : TypeId} {sz m sLen sCap : Nat} {base : Option Addr} {u : Value} {ys : List Value} {ty : TypeId} {w w' : World}
    [us : Und P sT (.slice elem)] [ux : Und P xT (.slice e2)] [se : Siz P elem sz] (hlen : (Builtin.lenOf u).run P w = .ok m w) (hread : (Builtin.firstCells sz m u).run P w = .ok ys.toArray w) (hfit : sLen + m ≤ sCap)
    (hst : (match base with | some a => storeCells (a.add (sLen * sz)) ys | none => pure ()).run P w = .ok () w') :
    (Builtin.append_ #[sT, xT] ty #[.slice base sLen sCap, u]).run P w = .ok (.slice base (sLen + m) sCap) w' := by
  cases base with
  | none =>
    simp only [Sem.run_pure, Result.ok.injEq, true_and] at hst
    subst hst
    simp [Builtin.append_, us.run, ux.run, se.run, hlen, hread, hfit]
  | some a =>
    simp only at hst
    simp [Builtin.append_, us.run, ux.run, se.run, hlen, hread, hfit, hst]

theorem run_append_grows {sT xT elem e2 : TypeId} {sz m sLen sCap bytes : Nat} {base : Option Addr} {u zv : Value} {xs ys : List Value} {ty : TypeId} {w : World} {ti : TypeInfo}
    [us : Und P sT (.slice elem)] [ux : Und P xT (.slice e2)] [se : Siz P elem sz] [ze : Zero P elem zv] (hti : ∀ w, (typeInfo elem).run P w = .ok ti w) (htb : ti.bytes = bytes) (hby : bytes ≠ 0)
    (hlen : (Builtin.lenOf u).run P w = .ok m w) (hread : ∀ w', w'.heap = w.heap → (Builtin.firstCells sz m u).run P w' = .ok ys.toArray w') (hold : ∀ w', w'.heap = w.heap → (Builtin.firstCells sz sLen (.slice base sLen sCap)).run P w' = .ok xs.toArray w') (hfit : ¬ sLen + m ≤ sCap)
    (hbig : (4 * (sLen + m) + 4000) * bytes ≤ 2 ^ 48) :
    ∃ cap', sLen + m ≤ cap' ∧ (Builtin.append_ #[sT, xT] ty #[.slice base sLen sCap, u]).run P w = .ok (.slice (some ⟨w.heap.size, 0, none⟩) (sLen + m) cap')
      (({ w with drawn := w.drawn + 1 } : World).alloc (.cells (xs.toArray ++ ys.toArray ++ Builtin.zeroCells zv.cells (cap' - (sLen + m))) elem (0, 0))) := by
  have hn := nextcap_le (sLen + m) sCap (by omega)
  have hn2 : ¬ Builtin.nextslicecap (sLen + m) sCap * bytes > 2 ^ 48 := by
    have := Nat.mul_le_mul_right bytes hn
    omega
  have hr1 := hread w.drew rfl
  have ho1 := hold w.drew rfl
  have hforced : (Question.appendCap (sLen + m) sCap elem).forced = false := rfl
  refine ⟨(Question.appendCap (sLen + m) sCap elem).cut (w.tape w.drawn (.appendCap (sLen + m) sCap elem)), by simp [Question.cut], ?_⟩
  simp [Builtin.append_, us.run, ux.run, se.run, hlen, hfit, hti, htb, hby, hn2, hforced, hr1, ho1, ze.run, newRow]
  rw [← List.append_toArray, Array.append_assoc]

theorem TL.append {sT xT elem e2 : TypeId} {sz bytes d m : Nat} {zv v u : Value} {s x : Operand} {xs ys : List Value} {hb r : HS} {ts : Array TypeId} {ty : TypeId} {pos : String} {af : Array Edge}
    [us : Und P sT (.slice elem)] [ux : Und P xT (.slice e2)] [se : Siz P elem sz] [ze : Zero P elem zv] [by_ : Byt P elem bytes]
    (hv : ev l s = some v) (hx : ev l x = some u) (hB : Buf elem sz v xs hb) (tk : TakeS hs hb r) (hS : Src hs sz u m ys) (ht : ts = #[sT, xT]) (hz : zv.cells.size = sz) (hsz : sz ≠ 0) (hby : bytes ≠ 0) (h1 : ys.all one = true)
    (hbig : (4 * (xs.length + ys.length) + 4000) * bytes ≤ 2 ^ 48) (hdn : Nat.blt d n = true)
    (k : ∀ v' hb', Buf elem sz v' (xs ++ ys) hb' → TL P w0 W Q D ops n ((d, v') :: l) (hb' ++ r) rest) :
    TL P w0 W Q D ops n l hs (⟨some d, .call { callee := .builtin .append, args := #[s, x], argTypes := ts }, ty, pos, af, none⟩ :: rest) := by
  subst ht
  obtain ⟨ti, hti, htb⟩ := by_.run
  have hpos : 0 < sz := Nat.pos_of_ne_zero hsz
  refine TL.mk (X := { p : Value × HS // Buf elem sz p.1 (xs ++ ys) p.2 }) (v := fun p => p.1.1) (ks := fun p => p.1.2 ++ r) rfl rfl hdn (fun ρ hρ w hw => ?_) (fun p => k p.1.1 p.1.2 p.2)
  obtain ⟨hlen, hread, hyl⟩ := hS.read (P := P) hw.held
  have hm : m ≤ ys.length := by rw [hyl]; exact Nat.le_mul_of_pos_right m hpos
  have hp := hw.perm tk.perm
  have hexec : ∀ (val : Value) w', (Builtin.append_ #[sT, xT] ty #[v, u]).run P w = .ok val w' → (execOp ρ ⟨some d, .call { callee := .builtin .append, args := #[s, x], argTypes := #[sT, xT] }, ty, pos, af, none⟩).run P w = .ok (.value val) w' := by
    intro val w' h
    simp [execOp, resolve, hρ s _ hv, hρ x _ hx, invoke, builtin, h]
  have hsx : ∀ (base : Option Addr) (sLen sCap : Nat), v = .slice base sLen sCap → sLen * sz = xs.length → (hold : ∀ w', w'.heap = w.heap → (Builtin.firstCells sz sLen (.slice base sLen sCap)).run P w' = .ok xs.toArray w') → ¬ sLen + m ≤ sCap →
      ∃ (xx : { p : Value × HS // Buf elem sz p.1 (xs ++ ys) p.2 }) (w' : World), (execOp ρ ⟨some d, .call { callee := .builtin .append, args := #[s, x], argTypes := #[sT, xT] }, ty, pos, af, none⟩).run P w = .ok (.value xx.1.1) w' ∧ Hd w0 W (xx.1.2 ++ r) w' := by
    intro base sLen sCap hvv hxl hold hfit
    have hsl : sLen ≤ xs.length := by rw [← hxl]; exact Nat.le_mul_of_pos_right sLen hpos
    obtain ⟨cap', hc1, hrun⟩ := run_append_grows (P := P) (sT := sT) (xT := xT) (elem := elem) (e2 := e2) (ty := ty) (zv := zv) (ys := ys) hti htb hby hlen
      (fun w' hw' => (hS.read (P := P) (w := w') ⟨fun e he => by rw [hw']; exact hw.held.at_ e he, hw.held.pair⟩).2.1) hold hfit
      (Nat.le_trans (Nat.mul_le_mul_right bytes (by omega)) hbig)
    rw [← hvv] at hrun
    have hlz : (Builtin.zeroCells zv.cells (cap' - (sLen + m))).size = (cap' - (sLen + m)) * sz := by rw [zeroCells_size, hz]
    have hcells : xs.toArray ++ ys.toArray ++ Builtin.zeroCells zv.cells (cap' - (sLen + m)) = (xs ++ ys ++ (Builtin.zeroCells zv.cells (cap' - (sLen + m))).toList).toArray := by simp
    have hlc : (xs ++ ys ++ (Builtin.zeroCells zv.cells (cap' - (sLen + m))).toList).length = cap' * sz := by
      simp only [List.length_append, Array.length_toList, hlz, ← hxl, hyl, ← Nat.add_mul]
      congr 1; omega
    rw [hcells] at hrun
    refine ⟨⟨(.slice (some ⟨w.heap.size, 0, none⟩) (sLen + m) cap', [⟨w.heap.size, .cells (xs ++ ys ++ (Builtin.zeroCells zv.cells (cap' - (sLen + m))).toList).toArray elem (0, 0), true⟩]),
      .own rfl (by rw [List.length_append, hyl, ← hxl, Nat.add_mul]) hlc hc1 ?_ (clear_zero _)⟩, _, hexec _ _ hrun, ?_⟩
    · rw [Nat.add_mul, hxl, ← hyl, ← List.length_append, List.take_left']; rfl
    · exact ((hp.sub (List.sublist_append_right _ _)).drew).alloc _
  cases hB with
  | nil h1' h2' =>
    subst h1'; subst h2'
    by_cases hfit : 0 + m ≤ 0
    · have hm0 : m = 0 := by omega
      subst hm0
      have hys : ys = [] := List.length_eq_zero_iff.1 (by rw [hyl]; simp)
      subst hys
      have hr := run_append_fits (P := P) (sT := sT) (xT := xT) (elem := elem) (e2 := e2) (ty := ty) (base := none) (sLen := 0) (sCap := 0) (w' := w) hlen hread hfit (by simp)
      exact ⟨⟨(.slice none 0 0, []), .nil rfl rfl⟩, w, hexec _ _ hr, hp⟩
    · exact hsx none 0 0 rfl (by simp) (fun w' _ => by simp [Builtin.firstCells]) hfit
  | @own b len cap c z h1' h2 h3 h4 h5 h6 =>
    by_cases hfit : len + m ≤ cap
    · have hle : len * sz + 0 + ys.length ≤ c.length := by
        rw [hyl, h3, Nat.add_zero, ← Nat.add_mul]; exact Nat.mul_le_mul_right sz hfit
      obtain ⟨w', hr, hh⟩ := run_storeCellsz (P := P) (b := b) (off := len * sz) (e := elem) (z := z) ys 0 _ r c w hp (Take.head _ _ _) h6 h1 hle
      have hr' := run_append_fits (P := P) (sT := sT) (xT := xT) (elem := elem) (e2 := e2) (ty := ty) (base := some ⟨b, 0, none⟩) (sLen := len) (sCap := cap) (w' := w') hlen hread hfit (by simpa [Addr.add_plain] using hr)
      rw [← h1'] at hr'
      rw [Nat.add_zero] at hle hh
      refine ⟨⟨(.slice (some ⟨b, 0, none⟩) (len + m) cap, [⟨b, .cells (lay c (len * sz) ys).toArray elem z, true⟩]), .own rfl (by rw [List.length_append, hyl, h2, Nat.add_mul]) (by rw [lay_length, h3]) hfit ?_ (by rw [lay_length]; exact h6)⟩, w', hexec _ _ hr', hh⟩
      rw [lay_eq _ _ _ hle, h5, Nat.add_mul, ← hyl, ← h2, ← List.length_append, List.take_left']; rfl
    · refine hsx _ _ _ h1' h2.symm (fun w' hw' => ?_) hfit
      have hb := hp.held.at_ _ List.mem_cons_self
      have := run_loadCells (P := P) (w := w') (b := b) (c := c) (t := elem) (z := z) (by rw [hw']; exact hb) (len * sz) 0 0 #[] (by have := Nat.mul_le_mul_right sz h4; omega)
      simp [Builtin.firstCells, loadCells, this, ← h5]
end
end Go.Sl
