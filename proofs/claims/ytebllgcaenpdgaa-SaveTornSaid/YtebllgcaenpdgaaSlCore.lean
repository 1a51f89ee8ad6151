/-
  A small separation logic over the kit's walk: what is known of a frame's slots ('Knows'), of memory's blocks ('Held'), and of how far the world has turned ('Frm'); a judgement over a list of operations ('TL'), over code ('TC'), over a function ('Fn'); one rule an operation. Holds under no condition.
-/
import Derived.WalkKit
set_option linter.all false
namespace Go.Sl
open Go

/-! ### slots -/
def look : List (Nat × Value) → Nat → Option Value
  | [], _ => none
  | (s, v) :: r, t => match Nat.beq s t with
    | true => some v
    | false => look r t

structure Knows (n : Nat) (D : List Deferred) (l : List (Nat × Value)) (a : Act) : Prop where
  size : a.tmps.size = n
  defers : a.defers = D
  slot : ∀ t v, look l t = some v → a.tmps[t]? = some v

def ev (l : List (Nat × Value)) : Operand → Option Value
  | .tmp t => look l t
  | .const v => some v
  | .global g => some (.pointer (some ⟨g, 0, none⟩))
  | .func f => some (.func (.func f) #[] #[])

theorem Knows.eval {n : Nat} {D : List Deferred} {l : List (Nat × Value)} {a : Act} (h : Knows n D l a) {x : Operand} {v : Value} (e : ev l x = some v) : a.eval x = v := by
  cases x with
  | tmp t =>
    have := h.slot t v e
    simp [Act.eval, this]
  | const u => simpa [ev, Act.eval] using e
  | global g => simpa [ev, Act.eval] using e
  | func f => simpa [ev, Act.eval] using e

theorem look_cons (s : Nat) (v : Value) (r : List (Nat × Value)) (t : Nat) : look ((s, v) :: r) t = if s = t then some v else look r t := by
  by_cases h : s = t
  · subst h; simp only [look, Nat.beq_refl, if_true]
  · have : Nat.beq s t = false := by
      cases hb : Nat.beq s t with
      | false => rfl
      | true => exact absurd (Nat.eq_of_beq_eq_true hb) h
    simp only [look, this, if_neg h]

theorem Knows.put {n : Nat} {D : List Deferred} {l : List (Nat × Value)} {a : Act} (h : Knows n D l a) {d : Nat} {v : Value} (hd : Nat.blt d n = true) : Knows n D ((d, v) :: l) (a.put (some d) v) where
  size := by simp [Act.put, h.size]
  defers := by simp [Act.put, h.defers]
  slot t u e := by
    have hd' : d < n := by simpa [Nat.blt_eq] using hd
    rw [look_cons] at e
    simp only [Act.put, Array.getElem?_setIfInBounds]
    by_cases hdt : d = t
    · subst hdt
      simp only [if_true] at e ⊢
      rw [if_pos (by rw [h.size]; exact hd')]
      exact e
    · rw [if_neg hdt] at e ⊢
      exact h.slot t u e

/-- Less is known. -/
def Sub : List (Nat × Value) → List (Nat × Value) → Prop
  | [], _ => True
  | (t, v) :: r, l => look l t = some v ∧ Sub r l

theorem Sub.look {l : List (Nat × Value)} : ∀ {r : List (Nat × Value)}, Sub r l → ∀ t v, Sl.look r t = some v → Sl.look l t = some v
  | [], _, _, _, e => by simp [Sl.look] at e
  | (s, u) :: r, h, t, v, e => by
    rw [look_cons] at e
    by_cases hst : s = t
    · subst hst; simp only [if_true] at e; rw [← e]; exact h.1
    · rw [if_neg hst] at e; exact Sub.look h.2 t v e

theorem Knows.sub {n : Nat} {D : List Deferred} {l r : List (Nat × Value)} {a : Act} (h : Knows n D l a) (s : Sub r l) : Knows n D r a :=
  ⟨h.size, h.defers, fun t v e => h.slot t v (s.look t v e)⟩

/-! ### memory -/
structure Ent where
  id : Nat
  obj : Obj
  rw : Bool

abbrev HS := List Ent

def apart (e f : Ent) : Prop := (e.rw = true ∨ f.rw = true) → e.id ≠ f.id

structure Held (hs : HS) (w : World) : Prop where
  at_ : ∀ e ∈ hs, w.heap[e.id]? = some e.obj
  pair : hs.Pairwise apart

/-- From w to w' nothing has turned but the blocks of W, and blocks have been added. -/
structure Frm (W : Nat → Prop) (w w' : World) : Prop where
  os : w'.os = w.os
  tape : w'.tape = w.tape
  output : w'.output = w.output
  size : w.heap.size ≤ w'.heap.size
  block : ∀ k, k < w.heap.size → ¬ W k → w'.heap[k]? = w.heap[k]?

theorem Frm.refl (W : Nat → Prop) (w : World) : Frm W w w := ⟨rfl, rfl, rfl, Nat.le_refl _, fun _ _ _ => rfl⟩
theorem Frm.mono {V W : Nat → Prop} {w w' : World} (h : Frm V w w') (hv : ∀ k, k < w.heap.size → V k → W k) : Frm W w w' :=
  ⟨h.os, h.tape, h.output, h.size, fun k hk hn => h.block k hk (fun hV => hn (hv k hk hV))⟩
theorem Frm.trans {W : Nat → Prop} {a b c : World} (h : Frm W a b) {V : Nat → Prop} (k : Frm V b c) (hv : ∀ i, i < a.heap.size → V i → W i) : Frm W a c :=
  ⟨k.os.trans h.os, k.tape.trans h.tape, k.output.trans h.output, Nat.le_trans h.size k.size, fun i hi hn =>
    (k.block i (Nat.lt_of_lt_of_le hi h.size) (fun hV => hn (hv i hi hV))).trans (h.block i hi hn)⟩

structure Hd (w0 : World) (W : Nat → Prop) (hs : HS) (w : World) : Prop where
  frm : Frm W w0 w
  held : Held hs w
  own : ∀ e ∈ hs, e.rw = true → W e.id ∨ w0.heap.size ≤ e.id

theorem Held.lt {hs : HS} {w : World} (h : Held hs w) {e : Ent} (he : e ∈ hs) : e.id < w.heap.size := by
  have := h.at_ e he
  rcases Nat.lt_or_ge e.id w.heap.size with h' | h'
  · exact h'
  · simp [Array.getElem?_eq_none h'] at this

theorem Hd.alloc {w0 : World} {W : Nat → Prop} {hs : HS} {w : World} (h : Hd w0 W hs w) (o : Obj) : Hd w0 W (⟨w.heap.size, o, true⟩ :: hs) { w with heap := w.heap.push o } where
  frm := ⟨h.frm.os, h.frm.tape, h.frm.output, by have := h.frm.size; simp; omega, fun k hk hn => by
    show (w.heap.push o)[k]? = _
    rw [Array.getElem?_push, if_neg (by have := h.frm.size; omega)]; exact h.frm.block k hk hn⟩
  held := ⟨fun e he => by
    show (w.heap.push o)[e.id]? = _
    rcases List.mem_cons.1 he with rfl | he
    · simp
    · rw [Array.getElem?_push, if_neg (by have := h.held.lt he; omega)]; exact h.held.at_ e he,
   List.pairwise_cons.2 ⟨fun f hf _ => by have := h.held.lt hf; simp only; omega, h.held.pair⟩⟩
  own e he hr := by
    rcases List.mem_cons.1 he with rfl | he
    · exact .inr h.frm.size
    · exact h.own e he hr

theorem Hd.drew {w0 : World} {W : Nat → Prop} {hs : HS} {w : World} (h : Hd w0 W hs w) : Hd w0 W hs { w with drawn := w.drawn + 1 } :=
  ⟨⟨h.frm.os, h.frm.tape, h.frm.output, h.frm.size, h.frm.block⟩, ⟨h.held.at_, h.held.pair⟩, h.own⟩

/-- Fewer blocks are spoken of. -/
theorem Hd.sub {w0 : World} {W : Nat → Prop} {hs ks : HS} {w : World} (h : Hd w0 W hs w) (s : ks.Sublist hs) : Hd w0 W ks w :=
  ⟨h.frm, ⟨fun e he => h.held.at_ e (s.subset he), h.held.pair.sublist s⟩, fun e he => h.own e (s.subset he)⟩

theorem Hd.perm {w0 : World} {W : Nat → Prop} {hs ks : HS} {w : World} (h : Hd w0 W hs w) (s : hs.Perm ks) : Hd w0 W ks w :=
  ⟨h.frm, ⟨fun e he => h.held.at_ e (s.mem_iff.2 he), (s.pairwise_iff (by intro a b hab h1 h2; exact hab (h1.symm) h2.symm)).1 h.held.pair⟩, fun e he => h.own e (s.mem_iff.2 he)⟩

/-- A block that is spoken of. -/
class Has (hs : HS) (b : Nat) (o : outParam Obj) (r : outParam Bool) : Prop where
  mem : Ent.mk b o r ∈ hs
instance (priority := 1100) Has.head (hs : HS) (b : Nat) (o : Obj) (r : Bool) : Has (⟨b, o, r⟩ :: hs) b o r := ⟨List.mem_cons_self⟩
instance (priority := 900) Has.tail (hs : HS) (b : Nat) (o : Obj) (r : Bool) (e : Ent) [h : Has hs b o r] : Has (e :: hs) b o r := ⟨List.mem_cons_of_mem _ h.mem⟩

/-- A block of one's own, taken out. -/
class Take (hs : HS) (b : Nat) (o : outParam Obj) (rest : outParam HS) : Prop where
  perm : hs.Perm (⟨b, o, true⟩ :: rest)
instance (priority := 1100) Take.head (hs : HS) (b : Nat) (o : Obj) : Take (⟨b, o, true⟩ :: hs) b o hs := ⟨.refl _⟩
instance (priority := 900) Take.tail (hs rest : HS) (b : Nat) (o : Obj) (e : Ent) [h : Take hs b o rest] : Take (e :: hs) b o (e :: rest) :=
  ⟨(h.perm.cons e).trans (.swap _ _ _)⟩

theorem Hd.setObj {w0 : World} {W : Nat → Prop} {hs rest : HS} {w : World} {b : Nat} {o : Obj} (h : Hd w0 W hs w) [t : Take hs b o rest] (o' : Obj) {w' : World}
    (hsz : w'.heap.size = w.heap.size) (hos : w'.os = w.os) (htape : w'.tape = w.tape) (hout : w'.output = w.output)
    (hat : w'.heap[b]? = some o') (hother : ∀ k, k ≠ b → w'.heap[k]? = w.heap[k]?) : Hd w0 W (⟨b, o', true⟩ :: rest) w' := by
  have h1 := h.perm t.perm
  have hown := h1.own ⟨b, o, true⟩ List.mem_cons_self rfl
  have hp := List.pairwise_cons.1 h1.held.pair
  refine ⟨⟨hos.trans h.frm.os, htape.trans h.frm.tape, hout.trans h.frm.output, by rw [hsz]; exact h.frm.size, fun k hk hn => ?_⟩, ⟨fun e he => ?_, List.pairwise_cons.2 ⟨fun f hf hr => hp.1 f hf (.inl rfl), hp.2⟩⟩, fun e he hr => ?_⟩
  · by_cases hkb : k = b
    · subst hkb
      rcases hown with ho | ho
      · exact absurd ho hn
      · simp only at ho; omega
    · rw [hother k hkb]; exact h.frm.block k hk hn
  · rcases List.mem_cons.1 he with rfl | he
    · exact hat
    · have hne := hp.1 e he (.inl rfl)
      rw [hother e.id (fun hh => hne hh.symm)]
      exact h1.held.at_ e (List.mem_cons_of_mem _ he)
  · rcases List.mem_cons.1 he with rfl | he
    · exact hown
    · exact h1.own e (List.mem_cons_of_mem _ he) hr

/-- A row of cells, none of them frozen. -/
abbrev cel (l : List Value) (t : TypeId) : Obj := .cells l.toArray t (0, 0)

theorem cell_of {w : World} {b off : Nat} {c : Array Value} {t : TypeId} {z : Nat × Nat} (h : w.heap[b]? = some (.cells c t z)) : w.cell? ⟨b, off, none⟩ = c[off]? := by
  simp [World.cell?, h]

theorem frozen_of {w : World} {b off : Nat} {c : Array Value} {t : TypeId} (h : w.heap[b]? = some (.cells c t (0, 0))) : w.frozen? ⟨b, off, none⟩ = false := by
  simp [World.frozen?, h]

theorem Hd.setCell {w0 : World} {W : Nat → Prop} {hs rest : HS} {w : World} {b : Nat} {l : List Value} {t : TypeId} {z : Nat × Nat} (h : Hd w0 W hs w) [tk : Take hs b (.cells l.toArray t z) rest] (off : Nat) (v : Value) :
    Hd w0 W (⟨b, .cells (l.set off v).toArray t z, true⟩ :: rest) (w.setCell ⟨b, off, none⟩ v) := by
  have hb := (h.perm tk.perm).held.at_ _ List.mem_cons_self
  simp only at hb
  refine h.setObj _ (by simp [World.setCell]) rfl rfl rfl ?_ ?_
  · simp only [World.setCell, Array.getElem?_modify, if_true, hb]
    simp
  · intro k hk
    simp only [World.setCell, Array.getElem?_modify]
    rw [if_neg (fun hh => hk hh.symm)]

end Go.Sl
