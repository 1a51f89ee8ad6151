/-
  The small logic: a region that draws its order. What only reckons, and what only reads blocks that nobody turns ahead of it, is taken first; what is left comes up one by one. Holds under no condition.
-/
import Derived.Test.YtebllgcaenpdgaaSlMore
import Derived.OrdersHeld
set_option linter.all false
namespace Go.Sl
open Go

section
variable {P : Program} {ops : Array Oper} {Q : Exit → Act → World → Prop} {S : World → Prop} {B : Nat → Bool}

/-- Whatever order is picked; behind every operation but those of B the world meets S. -/
def AnyB (P : Program) (ops : Array Oper) (Q : Exit → Act → World → Prop) (S : World → Prop) (B : Nat → Bool) : Nat → Array Bool → Act → World → Prop
  | 0, done, a, w => Region.ready .any ops done = [] ∧ Q .normal a w
  | k + 1, done, a, w => (Region.ready .any ops done = [] → Q .normal a w) ∧
    ∀ i ∈ Region.ready .any ops done, wpOp P ops Q i (fun a' w' => (B i = false → S w') ∧ AnyB P ops Q S B k (done.setIfInBounds i true) a' w') a w

theorem AnyB.any : ∀ (k : Nat) (done : Array Bool) (a : Act) (w : World), AnyB P ops Q S B k done a w → wpAny P .any ops Q k done a w
  | 0, _, _, _, h => h
  | k + 1, _, _, _, h => ⟨h.1, fun i hi => wpOp_mono (fun _ _ h' => AnyB.any k _ _ _ h'.2) (h.2 i hi)⟩

/-- Those of B wait for operation i. -/
def waits (ops : Array Oper) (B : Nat → Bool) (i : Nat) : Bool :=
  (List.range ops.size).all fun j => !(B j) || j == i || ((ops[j]?).map fun o => o.after.any fun e => Region.binds .any e && e.on == i).getD true

theorem AnyB.first {i : Nat} {oi : Oper} {v : Value} (hi : ops[i]? = some oi) (hsel : ∀ (j : Nat) (o : Oper) cs b, ops[j]? = some o → o.op ≠ .select cs b)
    (hQ : ∀ c a w, Q (.panic c) (a.put oi.dst v) w → Q (.panic c) a w) (hB : waits ops B i = true) (hBi : B i = false) :
    ∀ (k : Nat) (done : Array Bool) (a : Act) (w : World),
      (∀ j oj, ops[j]? = some oj → j ≠ i → done.getD j true = false → (∀ e ∈ oj.after, Region.binds .any e = true → e.on ≠ i) → oi.apart ops oj = true) →
      i ∈ Region.ready .any ops done → YieldsIf P ops S oi v a → S w →
      AnyB P ops Q S B k (done.setIfInBounds i true) (a.put oi.dst v) w → AnyB P ops Q S B (k + 1) done a w
  | 0, done, a, w, _, hr, hy, hS, H => by
    refine ⟨fun h => (by rw [h] at hr; cases hr), fun j hj => ?_⟩
    by_cases hji : j = i
    · subst hji; exact hy.wpOp hi hS ⟨fun _ => hS, H⟩
    · exact absurd (H.1 ▸ ready_mono hj hji) (by simp)
  | k + 1, done, a, w, hfree, hr, hy, hS, H => by
    refine ⟨fun h => (by rw [h] at hr; cases hr), fun j hj => ?_⟩
    by_cases hji : j = i
    · subst hji; exact hy.wpOp hi hS ⟨fun _ => hS, H⟩
    · obtain ⟨hjun, oj, hoj, hall⟩ := mem_ready.1 hj
      have hnot : ∀ e ∈ oj.after, Region.binds .any e = true → e.on ≠ i := by
        intro e he hb heq
        have h1 := hall e he hb
        have h0 := (mem_ready.1 hr).1
        rw [heq] at h1
        rcases Nat.lt_or_ge i done.size with h' | h'
        · simp [h'] at h0 h1; simp [h0] at h1
        · simp [Array.getElem?_eq_none h'] at h1
      have hBj : B j = false := by
        cases hb : B j with
        | false => rfl
        | true =>
          have hlt : j < ops.size := by
            rcases Nat.lt_or_ge j ops.size with h' | h'
            · exact h'
            · simp [Array.getElem?_eq_none h'] at hoj
          have := List.all_eq_true.1 hB j (List.mem_range.2 hlt)
          simp only [hb, Bool.not_true, Bool.false_or, Bool.or_eq_true, beq_iff_eq, hji, false_or, hoj, Option.map_some, Option.getD_some] at this
          obtain ⟨e, he, h2⟩ := Array.any_eq_true'.1 this
          simp only [Bool.and_eq_true, beq_iff_eq] at h2
          exact absurd h2.2 (hnot e he h2.1)
      have h1 := H.2 j (ready_mono hj hji)
      have h2 := wpOp_putIf hoj (hfree j oj hoj hji hjun hnot) (fun cs b => hsel i oi cs b hi) (fun cs b => hsel j oj cs b hoj) hQ hy h1
      refine wpOp_mono (fun a' w' h3 => ⟨h3.2.1, AnyB.first hi hsel hQ hB hBi k (done.setIfInBounds j true) a' w' ?_ (ready_mono hr (Ne.symm hji)) h3.1 (h3.2.1 hBj) ?_⟩) h2
      · intro m om hm hmi hun hno
        refine hfree m om hm hmi ?_ hno
        by_cases hjm : j = m
        · subst hjm; exact hjun
        · rw [getD_set_ne true hjm] at hun; exact hun
      · rw [Array.setIfInBounds_comm _ _ hji]
        exact h3.2.2
end

/-- The post says nothing of a slot where there is a panic. -/
class QP (Q : Exit → Act → World → Prop) : Prop where
  put : ∀ c (a : Act) d v w, Q (.panic c) (a.put d v) w → Q (.panic c) a w
theorem Act.put_defers' (a : Act) (d : Option Tmp) (v : Value) : (a.put d v).defers = a.defers := by cases d <;> rfl
instance (P : Program) (fn : Func) (R : Ending → World → Prop) : QP (bodyPost P fn R) := ⟨fun c a d v w h => by
  simp only [bodyPost, Act.put_defers'] at h ⊢; exact h⟩
instance (K : Act → World → Prop) (Q : Exit → Act → World → Prop) [h : QP Q] : QP (Exit.then K Q) := ⟨fun c a d v w hq => h.put c a d v w hq⟩
instance (i : Nat) (Q : Exit → Act → World → Prop) [h : QP Q] : QP (Exit.inBlock i Q) := ⟨fun c a d v w hq => h.put c a d v w hq⟩

/-- The program's regions may be mixed in every order. -/
class Mixed (P : Program) : Prop where
  is : P.follows .mixedOrders = true

section
variable {P : Program} {w0 : World} {W : Nat → Prop} {Q : Exit → Act → World → Prop} {D : List Deferred} {ops : Array Oper} {n : Nat} {l : List (Nat × Value)} {hs : HS} {ss : HS} {B : Nat → Bool} {k : Nat} {done : Array Bool} {s : Bool}

def AL (P : Program) (w0 : World) (W : Nat → Prop) (Q : Exit → Act → World → Prop) (D : List Deferred) (ops : Array Oper) (n : Nat) (ss : HS) (B : Nat → Bool) (k : Nat) (done : Array Bool) (s : Bool) (l : List (Nat × Value)) (hs : HS) : Prop :=
  ∀ a w, Knows n D l a → Hd w0 W hs w → (s = true → Held ss w) → AnyB P ops Q (Held ss) B k done a w

theorem HSub.held {hs ks : HS} (h : HSub hs ks) {w : World} (hw : Held hs w) : Held ks w :=
  (h.hd (w0 := w) (W := fun _ => True) (⟨Frm.refl _ _, hw, fun _ _ _ => .inl trivial⟩)).held

/-- Begin: ss: the blocks that are only read till those of B come up. -/
theorem TC.draws {i : Nat} {os : List Oper} [m : Mixed P] (ss : HS) (B : Nat → Bool) (hss : HSub hs ss) (k : AL P w0 W Q D os.toArray n ss B os.toArray.size (Array.replicate os.toArray.size false) true l hs) :
    TC P w0 W Q D n l hs (.region i os.toArray true) := fun a _ ha hw =>
  wp_region_any m.is (AnyB.any _ _ _ _ (k a _ ha hw.drew (fun _ => hss.held hw.drew.held)))

theorem wanted_none {o : Oper} (h : o.guard = none) (y : Nat → Option Bool) : Region.wanted o y = true := by simp [Region.wanted, h]

/-- What only reads (or reckons) is taken first. -/
theorem AL.rd (i : Nat) {op : Op} {d : Nat} {v : Value} {ty : TypeId} {pos : String} {af : Array Edge} [q : QP Q] (hi : ops[i]? = some ⟨some d, op, ty, pos, af, none⟩) (h : Rd P l ss op v) (hdn : Nat.blt d n = true)
    (hs' : Region.noSelect ops = true) (hf : Region.free .any ops done i = true) (hr : (Region.ready .any ops done).contains i = true) (hB : waits ops B i = true) (hBi : B i = false)
    (k' : AL P w0 W Q D ops n ss B k (done.setIfInBounds i true) true ((d, v) :: l) hs) : AL P w0 W Q D ops n ss B (k + 1) done true l hs := fun a w ha hw hS =>
  AnyB.first hi (Region.noSelect_spec hs') (fun c a w => q.put c a _ _ w) hB hBi k done a w (Region.free_spec hi hf) (by simpa using hr)
    (.inl ⟨wanted_none rfl _, fun w' hw' => h a.eval ha.agrees _ rfl w' hw'⟩) (hS rfl) (k' _ w (ha.put hdn) hw hS)
theorem AL.pu (i : Nat) {op : Op} {d : Nat} {v : Value} {ty : TypeId} {pos : String} {af : Array Edge} [q : QP Q] (hi : ops[i]? = some ⟨some d, op, ty, pos, af, none⟩) (h : Pu P l op v) (hdn : Nat.blt d n = true)
    (hs' : Region.noSelect ops = true) (hf : Region.free .any ops done i = true) (hr : (Region.ready .any ops done).contains i = true) (hB : waits ops B i = true) (hBi : B i = false)
    (k' : AL P w0 W Q D ops n ss B k (done.setIfInBounds i true) true ((d, v) :: l) hs) : AL P w0 W Q D ops n ss B (k + 1) done true l hs := AL.rd i hi h.rd hdn hs' hf hr hB hBi k'

theorem AL.rd_yes (i : Nat) {op : Op} {d j dj : Nat} {b : Bool} {v : Value} {ty : TypeId} {pos : String} {af : Array Edge} [q : QP Q] (hi : ops[i]? = some ⟨some d, op, ty, pos, af, some (j, b)⟩)
    (h : Rd P l ss op v) (hj : (ops[j]?).bind (·.dst) = some dj) (hv : look l dj = some (.bool b)) (hdn : Nat.blt d n = true)
    (hs' : Region.noSelect ops = true) (hf : Region.free .any ops done i = true) (hr : (Region.ready .any ops done).contains i = true) (hB : waits ops B i = true) (hBi : B i = false)
    (k' : AL P w0 W Q D ops n ss B k (done.setIfInBounds i true) true ((d, v) :: l) hs) : AL P w0 W Q D ops n ss B (k + 1) done true l hs := fun a w ha hw hS =>
  AnyB.first hi (Region.noSelect_spec hs') (fun c a w => q.put c a _ _ w) hB hBi k done a w (Region.free_spec hi hf) (by simpa using hr)
    (.inl ⟨by simp [Region.wanted, yielded, hj, ha.slot dj _ hv], fun w' hw' => h a.eval ha.agrees _ rfl w' hw'⟩) (hS rfl) (k' _ w (ha.put hdn) hw hS)
theorem AL.no (i : Nat) {op : Op} {d j dj : Nat} {b c : Bool} {ty : TypeId} {pos : String} {af : Array Edge} [q : QP Q] (hi : ops[i]? = some ⟨some d, op, ty, pos, af, some (j, b)⟩)
    (hj : (ops[j]?).bind (·.dst) = some dj) (hv : look l dj = some (.bool c)) (hbc : b = !c) (hdn : Nat.blt d n = true)
    (hs' : Region.noSelect ops = true) (hf : Region.free .any ops done i = true) (hr : (Region.ready .any ops done).contains i = true) (hB : waits ops B i = true) (hBi : B i = false)
    (k' : AL P w0 W Q D ops n ss B k (done.setIfInBounds i true) true ((d, undef) :: l) hs) : AL P w0 W Q D ops n ss B (k + 1) done true l hs := fun a w ha hw hS =>
  AnyB.first hi (Region.noSelect_spec hs') (fun c a w => q.put c a _ _ w) hB hBi k done a w (Region.free_spec hi hf) (by simpa using hr)
    (.inr ⟨by subst hbc; simp [Region.wanted, yielded, hj, ha.slot dj _ hv], rfl⟩) (hS rfl) (k' _ w (ha.put hdn) hw hS)

theorem AL.split {t : Nat} {c : Bool} (hv : look l t = some (.bool c)) (kt : c = true → AL P w0 W Q D ops n ss B k done s ((t, .bool true) :: l) hs) (kf : c = false → AL P w0 W Q D ops n ss B k done s ((t, .bool false) :: l) hs) :
    AL P w0 W Q D ops n ss B k done s l hs := fun a w ha hw hS => by
  cases c
  · exact kf rfl a w (ha.over hv) hw hS
  · exact kt rfl a w (ha.over hv) hw hS
theorem AL.splitd {t : Nat} {p : Prop} {i : Decidable p} (hv : look l t = some (.bool (@decide p i))) (kt : p → AL P w0 W Q D ops n ss B k done s ((t, .bool true) :: l) hs) (kf : ¬ p → AL P w0 W Q D ops n ss B k done s ((t, .bool false) :: l) hs) :
    AL P w0 W Q D ops n ss B k done s l hs :=
  AL.split hv (fun h => kt (of_decide_eq_true h)) (fun h => kf (of_decide_eq_false h))

/-- What stands behind one operation of a drawn region. -/
def Aft (P : Program) (ops : Array Oper) (Q : Exit → Act → World → Prop) (ss : HS) (B : Nat → Bool) (k i : Nat) (done : Array Bool) (a : Act) (w : World) : Prop :=
  (B i = false → Held ss w) ∧ AnyB P ops Q (Held ss) B k (done.setIfInBounds i true) a w

/-- Only one can come up. -/
theorem AL.one (i : Nat) {o : Oper} (hi : ops[i]? = some o) (hr : Region.ready .any ops done = [i]) (k' : TL P w0 W (Exit.then (Aft P ops Q ss B k i done) Q) D ops n l hs [o]) : AL P w0 W Q D ops n ss B (k + 1) done s l hs := fun a w ha hw _ => by
  refine ⟨fun h => (by rw [hr] at h; cases h), fun j hj => ?_⟩
  rw [hr] at hj
  obtain rfl := List.mem_singleton.1 hj
  have h := k' a w ha hw
  unfold wpOp
  simp only [hi]
  simp only [wpList] at h
  split
  · rename_i hw'
    rw [if_pos hw'] at h
    rcases h with h | ⟨h1, h2⟩
    · refine .inl ?_
      unfold Oper.wp at h ⊢
      generalize (execOp a.eval o).run P w = r at *
      cases r with
      | ok x w' => cases x <;> simp only [Oper.upon] at h ⊢ <;> exact h
      | halt x w' => cases x <;> simp only [Oper.upon] at h ⊢ <;> exact h
    · exact .inr ⟨h1, h2⟩
  · rename_i hw'
    rw [if_neg hw'] at h
    exact h
/-- Any of these can come up. -/
inductive AllOf (P : Program) (w0 : World) (W : Nat → Prop) (Q : Exit → Act → World → Prop) (D : List Deferred) (ops : Array Oper) (n : Nat) (ss : HS) (B : Nat → Bool) (k : Nat) (done : Array Bool) (l : List (Nat × Value)) (hs : HS) : List Nat → Prop
  | nil : AllOf P w0 W Q D ops n ss B k done l hs []
  | cons {i : Nat} {o : Oper} {is : List Nat} (hi : ops[i]? = some o) (k' : TL P w0 W (Exit.then (Aft P ops Q ss B k i done) Q) D ops n l hs [o]) (r : AllOf P w0 W Q D ops n ss B k done l hs is) : AllOf P w0 W Q D ops n ss B k done l hs (i :: is)
theorem AllOf.at_ {is : List Nat} (h : AllOf P w0 W Q D ops n ss B k done l hs is) : ∀ i ∈ is, ∃ o, ops[i]? = some o ∧ TL P w0 W (Exit.then (Aft P ops Q ss B k i done) Q) D ops n l hs [o] := by
  induction h with
  | nil => intro i hi; cases hi
  | cons hi k' r ih =>
    intro j hj
    rcases List.mem_cons.1 hj with rfl | hj
    · exact ⟨_, hi, k'⟩
    · exact ih j hj
theorem AL.pick {is : List Nat} (hr : Region.ready .any ops done = is) (hne : is ≠ []) (kk : AllOf P w0 W Q D ops n ss B k done l hs is) : AL P w0 W Q D ops n ss B (k + 1) done s l hs := fun a w ha hw _ => by
  refine ⟨fun h => absurd (hr.symm.trans h) hne, fun j hj => ?_⟩
  rw [hr] at hj
  obtain ⟨o, hi, k'⟩ := kk.at_ j hj
  have h := k' a w ha hw
  unfold wpOp
  simp only [hi]
  simp only [wpList] at h
  split
  · rename_i hw'
    rw [if_pos hw'] at h
    rcases h with h | ⟨h1, h2⟩
    · refine .inl ?_
      unfold Oper.wp at h ⊢
      generalize (execOp a.eval o).run P w = r at *
      cases r with
      | ok x w' => cases x <;> simp only [Oper.upon] at h ⊢ <;> exact h
      | halt x w' => cases x <;> simp only [Oper.upon] at h ⊢ <;> exact h
    · exact .inr ⟨h1, h2⟩
  · rename_i hw'
    rw [if_neg hw'] at h
    exact h
/-- Behind an operation that leaves what is read as it was. -/
theorem AQ.al {i : Nat} (hS : HSub hs ss) (k' : AL P w0 W Q D ops n ss B k (done.setIfInBounds i true) true l hs) : AQ w0 W (Exit.then (Aft P ops Q ss B k i done) Q) D n l hs .normal := fun a w ha hw =>
  ⟨fun _ => hS.held hw.held, k' a w ha hw (fun _ => hS.held hw.held)⟩
/-- Behind one of B. -/
theorem AQ.alB {i : Nat} (hB : B i = true) (k' : AL P w0 W Q D ops n ss B k (done.setIfInBounds i true) false l hs) : AQ w0 W (Exit.then (Aft P ops Q ss B k i done) Q) D n l hs .normal := fun a w ha hw =>
  ⟨fun h => (by rw [hB] at h; cases h), k' a w ha hw (fun h => by cases h)⟩
/-- The orders meet: the same operations are done; less is known. -/
theorem AL.join {done' : Array Bool} {r : List (Nat × Value)} {ks : HS} (hl : Sub r l) (hh : HSub hs ks) (hd : done = done') (k' : AL P w0 W Q D ops n ss B k done' s r ks) : AL P w0 W Q D ops n ss B k done s l hs := fun a w ha hw hS =>
  hd ▸ k' a w (ha.sub hl) (hh.hd hw) hS
theorem AL.join' {done' : Array Bool} {r : List (Nat × Value)} {ks : HS} (k' : AL P w0 W Q D ops n ss B k done' s r ks) (hd : done = done') (hl : Sub r l) (hh : HSub hs ks) : AL P w0 W Q D ops n ss B k done s l hs := AL.join hl hh hd k'
/-- Where the orders meet. -/
theorem AL.meetAt {X : Type} (I : X → Prop) (L : X → List (Nat × Value)) (H : X → HS) (done1 : Array Bool) (k1 : Nat) (s1 : Bool) (kj : ∀ x, I x → AL P w0 W Q D ops n ss B k1 done1 s1 (L x) (H x))
    (kk : (∀ x, I x → AL P w0 W Q D ops n ss B k1 done1 s1 (L x) (H x)) → AL P w0 W Q D ops n ss B k done s l hs) : AL P w0 W Q D ops n ss B k done s l hs := kk kj
theorem AL.fin (hr : Region.ready .any ops done = []) (k' : AQ w0 W Q D n l hs .normal) : ∀ {k : Nat}, AL P w0 W Q D ops n ss B k done s l hs
  | 0 => fun a w ha hw _ => ⟨hr, k' a w ha hw⟩
  | _ + 1 => fun a w ha hw _ => ⟨fun _ => k' a w ha hw, by rw [hr]; simp⟩
end
end Go.Sl
