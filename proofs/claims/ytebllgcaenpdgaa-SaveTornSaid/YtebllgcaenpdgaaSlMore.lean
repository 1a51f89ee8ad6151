/-
  The small logic, more: calls by contract, loops, cuts, panics. Holds under no condition.
-/
import Derived.Test.YtebllgcaenpdgaaSlRules
set_option linter.all false
namespace Go.Sl
open Go

section
variable {P : Program} {w0 : World} {W : Nat → Prop} {Q : Exit → Act → World → Prop} {D : List Deferred} {ops : Array Oper} {n : Nat} {l : List (Nat × Value)} {hs : HS} {rest : List Oper}

theorem Gives.spec {ks r : HS} (g : Gives hs ks r) : ∀ {w : World}, Hd w0 W hs w → Held ks w ∧ Hd w0 W r w ∧ (∀ e ∈ ks, e.rw = true → (W e.id ∨ w0.heap.size ≤ e.id) ∧ ∀ f ∈ r, e.id ≠ f.id) ∧
    (∀ e ∈ ks, ∃ f ∈ hs, f.id = e.id ∧ (e.rw = true → f.rw = true)) ∧ (∀ f ∈ r, f ∈ hs) := by
  induction g with
  | nil hs => exact fun {w} hw => ⟨⟨by simp, .nil⟩, hw, by simp, by simp, fun f h => h⟩
  | @rw hs h1 ks rest b o t g ih =>
    intro w hw
    have hp := hw.perm t.perm
    have hpw := List.pairwise_cons.1 hp.held.pair
    obtain ⟨i1, i2, i3, i4, i5⟩ := ih (hp.sub (List.sublist_cons_self _ _))
    refine ⟨⟨fun e he => ?_, List.pairwise_cons.2 ⟨fun f hf _ => ?_, i1.pair⟩⟩, i2, fun e he hr => ?_, fun e he => ?_, fun f hf => t.perm.mem_iff.2 (List.mem_cons_of_mem _ (i5 f hf))⟩
    · rcases List.mem_cons.1 he with rfl | he
      · exact hp.held.at_ _ List.mem_cons_self
      · exact i1.at_ e he
    · obtain ⟨g', hg', hid, _⟩ := i4 f hf
      have := hpw.1 g' hg' (.inl rfl)
      simp only at this ⊢
      rw [← hid]; exact this
    · rcases List.mem_cons.1 he with rfl | he
      · exact ⟨hp.own _ List.mem_cons_self rfl, fun f hf => hpw.1 f (i5 f hf) (.inl rfl)⟩
      · exact i3 e he hr
    · rcases List.mem_cons.1 he with rfl | he
      · exact ⟨_, t.perm.mem_iff.2 List.mem_cons_self, rfl, fun _ => rfl⟩
      · obtain ⟨f, hf, h1, h2⟩ := i4 e he
        exact ⟨f, t.perm.mem_iff.2 (List.mem_cons_of_mem _ hf), h1, h2⟩
  | @ro hs h1 ks rest b o r t g ih =>
    intro w hw
    have hp := hw.perm t.perm
    have hpw := List.pairwise_cons.1 hp.held.pair
    obtain ⟨i1, i2, i3, i4, i5⟩ := ih (hp.sub (List.sublist_cons_self _ _))
    refine ⟨⟨fun e he => ?_, List.pairwise_cons.2 ⟨fun f hf hr => ?_, i1.pair⟩⟩, ⟨i2.frm, ⟨fun e he => ?_, List.pairwise_cons.2 ⟨fun f hf hr => hpw.1 f (i5 f hf) hr, i2.held.pair⟩⟩, fun e he hr => ?_⟩, fun e he hr => ?_, fun e he => ?_, fun f hf => ?_⟩
    · rcases List.mem_cons.1 he with rfl | he
      · exact hp.held.at_ ⟨b, o, r⟩ List.mem_cons_self
      · exact i1.at_ e he
    · obtain ⟨g', hg', hid, h2⟩ := i4 f hf
      have hfr : f.rw = true := by rcases hr with hr | hr <;> simp_all
      have := hpw.1 g' hg' (.inr (h2 hfr))
      simp only at this ⊢
      rw [← hid]; exact this
    · rcases List.mem_cons.1 he with rfl | he
      · exact hp.held.at_ _ List.mem_cons_self
      · exact i2.held.at_ e he
    · rcases List.mem_cons.1 he with rfl | he
      · exact hp.own _ List.mem_cons_self hr
      · exact i2.own e he hr
    · rcases List.mem_cons.1 he with rfl | he
      · cases hr
      · refine ⟨(i3 e he hr).1, fun f hf => ?_⟩
        rcases List.mem_cons.1 hf with rfl | hf
        · obtain ⟨g', hg', hid, h2⟩ := i4 e he
          have := hpw.1 g' hg' (.inr (h2 hr))
          simp only at this ⊢
          rw [← hid]; exact fun h => this h.symm
        · exact (i3 e he hr).2 f hf
    · rcases List.mem_cons.1 he with rfl | he
      · exact ⟨_, t.perm.mem_iff.2 List.mem_cons_self, rfl, fun h => by cases h⟩
      · obtain ⟨f, hf, h1, h2⟩ := i4 e he
        exact ⟨f, t.perm.mem_iff.2 (List.mem_cons_of_mem _ hf), h1, h2⟩
    · rcases List.mem_cons.1 hf with rfl | hf
      · exact t.perm.mem_iff.2 List.mem_cons_self
      · exact t.perm.mem_iff.2 (List.mem_cons_of_mem _ (i5 f hf))

  | @seg hs h1 sg ks rest t hr g ih =>
    intro w hw
    have hp := hw.perm t.perm
    have hpw := List.pairwise_append.1 hp.held.pair
    obtain ⟨i1, i2, i3, i4, i5⟩ := ih (hp.sub (List.sublist_append_right _ _))
    refine ⟨⟨fun e he => ?_, List.pairwise_append.2 ⟨hpw.1, i1.pair, fun a ha b hb _ => ?_⟩⟩, i2, fun e he hr' => ?_, fun e he => ?_, fun f hf => t.perm.mem_iff.2 (List.mem_append_right _ (i5 f hf))⟩
    · rcases List.mem_append.1 he with he | he
      · exact hp.held.at_ e (List.mem_append_left _ he)
      · exact i1.at_ e he
    · obtain ⟨g', hg', hid, _⟩ := i4 b hb
      have := hpw.2.2 a ha g' hg' (.inl (hr a ha))
      rw [← hid]; exact this
    · rcases List.mem_append.1 he with he | he
      · exact ⟨hp.own e (List.mem_append_left _ he) (hr e he), fun f hf => hpw.2.2 e he f (i5 f hf) (.inl (hr e he))⟩
      · exact i3 e he hr'
    · rcases List.mem_append.1 he with he | he
      · exact ⟨e, t.perm.mem_iff.2 (List.mem_append_left _ he), rfl, fun h => h⟩
      · obtain ⟨f, hf, h1, h2⟩ := i4 e he
        exact ⟨f, t.perm.mem_iff.2 (List.mem_append_right _ hf), h1, h2⟩
  | @sro hs h1 sg ks rest t hr g ih =>
    intro w hw
    have hp := hw.perm t.perm
    have hpw := List.pairwise_append.1 hp.held.pair
    obtain ⟨i1, i2, i3, i4, i5⟩ := ih (hp.sub (List.sublist_append_right _ _))
    refine ⟨⟨fun e he => ?_, List.pairwise_append.2 ⟨hpw.1, i1.pair, fun a ha b hb hrw => ?_⟩⟩, hw.both t.perm i2 i5, fun e he hr' => ?_, fun e he => ?_, fun f hf => ?_⟩
    · rcases List.mem_append.1 he with he | he
      · exact hp.held.at_ e (List.mem_append_left _ he)
      · exact i1.at_ e he
    · obtain ⟨g', hg', hid, h2⟩ := i4 b hb
      have hbr : b.rw = true := by
        rcases hrw with h | h
        · rw [hr a ha] at h; cases h
        · exact h
      have := hpw.2.2 a ha g' hg' (.inr (h2 hbr))
      rw [← hid]; exact this
    · rcases List.mem_append.1 he with he | he
      · rw [hr e he] at hr'; cases hr'
      · refine ⟨(i3 e he hr').1, fun f hf => ?_⟩
        rcases List.mem_append.1 hf with hf | hf
        · obtain ⟨g', hg', hid, h2⟩ := i4 e he
          have := hpw.2.2 f hf g' hg' (.inr (h2 hr'))
          rw [← hid]; exact fun h => this h.symm
        · exact (i3 e he hr').2 f hf
    · rcases List.mem_append.1 he with he | he
      · exact ⟨e, t.perm.mem_iff.2 (List.mem_append_left _ he), rfl, fun h => h⟩
      · obtain ⟨f, hf, h1, h2⟩ := i4 e he
        exact ⟨f, t.perm.mem_iff.2 (List.mem_append_right _ hf), h1, h2⟩
    · rcases List.mem_append.1 hf with hf | hf
      · exact t.perm.mem_iff.2 (List.mem_append_left _ hf)
      · exact t.perm.mem_iff.2 (List.mem_append_right _ (i5 f hf))
  | @sgr hs h1 sg ks rest t g ih =>
    intro w hw
    have hp := hw.perm t.perm
    have hpw := List.pairwise_append.1 hp.held.pair
    obtain ⟨i1, i2, i3, i4, i5⟩ := ih (hp.sub (List.sublist_append_right _ _))
    have hmem : ∀ a ∈ roS sg, ∃ f ∈ sg, f.id = a.id ∧ f.obj = a.obj := by
      intro a ha; simp only [roS, List.mem_map] at ha; obtain ⟨f, hf, rfl⟩ := ha; exact ⟨f, hf, rfl, rfl⟩
    refine ⟨⟨fun e he => ?_, List.pairwise_append.2 ⟨roS_pair sg, i1.pair, fun a ha b hb hrw => ?_⟩⟩, hw.both t.perm i2 i5, fun e he hr' => ?_, fun e he => ?_, fun f hf => ?_⟩
    · rcases List.mem_append.1 he with he | he
      · obtain ⟨f, hf, h1, h2⟩ := hmem e he
        rw [← h1, ← h2]; exact hp.held.at_ f (List.mem_append_left _ hf)
      · exact i1.at_ e he
    · obtain ⟨g', hg', hid, h2⟩ := i4 b hb
      have hbr : b.rw = true := by
        rcases hrw with h | h
        · rw [roS_ro a ha] at h; cases h
        · exact h
      obtain ⟨f, hf, h3, _⟩ := hmem a ha
      have := hpw.2.2 f hf g' hg' (.inr (h2 hbr))
      rw [← hid, ← h3]; exact this
    · rcases List.mem_append.1 he with he | he
      · rw [roS_ro e he] at hr'; cases hr'
      · refine ⟨(i3 e he hr').1, fun f hf => ?_⟩
        rcases List.mem_append.1 hf with hf | hf
        · obtain ⟨g', hg', hid, h2⟩ := i4 e he
          have := hpw.2.2 f hf g' hg' (.inr (h2 hr'))
          rw [← hid]; exact fun h => this h.symm
        · exact (i3 e he hr').2 f hf
    · rcases List.mem_append.1 he with he | he
      · obtain ⟨f, hf, h1, _⟩ := hmem e he
        exact ⟨f, t.perm.mem_iff.2 (List.mem_append_left _ hf), h1, fun h => by rw [roS_ro e he] at h; cases h⟩
      · obtain ⟨f, hf, h1, h2⟩ := i4 e he
        exact ⟨f, t.perm.mem_iff.2 (List.mem_append_right _ hf), h1, h2⟩
    · rcases List.mem_append.1 hf with hf | hf
      · exact t.perm.mem_iff.2 (List.mem_append_left _ hf)
      · exact t.perm.mem_iff.2 (List.mem_append_right _ (i5 f hf))

/-- Behind a call: what it left, and what was kept from it. -/
theorem Gives.back {ks r js : HS} (g : Gives hs ks r) {w w' : World} (hw : Hd w0 W hs w) (hf : Frm (wr ks) w w') (hj : Held js w') (ho : ∀ x ∈ js, wr ks x.id ∨ w.heap.size ≤ x.id) : Hd w0 W (js ++ r) w' := by
  obtain ⟨_, h2, h3, _, _⟩ := g.spec hw
  have hwr : ∀ k, wr ks k → W k ∨ w0.heap.size ≤ k := fun k ⟨e, he, hr, hid⟩ => hid ▸ (h3 e he hr).1
  have hkeep : ∀ f ∈ r, ¬ wr ks f.id := fun f hf ⟨e, he, hr, hid⟩ => (h3 e he hr).2 f hf hid
  refine ⟨hw.frm.trans hf (fun i hi hk => (hwr i hk).resolve_right (by omega)), ⟨fun e he => ?_, List.pairwise_append.2 ⟨hj.pair, h2.held.pair, fun a ha b hb _ => ?_⟩⟩, fun e he hr => ?_⟩
  · rcases List.mem_append.1 he with he | he
    · exact hj.at_ e he
    · rw [hf.block e.id (h2.held.lt he) (hkeep e he)]; exact h2.held.at_ e he
  · rcases ho a ha with h | h
    · exact fun heq => hkeep b hb (heq ▸ h)
    · have := h2.held.lt hb; omega
  · rcases List.mem_append.1 he with he | he
    · rcases ho e he with h | h
      · exact hwr _ h
      · exact .inr (Nat.le_trans hw.frm.size h)
    · exact h2.own e he hr

/-- A call, by whatever is known of it. -/
theorem TL.callE {f : FuncId} {F : Operand} {xs : List Operand} {us vs cs as : List Value} {ks r : HS} {R : Ending → HS → Prop} {dst : Option Tmp} {ts : Array TypeId} {ty : TypeId} {pos : String} {af : Array Edge} [fn : Fun P f]
    (hF : ev l F = some (.func (.func f) us.toArray cs.toArray)) (ha : evs l xs = some vs) (has : us ++ vs ++ cs = as) (hc : FnE P f as.toArray ks R) (g : Gives hs ks r)
    (kr : ∀ v js, R (.returned v) js → ∀ a w, Knows n D l a → Hd w0 W (js ++ r) w → wpList P ops Q rest (a.put dst v) w)
    (kp : ∀ ch js, R (.panicked ch) js → AQ w0 W Q D n l (js ++ r) (.panic ch)) :
    TL P w0 W Q D ops n l hs (⟨dst, .call { callee := .value F, args := xs.toArray, argTypes := ts }, ty, pos, af, none⟩ :: rest) := fun a w hk hw => by
  refine wpList_plain rfl (fun K hK => ?_)
  have hr : (execOp a.eval ⟨dst, .call { callee := .value F, args := xs.toArray, argTypes := ts }, ty, pos, af, none⟩).run P w = .ok (.enter f as.toArray) w := by
    subst has
    simp [execOp, resolve, hk.eval hF, hk.agrees.map ha, Deferred.ofValue, invoke, fn.run]
  simp only [Oper.wp, hr, Oper.upon]
  refine (hc w (g.spec hw).1).mono ?_
  rintro e w' ⟨hne, js, hR, hf, hj, ho⟩
  have hb := g.back hw hf hj ho
  cases e with
  | returned v => exact hK _ _ (kr v js hR a w' hk hb)
  | panicked ch => exact kp ch js hR a w' hk hb
  | outgrown => exact absurd rfl hne

/-- It returns just this. -/
def FnD (P : Program) (f : FuncId) (as : List Value) (ks : HS) (v : Value) (js : HS) : Prop := FnE P f as.toArray ks (fun e j => e = .returned v ∧ j = js)
/-- It returns one of these. -/
def FnX (P : Program) (f : FuncId) (as : List Value) (ks : HS) (X : Type) (c : X → Prop) (v : X → Value) (js : X → HS) : Prop := FnE P f as.toArray ks (fun e j => ∃ x, c x ∧ e = .returned (v x) ∧ j = js x)

theorem TL.callD {f : FuncId} {F : Operand} {xs : List Operand} {us vs cs as : List Value} {ks r js : HS} {v : Value} {d : Nat} {ts : Array TypeId} {ty : TypeId} {pos : String} {af : Array Edge} [Fun P f] (hc : FnD P f as ks v js)
    (hF : ev l F = some (.func (.func f) us.toArray cs.toArray)) (ha : evs l xs = some vs) (has : us ++ vs ++ cs = as) (g : Gives hs ks r) (hdn : Nat.blt d n = true)
    (k : TL P w0 W Q D ops n ((d, v) :: l) (js ++ r) rest) : TL P w0 W Q D ops n l hs (⟨some d, .call { callee := .value F, args := xs.toArray, argTypes := ts }, ty, pos, af, none⟩ :: rest) :=
  TL.callE hF ha has hc g (fun v' js' ⟨h1, h2⟩ a w hk hw => by
    cases h1; subst h2; exact k _ w (hk.put hdn) hw) (fun ch js' ⟨h1, _⟩ => by cases h1)
theorem TL.callD0 {f : FuncId} {F : Operand} {xs : List Operand} {us vs cs as : List Value} {ks r js : HS} {v : Value} {ts : Array TypeId} {ty : TypeId} {pos : String} {af : Array Edge} [Fun P f] (hc : FnD P f as ks v js)
    (hF : ev l F = some (.func (.func f) us.toArray cs.toArray)) (ha : evs l xs = some vs) (has : us ++ vs ++ cs = as) (g : Gives hs ks r)
    (k : TL P w0 W Q D ops n l (js ++ r) rest) : TL P w0 W Q D ops n l hs (⟨none, .call { callee := .value F, args := xs.toArray, argTypes := ts }, ty, pos, af, none⟩ :: rest) :=
  TL.callE hF ha has hc g (fun v' js' ⟨_, h2⟩ a w hk hw => by
    subst h2; exact k _ w hk hw) (fun ch js' ⟨h1, _⟩ => by cases h1)
theorem TL.callX {f : FuncId} {F : Operand} {xs : List Operand} {us vs cs as : List Value} {ks r : HS} {X : Type} {c : X → Prop} {v : X → Value} {js : X → HS} {d : Nat} {ts : Array TypeId} {ty : TypeId} {pos : String} {af : Array Edge} [Fun P f] (hc : FnX P f as ks X c v js)
    (hF : ev l F = some (.func (.func f) us.toArray cs.toArray)) (ha : evs l xs = some vs) (has : us ++ vs ++ cs = as) (g : Gives hs ks r) (hdn : Nat.blt d n = true)
    (k : ∀ x, c x → TL P w0 W Q D ops n ((d, v x) :: l) (js x ++ r) rest) : TL P w0 W Q D ops n l hs (⟨some d, .call { callee := .value F, args := xs.toArray, argTypes := ts }, ty, pos, af, none⟩ :: rest) :=
  TL.callE hF ha has hc g (fun v' js' ⟨x, hx, h1, h2⟩ a w hk hw => by
    cases h1; subst h2; exact k x hx _ w (hk.put hdn) hw) (fun ch js' ⟨_, _, h1, _⟩ => by cases h1)
theorem TL.callX0 {f : FuncId} {F : Operand} {xs : List Operand} {us vs cs as : List Value} {ks r : HS} {X : Type} {c : X → Prop} {v : X → Value} {js : X → HS} {ts : Array TypeId} {ty : TypeId} {pos : String} {af : Array Edge} [Fun P f] (hc : FnX P f as ks X c v js)
    (hF : ev l F = some (.func (.func f) us.toArray cs.toArray)) (ha : evs l xs = some vs) (has : us ++ vs ++ cs = as) (g : Gives hs ks r)
    (k : ∀ x, c x → TL P w0 W Q D ops n l (js x ++ r) rest) : TL P w0 W Q D ops n l hs (⟨none, .call { callee := .value F, args := xs.toArray, argTypes := ts }, ty, pos, af, none⟩ :: rest) :=
  TL.callE hF ha has hc g (fun v' js' ⟨x, hx, _, h2⟩ a w hk hw => by
    subst h2; exact k x hx _ w hk hw) (fun ch js' ⟨_, _, h1, _⟩ => by cases h1)

/-- It returns one of these, or panics so. -/
def FnP (P : Program) (f : FuncId) (as : List Value) (ks : HS) (X : Type) (c : X → Prop) (v : X → Value) (js : X → HS) (no : Prop) (ch : List PanicEntry) : Prop :=
  FnE P f as.toArray ks (fun e j => (∃ x, c x ∧ e = .returned (v x) ∧ j = js x) ∨ (no ∧ e = .panicked ch ∧ j = []))
theorem TL.callP {f : FuncId} {F : Operand} {xs : List Operand} {us vs cs as : List Value} {ks r : HS} {X : Type} {c : X → Prop} {v : X → Value} {js : X → HS} {no : Prop} {ch : List PanicEntry} {d : Nat} {ts : Array TypeId} {ty : TypeId} {pos : String} {af : Array Edge} [Fun P f] (hc : FnP P f as ks X c v js no ch)
    (hF : ev l F = some (.func (.func f) us.toArray cs.toArray)) (ha : evs l xs = some vs) (has : us ++ vs ++ cs = as) (g : Gives hs ks r) (hdn : Nat.blt d n = true)
    (kp : no → AQ w0 W Q D n l r (.panic ch))
    (k : ∀ x, c x → TL P w0 W Q D ops n ((d, v x) :: l) (js x ++ r) rest) : TL P w0 W Q D ops n l hs (⟨some d, .call { callee := .value F, args := xs.toArray, argTypes := ts }, ty, pos, af, none⟩ :: rest) :=
  TL.callE hF ha has hc g (fun v' js' h a w hk hw => by
    rcases h with ⟨x, hx, h1, h2⟩ | ⟨_, h1, _⟩
    · cases h1; subst h2; exact k x hx _ w (hk.put hdn) hw
    · cases h1) (fun ch' js' h => by
    rcases h with ⟨_, _, h1, _⟩ | ⟨h0, h1, h2⟩
    · cases h1
    · cases h1; subst h2; exact kp h0)

/-! ### panics, loops, cuts -/
theorem AQ.then_p {K : Act → World → Prop} {ch : List PanicEntry} (k : AQ w0 W Q D n l hs (.panic ch)) : AQ w0 W (Exit.then K Q) D n l hs (.panic ch) := fun a w ha hw => k a w ha hw
theorem AQ.block_p {i : Nat} {ch : List PanicEntry} (k : AQ w0 W Q D n l hs (.panic ch)) : AQ w0 W (Exit.inBlock i Q) D n l hs (.panic ch) := fun a w ha hw => k a w ha hw

/-- panic(x) of a value in an interface. -/
theorem TL.panic {x : Operand} {t : TypeId} {v : Value} {dst : Option Tmp} {ty : TypeId} {pos : String} {af : Array Edge} (hx : ev l x = some (.iface t v)) (k : AQ w0 W Q D n l hs (.panic [{ v := .iface t v, recovered := false }])) :
    TL P w0 W Q D ops n l hs (⟨dst, .panic x, ty, pos, af, none⟩ :: rest) := fun a w ha hw => by
  refine wpList_plain rfl (fun K _ => ?_)
  have hr : (execOp a.eval ⟨dst, .panic x, ty, pos, af, none⟩).run P w = .halt (.panic (.iface t v)) w := by
    simp [execOp, ha.eval hx, Instr.panic]
  simp only [Oper.wp, hr, Oper.upon]
  exact k a w ha hw

/-- What a loop comes back with, or a first part leaves. -/
def Meet {X : Type} (w0 : World) (W : Nat → Prop) (D : List Deferred) (n : Nat) (I : X → Prop) (L : X → List (Nat × Value)) (H : X → HS) (a : Act) (w : World) : Prop := ∃ y, I y ∧ Knows n D (L y) a ∧ Hd w0 W (H y) w

theorem least (p : Nat → Prop) : ∀ k, p k → ∃ m, p m ∧ ∀ j, p j → m ≤ j := by
  intro k
  induction k using Nat.strongRecOn with
  | ind k ih =>
    intro hk
    by_cases h : ∃ j, j < k ∧ p j
    · obtain ⟨j, hj, hpj⟩ := h
      exact ih j hj hpj
    · refine ⟨k, hk, fun j hj => ?_⟩
      rcases Nat.lt_or_ge j k with h' | h'
      · exact absurd ⟨j, h', hj⟩ h
      · exact h'

theorem TC.loop {X : Type} {c : Code} (μ : X → Nat) (I : X → Prop) (L : X → List (Nat × Value)) (H : X → HS) (x0 : X) (h0 : I x0) (hl : Sub (L x0) l) (hh : HSub hs (H x0))
    (round : ∀ x, I x → TC P w0 W (Exit.then (Meet w0 W D n (fun y => I y ∧ μ y < μ x) L H) Q) D n (L x) (H x) c) : TC P w0 W Q D n l hs (.loop c) := fun a w ha hw => by
  let p : Act → World → Nat → Prop := fun a w k => ∃ y, I y ∧ μ y = k ∧ Knows n D (L y) a ∧ Hd w0 W (H y) w
  have hp : ∀ a w, Meet w0 W D n I L H a w → ∃ m, p a w m ∧ ∀ j, p a w j → m ≤ j := fun _ _ ⟨y, h1, h2, h3⟩ => least _ (μ y) ⟨y, h1, rfl, h2, h3⟩
  refine wp_loop (Meet w0 W D n I L H) (fun a w => open Classical in if h : Meet w0 W D n I L H a w then Classical.choose (hp a w h) else 0) ⟨x0, h0, ha.sub hl, hh.hd hw⟩ (fun a w hI => ?_)
  have hm := Classical.choose_spec (hp a w hI)
  rw [dif_pos hI]
  generalize Classical.choose (hp a w hI) = m at hm
  obtain ⟨⟨y, hy, hym, hka, hhw⟩, _⟩ := hm
  refine wp_mono (round y hy a w hka hhw) (fun e a' w' hq => ?_)
  cases e with
  | normal =>
    obtain ⟨z, ⟨hz, hlt⟩, hkz, hhz⟩ := hq
    have hI' : Meet w0 W D n I L H a' w' := ⟨z, hz, hkz, hhz⟩
    refine ⟨hI', ?_⟩
    rw [dif_pos hI']
    have := (Classical.choose_spec (hp a' w' hI')).2 (μ z) ⟨z, hz, rfl, hkz, hhz⟩
    omega
  | _ => exact hq

/-- A loop's round is over. -/
theorem AQ.again {X : Type} {I : X → Prop} {L : X → List (Nat × Value)} {H : X → HS} (y : X) (hI : I y) (hl : Sub (L y) l) (hh : HSub hs (H y)) : AQ w0 W (Exit.then (Meet w0 W D n I L H) Q) D n l hs .normal := fun _ _ ha hw =>
  ⟨y, hI, ha.sub hl, hh.hd hw⟩

/-- A loop of at most so many rounds, one behind the other. -/
theorem TC.rounds {c : Code} (m : Nat) (k : ∀ a w, Knows n D l a → Hd w0 W hs w → Code.rounds P c Q m a w) : TC P w0 W Q D n l hs (.loop c) := fun a w ha hw => wp_loop_rounds m (k a w ha hw)
/-- So many rounds are left. -/
def Left (P : Program) (Q : Exit → Act → World → Prop) (c : Code) (m : Nat) (a : Act) (w : World) : Prop := Code.rounds P c Q m a w
theorem TC.unroll {c : Code} (m : Nat) (k : TC P w0 W (Exit.then (Left P Q c m) Q) D n l hs c) : TC P w0 W Q D n l hs (.loop c) := fun a w ha hw => wp_loop_rounds (m + 1) (k a w ha hw)
theorem AQ.next {c : Code} {m : Nat} {Q' : Exit → Act → World → Prop} (k : TC P w0 W (Exit.then (Left P Q c m) Q) D n l hs c) : AQ w0 W (Exit.then (Left P Q c (m + 1)) Q') D n l hs .normal := fun a w ha hw => k a w ha hw

/-- A first part, and what it leaves. -/
theorem TC.cut {X : Type} {x y : Code} (I : X → Prop) (L : X → List (Nat × Value)) (H : X → HS) (k1 : TC P w0 W (Exit.then (Meet w0 W D n I L H) Q) D n l hs x) (k2 : ∀ z, I z → TC P w0 W Q D n (L z) (H z) y) : TC P w0 W Q D n l hs (.seq x y) := fun a w ha hw => by
  refine wp_seq (wp_mono (k1 a w ha hw) (fun e a' w' hq => ?_))
  cases e with
  | normal =>
    obtain ⟨z, hz, h1, h2⟩ := hq
    exact k2 z hz a' w' h1 h2
  | _ => exact hq

theorem Sub.cons' {t : Nat} {v u : Value} {r : List (Nat × Value)} (h : Sl.look l t = some v) (e : v = u) (s : Sub r l) : Sub ((t, u) :: r) l := ⟨e ▸ h, s⟩
end
end Go.Sl
