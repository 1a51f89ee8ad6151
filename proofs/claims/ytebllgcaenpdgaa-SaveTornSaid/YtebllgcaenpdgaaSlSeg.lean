/-
  The small logic: slices that are only read, as segments of what is held. Holds under no condition.
-/
import Derived.Test.YtebllgcaenpdgaaSlEq
set_option linter.all false
namespace Go.Sl
open Go

/-- A slice that is only read: its value, how many elements, their cells, the block. -/
inductive Ro (sz : Nat) (v : Value) (n : Nat) (ys : List Value) : HS → Prop
  | nil : v = .slice none 0 0 → n = 0 → ys = [] → Ro sz v n ys []
  | zero {a : Addr} {cap : Nat} : v = .slice (some a) 0 cap → n = 0 → ys = [] → Ro sz v n ys []
  | row {b off cap : Nat} {c : List Value} {t : TypeId} {z : Nat × Nat} : v = .slice (some ⟨b, off, none⟩) n cap → off + n * sz ≤ c.length → ys = cut c off (n * sz) → n ≤ cap → Ro sz v n ys [⟨b, .cells c.toArray t z, false⟩]

theorem TakeS.mem {hs ks rest : HS} (t : TakeS hs ks rest) : ∀ e ∈ ks, e ∈ hs := fun _ he => t.perm.mem_iff.2 (List.mem_append_left _ he)

theorem TakeS.single {hs rest : HS} {b : Nat} {o : Obj} {r : Bool} (t : TakeA hs b o r rest) : TakeS hs [⟨b, o, r⟩] rest := ⟨t.perm⟩

theorem Ro.src {sz n : Nat} {v : Value} {ys : List Value} {sg hs rest : HS} (h : Ro sz v n ys sg) (t : TakeS hs sg rest) : Src hs sz v n ys := by
  cases h with
  | nil h1 h2 h3 => exact .nil h1 h2 h3
  | zero h1 h2 h3 => exact .zero h1 h2 h3
  | row h1 h2 h3 h4 => exact .row h1 ⟨t.mem _ List.mem_cons_self⟩ h2 h3
theorem Ro.ro {sz n : Nat} {v : Value} {ys : List Value} {sg : HS} (h : Ro sz v n ys sg) : ∀ e ∈ sg, e.rw = false := by
  cases h <;> simp
theorem Ro.length {sz n : Nat} {v : Value} {ys : List Value} {sg : HS} (h : Ro sz v n ys sg) : ys.length = n * sz := by
  cases h with
  | nil h1 h2 h3 => simp [h2, h3]
  | zero h1 h2 h3 => simp [h2, h3]
  | row h1 h2 h3 h4 => subst h3; simp [cut]; omega
theorem Ro.is {sz n : Nat} {v : Value} {ys : List Value} {sg : HS} (h : Ro sz v n ys sg) : ∃ a cap, v = .slice a n cap ∧ n ≤ cap := by
  cases h with
  | nil h1 h2 h3 => subst h2; exact ⟨_, _, h1, Nat.le_refl _⟩
  | zero h1 h2 h3 => subst h2; exact ⟨_, _, h1, Nat.zero_le _⟩
  | row h1 h2 h3 h4 => exact ⟨_, _, h1, h4⟩
theorem Ro.at_ {sz n : Nat} {v : Value} {ys : List Value} {sg : HS} (h : Ro sz v n ys sg) (hn : 0 < n) : ∃ b off cap c t z, v = .slice (some ⟨b, off, none⟩) n cap ∧ sg = [⟨b, .cells c.toArray t z, false⟩] ∧ off + n * sz ≤ c.length ∧ ys = cut c off (n * sz) := by
  cases h with
  | nil h1 h2 h3 => omega
  | zero h1 h2 h3 => omega
  | @row b off cap c t z h1 h2 h3 h4 => exact ⟨b, off, cap, c, t, z, h1, rfl, h2, h3⟩
theorem nth_cut {c ys : List Value} {off m k : Nat} {v : Value} (h : ys = cut c off m) (hk : k < m) (hv : ys[k]? = some v) : nth c (off + k) = some v := by
  subst h
  rw [nth_eq]
  simp only [cut, List.getElem?_take, hk, if_true, List.getElem?_drop] at hv
  exact hv

/-- A slice of one's own, only read. -/
theorem Buf.ro {T n : Nat} {v : Value} {xs : List Value} {sg : HS} (h : Buf T 1 v xs sg) (hn : xs.length = n) : Ro 1 v n xs (roS sg) := by
  cases h with
  | nil h1 h2 => subst h2; simp at hn; subst hn; exact .nil h1 rfl rfl
  | own h1 h2 h3 h4 h5 h6 => rw [Nat.mul_one] at h2; rw [h2] at hn; subst hn; exact .row h1 (by omega) (by rw [← h5]; simp [cut]) h4

/-- A slice's length. -/
def IsSl (v : Value) (n : Nat) : Prop := ∃ a cap, v = .slice a n cap
theorem Ro.isl {sz n : Nat} {v : Value} {ys : List Value} {sg : HS} (h : Ro sz v n ys sg) : IsSl v n := let ⟨a, cap, h1, _⟩ := h.is; ⟨a, cap, h1⟩
theorem Buf.isl {T n : Nat} {v : Value} {xs : List Value} {sg : HS} (h : Buf T 1 v xs sg) (hn : xs.length = n) : IsSl v n := by
  cases h with
  | nil h1 h2 => subst h2; simp at hn; subst hn; exact ⟨_, _, h1⟩
  | own h1 h2 h3 h4 h5 h6 => rw [Nat.mul_one] at h2; rw [h2] at hn; subst hn; exact ⟨_, _, h1⟩
theorem Pu.lenSl {P : Program} {l : List (Nat × Value)} {t e : TypeId} {x : Operand} {v : Value} {n : Nat} {ts : Array TypeId} [ut : Und P t (.slice e)] (hx : ev l x = some v) (hv : IsSl v n) (ht : ts = #[t]) :
    Pu P l (.call { callee := .builtin .len, args := #[x], argTypes := ts }) (.int .i64 n) := by
  obtain ⟨a, cap, rfl⟩ := hv
  exact Pu.lenSlice hx ht

/-- The results, in slots or in variables. -/
inductive ResV (P : Program) (l : List (Nat × Value)) (hs : HS) : List ResultVar → List Value → Prop
  | nil : ResV P l hs [] []
  | tmp {t : Nat} {v : Value} {rs : List ResultVar} {vs : List Value} (h : look l t = some v) (r : ResV P l hs rs vs) : ResV P l hs (.tmp t :: rs) (v :: vs)
  | cellA {t ty b n : Nat} {c : List Value} {e : TypeId} {z : Nat × Nat} {q : Bool} {rs : List ResultVar} {vs : List Value} [ia : IsAgg P ty true] [sz : Siz P ty n] (h : look l t = some (.pointer (some ⟨b, 0, none⟩))) (hh : Has hs b (.cells c.toArray e z) q) (hl : c.length = n)
      (r : ResV P l hs rs vs) : ResV P l hs (.cell t ty :: rs) (.agg c.toArray :: vs)
  | cell1 {t ty b : Nat} {c : List Value} {v : Value} {e : TypeId} {z : Nat × Nat} {q : Bool} {rs : List ResultVar} {vs : List Value} [ia : IsAgg P ty false] (h : look l t = some (.pointer (some ⟨b, 0, none⟩))) (hh : Has hs b (.cells c.toArray e z) q) (hv : nth c 0 = some v)
      (r : ResV P l hs rs vs) : ResV P l hs (.cell t ty :: rs) (v :: vs)

section
variable {P : Program} {w0 : World} {W : Nat → Prop} {D : List Deferred} {n : Nat} {l : List (Nat × Value)} {hs : HS}
theorem ResV.run {a : Act} (ha : Knows n D l a) {w : World} (hw : Held hs w) {rs : List ResultVar} {vs : List Value} (h : ResV P l hs rs vs) : (rs.mapM (m := Sem) (resFn a.tmps)).run P w = .ok vs w := by
  induction h with
  | nil => simp
  | @tmp t v rs vs h r ih =>
    have h1 : a.tmps.getD t undef = v := by simp [ha.slot t v h]
    rw [List.mapM_cons]
    simp only [Sem.run_bind, Sem.run_pure, Result.andThen_ok, resFn, h1, ih]
  | @cellA t ty b m c e z q rs vs ia sz h hh hl r ih =>
    subst hl
    have h1 : a.tmps.getD t undef = .pointer (some ⟨b, 0, none⟩) := by simp [ha.slot t _ h]
    have hb := hw.at_ _ hh.mem
    have := run_loadCells (P := P) hb c.length 0 0 #[] (by omega)
    rw [List.mapM_cons]
    simp only [Sem.run_bind, resFn, h1, asAddr, Sem.run_pure, Result.andThen_ok, loadVar, ia.run, if_true, sz.run, loadCells]
    simp [this, ih]
  | @cell1 t ty b c v e z q rs vs ia h hh hv r ih =>
    have h1 : a.tmps.getD t undef = .pointer (some ⟨b, 0, none⟩) := by simp [ha.slot t _ h]
    have hb := hw.at_ _ hh.mem
    have hc : w.cell? ⟨b, 0, none⟩ = some v := by rw [cell_of hb]; simpa [nth_eq] using hv
    rw [List.mapM_cons]
    simp only [Sem.run_bind, resFn, h1, asAddr, Sem.run_pure, Result.andThen_ok, loadVar, ia.run]
    simp [hc, ih]
theorem ResV.results {fn : Func} {rs : List ResultVar} {vs : List Value} {a : Act} (ha : Knows n D l a) {w : World} (hw : Held hs w) (hr : fn.results = rs.toArray) (h : ResV P l hs rs vs) : (results fn a.tmps).run P w = .ok (tup vs) w := by
  have h := h.run ha hw
  rw [results_eq, hr, List.mapM_toArray]
  simp only [Sem.run_bind, Sem.run_map, h, Result.andThen_ok, Sem.run_pure]
  congr 1
  match vs with
  | [] => simp [tup]
  | [v] => simp [tup]
  | v :: u :: r => simp [tup]
theorem AQ.retV {R : Ending → HS → Prop} {hs0 ks : HS} {fn : Func} {rs : List ResultVar} {vs : List Value} (hr : fn.results = rs.toArray) (he : ResV P l hs rs vs) (hR : R (.returned (tup vs)) ks) (hk : KSub hs ks) :
    AQ w0 (wr hs0) (bodyPost P fn (Lift R hs0 w0)) [] n l hs .ret := fun a w ha hw => by
  refine ⟨ha.defers, _, he.results ha hw.held hr, by simp, ks, hR, hw.frm, ?_⟩
  obtain ⟨h1, h2, _⟩ := hk.hd hw
  exact ⟨h1.held, fun x hx => h1.own x hx (h2 x hx)⟩
end
end Go.Sl
