/-
  The small logic: '==' on structs and arrays of integers and bools. Holds under no condition.
-/
import Derived.Test.YtebllgcaenpdgaaSlBuild
set_option linter.all false
namespace Go.Sl
open Go

inductive K where
  | i (k : IntKind)
  | b
def kc : K → Value → Bool
  | .i k, .int j _ => decide (k = j)
  | .b, .bool _ => true
  | _, _ => false
def fits : List K → List Value → Bool
  | [], [] => true
  | k :: ks, v :: vs => kc k v && fits ks vs
  | _, _ => false
def eqc : Value → Value → Bool
  | .int _ a, .int _ b => a == b
  | .bool a, .bool b => a == b
  | _, _ => false
def eqL : List Value → List Value → Bool
  | [], [] => true
  | x :: xs, y :: ys => eqc x y && eqL xs ys
  | _, _ => false
theorem fits_length : ∀ {ks : List K} {vs : List Value}, fits ks vs = true → vs.length = ks.length
  | [], [], _ => rfl
  | k :: ks, v :: vs, h => by
    simp only [fits, Bool.and_eq_true] at h
    simp [fits_length h.2]
  | [], _ :: _, h => by simp [fits] at h
  | _ :: _, [], h => by simp [fits] at h
theorem fits_append : ∀ {ks js : List K} {vs : List Value}, fits (ks ++ js) vs = true → fits ks (vs.take ks.length) = true ∧ fits js (vs.drop ks.length) = true
  | [], _, _, h => by simpa [fits] using h
  | k :: ks, js, [], h => by simp [fits] at h
  | k :: ks, js, v :: vs, h => by
    simp only [List.cons_append, fits, Bool.and_eq_true] at h
    obtain ⟨h1, h2⟩ := fits_append h.2
    simp [fits, h.1, h1, h2]
theorem eqL_append : ∀ (n : Nat) (xs ys : List Value), xs.length = ys.length → eqL xs ys = (eqL (xs.take n) (ys.take n) && eqL (xs.drop n) (ys.drop n))
  | 0, xs, ys, _ => by simp [eqL]
  | n + 1, [], [], _ => by simp [eqL]
  | n + 1, x :: xs, y :: ys, h => by
    simp only [List.length_cons, Nat.add_right_cancel_iff] at h
    simp [eqL, eqL_append n xs ys h, Bool.and_assoc]
  | _ + 1, [], _ :: _, h => by simp at h
  | _ + 1, _ :: _, [], h => by simp at h

def mkv (g : Bool) (l : List Value) : Value := if g then .agg l.toArray else l.headD undef

structure EqRun (P : Program) (t : TypeId) (g : Bool) (ks : List K) (h : Nat) : Prop where
  agg : ∀ w, (isAgg t).run P w = .ok g w
  siz : ∀ w, (sizeOf t).run P w = .ok ks.length w
  one : g = false → ks.length = 1
  pos : ks.length ≠ 0
  run : ∀ d xs ys w, fits ks xs = true → fits ks ys = true → (Op.equalIn (d + h) t (mkv g xs) (mkv g ys)).run P w = .ok (eqL xs ys) w

theorem fits_int {k : IntKind} {xs : List Value} (h : fits [.i k] xs = true) : ∃ x, xs = [.int k x] := by
  match xs, h with
  | v :: [], h =>
    cases v <;> simp [fits, kc] at h
    subst h; exact ⟨_, rfl⟩
  | [], h => simp [fits] at h
  | _ :: _ :: _, h => simp [fits] at h
theorem fits_bool {xs : List Value} (h : fits [.b] xs = true) : ∃ x, xs = [.bool x] := by
  match xs, h with
  | v :: [], h =>
    cases v <;> simp [fits, kc] at h
    exact ⟨_, rfl⟩
  | [], h => simp [fits] at h
  | _ :: _ :: _, h => simp [fits] at h

section
variable {P : Program}

theorem EqRun.part {t : TypeId} {g : Bool} {ks : List K} {h : Nat} (e : EqRun P t g ks h) (cs : List Value) (off : Nat) (hl : off + ks.length ≤ cs.length) (w : World) : (Go.part t cs.toArray off).run P w = .ok (mkv g ((cs.drop off).take ks.length)) w := by
  cases g with
  | true => simp [Go.part, e.agg, e.siz, mkv, List.extract]
  | false =>
    have h1 := e.one rfl
    have hlt : off < cs.length := by omega
    have hd : (cs.drop off).take ks.length = [cs[off]] := by
      rw [h1, List.drop_eq_getElem_cons hlt, List.take_succ_cons, List.take_zero]
    rw [hd]
    simp [Go.part, e.agg, mkv, hlt]

theorem EqRun.up {t : TypeId} {g : Bool} {ks : List K} {h : Nat} (e : EqRun P t g ks h) : EqRun P t g ks (h + 1) :=
  ⟨e.agg, e.siz, e.one, e.pos, fun d xs ys w hx hy => by rw [show d + (h + 1) = (d + 1) + h by omega]; exact e.run _ _ _ _ hx hy⟩

theorem EqRun.int {t : TypeId} {k : IntKind} (hu : ∀ w, (underlying t).run P w = .ok (.int k) w) (ha : ∀ w, (isAgg t).run P w = .ok false w) (hs : ∀ w, (sizeOf t).run P w = .ok 1 w) : EqRun P t false [.i k] 1 :=
  ⟨ha, hs, fun _ => rfl, by simp, fun d xs ys w hx hy => by
    obtain ⟨x, rfl⟩ := fits_int hx
    obtain ⟨y, rfl⟩ := fits_int hy
    show (Op.equalIn (d + 1) t (.int k x) (.int k y)).run P w = _
    simp [Op.equalIn, hu, eqL, eqc]⟩
theorem EqRun.bool {t : TypeId} (hu : ∀ w, (underlying t).run P w = .ok .bool w) (ha : ∀ w, (isAgg t).run P w = .ok false w) (hs : ∀ w, (sizeOf t).run P w = .ok 1 w) : EqRun P t false [.b] 1 :=
  ⟨ha, hs, fun _ => rfl, by simp, fun d xs ys w hx hy => by
    obtain ⟨x, rfl⟩ := fits_bool hx
    obtain ⟨y, rfl⟩ := fits_bool hy
    show (Op.equalIn (d + 1) t (.bool x) (.bool y)).run P w = _
    simp [Op.equalIn, hu, eqL, eqc]⟩

inductive EqFs (P : Program) (h : Nat) : List Field → Nat → List K → Prop
  | nil (off : Nat) : EqFs P h [] off []
  | cons {f : Field} {g : Bool} {ks js : List K} {fs : List Field} {off : Nat} (ho : f.offset = off) (hn : f.name ≠ "_") (e : EqRun P f.type g ks h) (r : EqFs P h fs (off + ks.length) js) : EqFs P h (f :: fs) off (ks ++ js)

theorem EqFs.run {h : Nat} {fs : List Field} {off : Nat} {ks : List K} (e : EqFs P h fs off ks) : ∀ (d : Nat) (xs ys : List Value) (w : World), fits ks (xs.drop off) = true → fits ks (ys.drop off) = true →
    (Op.eqFields (d + h) xs.toArray ys.toArray fs).run P w = .ok (eqL (xs.drop off) (ys.drop off)) w := by
  induction e with
  | nil off =>
    intro d xs ys w hx hy
    have e1 : xs.drop off = [] := List.length_eq_zero_iff.1 (fits_length hx)
    have e2 : ys.drop off = [] := List.length_eq_zero_iff.1 (fits_length hy)
    simp [Op.eqFields, e1, e2, eqL]
  | @cons f g ks js fs off ho hn e r ih =>
    intro d xs ys w hx hy
    have hlx := fits_length hx
    have hly := fits_length hy
    have hp := e.pos
    simp only [List.length_drop, List.length_append] at hlx hly
    obtain ⟨hx1, hx2⟩ := fits_append hx
    obtain ⟨hy1, hy2⟩ := fits_append hy
    rw [List.drop_drop] at hx2 hy2
    have hlen : (xs.drop off).length = (ys.drop off).length := by rw [fits_length hx, fits_length hy]
    have hpx := e.part xs off (by omega) w
    have hpy := e.part ys off (by omega) w
    simp only [Op.eqFields, if_pos hn, ho, Sem.run_bind, hpx, hpy, Result.andThen_ok, e.run d _ _ w hx1 hy1]
    rw [eqL_append ks.length _ _ hlen, List.drop_drop, List.drop_drop]
    cases hq : eqL ((xs.drop off).take ks.length) ((ys.drop off).take ks.length) with
    | false => simp
    | true => simp [ih d xs ys w hx2 hy2]

theorem EqRun.struct {t : TypeId} {fs : List Field} {ks : List K} {h : Nat} (hu : P.underlying t = some (.struct fs.toArray)) (hp : P.stoodInHeld t = false) (ha : ∀ w, (isAgg t).run P w = .ok true w) (hs : ∀ w, (sizeOf t).run P w = .ok ks.length w)
    (hne : ks.length ≠ 0) (e : EqFs P h fs 0 ks) : EqRun P t true ks (h + 1) :=
  ⟨ha, hs, fun h => (by cases h), hne, fun d xs ys w hx hy => by
    have hf : P.fieldsOf t = fs.toArray := by simp [Program.fieldsOf, hu]
    show (Op.equalIn ((d + h) + 1) t (.agg xs.toArray) (.agg ys.toArray)).run P w = _
    rw [run_equalIn_struct w (d + h) t _ _ (by rw [hf]; exact hu) hp, hf]
    simpa using e.run d xs ys w (by simpa using hx) (by simpa using hy)⟩

def rep (ks : List K) : Nat → List K
  | 0 => []
  | n + 1 => ks ++ rep ks n
theorem rep_length (ks : List K) : ∀ n, (rep ks n).length = n * ks.length
  | 0 => by simp [rep]
  | n + 1 => by simp [rep, rep_length ks n, Nat.add_mul]; omega

theorem EqRun.array {t el : TypeId} {g : Bool} {ks : List K} {h n : Nat} (hu : ∀ w, (underlying t).run P w = .ok (.array n el) w) (ha : ∀ w, (isAgg t).run P w = .ok true w) (hs : ∀ w, (sizeOf t).run P w = .ok (n * ks.length) w) (hn : n ≠ 0) (e : EqRun P el g ks h) :
    EqRun P t true (rep ks n) (h + 1) :=
  ⟨ha, fun w => by rw [rep_length]; exact hs w, fun h => (by cases h), by rw [rep_length]; exact Nat.mul_ne_zero hn e.pos, fun d xs ys w hx hy => by
    show (Op.equalIn ((d + h) + 1) t (.agg xs.toArray) (.agg ys.toArray)).run P w = _
    have key : ∀ (m k : Nat) (w : World), k + m = n → fits (rep ks m) (xs.drop (k * ks.length)) = true → fits (rep ks m) (ys.drop (k * ks.length)) = true →
        ((forIn (List.range' k m) ((none, ()) : Option Bool × Unit) (fun i r => do
          let a ← Go.part el xs.toArray (i * ks.length)
          let b ← Go.part el ys.toArray (i * ks.length)
          let q ← Op.equalIn (d + h) el a b
          if (!q) = true then pure (ForInStep.done (some false, ())) else pure (ForInStep.yield (none, ()))) : Sem _)).run P w =
          .ok (if eqL (xs.drop (k * ks.length)) (ys.drop (k * ks.length)) then (none, ()) else (some false, ())) w := by
      intro m
      induction m with
      | zero =>
        intro k w _ hx hy
        have e1 : xs.drop (k * ks.length) = [] := List.length_eq_zero_iff.1 (fits_length hx)
        have e2 : ys.drop (k * ks.length) = [] := List.length_eq_zero_iff.1 (fits_length hy)
        simp [e1, e2, eqL]
      | succ m ih =>
        intro k w hkm hx hy
        have hlx := fits_length hx
        have hly := fits_length hy
        have hp := e.pos
        simp only [List.length_drop, rep, List.length_append] at hlx hly
        obtain ⟨hx1, hx2⟩ := fits_append hx
        obtain ⟨hy1, hy2⟩ := fits_append hy
        rw [List.drop_drop] at hx2 hy2
        have hlen : (xs.drop (k * ks.length)).length = (ys.drop (k * ks.length)).length := by rw [fits_length hx, fits_length hy]
        have hk1 : k * ks.length + ks.length = (k + 1) * ks.length := by rw [Nat.add_mul]; omega
        rw [hk1] at hx2 hy2
        simp only [List.range'_succ, List.forIn_cons, Sem.run_bind, e.part xs (k * ks.length) (by omega) w, e.part ys (k * ks.length) (by omega) w, Result.andThen_ok, e.run d _ _ w hx1 hy1]
        rw [eqL_append ks.length _ _ hlen, List.drop_drop, List.drop_drop, hk1]
        cases hq : eqL ((xs.drop (k * ks.length)).take ks.length) ((ys.drop (k * ks.length)).take ks.length) with
        | false => simp
        | true =>
          simp only [Bool.not_true, Bool.false_eq_true, if_false, Sem.run_pure, Result.andThen_ok, Bool.true_and]
          exact ih (k + 1) w (by omega) hx2 hy2
    have := key n 0 w (by omega) (by simpa using hx) (by simpa using hy)
    simp only [Nat.zero_mul, List.drop_zero] at this
    simp only [Op.equalIn, Sem.run_bind, hu, Result.andThen_ok, e.siz]
    rw [Std.Legacy.Range.forIn_eq_forIn_range']
    simp only [Std.Legacy.Range.size, Nat.sub_zero, Nat.add_sub_cancel, Nat.div_one]
    rw [this]
    cases eqL xs ys <;> simp⟩

theorem run_eqGuard_agg' (op : BinOp) (t : TypeId) (x y : Operand) (xs ys : Array Value) (hm : P.eqGuardType P.depth t = false) (w : World) : (eqGuard op t x y (.agg xs) (.agg ys)).run P w = .ok () w := run_eqGuard_agg w op t x y xs ys hm

/-- How two values of a struct's or an array's type are compared. -/
class EqT (P : Program) (t : TypeId) (ks : outParam (List K)) : Prop where
  run : ∀ (op : BinOp) (X Y : Operand) xs ys w, fits ks xs = true → fits ks ys = true → (do eqGuard op t X Y (.agg xs.toArray) (.agg ys.toArray); Op.equal t (.agg xs.toArray) (.agg ys.toArray) : Sem Bool).run P w = .ok (eqL xs ys) w
theorem EqT.mk' {t : TypeId} {ks : List K} {h : Nat} (e : EqRun P t true ks h) (hh : Nat.ble h 10000 = true) (hm : P.eqGuardType P.depth t = false) : EqT P t ks := ⟨fun op X Y xs ys w hx hy => by
  have := e.run (10000 - h) xs ys w hx hy
  rw [show 10000 - h + h = 10000 by have := Nat.le_of_ble_eq_true hh; omega] at this
  simp only [Sem.run_bind, run_eqGuard_agg' op t X Y _ _ hm, Result.andThen_ok, Op.equal, Op.maxDepth]
  exact this⟩

theorem Pu.eqA {l : List (Nat × Value)} {t u : TypeId} {x y : Operand} {xs ys : List Value} {ks : List K} [e : EqT P t ks] (hx : ev l x = some (.agg xs.toArray)) (hy : ev l y = some (.agg ys.toArray)) (fx : fits ks xs = true) (fy : fits ks ys = true) :
    Pu P l (.binOp .eql t x y u) (.bool (eqL xs ys)) := fun ρ hρ o ho w => by
  have h := e.run .eql x y xs ys w fx fy
  simp only [Sem.run_bind] at h
  simp only [execOp, ho, hρ x _ hx, hρ y _ hy, Sem.run_bind, binOp]
  generalize (eqGuard .eql t x y (.agg xs.toArray) (.agg ys.toArray)).run P w = r at h
  cases r with
  | ok a w' => simp only [Result.andThen_ok] at h ⊢; simp [h]
  | halt a w' => simp at h
theorem Pu.neA {l : List (Nat × Value)} {t u : TypeId} {x y : Operand} {xs ys : List Value} {ks : List K} [e : EqT P t ks] (hx : ev l x = some (.agg xs.toArray)) (hy : ev l y = some (.agg ys.toArray)) (fx : fits ks xs = true) (fy : fits ks ys = true) :
    Pu P l (.binOp .neq t x y u) (.bool (!eqL xs ys)) := fun ρ hρ o ho w => by
  have h := e.run .neq x y xs ys w fx fy
  simp only [Sem.run_bind] at h
  simp only [execOp, ho, hρ x _ hx, hρ y _ hy, Sem.run_bind, binOp]
  generalize (eqGuard .neq t x y (.agg xs.toArray) (.agg ys.toArray)).run P w = r at h
  cases r with
  | ok a w' => simp only [Result.andThen_ok] at h ⊢; simp [h]
  | halt a w' => simp at h
end
end Go.Sl
