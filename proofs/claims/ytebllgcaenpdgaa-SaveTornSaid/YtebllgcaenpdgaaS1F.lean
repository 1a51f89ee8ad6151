/-
  Walks of this claim's functions, printed by a program of ours off the loaded program. Holds under no condition.
-/
import Derived.Test.YtebllgcaenpdgaaS1E
set_option linter.all false
namespace Go.Sl
open Go Go.Proofs
/-- The panic of the reader. -/
def torn : List PanicEntry := [{ v := .iface 68 (.agg [].toArray), recovered := false }]

/-- What is left to read: the slice's value, and its bytes. -/
def Rem (b : Nat) (c : List Value) (u : Value) (rem : List Int) : Prop :=
  ∃ off cap, u = .slice (some ⟨b, off, none⟩) rem.length cap ∧ rem.length ≤ cap ∧ off + rem.length ≤ c.length ∧ bys rem = cut c off rem.length ∧ ∀ x ∈ rem, 0 ≤ x ∧ x < 256
theorem Rem.isl {b : Nat} {c : List Value} {u : Value} {rem : List Int} (h : Rem b c u rem) : IsSl u rem.length := let ⟨_, _, h1, _⟩ := h; ⟨_, _, h1⟩
theorem Rem.one {b : Nat} {c : List Value} {u : Value} {rem : List Int} (h : Rem b c u rem) : Sl.one u = true := by obtain ⟨_, _, rfl, _⟩ := h; rfl

/-- The number of some bytes, the highest first. -/
def valB : List Int → Int → Int
  | [], n => n
  | b :: r, n => valB r (n * 256 + b)
theorem valB_append : ∀ (a b : List Int) (n : Int), valB (a ++ b) n = valB b (valB a n)
  | [], _, _ => rfl
  | x :: a, b, n => by simp [valB, valB_append a b]
theorem valB_bound : ∀ (l : List Int) (n : Int) (k : Nat), (∀ x ∈ l, 0 ≤ x ∧ x < 256) → 0 ≤ n → n < 256 ^ k → 0 ≤ valB l n ∧ valB l n < 256 ^ (k + l.length)
  | [], n, k, _, h0, h1 => ⟨h0, by simpa [valB] using h1⟩
  | x :: l, n, k, hl, h0, h1 => by
    have hx := hl x List.mem_cons_self
    have h2 : n * 256 + x < 256 ^ (k + 1) := by
      have : n + 1 ≤ 256 ^ k := h1
      have := Int.mul_le_mul_of_nonneg_right this (show (0 : Int) ≤ 256 by decide)
      rw [Int.pow_succ]; omega
    have := valB_bound l (n * 256 + x) (k + 1) (fun y hy => hl y (List.mem_cons_of_mem _ hy)) (by omega) h2
    simp only [valB, List.length_cons]
    rw [show k + (l.length + 1) = k + 1 + l.length by omega]
    exact this

theorem or_byte (n x : Int) (k : Nat) (hk : k ≤ 6) (h0 : 0 ≤ n) (h1 : n < 256 ^ k) (hx : 0 ≤ x) (hx' : x < 256) :
    IntKind.i64.wrap ((BitVec.ofInt 64 (IntKind.i64.wrap (n * 2 ^ (min (8 : Int).toNat 64))) ||| BitVec.ofInt 64 (IntKind.i64.wrap x)).toNat) = n * 256 + x := by
  have e8 : (2 : Int) ^ (min (8 : Int).toNat 64) = 256 := by decide
  rw [e8]
  obtain ⟨a, rfl⟩ := Int.eq_ofNat_of_zero_le h0
  obtain ⟨y, rfl⟩ := Int.eq_ofNat_of_zero_le hx
  have ha : a < 281474976710656 := by
    have h2 : a < 256 ^ k := by
      rw [show (256 : Int) = ((256 : Nat) : Int) from rfl, ← Int.natCast_pow] at h1
      exact Int.ofNat_lt.1 h1
    exact Nat.lt_of_lt_of_le h2 (Nat.le_trans (Nat.pow_le_pow_right (show 0 < 256 by decide) hk) (by decide))
  rw [IntWalk.i64_in ((a : Int) * 256) (by omega), IntWalk.i64_in (y : Int) (by omega)]
  have hy : y < 2 ^ 8 := by omega
  have e1 : (BitVec.ofInt 64 ((a : Int) * 256)).toNat = 2 ^ 8 * a := by
    rw [show ((a : Int) * 256) = ((2 ^ 8 * a : Nat) : Int) by omega, BitVec.ofInt_natCast, BitVec.toNat_ofNat]
    exact Nat.mod_eq_of_lt (by show 2 ^ 8 * a < 18446744073709551616; omega)
  have e2 : (BitVec.ofInt 64 ((y : Nat) : Int)).toNat = y := by
    rw [BitVec.ofInt_natCast, BitVec.toNat_ofNat]
    exact Nat.mod_eq_of_lt (by show y < 18446744073709551616; omega)
  have e3 : (BitVec.ofInt 64 ((a : Int) * 256) ||| BitVec.ofInt 64 ((y : Nat) : Int)).toNat = a * 256 + y := by
    rw [BitVec.toNat_or, e1, e2, ← Nat.two_pow_add_eq_or_of_lt hy a]; omega
  show IntKind.i64.wrap (((BitVec.ofInt 64 ((a : Int) * 256) ||| BitVec.ofInt 64 ((y : Nat) : Int)).toNat : Nat) : Int) = _
  rw [e3, IntWalk.i64_in _ (by omega)]; omega

def pNum (s : Nat) (rem : List Int) : Option (Int × List Int) := if rem.length < s then none else some (valB (rem.take s) 0, rem.drop s)
theorem Rem.drop {b : Nat} {c : List Value} {rem : List Int} {off cap s : Nat} (hc : rem.length ≤ cap) (hl : off + rem.length ≤ c.length) (hb : bys rem = cut c off rem.length) (hr : ∀ x ∈ rem, 0 ≤ x ∧ x < 256) (hs : s ≤ rem.length) :
    Rem b c (.slice (some ⟨b, if cap = s then off else off + s * 1, none⟩) (rem.length - s) (cap - s)) (rem.drop s) := by
  refine ⟨if cap = s then off else off + s * 1, cap - s, by rw [List.length_drop], by rw [List.length_drop]; omega, ?_, ?_, fun x hx => hr x (List.mem_of_mem_drop hx)⟩
  · rw [List.length_drop]; split <;> omega
  · rw [List.length_drop]
    have : bys (rem.drop s) = (bys rem).drop s := by simp [bys]
    rw [this, hb]
    split
    · have : rem.length - s = 0 := by omega
      rw [this]
      simp only [cut, List.take_zero]
      rw [List.drop_eq_nil_of_le]
      rw [List.length_take, List.length_drop]; omega
    · simp only [cut, List.drop_take, List.drop_drop, Nat.mul_one]


theorem rnumber_fn (s : Nat) (hs : s ≤ 7) (r : Nat) (e : TypeId) (b : Nat) (c : List Value) (t : TypeId) (z : Nat × Nat) (u : Value) (rem : List Int) (hR : Rem b c u rem) :
    FnP Try.prog 22 [ptr r, vi (s : Int)] [⟨r, cel [u] e, true⟩, ⟨b, .cells c.toArray t z, false⟩] (Int × List Int × Value) (fun x => pNum s rem = some (x.1, x.2.1) ∧ Rem b c x.2.2 x.2.1) (fun x => vi x.1) (fun x => [⟨r, cel [x.2.2] e, true⟩]) (pNum s rem = none) torn := by
  have hR' := hR
  obtain ⟨off, cap, rfl, hcap, hlen, hbys, hrng⟩ := hR'
  refine FnE.enter Try.func22 rfl Try.ntmps22 rfl (fun w => ?_)
  refine TC.seq ?_
  refine TC.region ?_
  refine TL.pu (.assign rfl) rfl ?_
  refine TL.nil ?_
  refine AQ.then_n ?_
  refine TC.seq ?_
  refine TC.seq ?_
  refine TC.region ?_
  refine TL.pu (.move rfl) rfl ?_
  refine TL.pu (.nilCheck rfl) rfl ?_
  refine TL.pu (.fieldAddr rfl rfl) rfl ?_
  refine TL.rd (.load1 rfl inferInstance rfl) rfl ?_
  refine TL.pu (.lenSlice rfl rfl) rfl ?_
  refine TL.pu (.move rfl) rfl ?_
  refine TL.pu (.int rfl rfl rfl) rfl ?_
  refine TL.nil ?_
  refine AQ.then_n ?_
  refine TC.condd rfl (fun q1 => ?_) (fun q1 => ?_)
  · skip
    refine TC.region ?_
    refine TL.pu (.build rfl rfl) rfl ?_
    refine TL.pu (.iface rfl rfl) rfl ?_
    refine TL.panic rfl ?_
    refine AQ.then_p ?_
    refine AQ.panic (.inr ⟨by unfold pNum; rw [if_pos (by omega)], rfl, rfl⟩) (.nil _)
  refine TC.skip ?_
  refine AQ.then_n ?_
  refine TC.seq ?_
  refine TC.region ?_
  refine TL.pu (.assign rfl) rfl ?_
  refine TL.nil ?_
  refine AQ.then_n ?_
  refine TC.seq ?_
  refine TC.seq ?_
  refine TC.region ?_
  refine TL.pu (.move rfl) rfl ?_
  refine TL.pu (.nilCheck rfl) rfl ?_
  refine TL.pu (.fieldAddr rfl rfl) rfl ?_
  refine TL.rd (.load1 rfl inferInstance rfl) rfl ?_
  refine TL.pu (.move rfl) rfl ?_
  refine TL.pu (.slice_hi rfl rfl (by omega) (by omega)) rfl ?_
  refine TL.say 22 (.slice (some ⟨b, off, none⟩) s cap) rfl (by rw [Int.toNat_natCast]) ?_
  refine TL.pu (.lenSlice rfl rfl) rfl ?_
  refine TL.pu (.move rfl) rfl ?_
  refine TL.nil ?_
  refine AQ.then_n ?_
  refine TC.block ?_
  refine TC.loop (X := Nat) (fun (k : Nat) => s - k) (fun (k : Nat) => k ≤ s) (fun (k : Nat) => [(0, ptr r), (1, vi (s : Int)), (22, .slice (some ⟨b, off, none⟩) s cap), (23, vi (s : Int)), (24, vi (k : Int)), (5, vi (valB (rem.take k) 0))]) (fun (k : Nat) => [⟨r, cel [.slice (some ⟨b, off, none⟩) rem.length cap] e, true⟩, ⟨b, .cells c.toArray t z, false⟩]) 0 (Nat.zero_le _) ⟨rfl, rfl, rfl, rfl, rfl, rfl, trivial⟩ (.cons inferInstance rfl (.cons inferInstance rfl (.nil _))) (fun k hk => ?_)
  show TC _ _ _ _ _ _ [(0, ptr r), (1, vi (s : Int)), (22, .slice (some ⟨b, off, none⟩) s cap), (23, vi (s : Int)), (24, vi (k : Int)), (5, vi (valB (rem.take k) 0))] ([⟨r, cel [.slice (some ⟨b, off, none⟩) rem.length cap] e, true⟩, ⟨b, .cells c.toArray t z, false⟩]) _
  refine TC.seq ?_
  refine TC.region ?_
  refine TL.pu (.int rfl rfl rfl) rfl ?_
  refine TL.nil ?_
  refine AQ.then_n ?_
  refine TC.seq ?_
  refine TC.condd rfl (fun q2 => ?_) (fun q2 => ?_)
  · skip
    refine TC.skip ?_
    refine AQ.then_n ?_
    refine TC.seq ?_
    refine TC.block ?_
    refine TC.seq ?_
    refine TC.region ?_
    have hks : k < s := by omega
    have hkr : k < rem.length := by omega
    have hnth : nth c (off + (k : Int).toNat * 1) = some (vb rem[k]) := by
      rw [Int.toNat_natCast, Nat.mul_one]
      exact nth_cut hbys hkr (by simp [bys, hkr])
    have hx := hrng rem[k] (List.getElem_mem hkr)
    have hvb := valB_bound (rem.take k) 0 0 (fun x hx => hrng x (List.mem_of_mem_take hx)) (by decide) (by decide)
    rw [List.length_take, Nat.min_eq_left (by omega), Nat.zero_add] at hvb
    refine TL.pu (.indexAddr rfl rfl (by omega) (by omega) rfl) rfl ?_
    refine TL.rd (.load1 rfl inferInstance hnth) rfl ?_
    refine TL.pu (.assign rfl) rfl ?_
    refine TL.nil ?_
    refine AQ.then_n ?_
    refine TC.region ?_
    refine TL.pu (.move rfl) rfl ?_
    refine TL.pu (.shl rfl rfl (by decide)) rfl ?_
    refine TL.pu (.move rfl) rfl ?_
    refine TL.pu (.conv rfl) rfl ?_
    refine TL.pu (.int rfl rfl rfl) rfl ?_
    refine TL.say 32 (vi (valB (rem.take (k + 1)) 0)) rfl (by rw [take_snoc rem k hkr, valB_append]; exact congrArg (Value.int .i64) (or_byte _ _ k (by omega) hvb.1 hvb.2 hx.1 hx.2)) ?_
    refine TL.pu (.assign rfl) rfl ?_
    refine TL.nil ?_
    refine AQ.block_n ?_
    refine AQ.then_n ?_
    refine TC.region ?_
    refine TL.pu (.int rfl rfl rfl) rfl ?_
    refine TL.say 33 (vi ((k + 1 : Nat) : Int)) rfl (congrArg (Value.int .i64) (IntWalk.i64_in _ (by omega))) ?_
    refine TL.pu (.move rfl) rfl ?_
    refine TL.nil ?_
    exact AQ.again (k + 1) ⟨hks, by show s - (k + 1) < s - k; omega⟩ ⟨rfl, rfl, rfl, rfl, rfl, rfl, trivial⟩ (.cons inferInstance rfl (.cons inferInstance rfl (.nil _)))
  refine TC.exit ?_
  refine AQ.then_x ?_
  refine AQ.then_x ?_
  refine AQ.block_x ?_
  refine AQ.then_n ?_
  refine TC.seq ?_
  refine TC.region ?_
  refine TL.pu (.move rfl) rfl ?_
  refine TL.pu (.move rfl) rfl ?_
  refine TL.pu (.nilCheck rfl) rfl ?_
  refine TL.pu (.fieldAddr rfl rfl) rfl ?_
  refine TL.rd (.load1 rfl inferInstance rfl) rfl ?_
  refine TL.pu (.move rfl) rfl ?_
  refine TL.pu (.slice_lo rfl rfl (by omega) (by omega)) rfl ?_
  refine TL.say 40 (.slice (some ⟨b, if cap = s then off else off + s * 1, none⟩) (rem.length - s) (cap - s)) rfl (by rw [Int.toNat_natCast]) ?_
  refine TL.pu (.nilCheck rfl) rfl ?_
  refine TL.pu (.fieldAddr rfl rfl) rfl ?_
  refine TL.store1 rfl rfl rfl inferInstance rfl ?_
  refine TL.nil ?_
  refine AQ.then_n ?_
  refine TC.seq ?_
  refine TC.region ?_
  refine TL.pu (.move rfl) rfl ?_
  refine TL.pu (.assign rfl) rfl ?_
  refine TL.nil ?_
  refine AQ.then_n ?_
  refine TC.ret ?_
  have hk0 : k = s := by omega
  subst hk0
  refine AQ.ret Try.results22 rfl (.inl ⟨(valB (rem.take k) 0, rem.drop k, .slice (some ⟨b, if cap = k then off else off + k * 1, none⟩) (rem.length - k) (cap - k)), ⟨by unfold pNum; rw [if_neg (by omega)], Rem.drop hcap hlen hbys hrng (by omega)⟩, rfl, rfl⟩) (.cons inferInstance rfl (.nil _))
end Go.Sl