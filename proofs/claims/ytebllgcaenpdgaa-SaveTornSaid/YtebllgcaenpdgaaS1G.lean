/-
  Walks of this claim's functions, printed by a program of ours off the loaded program. Holds under no condition.
-/
import Derived.Test.YtebllgcaenpdgaaS1F
set_option linter.all false
namespace Go.Sl
open Go Go.Proofs
theorem pNum_some {s : Nat} {rem rem' : List Int} {n : Int} (h : pNum s rem = some (n, rem')) : s ≤ rem.length ∧ n = valB (rem.take s) 0 ∧ rem' = rem.drop s := by
  unfold pNum at h
  split at h
  · cases h
  · simp only [Option.some.injEq, Prod.mk.injEq] at h
    exact ⟨by omega, h.1.symm, h.2.symm⟩
theorem pNum_bound {s : Nat} {rem rem' : List Int} {n : Int} (hr : ∀ x ∈ rem, 0 ≤ x ∧ x < 256) (h : pNum s rem = some (n, rem')) : 0 ≤ n ∧ n < 256 ^ s := by
  obtain ⟨h1, rfl, _⟩ := pNum_some h
  have := valB_bound (rem.take s) 0 0 (fun x hx => hr x (List.mem_of_mem_take hx)) (by decide) (by decide)
  rwa [List.length_take, Nat.min_eq_left h1, Nat.zero_add] at this
theorem Rem.range {b : Nat} {c : List Value} {u : Value} {rem : List Int} (h : Rem b c u rem) : ∀ x ∈ rem, 0 ≤ x ∧ x < 256 := by obtain ⟨_, _, _, _, _, _, h⟩ := h; exact h
def pBool (rem : List Int) : Option (Bool × List Int) := match pNum 1 rem with
  | some (n, r) => if n > 1 then none else some (decide (n = 1), r)
  | none => none
def pBytes (most : Int) (rem : List Int) : Option (List Int × List Int) := match pNum 2 rem with
  | some (n, r) => if n > most ∨ n > r.length then none else some (r.take n.toNat, r.drop n.toNat)
  | none => none


theorem rword_fn (r : Nat) (e : TypeId) (b : Nat) (c : List Value) (t : TypeId) (z : Nat × Nat) (u : Value) (rem : List Int) (hR : Rem b c u rem) :
    FnP Try.prog 24 [ptr r] [⟨r, cel [u] e, true⟩, ⟨b, .cells c.toArray t z, false⟩] (Int × List Int × Value) (fun x => pNum 2 rem = some (x.1, x.2.1) ∧ Rem b c x.2.2 x.2.1) (fun x => vw x.1) (fun x => [⟨r, cel [x.2.2] e, true⟩]) (pNum 2 rem = none) torn := by
  refine FnE.enter Try.func24 rfl Try.ntmps24 rfl (fun w => ?_)
  refine TC.seq ?_
  refine TC.region ?_
  refine TL.pu (.assign rfl) rfl ?_
  refine TL.nil ?_
  refine AQ.then_n ?_
  refine TC.seq ?_
  refine TC.region ?_
  refine TL.pu (.move rfl) rfl ?_
  refine TL.callP (rnumber_fn 2 (by decide) r e b c t z u rem hR) rfl rfl rfl (.rw inferInstance (.ro inferInstance (.nil _))) rfl ?_ ?_
  · intro hn
    refine AQ.then_p ?_
    exact AQ.panic (.inr ⟨hn, rfl, rfl⟩) (.nil _)
  rintro ⟨n, rem', u'⟩ ⟨hp, hR'⟩
  dsimp only at hp hR'
  show TL _ _ _ _ _ _ _ ((4, vi n) :: _) ([⟨r, cel [u'] e, true⟩] ++ _) _
  refine TL.pu (.conv rfl) rfl ?_
  refine TL.say 5 (vw n) rfl (congrArg (Value.int .u16) (IntWalk.u16_in _ (by have := pNum_bound hR.range hp; omega))) ?_
  refine TL.pu (.assign rfl) rfl ?_
  refine TL.nil ?_
  refine AQ.then_n ?_
  refine TC.ret ?_
  exact AQ.ret Try.results24 rfl (.inl ⟨(n, rem', u'), ⟨hp, hR'⟩, rfl, rfl⟩) (.cons inferInstance rfl (.nil _))

theorem rbool_fn (r : Nat) (e : TypeId) (b : Nat) (c : List Value) (t : TypeId) (z : Nat × Nat) (u : Value) (rem : List Int) (hR : Rem b c u rem) :
    FnP Try.prog 23 [ptr r] [⟨r, cel [u] e, true⟩, ⟨b, .cells c.toArray t z, false⟩] (Bool × List Int × Value) (fun x => pBool rem = some (x.1, x.2.1) ∧ Rem b c x.2.2 x.2.1) (fun x => vt x.1) (fun x => [⟨r, cel [x.2.2] e, true⟩]) (pBool rem = none) torn := by
  refine FnE.enter Try.func23 rfl Try.ntmps23 rfl (fun w => ?_)
  refine TC.seq ?_
  refine TC.region ?_
  refine TL.pu (.assign rfl) rfl ?_
  refine TL.nil ?_
  refine AQ.then_n ?_
  refine TC.seq ?_
  refine TC.region ?_
  refine TL.pu (.move rfl) rfl ?_
  refine TL.callP (rnumber_fn 1 (by decide) r e b c t z u rem hR) rfl rfl rfl (.rw inferInstance (.ro inferInstance (.nil _))) rfl ?_ ?_
  · intro hn
    refine AQ.then_p ?_
    exact AQ.panic (.inr ⟨by unfold pBool; rw [hn], rfl, rfl⟩) (.nil _)
  rintro ⟨n, rem', u'⟩ ⟨hp, hR'⟩
  dsimp only at hp hR'
  show TL _ _ _ _ _ _ _ ((5, vi n) :: _) ([⟨r, cel [u'] e, true⟩] ++ _) _
  refine TL.pu (.assign rfl) rfl ?_
  refine TL.nil ?_
  refine AQ.then_n ?_
  refine TC.seq ?_
  refine TC.seq ?_
  refine TC.region ?_
  refine TL.pu (.move rfl) rfl ?_
  refine TL.pu (.int rfl rfl rfl) rfl ?_
  refine TL.nil ?_
  refine AQ.then_n ?_
  refine TC.condd rfl (fun q1 => ?_) (fun q1 => ?_)
  · skip
    refine TC.region ?_
    refine TL.pu (.build rfl rfl) rfl ?_
    refine TL.pu (.iface rfl rfl) rfl ?_
    refine TL.panic rfl ?_
    refine AQ.then_p ?_
    exact AQ.panic (.inr ⟨by unfold pBool; rw [hp]; exact if_pos q1, rfl, rfl⟩) (.nil _)
  refine TC.skip ?_
  refine AQ.then_n ?_
  refine TC.seq ?_
  refine TC.region ?_
  refine TL.pu (.move rfl) rfl ?_
  refine TL.pu (.int rfl rfl rfl) rfl ?_
  refine TL.pu (.assign rfl) rfl ?_
  refine TL.nil ?_
  refine AQ.then_n ?_
  refine TC.ret ?_
  exact AQ.ret Try.results23 rfl (.inl ⟨(decide (n = 1), rem', u'), ⟨by unfold pBool; rw [hp]; exact if_neg q1, hR'⟩, rfl, rfl⟩) (.cons inferInstance rfl (.nil _))

theorem rbytes_fn (most : Int) (r : Nat) (e : TypeId) (b : Nat) (c : List Value) (t : TypeId) (z : Nat × Nat) (u : Value) (rem : List Int) (hR : Rem b c u rem) :
    FnP Try.prog 21 [ptr r, vi most] [⟨r, cel [u] e, true⟩, ⟨b, .cells c.toArray t z, false⟩] (List Int × List Int × Value × Value × HS) (fun x => pBytes most rem = some (x.1, x.2.1) ∧ Rem b c x.2.2.1 x.2.1 ∧ Buf 5 1 x.2.2.2.1 (bys x.1) x.2.2.2.2) (fun x => x.2.2.2.1) (fun x => ⟨r, cel [x.2.2.1] e, true⟩ :: x.2.2.2.2) (pBytes most rem = none) torn := by
  refine FnE.enter Try.func21 rfl Try.ntmps21 rfl (fun w => ?_)
  refine TC.seq ?_
  refine TC.region ?_
  refine TL.pu (.assign rfl) rfl ?_
  refine TL.nil ?_
  refine AQ.then_n ?_
  refine TC.seq ?_
  refine TC.region ?_
  refine TL.pu (.move rfl) rfl ?_
  refine TL.callP (rnumber_fn 2 (by decide) r e b c t z u rem hR) rfl rfl rfl (.rw inferInstance (.ro inferInstance (.nil _))) rfl ?_ ?_
  · intro hn
    refine AQ.then_p ?_
    exact AQ.panic (.inr ⟨by unfold pBytes; rw [hn], rfl, rfl⟩) (.nil _)
  rintro ⟨n, rem', u'⟩ ⟨hp, hR'⟩
  dsimp only at hp hR'
  show TL _ _ _ _ _ _ _ ((8, vi n) :: _) ([⟨r, cel [u'] e, true⟩] ++ _) _
  have hnb := pNum_bound hR.range hp
  have hR2 := hR'
  obtain ⟨off, cap, rfl, hcap, hlen, hbys, hrng⟩ := hR2
  obtain ⟨m, rfl⟩ := Int.eq_ofNat_of_zero_le hnb.1
  refine TL.pu (.assign rfl) rfl ?_
  refine TL.nil ?_
  refine AQ.then_n ?_
  refine TC.seq ?_
  refine TC.seq ?_
  refine TC.region ?_
  refine TL.pu (.move rfl) rfl ?_
  refine TL.pu (.move rfl) rfl ?_
  refine TL.pu (.int rfl rfl rfl) rfl ?_
  refine TL.pu (.move rfl) rfl ?_
  refine TL.guard_d rfl rfl (fun q1 => ?_) (fun q1 => ?_)
  · skip
    refine TL.guard_no rfl rfl rfl rfl ?_
    refine TL.guard_no rfl rfl rfl rfl ?_
    refine TL.guard_no rfl rfl rfl rfl ?_
    refine TL.guard_no rfl rfl rfl rfl ?_
    refine TL.guard_no rfl rfl rfl rfl ?_
    refine TL.guard_no rfl rfl rfl rfl ?_
    refine TL.guard_no rfl rfl rfl rfl ?_
    refine TL.pu (.pick_t rfl rfl) rfl ?_
    refine TL.nil ?_
    refine AQ.then_n ?_
    refine TC.cond_t rfl ?_
    refine TC.region ?_
    refine TL.pu (.build rfl rfl) rfl ?_
    refine TL.pu (.iface rfl rfl) rfl ?_
    refine TL.panic rfl ?_
    refine AQ.then_p ?_
    exact AQ.panic (.inr ⟨by unfold pBytes; rw [hp]; exact if_pos (by omega), rfl, rfl⟩) (.nil _)
  refine TL.guard_yes rfl rfl ?_
  refine TL.pu (.move rfl) rfl ?_
  refine TL.guard_yes rfl rfl ?_
  refine TL.pu (.move rfl) rfl ?_
  refine TL.guard_yes rfl rfl ?_
  refine TL.pu (.nilCheck rfl) rfl ?_
  refine TL.guard_yes rfl rfl ?_
  refine TL.pu (.fieldAddr rfl rfl) rfl ?_
  refine TL.guard_yes rfl rfl ?_
  refine TL.rd (.load1 rfl inferInstance rfl) rfl ?_
  refine TL.guard_yes rfl rfl ?_
  refine TL.pu (.lenSlice rfl rfl) rfl ?_
  refine TL.guard_yes rfl rfl ?_
  refine TL.pu (.int rfl rfl rfl) rfl ?_
  refine TL.pu (.pick_f rfl rfl) rfl ?_
  refine TL.nil ?_
  refine AQ.then_n ?_
  refine TC.condd rfl (fun q2 => ?_) (fun q2 => ?_)
  · skip
    refine TC.region ?_
    refine TL.pu (.build rfl rfl) rfl ?_
    refine TL.pu (.iface rfl rfl) rfl ?_
    refine TL.panic rfl ?_
    refine AQ.then_p ?_
    exact AQ.panic (.inr ⟨by unfold pBytes; rw [hp]; exact if_pos (by omega), rfl, rfl⟩) (.nil _)
  refine TC.skip ?_
  refine AQ.then_n ?_
  refine TC.seq ?_
  refine TC.region ?_
  have hcutm : ∀ m, m ≤ rem'.length → bys (rem'.take m) = cut c off (m * 1) := fun m hm => by
    have : bys (rem'.take m) = (bys rem').take m := by simp [bys]
    rw [this, hbys, Nat.mul_one]; simp only [cut, List.take_take]; rw [Nat.min_eq_left hm]
  refine TL.buildSlice rfl rfl rfl rfl rfl (fun b23 => ?_)
  refine TL.pu (.move rfl) rfl ?_
  refine TL.pu (.nilCheck rfl) rfl ?_
  refine TL.pu (.fieldAddr rfl rfl) rfl ?_
  refine TL.rd (.load1 rfl inferInstance rfl) rfl ?_
  refine TL.pu (.move rfl) rfl ?_
  refine TL.pu (.slice_hi rfl rfl (by omega) (by omega)) rfl ?_
  refine TL.say 29 (.slice (some ⟨b, off, none⟩) m cap) rfl (by rw [Int.toNat_natCast]) ?_
  refine TL.append rfl rfl (.own rfl rfl rfl (Nat.le_refl _) rfl (clear_zero _) : Buf 5 1 (.slice (some ⟨b23, 0, none⟩) 0 0) [] [⟨b23, cel [] 5, true⟩]) (.single inferInstance) (.row rfl inferInstance (by omega) (hcutm m (by omega))) rfl rfl (by decide) (by decide) (bys_one _) (by simp only [bys_length, List.length_take, List.length_nil]; omega) rfl (fun v1 hb1 hB1 => ?_)
  refine TL.pu (.assign rfl) rfl ?_
  refine TL.nil ?_
  refine AQ.then_n ?_
  refine TC.seq ?_
  refine TC.region ?_
  refine TL.pu (.move rfl) rfl ?_
  refine TL.pu (.move rfl) rfl ?_
  refine TL.pu (.nilCheck rfl) rfl ?_
  refine TL.pu (.fieldAddr rfl rfl) rfl ?_
  refine TL.rd (.load1 rfl inferInstance rfl) rfl ?_
  refine TL.pu (.move rfl) rfl ?_
  refine TL.pu (.slice_lo rfl rfl (by omega) (by omega)) rfl ?_
  refine TL.say 37 (.slice (some ⟨b, if cap = m then off else off + m * 1, none⟩) (rem'.length - m) (cap - m)) rfl (by rw [Int.toNat_natCast]) ?_
  refine TL.pu (.nilCheck rfl) rfl ?_
  refine TL.pu (.fieldAddr rfl rfl) rfl ?_
  refine TL.store1 rfl rfl rfl inferInstance rfl ?_
  refine TL.nil ?_
  refine AQ.then_n ?_
  refine TC.seq ?_
  refine TC.region ?_
  refine TL.pu (.move rfl) rfl ?_
  refine TL.pu (.assign rfl) rfl ?_
  refine TL.nil ?_
  refine AQ.then_n ?_
  refine TC.ret ?_
  refine AQ.ret Try.results21 rfl (.inl ⟨(rem'.take m, rem'.drop m, .slice (some ⟨b, if cap = m then off else off + m * 1, none⟩) (rem'.length - m) (cap - m), v1, hb1), ⟨?_, Rem.drop hcap hlen hbys hrng (by omega), by simpa using hB1⟩, rfl, rfl⟩) (.cons inferInstance rfl (.last inferInstance hB1.own'))
  unfold pBytes; rw [hp]
  show (if _ then _ else _) = _
  rw [if_neg (by omega), Int.toNat_natCast]
end Go.Sl