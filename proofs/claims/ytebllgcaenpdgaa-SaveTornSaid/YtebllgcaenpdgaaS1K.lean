/-
  Walks of this claim's functions, printed by a program of ours off the loaded program. Holds under no condition.
-/
import Derived.Test.YtebllgcaenpdgaaS1J
set_option linter.all false
namespace Go.Sl
open Go Go.Proofs


theorem Clone_fn (v : Value) (n : Nat) (ys : List Int) (sg : HS) (R : Ro 1 v n (bys ys) sg) (hn : n ≤ 1000000) :
    FnX Try.prog 13 [v] sg (Value × HS) (fun p => Buf 5 1 p.1 (bys ys) p.2) (fun p => p.1) (fun p => p.2) := by
  have hlen := R.length
  cases R with
  | nil h1 h2 h3 =>
  subst h1
  refine FnE.enter Try.func13 rfl Try.ntmps13 rfl (fun w => ?_)
  refine TC.seq ?_
  refine TC.region ?_
  refine TL.pu (.assign rfl) rfl ?_
  refine TL.nil ?_
  refine AQ.then_n ?_
  refine TC.seq ?_
  refine TC.seq ?_
  refine TC.region ?_
  refine TL.pu (.move rfl) rfl ?_
  refine TL.pu (.slNil rfl) rfl ?_
  refine TL.nil ?_
  refine AQ.then_n ?_
  refine TC.cond_t rfl ?_
  refine TC.seq ?_
  refine TC.region ?_
  refine TL.pu (.assign rfl) rfl ?_
  refine TL.nil ?_
  refine AQ.then_n ?_
  refine TC.ret ?_
  refine AQ.then_r ?_
  exact AQ.ret Try.results13 rfl ⟨(.slice none 0 0, []), .nil rfl h3, rfl, rfl⟩ (.nil _)
  | @zero a cap h1 h2 h3 =>
  subst h1; subst h2
  refine FnE.enter Try.func13 rfl Try.ntmps13 rfl (fun w => ?_)
  refine TC.seq ?_
  refine TC.region ?_
  refine TL.pu (.assign rfl) rfl ?_
  refine TL.nil ?_
  refine AQ.then_n ?_
  refine TC.seq ?_
  refine TC.seq ?_
  refine TC.region ?_
  refine TL.pu (.move rfl) rfl ?_
  refine TL.pu (.slNil rfl) rfl ?_
  refine TL.nil ?_
  refine AQ.then_n ?_
  refine TC.cond_f rfl ?_
  refine TC.skip ?_
  refine AQ.then_n ?_
  refine TC.seq ?_
  refine TC.region ?_
  refine TL.buildSlice rfl rfl rfl rfl rfl (fun b5 => ?_)
  refine TL.pu (.move rfl) rfl ?_
  refine TL.append rfl rfl (.own rfl rfl rfl (Nat.le_refl _) rfl (clear_zero _) : Buf 5 1 (.slice (some ⟨b5, 0, none⟩) 0 0) [] [⟨b5, cel [] 5, true⟩]) (.single inferInstance) (.zero rfl rfl h3) rfl rfl (by decide) (by decide) (bys_one _) (by simp only [List.length_nil]; omega) rfl (fun v1 hb1 hB1 => ?_)
  refine TL.pu (.assign rfl) rfl ?_
  refine TL.nil ?_
  refine AQ.then_n ?_
  refine TC.ret ?_
  exact AQ.ret Try.results13 rfl ⟨(v1, hb1), by simpa using hB1, rfl, rfl⟩ (.last inferInstance hB1.own')
  | @row b off cap c t z h1 h2 h3 h4 =>
  subst h1
  refine FnE.enter Try.func13 rfl Try.ntmps13 rfl (fun w => ?_)
  refine TC.seq ?_
  refine TC.region ?_
  refine TL.pu (.assign rfl) rfl ?_
  refine TL.nil ?_
  refine AQ.then_n ?_
  refine TC.seq ?_
  refine TC.seq ?_
  refine TC.region ?_
  refine TL.pu (.move rfl) rfl ?_
  refine TL.pu (.slNil rfl) rfl ?_
  refine TL.nil ?_
  refine AQ.then_n ?_
  refine TC.cond_f rfl ?_
  refine TC.skip ?_
  refine AQ.then_n ?_
  refine TC.seq ?_
  refine TC.region ?_
  refine TL.buildSlice rfl rfl rfl rfl rfl (fun b5 => ?_)
  refine TL.pu (.move rfl) rfl ?_
  refine TL.append rfl rfl (.own rfl rfl rfl (Nat.le_refl _) rfl (clear_zero _) : Buf 5 1 (.slice (some ⟨b5, 0, none⟩) 0 0) [] [⟨b5, cel [] 5, true⟩]) (.single inferInstance) (.row rfl inferInstance h2 h3) rfl rfl (by decide) (by decide) (bys_one _) (by simp only [List.length_nil]; omega) rfl (fun v1 hb1 hB1 => ?_)
  refine TL.pu (.assign rfl) rfl ?_
  refine TL.nil ?_
  refine AQ.then_n ?_
  refine TC.ret ?_
  exact AQ.ret Try.results13 rfl ⟨(v1, hb1), by simpa using hB1, rfl, rfl⟩ (.last inferInstance hB1.own')


theorem bytesOf_eq {y z : List Int} (hy : ∀ x ∈ y, 0 ≤ x ∧ x < 256) (hz : ∀ x ∈ z, 0 ≤ x ∧ x < 256) : ((bytesOf y).toList == (bytesOf z).toList) = decide (y = z) := by
  rw [ByteArray.toList_eq, ByteArray.toList_eq]
  simp only [bytesOf]
  by_cases h : y = z
  · subst h; simp
  · rw [decide_eq_false h, beq_eq_false_iff_ne]
    intro h2
    exact h (map_u8_inj y z hy hz h2)
theorem Equal_fn (v u : Value) (n m : Nat) (y z : List Int) (sg sk : HS) (R : Ro 1 v n (bys y) sg) (R' : Ro 1 u m (bys z) sk) (hy : ∀ x ∈ y, 0 ≤ x ∧ x < 256) (hz : ∀ x ∈ z, 0 ≤ x ∧ x < 256) :
    FnD Try.prog 11 [v, u] (sg ++ sk) (vt (decide (y = z))) [] := by
  refine FnE.enter Try.func11 rfl Try.ntmps11 rfl (fun w => ?_)
  refine TC.seq ?_
  refine TC.region ?_
  refine TL.pu (.assign rfl) rfl ?_
  refine TL.nil ?_
  refine AQ.then_n ?_
  refine TC.seq ?_
  refine TC.region ?_
  refine TL.pu (.move rfl) rfl ?_
  refine TL.rd (.str rfl (R.src inferInstance)) rfl ?_
  refine TL.pu (.move rfl) rfl ?_
  refine TL.rd (.str rfl (R'.src inferInstance)) rfl ?_
  refine TL.pu (.strEq rfl rfl) rfl ?_
  refine TL.pu (.assign rfl) rfl ?_
  refine TL.nil ?_
  refine AQ.then_n ?_
  refine TC.ret ?_
  exact AQ.ret Try.results11 rfl ⟨ret_vt (bytesOf_eq hy hz), rfl⟩ (.nil _)

/-- A place among so many, whichever number is asked for. -/
def atN (x n : Int) : Int := if x.tmod n < 0 then x.tmod n + n else x.tmod n
theorem at_fn (x n : Int) (hx : -9223372036854775808 ≤ x ∧ x < 9223372036854775808) (hn : 0 < n ∧ n < 9223372036854775808) : FnD Try.prog 12 [vi x, vi n] [] (vi (atN x n)) [] := by
  have h1 : -n < x.tmod n := by have := Int.lt_tmod_of_pos x hn.1; omega
  have h2 : x.tmod n < n := Int.tmod_lt_of_pos x hn.1
  refine FnE.enter Try.func12 rfl Try.ntmps12 rfl (fun w => ?_)
  refine TC.seq ?_
  refine TC.region ?_
  refine TL.pu (.assign rfl) rfl ?_
  refine TL.nil ?_
  refine AQ.then_n ?_
  refine TC.seq ?_
  refine TC.region ?_
  refine TL.pu (.move rfl) rfl ?_
  refine TL.pu (.move rfl) rfl ?_
  refine TL.pu (.rem rfl rfl (by omega)) rfl ?_
  refine TL.pu (.assign rfl) rfl ?_
  refine TL.nil ?_
  refine AQ.then_n ?_
  refine TC.seq ?_
  refine TC.seq ?_
  refine TC.region ?_
  refine TL.pu (.move rfl) rfl ?_
  refine TL.pu (.int rfl rfl rfl) rfl ?_
  refine TL.nil ?_
  refine AQ.then_n ?_
  refine TC.condd rfl (fun h1 => ?_) (fun h1 => ?_)
  · skip
    refine TC.region ?_
    refine TL.pu (.move rfl) rfl ?_
    refine TL.pu (.move rfl) rfl ?_
    refine TL.pu (.int rfl rfl rfl) rfl ?_
    refine TL.say 12 (vi (x.tmod n + n)) rfl (congrArg (Value.int .i64) (IntWalk.i64_in _ (by omega))) ?_
    refine TL.pu (.assign rfl) rfl ?_
    refine TL.nil ?_
    refine AQ.then_n ?_
    refine TC.seq ?_
    refine TC.region ?_
    refine TL.pu (.move rfl) rfl ?_
    refine TL.pu (.assign rfl) rfl ?_
    refine TL.nil ?_
    refine AQ.then_n ?_
    refine TC.ret ?_
    refine AQ.ret Try.results12 rfl ⟨ret_vi ?_, rfl⟩ (.nil _)
    unfold atN
    first | rw [if_pos (by omega)] | rw [if_neg (by omega)]
  refine TC.skip ?_
  refine AQ.then_n ?_
  refine TC.seq ?_
  refine TC.region ?_
  refine TL.pu (.move rfl) rfl ?_
  refine TL.pu (.assign rfl) rfl ?_
  refine TL.nil ?_
  refine AQ.then_n ?_
  refine TC.ret ?_
  refine AQ.ret Try.results12 rfl ⟨ret_vi ?_, rfl⟩ (.nil _)
  unfold atN
  first | rw [if_pos (by omega)] | rw [if_neg (by omega)]
end Go.Sl