/-
  Walks of this claim's functions, printed by a program of ours off the loaded program. Holds under no condition.
-/
import Derived.Test.YtebllgcaenpdgaaS1C
set_option linter.all false
namespace Go.Sl
open Go Go.Proofs

/-! ### a machine -/
structure Voice where
  (period count loud : Int)
  (high : Bool)
  (noise : Int)
abbrev voiceL (v : Voice) : List Value := [vw v.period, vw v.count, vb v.loud, vt v.high, vw v.noise]
structure Mach where
  (main aux : Cpu)
  (s0 s1 s2 s3 s4 : Value)
  (d0 : Int) (l0 : Bool) (h0 : Int) (d1 : Int) (l1 : Bool) (h1 : Int)
  (reload count : Int) (on rings : Bool)
  (v0 v1 v2 : Voice) (wait : Int)
  (line at_ : Int) (brings : Bool) (frame : Int)
  (from_ to_ : Int) (granted held : Bool) (mail0 mail1 : Int) (rung : Bool)
  (clock mready aready : Int)
abbrev soundL (m : Mach) : List Value := [vw m.v0.period, vw m.v0.count, vb m.v0.loud, vt m.v0.high, vw m.v0.noise, vw m.v1.period, vw m.v1.count, vb m.v1.loud, vt m.v1.high, vw m.v1.noise, vw m.v2.period, vw m.v2.count, vb m.v2.loud, vt m.v2.high, vw m.v2.noise, vi m.wait]
abbrev beamL (ln at_ : Int) (r : Bool) (fr : Int) : List Value := [vi ln, vi at_, vt r, vi fr]
abbrev machT (m : Mach) (t : List Value) : List Value := vw m.main.r0 :: vw m.main.r1 :: vw m.main.r2 :: vw m.main.r3 :: vw m.main.r4 :: vw m.main.r5 :: vw m.main.r6 :: vw m.main.r7 :: vw m.main.pc :: vt m.main.z :: vt m.main.n :: vt m.main.c :: vt m.main.v :: vt m.main.may :: vt m.main.waits ::
  vw m.aux.r0 :: vw m.aux.r1 :: vw m.aux.r2 :: vw m.aux.r3 :: vw m.aux.r4 :: vw m.aux.r5 :: vw m.aux.r6 :: vw m.aux.r7 :: vw m.aux.pc :: vt m.aux.z :: vt m.aux.n :: vt m.aux.c :: vt m.aux.v :: vt m.aux.may :: vt m.aux.waits ::
  m.s0 :: m.s1 :: m.s2 :: m.s3 :: m.s4 :: vb m.d0 :: vt m.l0 :: vb m.h0 :: vb m.d1 :: vt m.l1 :: vb m.h1 :: vw m.reload :: vw m.count :: vt m.on :: vt m.rings ::
  vw m.v0.period :: vw m.v0.count :: vb m.v0.loud :: vt m.v0.high :: vw m.v0.noise :: vw m.v1.period :: vw m.v1.count :: vb m.v1.loud :: vt m.v1.high :: vw m.v1.noise :: vw m.v2.period :: vw m.v2.count :: vb m.v2.loud :: vt m.v2.high :: vw m.v2.noise ::
  vi m.wait :: vi m.line :: vi m.at_ :: vt m.brings :: vi m.frame :: vw m.from_ :: vw m.to_ :: vt m.granted :: vt m.held :: vb m.mail0 :: vb m.mail1 :: vt m.rung :: vi m.clock :: vi m.mready :: vi m.aready :: t
abbrev machL (m : Mach) : List Value := machT m []
abbrev waitBad (w : Int) : Prop := w < 0 ∨ w ≥ 16
abbrev beamBad (ln at_ fr : Int) : Prop := ln < 0 ∨ ln ≥ 10 ∨ at_ < 0 ∨ at_ ≥ 64 ∨ fr < 0 ∨ fr > 20000
abbrev soon (m : Mach) (x : Int) : Prop := 0 ≤ x ∧ x ≤ m.clock + 20000
/-- What is wrong with a machine whose slices have so many bytes. -/
def checkN (m : Mach) (n0 n1 n2 n3 n4 : Nat) : Int :=
  if n0 > 1024 ∨ n1 > 1024 then 2 else if n2 ≠ 128 ∨ n3 ≠ 64 ∨ n4 ≠ 256 then 4 else if waitBad m.wait then 3 else if beamBad m.line m.at_ m.frame then 3
  else if m.clock < 0 ∨ m.clock > 200000 ∨ ¬ soon m m.mready ∨ ¬ soon m m.aready then 3 else 0
theorem ite30 (p : Prop) [Decidable p] : ((if p then (3 : Int) else 0) = 3 ∧ p) ∨ ((if p then (3 : Int) else 0) = 0 ∧ ¬ p) := by
  by_cases h : p <;> simp [h]
theorem ret_vi {a b : Int} (h : a = b) : Ending.returned (tup [vi a]) = Ending.returned (vi b) := by rw [h]; rfl
theorem ret_vt {a b : Bool} (h : a = b) : Ending.returned (tup [vt a]) = Ending.returned (vt b) := by rw [h]; rfl


theorem tcheck_fn (a b c : List Value) (w : Int) (ha : a.length = 5) (hb : b.length = 5) (hc : c.length = 5) : FnD Try.prog 26 [.agg (a ++ (b ++ (c ++ [vi w]))).toArray] [] (vi (if waitBad w then 3 else 0)) [] := by
  have hn : nth (a ++ (b ++ (c ++ [vi w]))) 15 = some (vi w) := by rw [nth_eq]; simp [ha, hb, hc]
  refine FnE.enter Try.func26 rfl Try.ntmps26 rfl (fun w => ?_)
  refine TC.seq ?_
  refine TC.region ?_
  refine TL.box rfl rfl rfl (fun b1 => ?_)
  refine TL.pu (.assign rfl) rfl ?_
  refine TL.nil ?_
  refine AQ.then_n ?_
  refine TC.seq ?_
  refine TC.seq ?_
  refine TC.region ?_
  refine TL.pu (.fieldAddr rfl (m := 15) rfl) rfl ?_
  refine TL.rd (.load1 rfl inferInstance hn) rfl ?_
  refine TL.pu (.int rfl rfl rfl) rfl ?_
  refine TL.pu (.move rfl) rfl ?_
  refine TL.guard_d rfl rfl (fun h1 => ?_) (fun h1 => ?_)
  · skip
    refine TL.guard_no rfl rfl rfl rfl ?_
    refine TL.guard_no rfl rfl rfl rfl ?_
    refine TL.guard_no rfl rfl rfl rfl ?_
    refine TL.pu (.pick_t rfl rfl) rfl ?_
    refine TL.nil ?_
    refine AQ.then_n ?_
    refine TC.cond_t rfl ?_
    refine TC.seq ?_
    refine TC.region ?_
    refine TL.pu (.assign rfl) rfl ?_
    refine TL.nil ?_
    refine AQ.then_n ?_
    refine TC.ret ?_
    refine AQ.then_r ?_
    refine AQ.ret Try.results26 rfl ⟨ret_vi ?_, rfl⟩ (.nil _)
    first | rw [if_pos (by omega)] | rw [if_neg (by omega)]
  refine TL.guard_yes rfl rfl ?_
  refine TL.pu (.fieldAddr rfl (m := 15) rfl) rfl ?_
  refine TL.guard_yes rfl rfl ?_
  refine TL.rd (.load1 rfl inferInstance hn) rfl ?_
  refine TL.guard_yes rfl rfl ?_
  refine TL.pu (.int rfl rfl rfl) rfl ?_
  refine TL.pu (.pick_f rfl rfl) rfl ?_
  refine TL.nil ?_
  refine AQ.then_n ?_
  refine TC.condd rfl (fun h2 => ?_) (fun h2 => ?_)
  · skip
    refine TC.seq ?_
    refine TC.region ?_
    refine TL.pu (.assign rfl) rfl ?_
    refine TL.nil ?_
    refine AQ.then_n ?_
    refine TC.ret ?_
    refine AQ.then_r ?_
    refine AQ.ret Try.results26 rfl ⟨ret_vi ?_, rfl⟩ (.nil _)
    first | rw [if_pos (by omega)] | rw [if_neg (by omega)]
  refine TC.skip ?_
  refine AQ.then_n ?_
  refine TC.seq ?_
  refine TC.region ?_
  refine TL.pu (.assign rfl) rfl ?_
  refine TL.nil ?_
  refine AQ.then_n ?_
  refine TC.ret ?_
  refine AQ.ret Try.results26 rfl ⟨ret_vi ?_, rfl⟩ (.nil _)
  first | rw [if_pos (by omega)] | rw [if_neg (by omega)]

theorem bcheck_fn (ln at_ : Int) (r : Bool) (fr : Int) : FnD Try.prog 27 [.agg (beamL ln at_ r fr).toArray] [] (vi (if beamBad ln at_ fr then 3 else 0)) [] := by
  refine FnE.enter Try.func27 rfl Try.ntmps27 rfl (fun w => ?_)
  refine TC.seq ?_
  refine TC.region ?_
  refine TL.box rfl rfl rfl (fun b1 => ?_)
  refine TL.pu (.assign rfl) rfl ?_
  refine TL.nil ?_
  refine AQ.then_n ?_
  refine TC.seq ?_
  refine TC.seq ?_
  refine TC.region ?_
  refine TL.pu (.fieldAddr rfl (m := 0) rfl) rfl ?_
  refine TL.rd (.load1 rfl inferInstance rfl) rfl ?_
  refine TL.pu (.int rfl rfl rfl) rfl ?_
  refine TL.pu (.move rfl) rfl ?_
  refine TL.guard_d rfl rfl (fun h1 => ?_) (fun h1 => ?_)
  · skip
    refine TL.guard_no rfl rfl rfl rfl ?_
    refine TL.guard_no rfl rfl rfl rfl ?_
    refine TL.guard_no rfl rfl rfl rfl ?_
    refine TL.pu (.pick_t rfl rfl) rfl ?_
    refine TL.pu (.move rfl) rfl ?_
    refine TL.guard_no rfl rfl rfl rfl ?_
    refine TL.guard_no rfl rfl rfl rfl ?_
    refine TL.guard_no rfl rfl rfl rfl ?_
    refine TL.pu (.pick_t rfl rfl) rfl ?_
    refine TL.pu (.move rfl) rfl ?_
    refine TL.guard_no rfl rfl rfl rfl ?_
    refine TL.guard_no rfl rfl rfl rfl ?_
    refine TL.guard_no rfl rfl rfl rfl ?_
    refine TL.pu (.pick_t rfl rfl) rfl ?_
    refine TL.pu (.move rfl) rfl ?_
    refine TL.guard_no rfl rfl rfl rfl ?_
    refine TL.guard_no rfl rfl rfl rfl ?_
    refine TL.guard_no rfl rfl rfl rfl ?_
    refine TL.pu (.pick_t rfl rfl) rfl ?_
    refine TL.pu (.move rfl) rfl ?_
    refine TL.guard_no rfl rfl rfl rfl ?_
    refine TL.guard_no rfl rfl rfl rfl ?_
    refine TL.guard_no rfl rfl rfl rfl ?_
    refine TL.pu (.pick_t rfl rfl) rfl ?_
    refine TL.nil ?_
    refine AQ.then_n ?_
    refine TC.cond_t rfl ?_
    refine TC.seq ?_
    refine TC.region ?_
    refine TL.pu (.assign rfl) rfl ?_
    refine TL.nil ?_
    refine AQ.then_n ?_
    refine TC.ret ?_
    refine AQ.then_r ?_
    refine AQ.ret Try.results27 rfl ⟨ret_vi ?_, rfl⟩ (.nil _)
    first | rw [if_pos (by omega)] | rw [if_neg (by omega)]
  refine TL.guard_yes rfl rfl ?_
  refine TL.pu (.fieldAddr rfl (m := 0) rfl) rfl ?_
  refine TL.guard_yes rfl rfl ?_
  refine TL.rd (.load1 rfl inferInstance rfl) rfl ?_
  refine TL.guard_yes rfl rfl ?_
  refine TL.pu (.int rfl rfl rfl) rfl ?_
  refine TL.pu (.pick_f rfl rfl) rfl ?_
  refine TL.pu (.move rfl) rfl ?_
  refine TL.guard_d rfl rfl (fun h2 => ?_) (fun h2 => ?_)
  · skip
    refine TL.guard_no rfl rfl rfl rfl ?_
    refine TL.guard_no rfl rfl rfl rfl ?_
    refine TL.guard_no rfl rfl rfl rfl ?_
    refine TL.pu (.pick_t rfl rfl) rfl ?_
    refine TL.pu (.move rfl) rfl ?_
    refine TL.guard_no rfl rfl rfl rfl ?_
    refine TL.guard_no rfl rfl rfl rfl ?_
    refine TL.guard_no rfl rfl rfl rfl ?_
    refine TL.pu (.pick_t rfl rfl) rfl ?_
    refine TL.pu (.move rfl) rfl ?_
    refine TL.guard_no rfl rfl rfl rfl ?_
    refine TL.guard_no rfl rfl rfl rfl ?_
    refine TL.guard_no rfl rfl rfl rfl ?_
    refine TL.pu (.pick_t rfl rfl) rfl ?_
    refine TL.pu (.move rfl) rfl ?_
    refine TL.guard_no rfl rfl rfl rfl ?_
    refine TL.guard_no rfl rfl rfl rfl ?_
    refine TL.guard_no rfl rfl rfl rfl ?_
    refine TL.pu (.pick_t rfl rfl) rfl ?_
    refine TL.nil ?_
    refine AQ.then_n ?_
    refine TC.cond_t rfl ?_
    refine TC.seq ?_
    refine TC.region ?_
    refine TL.pu (.assign rfl) rfl ?_
    refine TL.nil ?_
    refine AQ.then_n ?_
    refine TC.ret ?_
    refine AQ.then_r ?_
    refine AQ.ret Try.results27 rfl ⟨ret_vi ?_, rfl⟩ (.nil _)
    first | rw [if_pos (by omega)] | rw [if_neg (by omega)]
  refine TL.guard_yes rfl rfl ?_
  refine TL.pu (.fieldAddr rfl (m := 1) rfl) rfl ?_
  refine TL.guard_yes rfl rfl ?_
  refine TL.rd (.load1 rfl inferInstance rfl) rfl ?_
  refine TL.guard_yes rfl rfl ?_
  refine TL.pu (.int rfl rfl rfl) rfl ?_
  refine TL.pu (.pick_f rfl rfl) rfl ?_
  refine TL.pu (.move rfl) rfl ?_
  refine TL.guard_d rfl rfl (fun h3 => ?_) (fun h3 => ?_)
  · skip
    refine TL.guard_no rfl rfl rfl rfl ?_
    refine TL.guard_no rfl rfl rfl rfl ?_
    refine TL.guard_no rfl rfl rfl rfl ?_
    refine TL.pu (.pick_t rfl rfl) rfl ?_
    refine TL.pu (.move rfl) rfl ?_
    refine TL.guard_no rfl rfl rfl rfl ?_
    refine TL.guard_no rfl rfl rfl rfl ?_
    refine TL.guard_no rfl rfl rfl rfl ?_
    refine TL.pu (.pick_t rfl rfl) rfl ?_
    refine TL.pu (.move rfl) rfl ?_
    refine TL.guard_no rfl rfl rfl rfl ?_
    refine TL.guard_no rfl rfl rfl rfl ?_
    refine TL.guard_no rfl rfl rfl rfl ?_
    refine TL.pu (.pick_t rfl rfl) rfl ?_
    refine TL.nil ?_
    refine AQ.then_n ?_
    refine TC.cond_t rfl ?_
    refine TC.seq ?_
    refine TC.region ?_
    refine TL.pu (.assign rfl) rfl ?_
    refine TL.nil ?_
    refine AQ.then_n ?_
    refine TC.ret ?_
    refine AQ.then_r ?_
    refine AQ.ret Try.results27 rfl ⟨ret_vi ?_, rfl⟩ (.nil _)
    first | rw [if_pos (by omega)] | rw [if_neg (by omega)]
  refine TL.guard_yes rfl rfl ?_
  refine TL.pu (.fieldAddr rfl (m := 1) rfl) rfl ?_
  refine TL.guard_yes rfl rfl ?_
  refine TL.rd (.load1 rfl inferInstance rfl) rfl ?_
  refine TL.guard_yes rfl rfl ?_
  refine TL.pu (.int rfl rfl rfl) rfl ?_
  refine TL.pu (.pick_f rfl rfl) rfl ?_
  refine TL.pu (.move rfl) rfl ?_
  refine TL.guard_d rfl rfl (fun h4 => ?_) (fun h4 => ?_)
  · skip
    refine TL.guard_no rfl rfl rfl rfl ?_
    refine TL.guard_no rfl rfl rfl rfl ?_
    refine TL.guard_no rfl rfl rfl rfl ?_
    refine TL.pu (.pick_t rfl rfl) rfl ?_
    refine TL.pu (.move rfl) rfl ?_
    refine TL.guard_no rfl rfl rfl rfl ?_
    refine TL.guard_no rfl rfl rfl rfl ?_
    refine TL.guard_no rfl rfl rfl rfl ?_
    refine TL.pu (.pick_t rfl rfl) rfl ?_
    refine TL.nil ?_
    refine AQ.then_n ?_
    refine TC.cond_t rfl ?_
    refine TC.seq ?_
    refine TC.region ?_
    refine TL.pu (.assign rfl) rfl ?_
    refine TL.nil ?_
    refine AQ.then_n ?_
    refine TC.ret ?_
    refine AQ.then_r ?_
    refine AQ.ret Try.results27 rfl ⟨ret_vi ?_, rfl⟩ (.nil _)
    first | rw [if_pos (by omega)] | rw [if_neg (by omega)]
  refine TL.guard_yes rfl rfl ?_
  refine TL.pu (.fieldAddr rfl (m := 3) rfl) rfl ?_
  refine TL.guard_yes rfl rfl ?_
  refine TL.rd (.load1 rfl inferInstance rfl) rfl ?_
  refine TL.guard_yes rfl rfl ?_
  refine TL.pu (.int rfl rfl rfl) rfl ?_
  refine TL.pu (.pick_f rfl rfl) rfl ?_
  refine TL.pu (.move rfl) rfl ?_
  refine TL.guard_d rfl rfl (fun h5 => ?_) (fun h5 => ?_)
  · skip
    refine TL.guard_no rfl rfl rfl rfl ?_
    refine TL.guard_no rfl rfl rfl rfl ?_
    refine TL.guard_no rfl rfl rfl rfl ?_
    refine TL.pu (.pick_t rfl rfl) rfl ?_
    refine TL.nil ?_
    refine AQ.then_n ?_
    refine TC.cond_t rfl ?_
    refine TC.seq ?_
    refine TC.region ?_
    refine TL.pu (.assign rfl) rfl ?_
    refine TL.nil ?_
    refine AQ.then_n ?_
    refine TC.ret ?_
    refine AQ.then_r ?_
    refine AQ.ret Try.results27 rfl ⟨ret_vi ?_, rfl⟩ (.nil _)
    first | rw [if_pos (by omega)] | rw [if_neg (by omega)]
  refine TL.guard_yes rfl rfl ?_
  refine TL.pu (.fieldAddr rfl (m := 3) rfl) rfl ?_
  refine TL.guard_yes rfl rfl ?_
  refine TL.rd (.load1 rfl inferInstance rfl) rfl ?_
  refine TL.guard_yes rfl rfl ?_
  refine TL.pu (.int rfl rfl rfl) rfl ?_
  refine TL.pu (.pick_f rfl rfl) rfl ?_
  refine TL.nil ?_
  refine AQ.then_n ?_
  refine TC.condd rfl (fun h6 => ?_) (fun h6 => ?_)
  · skip
    refine TC.seq ?_
    refine TC.region ?_
    refine TL.pu (.assign rfl) rfl ?_
    refine TL.nil ?_
    refine AQ.then_n ?_
    refine TC.ret ?_
    refine AQ.then_r ?_
    refine AQ.ret Try.results27 rfl ⟨ret_vi ?_, rfl⟩ (.nil _)
    first | rw [if_pos (by omega)] | rw [if_neg (by omega)]
  refine TC.skip ?_
  refine AQ.then_n ?_
  refine TC.seq ?_
  refine TC.region ?_
  refine TL.pu (.assign rfl) rfl ?_
  refine TL.nil ?_
  refine AQ.then_n ?_
  refine TC.ret ?_
  refine AQ.ret Try.results27 rfl ⟨ret_vi ?_, rfl⟩ (.nil _)
  first | rw [if_pos (by omega)] | rw [if_neg (by omega)]

theorem soon_fn (m : Mach) (x : Int) (b : Nat) (e : TypeId) (hc : 0 ≤ m.clock ∧ m.clock ≤ 200000) : FnD Try.prog 28 [vi x, ptr b] [⟨b, cel (machL m) e, false⟩] (vt (decide (soon m x))) [] := by
  refine FnE.enter Try.func28 rfl Try.ntmps28 rfl (fun w => ?_)
  refine TC.seq ?_
  refine TC.region ?_
  refine TL.pu (.assign rfl) rfl ?_
  refine TL.nil ?_
  refine AQ.then_n ?_
  refine TC.seq ?_
  refine TC.region ?_
  refine TL.pu (.move rfl) rfl ?_
  refine TL.pu (.int rfl rfl rfl) rfl ?_
  refine TL.pu (.move rfl) rfl ?_
  refine TL.guard_d rfl rfl (fun h1 => ?_) (fun h1 => ?_)
  · skip
    refine TL.guard_yes rfl rfl ?_
    refine TL.pu (.move rfl) rfl ?_
    refine TL.guard_yes rfl rfl ?_
    refine TL.pu (.fieldAddr rfl rfl) rfl ?_
    refine TL.guard_yes rfl rfl ?_
    refine TL.rd (.load1 rfl inferInstance rfl) rfl ?_
    refine TL.guard_yes rfl rfl ?_
    refine TL.pu (.int rfl rfl rfl) rfl ?_
    refine TL.say 10 (vi (m.clock + 20000)) rfl (congrArg (Value.int .i64) (IntWalk.i64_in _ (by omega))) ?_
    refine TL.guard_yes rfl rfl ?_
    refine TL.pu (.int rfl rfl rfl) rfl ?_
    refine TL.pu (.pick_t rfl rfl) rfl ?_
    refine TL.pu (.assign rfl) rfl ?_
    refine TL.nil ?_
    refine AQ.then_n ?_
    refine TC.ret ?_
    refine AQ.ret Try.results28 rfl ⟨ret_vt ?_, rfl⟩ (.nil _)
    first | exact (decide_eq_false (by omega)).symm | exact decide_eq_decide.2 (by omega)
  refine TL.guard_no rfl rfl rfl rfl ?_
  refine TL.guard_no rfl rfl rfl rfl ?_
  refine TL.guard_no rfl rfl rfl rfl ?_
  refine TL.guard_no rfl rfl rfl rfl ?_
  refine TL.guard_no rfl rfl rfl rfl ?_
  refine TL.pu (.pick_f rfl rfl) rfl ?_
  refine TL.pu (.assign rfl) rfl ?_
  refine TL.nil ?_
  refine AQ.then_n ?_
  refine TC.ret ?_
  refine AQ.ret Try.results28 rfl ⟨ret_vt ?_, rfl⟩ (.nil _)
  first | exact (decide_eq_false (by omega)).symm | exact decide_eq_decide.2 (by omega)

theorem check_fn (m : Mach) (n0 n1 n2 n3 n4 : Nat) (h0 : IsSl m.s0 n0) (h1 : IsSl m.s1 n1) (h2 : IsSl m.s2 n2) (h3 : IsSl m.s3 n3) (h4 : IsSl m.s4 n4) : FnD Try.prog 8 [.agg (machL m).toArray] [] (vi (checkN m n0 n1 n2 n3 n4)) [] := by
  refine FnE.enter Try.func8 rfl Try.ntmps8 rfl (fun w => ?_)
  refine TC.seq ?_
  refine TC.region ?_
  refine TL.box rfl rfl rfl (fun b1 => ?_)
  refine TL.pu (.assign rfl) rfl ?_
  refine TL.nil ?_
  refine AQ.then_n ?_
  refine TC.seq ?_
  refine TC.seq ?_
  refine TC.region ?_
  refine TL.pu (.fieldAddr rfl (m := 30) rfl) rfl ?_
  refine TL.rd (.load1 rfl inferInstance rfl) rfl ?_
  refine TL.pu (.lenSl rfl h0 rfl) rfl ?_
  refine TL.pu (.int rfl rfl rfl) rfl ?_
  refine TL.pu (.move rfl) rfl ?_
  refine TL.guard_d rfl rfl (fun q1 => ?_) (fun q1 => ?_)
  · skip
    refine TL.guard_no rfl rfl rfl rfl ?_
    refine TL.guard_no rfl rfl rfl rfl ?_
    refine TL.guard_no rfl rfl rfl rfl ?_
    refine TL.guard_no rfl rfl rfl rfl ?_
    refine TL.pu (.pick_t rfl rfl) rfl ?_
    refine TL.nil ?_
    refine AQ.then_n ?_
    refine TC.cond_t rfl ?_
    refine TC.seq ?_
    refine TC.region ?_
    refine TL.pu (.assign rfl) rfl ?_
    refine TL.nil ?_
    refine AQ.then_n ?_
    refine TC.ret ?_
    refine AQ.then_r ?_
    refine AQ.ret Try.results8 rfl ⟨ret_vi ?_, rfl⟩ (.nil _)
    have i1 := ite30 (waitBad m.wait)
    have i2 := ite30 (beamBad m.line m.at_ m.frame)
    generalize (if waitBad m.wait then (3 : Int) else 0) = x at *
    generalize (if beamBad m.line m.at_ m.frame then (3 : Int) else 0) = y at *
    (try simp only [Bool.not_eq_true', Bool.not_eq_false', decide_eq_true_eq, decide_eq_false_iff_not] at *)
    unfold checkN
    unfold waitBad beamBad at *
    (try unfold soon at *)
    (repeat (first | rw [if_pos (by omega)] | rw [if_neg (by omega)])) <;> omega
  refine TL.guard_yes rfl rfl ?_
  refine TL.pu (.fieldAddr rfl (m := 31) rfl) rfl ?_
  refine TL.guard_yes rfl rfl ?_
  refine TL.rd (.load1 rfl inferInstance rfl) rfl ?_
  refine TL.guard_yes rfl rfl ?_
  refine TL.pu (.lenSl rfl h1 rfl) rfl ?_
  refine TL.guard_yes rfl rfl ?_
  refine TL.pu (.int rfl rfl rfl) rfl ?_
  refine TL.pu (.pick_f rfl rfl) rfl ?_
  refine TL.nil ?_
  refine AQ.then_n ?_
  refine TC.condd rfl (fun q2 => ?_) (fun q2 => ?_)
  · skip
    refine TC.seq ?_
    refine TC.region ?_
    refine TL.pu (.assign rfl) rfl ?_
    refine TL.nil ?_
    refine AQ.then_n ?_
    refine TC.ret ?_
    refine AQ.then_r ?_
    refine AQ.ret Try.results8 rfl ⟨ret_vi ?_, rfl⟩ (.nil _)
    have i1 := ite30 (waitBad m.wait)
    have i2 := ite30 (beamBad m.line m.at_ m.frame)
    generalize (if waitBad m.wait then (3 : Int) else 0) = x at *
    generalize (if beamBad m.line m.at_ m.frame then (3 : Int) else 0) = y at *
    (try simp only [Bool.not_eq_true', Bool.not_eq_false', decide_eq_true_eq, decide_eq_false_iff_not] at *)
    unfold checkN
    unfold waitBad beamBad at *
    (try unfold soon at *)
    (repeat (first | rw [if_pos (by omega)] | rw [if_neg (by omega)])) <;> omega
  refine TC.skip ?_
  refine AQ.then_n ?_
  refine TC.seq ?_
  refine TC.seq ?_
  refine TC.region ?_
  refine TL.pu (.fieldAddr rfl (m := 32) rfl) rfl ?_
  refine TL.rd (.load1 rfl inferInstance rfl) rfl ?_
  refine TL.pu (.lenSl rfl h2 rfl) rfl ?_
  refine TL.pu (.int rfl rfl rfl) rfl ?_
  refine TL.pu (.move rfl) rfl ?_
  refine TL.guard_d rfl rfl (fun q3 => ?_) (fun q3 => ?_)
  · skip
    refine TL.guard_no rfl rfl rfl rfl ?_
    refine TL.guard_no rfl rfl rfl rfl ?_
    refine TL.guard_no rfl rfl rfl rfl ?_
    refine TL.guard_no rfl rfl rfl rfl ?_
    refine TL.pu (.pick_t rfl rfl) rfl ?_
    refine TL.pu (.move rfl) rfl ?_
    refine TL.guard_no rfl rfl rfl rfl ?_
    refine TL.guard_no rfl rfl rfl rfl ?_
    refine TL.guard_no rfl rfl rfl rfl ?_
    refine TL.guard_no rfl rfl rfl rfl ?_
    refine TL.pu (.pick_t rfl rfl) rfl ?_
    refine TL.nil ?_
    refine AQ.then_n ?_
    refine TC.cond_t rfl ?_
    refine TC.seq ?_
    refine TC.region ?_
    refine TL.pu (.assign rfl) rfl ?_
    refine TL.nil ?_
    refine AQ.then_n ?_
    refine TC.ret ?_
    refine AQ.then_r ?_
    refine AQ.ret Try.results8 rfl ⟨ret_vi ?_, rfl⟩ (.nil _)
    have i1 := ite30 (waitBad m.wait)
    have i2 := ite30 (beamBad m.line m.at_ m.frame)
    generalize (if waitBad m.wait then (3 : Int) else 0) = x at *
    generalize (if beamBad m.line m.at_ m.frame then (3 : Int) else 0) = y at *
    (try simp only [Bool.not_eq_true', Bool.not_eq_false', decide_eq_true_eq, decide_eq_false_iff_not] at *)
    unfold checkN
    unfold waitBad beamBad at *
    (try unfold soon at *)
    (repeat (first | rw [if_pos (by omega)] | rw [if_neg (by omega)])) <;> omega
  refine TL.guard_yes rfl rfl ?_
  refine TL.pu (.fieldAddr rfl (m := 33) rfl) rfl ?_
  refine TL.guard_yes rfl rfl ?_
  refine TL.rd (.load1 rfl inferInstance rfl) rfl ?_
  refine TL.guard_yes rfl rfl ?_
  refine TL.pu (.lenSl rfl h3 rfl) rfl ?_
  refine TL.guard_yes rfl rfl ?_
  refine TL.pu (.int rfl rfl rfl) rfl ?_
  refine TL.pu (.pick_f rfl rfl) rfl ?_
  refine TL.pu (.move rfl) rfl ?_
  refine TL.guard_d rfl rfl (fun q4 => ?_) (fun q4 => ?_)
  · skip
    refine TL.guard_no rfl rfl rfl rfl ?_
    refine TL.guard_no rfl rfl rfl rfl ?_
    refine TL.guard_no rfl rfl rfl rfl ?_
    refine TL.guard_no rfl rfl rfl rfl ?_
    refine TL.pu (.pick_t rfl rfl) rfl ?_
    refine TL.nil ?_
    refine AQ.then_n ?_
    refine TC.cond_t rfl ?_
    refine TC.seq ?_
    refine TC.region ?_
    refine TL.pu (.assign rfl) rfl ?_
    refine TL.nil ?_
    refine AQ.then_n ?_
    refine TC.ret ?_
    refine AQ.then_r ?_
    refine AQ.ret Try.results8 rfl ⟨ret_vi ?_, rfl⟩ (.nil _)
    have i1 := ite30 (waitBad m.wait)
    have i2 := ite30 (beamBad m.line m.at_ m.frame)
    generalize (if waitBad m.wait then (3 : Int) else 0) = x at *
    generalize (if beamBad m.line m.at_ m.frame then (3 : Int) else 0) = y at *
    (try simp only [Bool.not_eq_true', Bool.not_eq_false', decide_eq_true_eq, decide_eq_false_iff_not] at *)
    unfold checkN
    unfold waitBad beamBad at *
    (try unfold soon at *)
    (repeat (first | rw [if_pos (by omega)] | rw [if_neg (by omega)])) <;> omega
  refine TL.guard_yes rfl rfl ?_
  refine TL.pu (.fieldAddr rfl (m := 34) rfl) rfl ?_
  refine TL.guard_yes rfl rfl ?_
  refine TL.rd (.load1 rfl inferInstance rfl) rfl ?_
  refine TL.guard_yes rfl rfl ?_
  refine TL.pu (.lenSl rfl h4 rfl) rfl ?_
  refine TL.guard_yes rfl rfl ?_
  refine TL.pu (.int rfl rfl rfl) rfl ?_
  refine TL.pu (.pick_f rfl rfl) rfl ?_
  refine TL.nil ?_
  refine AQ.then_n ?_
  refine TC.condd rfl (fun q5 => ?_) (fun q5 => ?_)
  · skip
    refine TC.seq ?_
    refine TC.region ?_
    refine TL.pu (.assign rfl) rfl ?_
    refine TL.nil ?_
    refine AQ.then_n ?_
    refine TC.ret ?_
    refine AQ.then_r ?_
    refine AQ.ret Try.results8 rfl ⟨ret_vi ?_, rfl⟩ (.nil _)
    have i1 := ite30 (waitBad m.wait)
    have i2 := ite30 (beamBad m.line m.at_ m.frame)
    generalize (if waitBad m.wait then (3 : Int) else 0) = x at *
    generalize (if beamBad m.line m.at_ m.frame then (3 : Int) else 0) = y at *
    (try simp only [Bool.not_eq_true', Bool.not_eq_false', decide_eq_true_eq, decide_eq_false_iff_not] at *)
    unfold checkN
    unfold waitBad beamBad at *
    (try unfold soon at *)
    (repeat (first | rw [if_pos (by omega)] | rw [if_neg (by omega)])) <;> omega
  refine TC.skip ?_
  refine AQ.then_n ?_
  refine TC.seq ?_
  refine TC.seq ?_
  refine TC.region ?_
  refine TL.pu (.fieldAddr rfl (m := 45) rfl) rfl ?_
  refine TL.rd (.loadA rfl inferInstance rfl) rfl ?_
  refine TL.callD (tcheck_fn (voiceL m.v0) (voiceL m.v1) (voiceL m.v2) m.wait rfl rfl rfl) rfl rfl rfl (.nil _) rfl ?_
  refine TL.pu (.assign rfl) rfl ?_
  refine TL.nil ?_
  refine AQ.then_n ?_
  refine TC.seq ?_
  refine TC.region ?_
  refine TL.pu (.move rfl) rfl ?_
  refine TL.pu (.int rfl rfl rfl) rfl ?_
  refine TL.nil ?_
  refine AQ.then_n ?_
  refine TC.condd rfl (fun q6 => ?_) (fun q6 => ?_)
  · skip
    refine TC.seq ?_
    refine TC.region ?_
    refine TL.pu (.move rfl) rfl ?_
    refine TL.pu (.assign rfl) rfl ?_
    refine TL.nil ?_
    refine AQ.then_n ?_
    refine TC.ret ?_
    refine AQ.then_r ?_
    refine AQ.ret Try.results8 rfl ⟨ret_vi ?_, rfl⟩ (.nil _)
    have i1 := ite30 (waitBad m.wait)
    have i2 := ite30 (beamBad m.line m.at_ m.frame)
    generalize (if waitBad m.wait then (3 : Int) else 0) = x at *
    generalize (if beamBad m.line m.at_ m.frame then (3 : Int) else 0) = y at *
    (try simp only [Bool.not_eq_true', Bool.not_eq_false', decide_eq_true_eq, decide_eq_false_iff_not] at *)
    unfold checkN
    unfold waitBad beamBad at *
    (try unfold soon at *)
    (repeat (first | rw [if_pos (by omega)] | rw [if_neg (by omega)])) <;> omega
  refine TC.skip ?_
  refine AQ.then_n ?_
  refine TC.seq ?_
  refine TC.seq ?_
  refine TC.region ?_
  refine TL.pu (.fieldAddr rfl (m := 61) rfl) rfl ?_
  refine TL.rd (.loadA rfl inferInstance rfl) rfl ?_
  refine TL.callD (bcheck_fn _ _ _ _) rfl rfl rfl (.nil _) rfl ?_
  refine TL.pu (.assign rfl) rfl ?_
  refine TL.nil ?_
  refine AQ.then_n ?_
  refine TC.seq ?_
  refine TC.region ?_
  refine TL.pu (.move rfl) rfl ?_
  refine TL.pu (.int rfl rfl rfl) rfl ?_
  refine TL.nil ?_
  refine AQ.then_n ?_
  refine TC.condd rfl (fun q7 => ?_) (fun q7 => ?_)
  · skip
    refine TC.seq ?_
    refine TC.region ?_
    refine TL.pu (.move rfl) rfl ?_
    refine TL.pu (.assign rfl) rfl ?_
    refine TL.nil ?_
    refine AQ.then_n ?_
    refine TC.ret ?_
    refine AQ.then_r ?_
    refine AQ.ret Try.results8 rfl ⟨ret_vi ?_, rfl⟩ (.nil _)
    have i1 := ite30 (waitBad m.wait)
    have i2 := ite30 (beamBad m.line m.at_ m.frame)
    generalize (if waitBad m.wait then (3 : Int) else 0) = x at *
    generalize (if beamBad m.line m.at_ m.frame then (3 : Int) else 0) = y at *
    (try simp only [Bool.not_eq_true', Bool.not_eq_false', decide_eq_true_eq, decide_eq_false_iff_not] at *)
    unfold checkN
    unfold waitBad beamBad at *
    (try unfold soon at *)
    (repeat (first | rw [if_pos (by omega)] | rw [if_neg (by omega)])) <;> omega
  refine TC.skip ?_
  refine AQ.then_n ?_
  refine TC.seq ?_
  refine TC.region ?_
  refine TL.pu (.func rfl rfl) rfl ?_
  refine TL.pu (.assign rfl) rfl ?_
  refine TL.nil ?_
  refine AQ.then_n ?_
  refine TC.seq ?_
  refine TC.seq ?_
  refine TC.region ?_
  refine TL.pu (.fieldAddr rfl (m := 72) rfl) rfl ?_
  refine TL.rd (.load1 rfl inferInstance rfl) rfl ?_
  refine TL.pu (.int rfl rfl rfl) rfl ?_
  refine TL.pu (.move rfl) rfl ?_
  refine TL.guard_d rfl rfl (fun q8 => ?_) (fun q8 => ?_)
  · skip
    refine TL.guard_no rfl rfl rfl rfl ?_
    refine TL.guard_no rfl rfl rfl rfl ?_
    refine TL.guard_no rfl rfl rfl rfl ?_
    refine TL.pu (.pick_t rfl rfl) rfl ?_
    refine TL.pu (.move rfl) rfl ?_
    refine TL.guard_no rfl rfl rfl rfl ?_
    refine TL.guard_no rfl rfl rfl rfl ?_
    refine TL.guard_no rfl rfl rfl rfl ?_
    refine TL.guard_no rfl rfl rfl rfl ?_
    refine TL.guard_no rfl rfl rfl rfl ?_
    refine TL.pu (.pick_t rfl rfl) rfl ?_
    refine TL.pu (.move rfl) rfl ?_
    refine TL.guard_no rfl rfl rfl rfl ?_
    refine TL.guard_no rfl rfl rfl rfl ?_
    refine TL.guard_no rfl rfl rfl rfl ?_
    refine TL.guard_no rfl rfl rfl rfl ?_
    refine TL.guard_no rfl rfl rfl rfl ?_
    refine TL.pu (.pick_t rfl rfl) rfl ?_
    refine TL.nil ?_
    refine AQ.then_n ?_
    refine TC.cond_t rfl ?_
    refine TC.seq ?_
    refine TC.region ?_
    refine TL.pu (.assign rfl) rfl ?_
    refine TL.nil ?_
    refine AQ.then_n ?_
    refine TC.ret ?_
    refine AQ.then_r ?_
    refine AQ.ret Try.results8 rfl ⟨ret_vi ?_, rfl⟩ (.nil _)
    have i1 := ite30 (waitBad m.wait)
    have i2 := ite30 (beamBad m.line m.at_ m.frame)
    generalize (if waitBad m.wait then (3 : Int) else 0) = x at *
    generalize (if beamBad m.line m.at_ m.frame then (3 : Int) else 0) = y at *
    (try simp only [Bool.not_eq_true', Bool.not_eq_false', decide_eq_true_eq, decide_eq_false_iff_not] at *)
    unfold checkN
    unfold waitBad beamBad at *
    (try unfold soon at *)
    (repeat (first | rw [if_pos (by omega)] | rw [if_neg (by omega)])) <;> omega
  refine TL.guard_yes rfl rfl ?_
  refine TL.pu (.fieldAddr rfl (m := 72) rfl) rfl ?_
  refine TL.guard_yes rfl rfl ?_
  refine TL.rd (.load1 rfl inferInstance rfl) rfl ?_
  refine TL.guard_yes rfl rfl ?_
  refine TL.pu (.int rfl rfl rfl) rfl ?_
  refine TL.pu (.pick_f rfl rfl) rfl ?_
  refine TL.pu (.move rfl) rfl ?_
  refine TL.guard_d rfl rfl (fun q9 => ?_) (fun q9 => ?_)
  · skip
    refine TL.guard_no rfl rfl rfl rfl ?_
    refine TL.guard_no rfl rfl rfl rfl ?_
    refine TL.guard_no rfl rfl rfl rfl ?_
    refine TL.guard_no rfl rfl rfl rfl ?_
    refine TL.guard_no rfl rfl rfl rfl ?_
    refine TL.pu (.pick_t rfl rfl) rfl ?_
    refine TL.pu (.move rfl) rfl ?_
    refine TL.guard_no rfl rfl rfl rfl ?_
    refine TL.guard_no rfl rfl rfl rfl ?_
    refine TL.guard_no rfl rfl rfl rfl ?_
    refine TL.guard_no rfl rfl rfl rfl ?_
    refine TL.guard_no rfl rfl rfl rfl ?_
    refine TL.pu (.pick_t rfl rfl) rfl ?_
    refine TL.nil ?_
    refine AQ.then_n ?_
    refine TC.cond_t rfl ?_
    refine TC.seq ?_
    refine TC.region ?_
    refine TL.pu (.assign rfl) rfl ?_
    refine TL.nil ?_
    refine AQ.then_n ?_
    refine TC.ret ?_
    refine AQ.then_r ?_
    refine AQ.ret Try.results8 rfl ⟨ret_vi ?_, rfl⟩ (.nil _)
    have i1 := ite30 (waitBad m.wait)
    have i2 := ite30 (beamBad m.line m.at_ m.frame)
    generalize (if waitBad m.wait then (3 : Int) else 0) = x at *
    generalize (if beamBad m.line m.at_ m.frame then (3 : Int) else 0) = y at *
    (try simp only [Bool.not_eq_true', Bool.not_eq_false', decide_eq_true_eq, decide_eq_false_iff_not] at *)
    unfold checkN
    unfold waitBad beamBad at *
    (try unfold soon at *)
    (repeat (first | rw [if_pos (by omega)] | rw [if_neg (by omega)])) <;> omega
  refine TL.guard_yes rfl rfl ?_
  refine TL.pu (.move rfl) rfl ?_
  refine TL.guard_yes rfl rfl ?_
  refine TL.pu (.fieldAddr rfl (m := 73) rfl) rfl ?_
  refine TL.guard_yes rfl rfl ?_
  refine TL.rd (.load1 rfl inferInstance rfl) rfl ?_
  refine TL.guard_yes rfl rfl ?_
  refine TL.callD (soon_fn m _ _ _ (by omega)) rfl rfl rfl (.ro inferInstance (.nil _)) rfl ?_
  refine TL.guard_yes rfl rfl ?_
  refine TL.pu (.not rfl) rfl ?_
  refine TL.pu (.pick_f rfl rfl) rfl ?_
  refine TL.pu (.move rfl) rfl ?_
  refine TL.guard_b rfl rfl (fun q10 => ?_) (fun q10 => ?_)
  · skip
    refine TL.guard_no rfl rfl rfl rfl ?_
    refine TL.guard_no rfl rfl rfl rfl ?_
    refine TL.guard_no rfl rfl rfl rfl ?_
    refine TL.guard_no rfl rfl rfl rfl ?_
    refine TL.guard_no rfl rfl rfl rfl ?_
    refine TL.pu (.pick_t rfl rfl) rfl ?_
    refine TL.nil ?_
    refine AQ.then_n ?_
    refine TC.cond_t rfl ?_
    refine TC.seq ?_
    refine TC.region ?_
    refine TL.pu (.assign rfl) rfl ?_
    refine TL.nil ?_
    refine AQ.then_n ?_
    refine TC.ret ?_
    refine AQ.then_r ?_
    refine AQ.ret Try.results8 rfl ⟨ret_vi ?_, rfl⟩ (.nil _)
    have i1 := ite30 (waitBad m.wait)
    have i2 := ite30 (beamBad m.line m.at_ m.frame)
    generalize (if waitBad m.wait then (3 : Int) else 0) = x at *
    generalize (if beamBad m.line m.at_ m.frame then (3 : Int) else 0) = y at *
    (try simp only [Bool.not_eq_true', Bool.not_eq_false', decide_eq_true_eq, decide_eq_false_iff_not] at *)
    unfold checkN
    unfold waitBad beamBad at *
    (try unfold soon at *)
    (repeat (first | rw [if_pos (by omega)] | rw [if_neg (by omega)])) <;> omega
  refine TL.guard_yes rfl rfl ?_
  refine TL.pu (.move rfl) rfl ?_
  refine TL.guard_yes rfl rfl ?_
  refine TL.pu (.fieldAddr rfl (m := 74) rfl) rfl ?_
  refine TL.guard_yes rfl rfl ?_
  refine TL.rd (.load1 rfl inferInstance rfl) rfl ?_
  refine TL.guard_yes rfl rfl ?_
  refine TL.callD (soon_fn m _ _ _ (by omega)) rfl rfl rfl (.ro inferInstance (.nil _)) rfl ?_
  refine TL.guard_yes rfl rfl ?_
  refine TL.pu (.not rfl) rfl ?_
  refine TL.pu (.pick_f rfl rfl) rfl ?_
  refine TL.nil ?_
  refine AQ.then_n ?_
  refine TC.cond rfl (fun q11 => ?_) (fun q11 => ?_)
  · skip
    refine TC.seq ?_
    refine TC.region ?_
    refine TL.pu (.assign rfl) rfl ?_
    refine TL.nil ?_
    refine AQ.then_n ?_
    refine TC.ret ?_
    refine AQ.then_r ?_
    refine AQ.ret Try.results8 rfl ⟨ret_vi ?_, rfl⟩ (.nil _)
    have i1 := ite30 (waitBad m.wait)
    have i2 := ite30 (beamBad m.line m.at_ m.frame)
    generalize (if waitBad m.wait then (3 : Int) else 0) = x at *
    generalize (if beamBad m.line m.at_ m.frame then (3 : Int) else 0) = y at *
    (try simp only [Bool.not_eq_true', Bool.not_eq_false', decide_eq_true_eq, decide_eq_false_iff_not] at *)
    unfold checkN
    unfold waitBad beamBad at *
    (try unfold soon at *)
    (repeat (first | rw [if_pos (by omega)] | rw [if_neg (by omega)])) <;> omega
  refine TC.skip ?_
  refine AQ.then_n ?_
  refine TC.seq ?_
  refine TC.region ?_
  refine TL.pu (.assign rfl) rfl ?_
  refine TL.nil ?_
  refine AQ.then_n ?_
  refine TC.ret ?_
  refine AQ.ret Try.results8 rfl ⟨ret_vi ?_, rfl⟩ (.nil _)
  have i1 := ite30 (waitBad m.wait)
  have i2 := ite30 (beamBad m.line m.at_ m.frame)
  generalize (if waitBad m.wait then (3 : Int) else 0) = x at *
  generalize (if beamBad m.line m.at_ m.frame then (3 : Int) else 0) = y at *
  (try simp only [Bool.not_eq_true', Bool.not_eq_false', decide_eq_true_eq, decide_eq_false_iff_not] at *)
  unfold checkN
  unfold waitBad beamBad at *
  (try unfold soon at *)
  (repeat (first | rw [if_pos (by omega)] | rw [if_neg (by omega)])) <;> omega
end Go.Sl