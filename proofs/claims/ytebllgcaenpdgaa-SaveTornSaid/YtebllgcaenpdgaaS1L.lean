/-
  Walks of this claim's functions, printed by a program of ours off the loaded program. Holds under no condition.
-/
import Derived.Test.YtebllgcaenpdgaaS1K
set_option linter.all false
namespace Go.Sl
open Go Go.Proofs
theorem isl_one {v : Value} {n : Nat} (h : IsSl v n) : one v = true := by obtain ⟨a, cap, rfl⟩ := h; rfl
def sameB (m k : Mach) (y0 y1 y2 y3 y4 z0 z1 z2 z3 z4 : List Int) : Bool := decide (y0 = z0) && (decide (y1 = z1) && (decide (y2 = z2) && (decide (y3 = z3) && (decide (y4 = z4) && (eqL (cpuL m.main) (cpuL k.main) && (eqL (cpuL m.aux) (cpuL k.aux) && (eqL [vb m.d0, vt m.l0, vb m.h0, vb m.d1, vt m.l1, vb m.h1] [vb k.d0, vt k.l0, vb k.h0, vb k.d1, vt k.l1, vb k.h1] && (eqL [vw m.reload, vw m.count, vt m.on, vt m.rings] [vw k.reload, vw k.count, vt k.on, vt k.rings] && (eqL (soundL m) (soundL k) && (eqL (beamL m.line m.at_ m.brings m.frame) (beamL k.line k.at_ k.brings k.frame) && (decide (m.from_ = k.from_) && (decide (m.to_ = k.to_) && ((m.granted == k.granted) && ((m.held == k.held) && (eqL [vb m.mail0, vb m.mail1] [vb k.mail0, vb k.mail1] && ((m.rung == k.rung) && (decide (m.clock = k.clock) && (decide (m.mready = k.mready) && (decide (m.aready = k.aready))))))))))))))))))))
theorem eqc_i {a b : Int} {k j : IntKind} : eqc (.int k a) (.int j b) = true ↔ a = b := by simp [eqc]
theorem eqc_b {a b : Bool} : eqc (.bool a) (.bool b) = true ↔ a = b := by simp [eqc]
theorem eqL_cons {x y : Value} {xs ys : List Value} : eqL (x :: xs) (y :: ys) = true ↔ eqc x y = true ∧ eqL xs ys = true := by simp [eqL]
theorem eqL_nil : (eqL [] [] = true) ↔ True := by simp [eqL]
/-- All but the slices' values. -/
def Mach.as (m : Mach) (k : Mach) : Mach := { m with s0 := k.s0, s1 := k.s1, s2 := k.s2, s3 := k.s3, s4 := k.s4 }
theorem sameB_iff {m k : Mach} {y0 y1 y2 y3 y4 z0 z1 z2 z3 z4 : List Int} : sameB m k y0 y1 y2 y3 y4 z0 z1 z2 z3 z4 = true ↔ m.as k = k ∧ y0 = z0 ∧ y1 = z1 ∧ y2 = z2 ∧ y3 = z3 ∧ y4 = z4 := by
  obtain ⟨⟨a1, a2, a3, a4, a5, a6, a7, a8, a9, a10, a11, a12, a13, a14, a15⟩, ⟨b1, b2, b3, b4, b5, b6, b7, b8, b9, b10, b11, b12, b13, b14, b15⟩, s0, s1, s2, s3, s4, c1, c2, c3, c4, c5, c6, c7, c8, c9, c10, ⟨v1, v2, v3, v4, v5⟩, ⟨v6, v7, v8, v9, v10⟩, ⟨v11, v12, v13, v14, v15⟩, d1, d2, d3, d4, d5, e1, e2, e3, e4, e5, e6, e7, e8, e9, e10⟩ := m
  obtain ⟨⟨a1', a2', a3', a4', a5', a6', a7', a8', a9', a10', a11', a12', a13', a14', a15'⟩, ⟨b1', b2', b3', b4', b5', b6', b7', b8', b9', b10', b11', b12', b13', b14', b15'⟩, s0', s1', s2', s3', s4', c1', c2', c3', c4', c5', c6', c7', c8', c9', c10', ⟨v1', v2', v3', v4', v5'⟩, ⟨v6', v7', v8', v9', v10'⟩, ⟨v11', v12', v13', v14', v15'⟩, d1', d2', d3', d4', d5', e1', e2', e3', e4', e5', e6', e7', e8', e9', e10'⟩ := k
  simp only [sameB, Mach.as, Bool.and_eq_true, decide_eq_true_eq, beq_iff_eq, eqL_cons, eqL_nil, eqc_i, eqc_b, Mach.mk.injEq, Cpu.mk.injEq, Voice.mk.injEq, and_true, true_and]
  constructor
  · intro h; grind
  · intro h; grind


set_option maxRecDepth 20000 in
set_option maxHeartbeats 1000000 in
theorem SameMachine_fn (m k : Mach) (y0 z0 : List Int) (n0 l0 : Nat) (sg0 sk0 : HS) (R0 : Ro 1 m.s0 n0 (bys y0) sg0) (S0 : Ro 1 k.s0 l0 (bys z0) sk0) (hy0 : ∀ x ∈ y0, 0 ≤ x ∧ x < 256) (hz0 : ∀ x ∈ z0, 0 ≤ x ∧ x < 256) (y1 z1 : List Int) (n1 l1 : Nat) (sg1 sk1 : HS) (R1 : Ro 1 m.s1 n1 (bys y1) sg1) (S1 : Ro 1 k.s1 l1 (bys z1) sk1) (hy1 : ∀ x ∈ y1, 0 ≤ x ∧ x < 256) (hz1 : ∀ x ∈ z1, 0 ≤ x ∧ x < 256) (y2 z2 : List Int) (n2 l2 : Nat) (sg2 sk2 : HS) (R2 : Ro 1 m.s2 n2 (bys y2) sg2) (S2 : Ro 1 k.s2 l2 (bys z2) sk2) (hy2 : ∀ x ∈ y2, 0 ≤ x ∧ x < 256) (hz2 : ∀ x ∈ z2, 0 ≤ x ∧ x < 256) (y3 z3 : List Int) (n3 l3 : Nat) (sg3 sk3 : HS) (R3 : Ro 1 m.s3 n3 (bys y3) sg3) (S3 : Ro 1 k.s3 l3 (bys z3) sk3) (hy3 : ∀ x ∈ y3, 0 ≤ x ∧ x < 256) (hz3 : ∀ x ∈ z3, 0 ≤ x ∧ x < 256) (y4 z4 : List Int) (n4 l4 : Nat) (sg4 sk4 : HS) (R4 : Ro 1 m.s4 n4 (bys y4) sg4) (S4 : Ro 1 k.s4 l4 (bys z4) sk4) (hy4 : ∀ x ∈ y4, 0 ≤ x ∧ x < 256) (hz4 : ∀ x ∈ z4, 0 ≤ x ∧ x < 256) :
    FnD Try.prog 9 [.agg (machL m).toArray, .agg (machL k).toArray] (sg0 ++ (sg1 ++ (sg2 ++ (sg3 ++ (sg4 ++ (sk0 ++ (sk1 ++ (sk2 ++ (sk3 ++ (sk4)))))))))) (vt (sameB m k y0 y1 y2 y3 y4 z0 z1 z2 z3 z4)) [] := by
  have c0 := cells_isl R0.isl
  have d0 := cells_isl S0.isl
  have o0 := isl_one R0.isl
  have p0 := isl_one S0.isl
  haveI : CellsN m.s0 [m.s0] := ⟨by rw [c0]⟩
  haveI : CellsN k.s0 [k.s0] := ⟨by rw [d0]⟩
  have c1 := cells_isl R1.isl
  have d1 := cells_isl S1.isl
  have o1 := isl_one R1.isl
  have p1 := isl_one S1.isl
  haveI : CellsN m.s1 [m.s1] := ⟨by rw [c1]⟩
  haveI : CellsN k.s1 [k.s1] := ⟨by rw [d1]⟩
  have c2 := cells_isl R2.isl
  have d2 := cells_isl S2.isl
  have o2 := isl_one R2.isl
  have p2 := isl_one S2.isl
  haveI : CellsN m.s2 [m.s2] := ⟨by rw [c2]⟩
  haveI : CellsN k.s2 [k.s2] := ⟨by rw [d2]⟩
  have c3 := cells_isl R3.isl
  have d3 := cells_isl S3.isl
  have o3 := isl_one R3.isl
  have p3 := isl_one S3.isl
  haveI : CellsN m.s3 [m.s3] := ⟨by rw [c3]⟩
  haveI : CellsN k.s3 [k.s3] := ⟨by rw [d3]⟩
  have c4 := cells_isl R4.isl
  have d4 := cells_isl S4.isl
  have o4 := isl_one R4.isl
  have p4 := isl_one S4.isl
  haveI : CellsN m.s4 [m.s4] := ⟨by rw [c4]⟩
  haveI : CellsN k.s4 [k.s4] := ⟨by rw [d4]⟩
  refine FnE.enter Try.func9 rfl Try.ntmps9 rfl (fun w => ?_)
  refine TC.seq ?_
  refine TC.region ?_
  refine TL.box rfl rfl rfl (fun b2 => ?_)
  refine TL.box rfl rfl rfl (fun b3 => ?_)
  refine TL.pu (.assign rfl) rfl ?_
  refine TL.nil ?_
  refine AQ.then_n ?_
  refine TC.seq ?_
  refine TC.seq ?_
  refine TC.region ?_
  refine TL.pu (.fieldAddr rfl (m := 30) rfl) rfl ?_
  refine TL.rd (.load1 rfl inferInstance rfl) rfl ?_
  refine TL.pu (.fieldAddr rfl (m := 30) rfl) rfl ?_
  refine TL.rd (.load1 rfl inferInstance rfl) rfl ?_
  refine TL.pu (.build rfl (by simp only [okL, c0, d0]; rfl)) rfl ?_
  refine TL.pu (.fieldAddr rfl (m := 31) rfl) rfl ?_
  refine TL.rd (.load1 rfl inferInstance rfl) rfl ?_
  refine TL.pu (.fieldAddr rfl (m := 31) rfl) rfl ?_
  refine TL.rd (.load1 rfl inferInstance rfl) rfl ?_
  refine TL.pu (.build rfl (by simp only [okL, c1, d1]; rfl)) rfl ?_
  refine TL.pu (.fieldAddr rfl (m := 32) rfl) rfl ?_
  refine TL.rd (.load1 rfl inferInstance rfl) rfl ?_
  refine TL.pu (.fieldAddr rfl (m := 32) rfl) rfl ?_
  refine TL.rd (.load1 rfl inferInstance rfl) rfl ?_
  refine TL.pu (.build rfl (by simp only [okL, c2, d2]; rfl)) rfl ?_
  refine TL.pu (.fieldAddr rfl (m := 33) rfl) rfl ?_
  refine TL.rd (.load1 rfl inferInstance rfl) rfl ?_
  refine TL.pu (.fieldAddr rfl (m := 33) rfl) rfl ?_
  refine TL.rd (.load1 rfl inferInstance rfl) rfl ?_
  refine TL.pu (.build rfl (by simp only [okL, c3, d3]; rfl)) rfl ?_
  refine TL.pu (.fieldAddr rfl (m := 34) rfl) rfl ?_
  refine TL.rd (.load1 rfl inferInstance rfl) rfl ?_
  refine TL.pu (.fieldAddr rfl (m := 34) rfl) rfl ?_
  refine TL.rd (.load1 rfl inferInstance rfl) rfl ?_
  refine TL.pu (.build rfl (by simp only [okL, c4, d4]; rfl)) rfl ?_
  refine TL.buildSlice rfl rfl rfl rfl rfl (fun b32 => ?_)
  refine TL.pu (.lenSlice rfl rfl) rfl ?_
  refine TL.say 33 (vi 5) rfl rfl ?_
  refine TL.pu (.move rfl) rfl ?_
  refine TL.nil ?_
  refine AQ.then_n ?_
  refine TC.block ?_
  refine TC.unroll 5 ?_
  refine TC.seq ?_
  refine TC.region ?_
  refine TL.pu (.int rfl rfl rfl) rfl ?_
  refine TL.say 35 (.bool true) rfl rfl ?_
  refine TL.nil ?_
  refine AQ.then_n ?_
  refine TC.seq ?_
  refine TC.cond_t rfl ?_
  refine TC.skip ?_
  refine AQ.then_n ?_
  refine TC.seq ?_
  refine TC.block ?_
  refine TC.seq ?_
  refine TC.region ?_
  refine TL.pu (.indexAddr rfl rfl (by decide) (by decide) (m := 0) rfl) rfl ?_
  refine TL.rd (.loadA rfl inferInstance rfl) rfl ?_
  refine TL.alloc rfl rfl (fun b6 => ?_)
  refine TL.storeA rfl rfl rfl (by simp only [List.all_cons, o0, p0, o1, p1, o2, p2, o3, p3, o4, p4]; rfl) inferInstance rfl ?_
  refine TL.nil ?_
  refine AQ.then_n ?_
  refine TC.seq ?_
  refine TC.region ?_
  refine TL.pu (.indexAddrA rfl rfl (by decide) (by decide) (m := 0) rfl) rfl ?_
  refine TL.rd (.load1 rfl inferInstance rfl) rfl ?_
  refine TL.pu (.indexAddrA rfl rfl (by decide) (by decide) (m := 1) rfl) rfl ?_
  refine TL.rd (.load1 rfl inferInstance rfl) rfl ?_
  refine TL.callD (Equal_fn m.s0 k.s0 n0 l0 y0 z0 sg0 sk0 R0 S0 hy0 hz0) rfl rfl rfl (.sro inferInstance R0.ro (.lastro inferInstance S0.ro)) rfl ?_
  refine TL.pu (.not rfl) rfl ?_
  refine TL.nil ?_
  refine AQ.then_n ?_
  refine TC.cond rfl (fun q1 => ?_) (fun q1 => ?_)
  · skip
    refine TC.seq ?_
    refine TC.region ?_
    refine TL.pu (.assign rfl) rfl ?_
    refine TL.nil ?_
    refine AQ.then_n ?_
    refine TC.ret ?_
    refine AQ.block_r ?_
    refine AQ.then_r ?_
    refine AQ.then_r ?_
    refine AQ.block_r ?_
    refine AQ.then_r ?_
    refine AQ.ret Try.results9 rfl ⟨ret_vt ?_, rfl⟩ (.nil _)
    unfold sameB
    simp only [Bool.not_eq_true', Bool.not_eq_false', decide_eq_true_eq, decide_eq_false_iff_not] at *
    simp only [*, decide_true, decide_false, Bool.true_and, Bool.false_and, Bool.and_false, Bool.and_true, Bool.not_true, Bool.not_false]
  refine TC.skip ?_
  refine AQ.block_n ?_
  refine AQ.then_n ?_
  refine TC.region ?_
  refine TL.pu (.int rfl rfl rfl) rfl ?_
  refine TL.say 44 (.int .i64 1) rfl rfl ?_
  refine TL.pu (.move rfl) rfl ?_
  refine TL.nil ?_
  refine AQ.next ?_
  refine TC.seq ?_
  refine TC.region ?_
  refine TL.pu (.int rfl rfl rfl) rfl ?_
  refine TL.say 35 (.bool true) rfl rfl ?_
  refine TL.nil ?_
  refine AQ.then_n ?_
  refine TC.seq ?_
  refine TC.cond_t rfl ?_
  refine TC.skip ?_
  refine AQ.then_n ?_
  refine TC.seq ?_
  refine TC.block ?_
  refine TC.seq ?_
  refine TC.region ?_
  refine TL.pu (.indexAddr rfl rfl (by decide) (by decide) (m := 2) rfl) rfl ?_
  refine TL.rd (.loadA rfl inferInstance rfl) rfl ?_
  refine TL.alloc rfl rfl (fun b6 => ?_)
  refine TL.storeA rfl rfl rfl (by simp only [List.all_cons, o0, p0, o1, p1, o2, p2, o3, p3, o4, p4]; rfl) inferInstance rfl ?_
  refine TL.nil ?_
  refine AQ.then_n ?_
  refine TC.seq ?_
  refine TC.region ?_
  refine TL.pu (.indexAddrA rfl rfl (by decide) (by decide) (m := 0) rfl) rfl ?_
  refine TL.rd (.load1 rfl inferInstance rfl) rfl ?_
  refine TL.pu (.indexAddrA rfl rfl (by decide) (by decide) (m := 1) rfl) rfl ?_
  refine TL.rd (.load1 rfl inferInstance rfl) rfl ?_
  refine TL.callD (Equal_fn m.s1 k.s1 n1 l1 y1 z1 sg1 sk1 R1 S1 hy1 hz1) rfl rfl rfl (.sro inferInstance R1.ro (.lastro inferInstance S1.ro)) rfl ?_
  refine TL.pu (.not rfl) rfl ?_
  refine TL.nil ?_
  refine AQ.then_n ?_
  refine TC.cond rfl (fun q2 => ?_) (fun q2 => ?_)
  · skip
    refine TC.seq ?_
    refine TC.region ?_
    refine TL.pu (.assign rfl) rfl ?_
    refine TL.nil ?_
    refine AQ.then_n ?_
    refine TC.ret ?_
    refine AQ.block_r ?_
    refine AQ.then_r ?_
    refine AQ.then_r ?_
    refine AQ.block_r ?_
    refine AQ.then_r ?_
    refine AQ.ret Try.results9 rfl ⟨ret_vt ?_, rfl⟩ (.nil _)
    unfold sameB
    simp only [Bool.not_eq_true', Bool.not_eq_false', decide_eq_true_eq, decide_eq_false_iff_not] at *
    simp only [*, decide_true, decide_false, Bool.true_and, Bool.false_and, Bool.and_false, Bool.and_true, Bool.not_true, Bool.not_false]
  refine TC.skip ?_
  refine AQ.block_n ?_
  refine AQ.then_n ?_
  refine TC.region ?_
  refine TL.pu (.int rfl rfl rfl) rfl ?_
  refine TL.say 44 (.int .i64 2) rfl rfl ?_
  refine TL.pu (.move rfl) rfl ?_
  refine TL.nil ?_
  refine AQ.next ?_
  refine TC.seq ?_
  refine TC.region ?_
  refine TL.pu (.int rfl rfl rfl) rfl ?_
  refine TL.say 35 (.bool true) rfl rfl ?_
  refine TL.nil ?_
  refine AQ.then_n ?_
  refine TC.seq ?_
  refine TC.cond_t rfl ?_
  refine TC.skip ?_
  refine AQ.then_n ?_
  refine TC.seq ?_
  refine TC.block ?_
  refine TC.seq ?_
  refine TC.region ?_
  refine TL.pu (.indexAddr rfl rfl (by decide) (by decide) (m := 4) rfl) rfl ?_
  refine TL.rd (.loadA rfl inferInstance rfl) rfl ?_
  refine TL.alloc rfl rfl (fun b6 => ?_)
  refine TL.storeA rfl rfl rfl (by simp only [List.all_cons, o0, p0, o1, p1, o2, p2, o3, p3, o4, p4]; rfl) inferInstance rfl ?_
  refine TL.nil ?_
  refine AQ.then_n ?_
  refine TC.seq ?_
  refine TC.region ?_
  refine TL.pu (.indexAddrA rfl rfl (by decide) (by decide) (m := 0) rfl) rfl ?_
  refine TL.rd (.load1 rfl inferInstance rfl) rfl ?_
  refine TL.pu (.indexAddrA rfl rfl (by decide) (by decide) (m := 1) rfl) rfl ?_
  refine TL.rd (.load1 rfl inferInstance rfl) rfl ?_
  refine TL.callD (Equal_fn m.s2 k.s2 n2 l2 y2 z2 sg2 sk2 R2 S2 hy2 hz2) rfl rfl rfl (.sro inferInstance R2.ro (.lastro inferInstance S2.ro)) rfl ?_
  refine TL.pu (.not rfl) rfl ?_
  refine TL.nil ?_
  refine AQ.then_n ?_
  refine TC.cond rfl (fun q3 => ?_) (fun q3 => ?_)
  · skip
    refine TC.seq ?_
    refine TC.region ?_
    refine TL.pu (.assign rfl) rfl ?_
    refine TL.nil ?_
    refine AQ.then_n ?_
    refine TC.ret ?_
    refine AQ.block_r ?_
    refine AQ.then_r ?_
    refine AQ.then_r ?_
    refine AQ.block_r ?_
    refine AQ.then_r ?_
    refine AQ.ret Try.results9 rfl ⟨ret_vt ?_, rfl⟩ (.nil _)
    unfold sameB
    simp only [Bool.not_eq_true', Bool.not_eq_false', decide_eq_true_eq, decide_eq_false_iff_not] at *
    simp only [*, decide_true, decide_false, Bool.true_and, Bool.false_and, Bool.and_false, Bool.and_true, Bool.not_true, Bool.not_false]
  refine TC.skip ?_
  refine AQ.block_n ?_
  refine AQ.then_n ?_
  refine TC.region ?_
  refine TL.pu (.int rfl rfl rfl) rfl ?_
  refine TL.say 44 (.int .i64 3) rfl rfl ?_
  refine TL.pu (.move rfl) rfl ?_
  refine TL.nil ?_
  refine AQ.next ?_
  refine TC.seq ?_
  refine TC.region ?_
  refine TL.pu (.int rfl rfl rfl) rfl ?_
  refine TL.say 35 (.bool true) rfl rfl ?_
  refine TL.nil ?_
  refine AQ.then_n ?_
  refine TC.seq ?_
  refine TC.cond_t rfl ?_
  refine TC.skip ?_
  refine AQ.then_n ?_
  refine TC.seq ?_
  refine TC.block ?_
  refine TC.seq ?_
  refine TC.region ?_
  refine TL.pu (.indexAddr rfl rfl (by decide) (by decide) (m := 6) rfl) rfl ?_
  refine TL.rd (.loadA rfl inferInstance rfl) rfl ?_
  refine TL.alloc rfl rfl (fun b6 => ?_)
  refine TL.storeA rfl rfl rfl (by simp only [List.all_cons, o0, p0, o1, p1, o2, p2, o3, p3, o4, p4]; rfl) inferInstance rfl ?_
  refine TL.nil ?_
  refine AQ.then_n ?_
  refine TC.seq ?_
  refine TC.region ?_
  refine TL.pu (.indexAddrA rfl rfl (by decide) (by decide) (m := 0) rfl) rfl ?_
  refine TL.rd (.load1 rfl inferInstance rfl) rfl ?_
  refine TL.pu (.indexAddrA rfl rfl (by decide) (by decide) (m := 1) rfl) rfl ?_
  refine TL.rd (.load1 rfl inferInstance rfl) rfl ?_
  refine TL.callD (Equal_fn m.s3 k.s3 n3 l3 y3 z3 sg3 sk3 R3 S3 hy3 hz3) rfl rfl rfl (.sro inferInstance R3.ro (.lastro inferInstance S3.ro)) rfl ?_
  refine TL.pu (.not rfl) rfl ?_
  refine TL.nil ?_
  refine AQ.then_n ?_
  refine TC.cond rfl (fun q4 => ?_) (fun q4 => ?_)
  · skip
    refine TC.seq ?_
    refine TC.region ?_
    refine TL.pu (.assign rfl) rfl ?_
    refine TL.nil ?_
    refine AQ.then_n ?_
    refine TC.ret ?_
    refine AQ.block_r ?_
    refine AQ.then_r ?_
    refine AQ.then_r ?_
    refine AQ.block_r ?_
    refine AQ.then_r ?_
    refine AQ.ret Try.results9 rfl ⟨ret_vt ?_, rfl⟩ (.nil _)
    unfold sameB
    simp only [Bool.not_eq_true', Bool.not_eq_false', decide_eq_true_eq, decide_eq_false_iff_not] at *
    simp only [*, decide_true, decide_false, Bool.true_and, Bool.false_and, Bool.and_false, Bool.and_true, Bool.not_true, Bool.not_false]
  refine TC.skip ?_
  refine AQ.block_n ?_
  refine AQ.then_n ?_
  refine TC.region ?_
  refine TL.pu (.int rfl rfl rfl) rfl ?_
  refine TL.say 44 (.int .i64 4) rfl rfl ?_
  refine TL.pu (.move rfl) rfl ?_
  refine TL.nil ?_
  refine AQ.next ?_
  refine TC.seq ?_
  refine TC.region ?_
  refine TL.pu (.int rfl rfl rfl) rfl ?_
  refine TL.say 35 (.bool true) rfl rfl ?_
  refine TL.nil ?_
  refine AQ.then_n ?_
  refine TC.seq ?_
  refine TC.cond_t rfl ?_
  refine TC.skip ?_
  refine AQ.then_n ?_
  refine TC.seq ?_
  refine TC.block ?_
  refine TC.seq ?_
  refine TC.region ?_
  refine TL.pu (.indexAddr rfl rfl (by decide) (by decide) (m := 8) rfl) rfl ?_
  refine TL.rd (.loadA rfl inferInstance rfl) rfl ?_
  refine TL.alloc rfl rfl (fun b6 => ?_)
  refine TL.storeA rfl rfl rfl (by simp only [List.all_cons, o0, p0, o1, p1, o2, p2, o3, p3, o4, p4]; rfl) inferInstance rfl ?_
  refine TL.nil ?_
  refine AQ.then_n ?_
  refine TC.seq ?_
  refine TC.region ?_
  refine TL.pu (.indexAddrA rfl rfl (by decide) (by decide) (m := 0) rfl) rfl ?_
  refine TL.rd (.load1 rfl inferInstance rfl) rfl ?_
  refine TL.pu (.indexAddrA rfl rfl (by decide) (by decide) (m := 1) rfl) rfl ?_
  refine TL.rd (.load1 rfl inferInstance rfl) rfl ?_
  refine TL.callD (Equal_fn m.s4 k.s4 n4 l4 y4 z4 sg4 sk4 R4 S4 hy4 hz4) rfl rfl rfl (.sro inferInstance R4.ro (.lastro inferInstance S4.ro)) rfl ?_
  refine TL.pu (.not rfl) rfl ?_
  refine TL.nil ?_
  refine AQ.then_n ?_
  refine TC.cond rfl (fun q5 => ?_) (fun q5 => ?_)
  · skip
    refine TC.seq ?_
    refine TC.region ?_
    refine TL.pu (.assign rfl) rfl ?_
    refine TL.nil ?_
    refine AQ.then_n ?_
    refine TC.ret ?_
    refine AQ.block_r ?_
    refine AQ.then_r ?_
    refine AQ.then_r ?_
    refine AQ.block_r ?_
    refine AQ.then_r ?_
    refine AQ.ret Try.results9 rfl ⟨ret_vt ?_, rfl⟩ (.nil _)
    unfold sameB
    simp only [Bool.not_eq_true', Bool.not_eq_false', decide_eq_true_eq, decide_eq_false_iff_not] at *
    simp only [*, decide_true, decide_false, Bool.true_and, Bool.false_and, Bool.and_false, Bool.and_true, Bool.not_true, Bool.not_false]
  refine TC.skip ?_
  refine AQ.block_n ?_
  refine AQ.then_n ?_
  refine TC.region ?_
  refine TL.pu (.int rfl rfl rfl) rfl ?_
  refine TL.say 44 (.int .i64 5) rfl rfl ?_
  refine TL.pu (.move rfl) rfl ?_
  refine TL.nil ?_
  refine AQ.next ?_
  refine TC.seq ?_
  refine TC.region ?_
  refine TL.pu (.int rfl rfl rfl) rfl ?_
  refine TL.say 35 (.bool false) rfl rfl ?_
  refine TL.nil ?_
  refine AQ.then_n ?_
  refine TC.seq ?_
  refine TC.cond_f rfl ?_
  refine TC.exit ?_
  refine AQ.then_x ?_
  refine AQ.then_x ?_
  refine AQ.block_x ?_
  refine AQ.then_n ?_
  refine TC.seq ?_
  refine TC.region ?_
  refine TL.pu (.fieldAddr rfl (m := 0) rfl) rfl ?_
  refine TL.rd (.loadA rfl inferInstance rfl) rfl ?_
  refine TL.pu (.fieldAddr rfl (m := 0) rfl) rfl ?_
  refine TL.rd (.loadA rfl inferInstance rfl) rfl ?_
  refine TL.pu (.eqA rfl rfl rfl rfl) rfl ?_
  refine TL.pu (.move rfl) rfl ?_
  refine TL.guard_b rfl rfl (fun q6 => ?_) (fun q6 => ?_)
  · skip
    refine TL.guard_yes rfl rfl ?_
    refine TL.pu (.fieldAddr rfl (m := 15) rfl) rfl ?_
    refine TL.guard_yes rfl rfl ?_
    refine TL.rd (.loadA rfl inferInstance rfl) rfl ?_
    refine TL.guard_yes rfl rfl ?_
    refine TL.pu (.fieldAddr rfl (m := 15) rfl) rfl ?_
    refine TL.guard_yes rfl rfl ?_
    refine TL.rd (.loadA rfl inferInstance rfl) rfl ?_
    refine TL.guard_yes rfl rfl ?_
    refine TL.pu (.eqA rfl rfl rfl rfl) rfl ?_
    refine TL.pu (.pick_t rfl rfl) rfl ?_
    refine TL.pu (.move rfl) rfl ?_
    refine TL.guard_b rfl rfl (fun q7 => ?_) (fun q7 => ?_)
    · skip
      refine TL.guard_yes rfl rfl ?_
      refine TL.pu (.fieldAddr rfl (m := 35) rfl) rfl ?_
      refine TL.guard_yes rfl rfl ?_
      refine TL.rd (.loadA rfl inferInstance rfl) rfl ?_
      refine TL.guard_yes rfl rfl ?_
      refine TL.pu (.fieldAddr rfl (m := 35) rfl) rfl ?_
      refine TL.guard_yes rfl rfl ?_
      refine TL.rd (.loadA rfl inferInstance rfl) rfl ?_
      refine TL.guard_yes rfl rfl ?_
      refine TL.pu (.eqA rfl rfl rfl rfl) rfl ?_
      refine TL.pu (.pick_t rfl rfl) rfl ?_
      refine TL.pu (.move rfl) rfl ?_
      refine TL.guard_b rfl rfl (fun q8 => ?_) (fun q8 => ?_)
      · skip
        refine TL.guard_yes rfl rfl ?_
        refine TL.pu (.fieldAddr rfl (m := 41) rfl) rfl ?_
        refine TL.guard_yes rfl rfl ?_
        refine TL.rd (.loadA rfl inferInstance rfl) rfl ?_
        refine TL.guard_yes rfl rfl ?_
        refine TL.pu (.fieldAddr rfl (m := 41) rfl) rfl ?_
        refine TL.guard_yes rfl rfl ?_
        refine TL.rd (.loadA rfl inferInstance rfl) rfl ?_
        refine TL.guard_yes rfl rfl ?_
        refine TL.pu (.eqA rfl rfl rfl rfl) rfl ?_
        refine TL.pu (.pick_t rfl rfl) rfl ?_
        refine TL.pu (.move rfl) rfl ?_
        refine TL.guard_b rfl rfl (fun q9 => ?_) (fun q9 => ?_)
        · skip
          refine TL.guard_yes rfl rfl ?_
          refine TL.pu (.fieldAddr rfl (m := 45) rfl) rfl ?_
          refine TL.guard_yes rfl rfl ?_
          refine TL.rd (.loadA rfl inferInstance rfl) rfl ?_
          refine TL.guard_yes rfl rfl ?_
          refine TL.pu (.fieldAddr rfl (m := 45) rfl) rfl ?_
          refine TL.guard_yes rfl rfl ?_
          refine TL.rd (.loadA rfl inferInstance rfl) rfl ?_
          refine TL.guard_yes rfl rfl ?_
          refine TL.pu (.eqA rfl rfl rfl rfl) rfl ?_
          refine TL.pu (.pick_t rfl rfl) rfl ?_
          refine TL.pu (.move rfl) rfl ?_
          refine TL.guard_b rfl rfl (fun q10 => ?_) (fun q10 => ?_)
          · skip
            refine TL.guard_yes rfl rfl ?_
            refine TL.pu (.fieldAddr rfl (m := 61) rfl) rfl ?_
            refine TL.guard_yes rfl rfl ?_
            refine TL.rd (.loadA rfl inferInstance rfl) rfl ?_
            refine TL.guard_yes rfl rfl ?_
            refine TL.pu (.fieldAddr rfl (m := 61) rfl) rfl ?_
            refine TL.guard_yes rfl rfl ?_
            refine TL.rd (.loadA rfl inferInstance rfl) rfl ?_
            refine TL.guard_yes rfl rfl ?_
            refine TL.pu (.eqA rfl rfl rfl rfl) rfl ?_
            refine TL.pu (.pick_t rfl rfl) rfl ?_
            refine TL.pu (.move rfl) rfl ?_
            refine TL.guard_b rfl rfl (fun q11 => ?_) (fun q11 => ?_)
            · skip
              refine TL.guard_yes rfl rfl ?_
              refine TL.pu (.fieldAddr rfl (m := 65) rfl) rfl ?_
              refine TL.guard_yes rfl rfl ?_
              refine TL.rd (.load1 rfl inferInstance rfl) rfl ?_
              refine TL.guard_yes rfl rfl ?_
              refine TL.pu (.fieldAddr rfl (m := 65) rfl) rfl ?_
              refine TL.guard_yes rfl rfl ?_
              refine TL.rd (.load1 rfl inferInstance rfl) rfl ?_
              refine TL.guard_yes rfl rfl ?_
              refine TL.pu (.int rfl rfl rfl) rfl ?_
              refine TL.pu (.pick_t rfl rfl) rfl ?_
              refine TL.pu (.move rfl) rfl ?_
              refine TL.guard_d rfl rfl (fun q12 => ?_) (fun q12 => ?_)
              · skip
                refine TL.guard_yes rfl rfl ?_
                refine TL.pu (.fieldAddr rfl (m := 66) rfl) rfl ?_
                refine TL.guard_yes rfl rfl ?_
                refine TL.rd (.load1 rfl inferInstance rfl) rfl ?_
                refine TL.guard_yes rfl rfl ?_
                refine TL.pu (.fieldAddr rfl (m := 66) rfl) rfl ?_
                refine TL.guard_yes rfl rfl ?_
                refine TL.rd (.load1 rfl inferInstance rfl) rfl ?_
                refine TL.guard_yes rfl rfl ?_
                refine TL.pu (.int rfl rfl rfl) rfl ?_
                refine TL.pu (.pick_t rfl rfl) rfl ?_
                refine TL.pu (.move rfl) rfl ?_
                refine TL.guard_d rfl rfl (fun q13 => ?_) (fun q13 => ?_)
                · skip
                  refine TL.guard_yes rfl rfl ?_
                  refine TL.pu (.fieldAddr rfl (m := 67) rfl) rfl ?_
                  refine TL.guard_yes rfl rfl ?_
                  refine TL.rd (.load1 rfl inferInstance rfl) rfl ?_
                  refine TL.guard_yes rfl rfl ?_
                  refine TL.pu (.fieldAddr rfl (m := 67) rfl) rfl ?_
                  refine TL.guard_yes rfl rfl ?_
                  refine TL.rd (.load1 rfl inferInstance rfl) rfl ?_
                  refine TL.guard_yes rfl rfl ?_
                  refine TL.pu (.beq rfl rfl) rfl ?_
                  refine TL.pu (.pick_t rfl rfl) rfl ?_
                  refine TL.pu (.move rfl) rfl ?_
                  refine TL.guard_b rfl rfl (fun q14 => ?_) (fun q14 => ?_)
                  · skip
                    refine TL.guard_yes rfl rfl ?_
                    refine TL.pu (.fieldAddr rfl (m := 68) rfl) rfl ?_
                    refine TL.guard_yes rfl rfl ?_
                    refine TL.rd (.load1 rfl inferInstance rfl) rfl ?_
                    refine TL.guard_yes rfl rfl ?_
                    refine TL.pu (.fieldAddr rfl (m := 68) rfl) rfl ?_
                    refine TL.guard_yes rfl rfl ?_
                    refine TL.rd (.load1 rfl inferInstance rfl) rfl ?_
                    refine TL.guard_yes rfl rfl ?_
                    refine TL.pu (.beq rfl rfl) rfl ?_
                    refine TL.pu (.pick_t rfl rfl) rfl ?_
                    refine TL.pu (.move rfl) rfl ?_
                    refine TL.guard_b rfl rfl (fun q15 => ?_) (fun q15 => ?_)
                    · skip
                      refine TL.guard_yes rfl rfl ?_
                      refine TL.pu (.fieldAddr rfl (m := 69) rfl) rfl ?_
                      refine TL.guard_yes rfl rfl ?_
                      refine TL.rd (.loadA rfl inferInstance rfl) rfl ?_
                      refine TL.guard_yes rfl rfl ?_
                      refine TL.pu (.fieldAddr rfl (m := 69) rfl) rfl ?_
                      refine TL.guard_yes rfl rfl ?_
                      refine TL.rd (.loadA rfl inferInstance rfl) rfl ?_
                      refine TL.guard_yes rfl rfl ?_
                      refine TL.pu (.eqA rfl rfl rfl rfl) rfl ?_
                      refine TL.pu (.pick_t rfl rfl) rfl ?_
                      refine TL.pu (.move rfl) rfl ?_
                      refine TL.guard_b rfl rfl (fun q16 => ?_) (fun q16 => ?_)
                      · skip
                        refine TL.guard_yes rfl rfl ?_
                        refine TL.pu (.fieldAddr rfl (m := 71) rfl) rfl ?_
                        refine TL.guard_yes rfl rfl ?_
                        refine TL.rd (.load1 rfl inferInstance rfl) rfl ?_
                        refine TL.guard_yes rfl rfl ?_
                        refine TL.pu (.fieldAddr rfl (m := 71) rfl) rfl ?_
                        refine TL.guard_yes rfl rfl ?_
                        refine TL.rd (.load1 rfl inferInstance rfl) rfl ?_
                        refine TL.guard_yes rfl rfl ?_
                        refine TL.pu (.beq rfl rfl) rfl ?_
                        refine TL.pu (.pick_t rfl rfl) rfl ?_
                        refine TL.pu (.move rfl) rfl ?_
                        refine TL.guard_b rfl rfl (fun q17 => ?_) (fun q17 => ?_)
                        · skip
                          refine TL.guard_yes rfl rfl ?_
                          refine TL.pu (.fieldAddr rfl (m := 72) rfl) rfl ?_
                          refine TL.guard_yes rfl rfl ?_
                          refine TL.rd (.load1 rfl inferInstance rfl) rfl ?_
                          refine TL.guard_yes rfl rfl ?_
                          refine TL.pu (.fieldAddr rfl (m := 72) rfl) rfl ?_
                          refine TL.guard_yes rfl rfl ?_
                          refine TL.rd (.load1 rfl inferInstance rfl) rfl ?_
                          refine TL.guard_yes rfl rfl ?_
                          refine TL.pu (.int rfl rfl rfl) rfl ?_
                          refine TL.pu (.pick_t rfl rfl) rfl ?_
                          refine TL.pu (.move rfl) rfl ?_
                          refine TL.guard_d rfl rfl (fun q18 => ?_) (fun q18 => ?_)
                          · skip
                            refine TL.guard_yes rfl rfl ?_
                            refine TL.pu (.fieldAddr rfl (m := 73) rfl) rfl ?_
                            refine TL.guard_yes rfl rfl ?_
                            refine TL.rd (.load1 rfl inferInstance rfl) rfl ?_
                            refine TL.guard_yes rfl rfl ?_
                            refine TL.pu (.fieldAddr rfl (m := 73) rfl) rfl ?_
                            refine TL.guard_yes rfl rfl ?_
                            refine TL.rd (.load1 rfl inferInstance rfl) rfl ?_
                            refine TL.guard_yes rfl rfl ?_
                            refine TL.pu (.int rfl rfl rfl) rfl ?_
                            refine TL.pu (.pick_t rfl rfl) rfl ?_
                            refine TL.pu (.move rfl) rfl ?_
                            refine TL.guard_d rfl rfl (fun q19 => ?_) (fun q19 => ?_)
                            · skip
                              refine TL.guard_yes rfl rfl ?_
                              refine TL.pu (.fieldAddr rfl (m := 74) rfl) rfl ?_
                              refine TL.guard_yes rfl rfl ?_
                              refine TL.rd (.load1 rfl inferInstance rfl) rfl ?_
                              refine TL.guard_yes rfl rfl ?_
                              refine TL.pu (.fieldAddr rfl (m := 74) rfl) rfl ?_
                              refine TL.guard_yes rfl rfl ?_
                              refine TL.rd (.load1 rfl inferInstance rfl) rfl ?_
                              refine TL.guard_yes rfl rfl ?_
                              refine TL.pu (.int rfl rfl rfl) rfl ?_
                              refine TL.pu (.pick_t rfl rfl) rfl ?_
                              refine TL.pu (.assign rfl) rfl ?_
                              refine TL.nil ?_
                              refine AQ.then_n ?_
                              refine TC.ret ?_
                              refine AQ.ret Try.results9 rfl ⟨ret_vt ?_, rfl⟩ (.nil _)
                              unfold sameB
                              simp only [Bool.not_eq_true', Bool.not_eq_false', decide_eq_true_eq, decide_eq_false_iff_not] at *
                              simp only [*, decide_true, decide_false, Bool.true_and, Bool.false_and, Bool.and_false, Bool.and_true, Bool.not_true, Bool.not_false]
                            refine TL.guard_no rfl rfl rfl rfl ?_
                            refine TL.guard_no rfl rfl rfl rfl ?_
                            refine TL.guard_no rfl rfl rfl rfl ?_
                            refine TL.guard_no rfl rfl rfl rfl ?_
                            refine TL.guard_no rfl rfl rfl rfl ?_
                            refine TL.pu (.pick_f rfl rfl) rfl ?_
                            refine TL.pu (.assign rfl) rfl ?_
                            refine TL.nil ?_
                            refine AQ.then_n ?_
                            refine TC.ret ?_
                            refine AQ.ret Try.results9 rfl ⟨ret_vt ?_, rfl⟩ (.nil _)
                            unfold sameB
                            simp only [Bool.not_eq_true', Bool.not_eq_false', decide_eq_true_eq, decide_eq_false_iff_not] at *
                            simp only [*, decide_true, decide_false, Bool.true_and, Bool.false_and, Bool.and_false, Bool.and_true, Bool.not_true, Bool.not_false]
                          refine TL.guard_no rfl rfl rfl rfl ?_
                          refine TL.guard_no rfl rfl rfl rfl ?_
                          refine TL.guard_no rfl rfl rfl rfl ?_
                          refine TL.guard_no rfl rfl rfl rfl ?_
                          refine TL.guard_no rfl rfl rfl rfl ?_
                          refine TL.pu (.pick_f rfl rfl) rfl ?_
                          refine TL.pu (.move rfl) rfl ?_
                          refine TL.guard_no rfl rfl rfl rfl ?_
                          refine TL.guard_no rfl rfl rfl rfl ?_
                          refine TL.guard_no rfl rfl rfl rfl ?_
                          refine TL.guard_no rfl rfl rfl rfl ?_
                          refine TL.guard_no rfl rfl rfl rfl ?_
                          refine TL.pu (.pick_f rfl rfl) rfl ?_
                          refine TL.pu (.assign rfl) rfl ?_
                          refine TL.nil ?_
                          refine AQ.then_n ?_
                          refine TC.ret ?_
                          refine AQ.ret Try.results9 rfl ⟨ret_vt ?_, rfl⟩ (.nil _)
                          unfold sameB
                          simp only [Bool.not_eq_true', Bool.not_eq_false', decide_eq_true_eq, decide_eq_false_iff_not] at *
                          simp only [*, decide_true, decide_false, Bool.true_and, Bool.false_and, Bool.and_false, Bool.and_true, Bool.not_true, Bool.not_false]
                        refine TL.guard_no rfl rfl rfl rfl ?_
                        refine TL.guard_no rfl rfl rfl rfl ?_
                        refine TL.guard_no rfl rfl rfl rfl ?_
                        refine TL.guard_no rfl rfl rfl rfl ?_
                        refine TL.guard_no rfl rfl rfl rfl ?_
                        refine TL.pu (.pick_f rfl rfl) rfl ?_
                        refine TL.pu (.move rfl) rfl ?_
                        refine TL.guard_no rfl rfl rfl rfl ?_
                        refine TL.guard_no rfl rfl rfl rfl ?_
                        refine TL.guard_no rfl rfl rfl rfl ?_
                        refine TL.guard_no rfl rfl rfl rfl ?_
                        refine TL.guard_no rfl rfl rfl rfl ?_
                        refine TL.pu (.pick_f rfl rfl) rfl ?_
                        refine TL.pu (.move rfl) rfl ?_
                        refine TL.guard_no rfl rfl rfl rfl ?_
                        refine TL.guard_no rfl rfl rfl rfl ?_
                        refine TL.guard_no rfl rfl rfl rfl ?_
                        refine TL.guard_no rfl rfl rfl rfl ?_
                        refine TL.guard_no rfl rfl rfl rfl ?_
                        refine TL.pu (.pick_f rfl rfl) rfl ?_
                        refine TL.pu (.assign rfl) rfl ?_
                        refine TL.nil ?_
                        refine AQ.then_n ?_
                        refine TC.ret ?_
                        refine AQ.ret Try.results9 rfl ⟨ret_vt ?_, rfl⟩ (.nil _)
                        unfold sameB
                        simp only [Bool.not_eq_true', Bool.not_eq_false', decide_eq_true_eq, decide_eq_false_iff_not] at *
                        simp only [*, decide_true, decide_false, Bool.true_and, Bool.false_and, Bool.and_false, Bool.and_true, Bool.not_true, Bool.not_false]
                      refine TL.guard_no rfl rfl rfl rfl ?_
                      refine TL.guard_no rfl rfl rfl rfl ?_
                      refine TL.guard_no rfl rfl rfl rfl ?_
                      refine TL.guard_no rfl rfl rfl rfl ?_
                      refine TL.guard_no rfl rfl rfl rfl ?_
                      refine TL.pu (.pick_f rfl rfl) rfl ?_
                      refine TL.pu (.move rfl) rfl ?_
                      refine TL.guard_no rfl rfl rfl rfl ?_
                      refine TL.guard_no rfl rfl rfl rfl ?_
                      refine TL.guard_no rfl rfl rfl rfl ?_
                      refine TL.guard_no rfl rfl rfl rfl ?_
                      refine TL.guard_no rfl rfl rfl rfl ?_
                      refine TL.pu (.pick_f rfl rfl) rfl ?_
                      refine TL.pu (.move rfl) rfl ?_
                      refine TL.guard_no rfl rfl rfl rfl ?_
                      refine TL.guard_no rfl rfl rfl rfl ?_
                      refine TL.guard_no rfl rfl rfl rfl ?_
                      refine TL.guard_no rfl rfl rfl rfl ?_
                      refine TL.guard_no rfl rfl rfl rfl ?_
                      refine TL.pu (.pick_f rfl rfl) rfl ?_
                      refine TL.pu (.move rfl) rfl ?_
                      refine TL.guard_no rfl rfl rfl rfl ?_
                      refine TL.guard_no rfl rfl rfl rfl ?_
                      refine TL.guard_no rfl rfl rfl rfl ?_
                      refine TL.guard_no rfl rfl rfl rfl ?_
                      refine TL.guard_no rfl rfl rfl rfl ?_
                      refine TL.pu (.pick_f rfl rfl) rfl ?_
                      refine TL.pu (.assign rfl) rfl ?_
                      refine TL.nil ?_
                      refine AQ.then_n ?_
                      refine TC.ret ?_
                      refine AQ.ret Try.results9 rfl ⟨ret_vt ?_, rfl⟩ (.nil _)
                      unfold sameB
                      simp only [Bool.not_eq_true', Bool.not_eq_false', decide_eq_true_eq, decide_eq_false_iff_not] at *
                      simp only [*, decide_true, decide_false, Bool.true_and, Bool.false_and, Bool.and_false, Bool.and_true, Bool.not_true, Bool.not_false]
                    refine TL.guard_no rfl rfl rfl rfl ?_
                    refine TL.guard_no rfl rfl rfl rfl ?_
                    refine TL.guard_no rfl rfl rfl rfl ?_
                    refine TL.guard_no rfl rfl rfl rfl ?_
                    refine TL.guard_no rfl rfl rfl rfl ?_
                    refine TL.pu (.pick_f rfl rfl) rfl ?_
                    refine TL.pu (.move rfl) rfl ?_
                    refine TL.guard_no rfl rfl rfl rfl ?_
                    refine TL.guard_no rfl rfl rfl rfl ?_
                    refine TL.guard_no rfl rfl rfl rfl ?_
                    refine TL.guard_no rfl rfl rfl rfl ?_
                    refine TL.guard_no rfl rfl rfl rfl ?_
                    refine TL.pu (.pick_f rfl rfl) rfl ?_
                    refine TL.pu (.move rfl) rfl ?_
                    refine TL.guard_no rfl rfl rfl rfl ?_
                    refine TL.guard_no rfl rfl rfl rfl ?_
                    refine TL.guard_no rfl rfl rfl rfl ?_
                    refine TL.guard_no rfl rfl rfl rfl ?_
                    refine TL.guard_no rfl rfl rfl rfl ?_
                    refine TL.pu (.pick_f rfl rfl) rfl ?_
                    refine TL.pu (.move rfl) rfl ?_
                    refine TL.guard_no rfl rfl rfl rfl ?_
                    refine TL.guard_no rfl rfl rfl rfl ?_
                    refine TL.guard_no rfl rfl rfl rfl ?_
                    refine TL.guard_no rfl rfl rfl rfl ?_
                    refine TL.guard_no rfl rfl rfl rfl ?_
                    refine TL.pu (.pick_f rfl rfl) rfl ?_
                    refine TL.pu (.move rfl) rfl ?_
                    refine TL.guard_no rfl rfl rfl rfl ?_
                    refine TL.guard_no rfl rfl rfl rfl ?_
                    refine TL.guard_no rfl rfl rfl rfl ?_
                    refine TL.guard_no rfl rfl rfl rfl ?_
                    refine TL.guard_no rfl rfl rfl rfl ?_
                    refine TL.pu (.pick_f rfl rfl) rfl ?_
                    refine TL.pu (.assign rfl) rfl ?_
                    refine TL.nil ?_
                    refine AQ.then_n ?_
                    refine TC.ret ?_
                    refine AQ.ret Try.results9 rfl ⟨ret_vt ?_, rfl⟩ (.nil _)
                    unfold sameB
                    simp only [Bool.not_eq_true', Bool.not_eq_false', decide_eq_true_eq, decide_eq_false_iff_not] at *
                    simp only [*, decide_true, decide_false, Bool.true_and, Bool.false_and, Bool.and_false, Bool.and_true, Bool.not_true, Bool.not_false]
                  refine TL.guard_no rfl rfl rfl rfl ?_
                  refine TL.guard_no rfl rfl rfl rfl ?_
                  refine TL.guard_no rfl rfl rfl rfl ?_
                  refine TL.guard_no rfl rfl rfl rfl ?_
                  refine TL.guard_no rfl rfl rfl rfl ?_
                  refine TL.pu (.pick_f rfl rfl) rfl ?_
                  refine TL.pu (.move rfl) rfl ?_
                  refine TL.guard_no rfl rfl rfl rfl ?_
                  refine TL.guard_no rfl rfl rfl rfl ?_
                  refine TL.guard_no rfl rfl rfl rfl ?_
                  refine TL.guard_no rfl rfl rfl rfl ?_
                  refine TL.guard_no rfl rfl rfl rfl ?_
                  refine TL.pu (.pick_f rfl rfl) rfl ?_
                  refine TL.pu (.move rfl) rfl ?_
                  refine TL.guard_no rfl rfl rfl rfl ?_
                  refine TL.guard_no rfl rfl rfl rfl ?_
                  refine TL.guard_no rfl rfl rfl rfl ?_
                  refine TL.guard_no rfl rfl rfl rfl ?_
                  refine TL.guard_no rfl rfl rfl rfl ?_
                  refine TL.pu (.pick_f rfl rfl) rfl ?_
                  refine TL.pu (.move rfl) rfl ?_
                  refine TL.guard_no rfl rfl rfl rfl ?_
                  refine TL.guard_no rfl rfl rfl rfl ?_
                  refine TL.guard_no rfl rfl rfl rfl ?_
                  refine TL.guard_no rfl rfl rfl rfl ?_
                  refine TL.guard_no rfl rfl rfl rfl ?_
                  refine TL.pu (.pick_f rfl rfl) rfl ?_
                  refine TL.pu (.move rfl) rfl ?_
                  refine TL.guard_no rfl rfl rfl rfl ?_
                  refine TL.guard_no rfl rfl rfl rfl ?_
                  refine TL.guard_no rfl rfl rfl rfl ?_
                  refine TL.guard_no rfl rfl rfl rfl ?_
                  refine TL.guard_no rfl rfl rfl rfl ?_
                  refine TL.pu (.pick_f rfl rfl) rfl ?_
                  refine TL.pu (.move rfl) rfl ?_
                  refine TL.guard_no rfl rfl rfl rfl ?_
                  refine TL.guard_no rfl rfl rfl rfl ?_
                  refine TL.guard_no rfl rfl rfl rfl ?_
                  refine TL.guard_no rfl rfl rfl rfl ?_
                  refine TL.guard_no rfl rfl rfl rfl ?_
                  refine TL.pu (.pick_f rfl rfl) rfl ?_
                  refine TL.pu (.assign rfl) rfl ?_
                  refine TL.nil ?_
                  refine AQ.then_n ?_
                  refine TC.ret ?_
                  refine AQ.ret Try.results9 rfl ⟨ret_vt ?_, rfl⟩ (.nil _)
                  unfold sameB
                  simp only [Bool.not_eq_true', Bool.not_eq_false', decide_eq_true_eq, decide_eq_false_iff_not] at *
                  simp only [*, decide_true, decide_false, Bool.true_and, Bool.false_and, Bool.and_false, Bool.and_true, Bool.not_true, Bool.not_false]
                refine TL.guard_no rfl rfl rfl rfl ?_
                refine TL.guard_no rfl rfl rfl rfl ?_
                refine TL.guard_no rfl rfl rfl rfl ?_
                refine TL.guard_no rfl rfl rfl rfl ?_
                refine TL.guard_no rfl rfl rfl rfl ?_
                refine TL.pu (.pick_f rfl rfl) rfl ?_
                refine TL.pu (.move rfl) rfl ?_
                refine TL.guard_no rfl rfl rfl rfl ?_
                refine TL.guard_no rfl rfl rfl rfl ?_
                refine TL.guard_no rfl rfl rfl rfl ?_
                refine TL.guard_no rfl rfl rfl rfl ?_
                refine TL.guard_no rfl rfl rfl rfl ?_
                refine TL.pu (.pick_f rfl rfl) rfl ?_
                refine TL.pu (.move rfl) rfl ?_
                refine TL.guard_no rfl rfl rfl rfl ?_
                refine TL.guard_no rfl rfl rfl rfl ?_
                refine TL.guard_no rfl rfl rfl rfl ?_
                refine TL.guard_no rfl rfl rfl rfl ?_
                refine TL.guard_no rfl rfl rfl rfl ?_
                refine TL.pu (.pick_f rfl rfl) rfl ?_
                refine TL.pu (.move rfl) rfl ?_
                refine TL.guard_no rfl rfl rfl rfl ?_
                refine TL.guard_no rfl rfl rfl rfl ?_
                refine TL.guard_no rfl rfl rfl rfl ?_
                refine TL.guard_no rfl rfl rfl rfl ?_
                refine TL.guard_no rfl rfl rfl rfl ?_
                refine TL.pu (.pick_f rfl rfl) rfl ?_
                refine TL.pu (.move rfl) rfl ?_
                refine TL.guard_no rfl rfl rfl rfl ?_
                refine TL.guard_no rfl rfl rfl rfl ?_
                refine TL.guard_no rfl rfl rfl rfl ?_
                refine TL.guard_no rfl rfl rfl rfl ?_
                refine TL.guard_no rfl rfl rfl rfl ?_
                refine TL.pu (.pick_f rfl rfl) rfl ?_
                refine TL.pu (.move rfl) rfl ?_
                refine TL.guard_no rfl rfl rfl rfl ?_
                refine TL.guard_no rfl rfl rfl rfl ?_
                refine TL.guard_no rfl rfl rfl rfl ?_
                refine TL.guard_no rfl rfl rfl rfl ?_
                refine TL.guard_no rfl rfl rfl rfl ?_
                refine TL.pu (.pick_f rfl rfl) rfl ?_
                refine TL.pu (.move rfl) rfl ?_
                refine TL.guard_no rfl rfl rfl rfl ?_
                refine TL.guard_no rfl rfl rfl rfl ?_
                refine TL.guard_no rfl rfl rfl rfl ?_
                refine TL.guard_no rfl rfl rfl rfl ?_
                refine TL.guard_no rfl rfl rfl rfl ?_
                refine TL.pu (.pick_f rfl rfl) rfl ?_
                refine TL.pu (.assign rfl) rfl ?_
                refine TL.nil ?_
                refine AQ.then_n ?_
                refine TC.ret ?_
                refine AQ.ret Try.results9 rfl ⟨ret_vt ?_, rfl⟩ (.nil _)
                unfold sameB
                simp only [Bool.not_eq_true', Bool.not_eq_false', decide_eq_true_eq, decide_eq_false_iff_not] at *
                simp only [*, decide_true, decide_false, Bool.true_and, Bool.false_and, Bool.and_false, Bool.and_true, Bool.not_true, Bool.not_false]
              refine TL.guard_no rfl rfl rfl rfl ?_
              refine TL.guard_no rfl rfl rfl rfl ?_
              refine TL.guard_no rfl rfl rfl rfl ?_
              refine TL.guard_no rfl rfl rfl rfl ?_
              refine TL.guard_no rfl rfl rfl rfl ?_
              refine TL.pu (.pick_f rfl rfl) rfl ?_
              refine TL.pu (.move rfl) rfl ?_
              refine TL.guard_no rfl rfl rfl rfl ?_
              refine TL.guard_no rfl rfl rfl rfl ?_
              refine TL.guard_no rfl rfl rfl rfl ?_
              refine TL.guard_no rfl rfl rfl rfl ?_
              refine TL.guard_no rfl rfl rfl rfl ?_
              refine TL.pu (.pick_f rfl rfl) rfl ?_
              refine TL.pu (.move rfl) rfl ?_
              refine TL.guard_no rfl rfl rfl rfl ?_
              refine TL.guard_no rfl rfl rfl rfl ?_
              refine TL.guard_no rfl rfl rfl rfl ?_
              refine TL.guard_no rfl rfl rfl rfl ?_
              refine TL.guard_no rfl rfl rfl rfl ?_
              refine TL.pu (.pick_f rfl rfl) rfl ?_
              refine TL.pu (.move rfl) rfl ?_
              refine TL.guard_no rfl rfl rfl rfl ?_
              refine TL.guard_no rfl rfl rfl rfl ?_
              refine TL.guard_no rfl rfl rfl rfl ?_
              refine TL.guard_no rfl rfl rfl rfl ?_
              refine TL.guard_no rfl rfl rfl rfl ?_
              refine TL.pu (.pick_f rfl rfl) rfl ?_
              refine TL.pu (.move rfl) rfl ?_
              refine TL.guard_no rfl rfl rfl rfl ?_
              refine TL.guard_no rfl rfl rfl rfl ?_
              refine TL.guard_no rfl rfl rfl rfl ?_
              refine TL.guard_no rfl rfl rfl rfl ?_
              refine TL.guard_no rfl rfl rfl rfl ?_
              refine TL.pu (.pick_f rfl rfl) rfl ?_
              refine TL.pu (.move rfl) rfl ?_
              refine TL.guard_no rfl rfl rfl rfl ?_
              refine TL.guard_no rfl rfl rfl rfl ?_
              refine TL.guard_no rfl rfl rfl rfl ?_
              refine TL.guard_no rfl rfl rfl rfl ?_
              refine TL.guard_no rfl rfl rfl rfl ?_
              refine TL.pu (.pick_f rfl rfl) rfl ?_
              refine TL.pu (.move rfl) rfl ?_
              refine TL.guard_no rfl rfl rfl rfl ?_
              refine TL.guard_no rfl rfl rfl rfl ?_
              refine TL.guard_no rfl rfl rfl rfl ?_
              refine TL.guard_no rfl rfl rfl rfl ?_
              refine TL.guard_no rfl rfl rfl rfl ?_
              refine TL.pu (.pick_f rfl rfl) rfl ?_
              refine TL.pu (.move rfl) rfl ?_
              refine TL.guard_no rfl rfl rfl rfl ?_
              refine TL.guard_no rfl rfl rfl rfl ?_
              refine TL.guard_no rfl rfl rfl rfl ?_
              refine TL.guard_no rfl rfl rfl rfl ?_
              refine TL.guard_no rfl rfl rfl rfl ?_
              refine TL.pu (.pick_f rfl rfl) rfl ?_
              refine TL.pu (.assign rfl) rfl ?_
              refine TL.nil ?_
              refine AQ.then_n ?_
              refine TC.ret ?_
              refine AQ.ret Try.results9 rfl ⟨ret_vt ?_, rfl⟩ (.nil _)
              unfold sameB
              simp only [Bool.not_eq_true', Bool.not_eq_false', decide_eq_true_eq, decide_eq_false_iff_not] at *
              simp only [*, decide_true, decide_false, Bool.true_and, Bool.false_and, Bool.and_false, Bool.and_true, Bool.not_true, Bool.not_false]
            refine TL.guard_no rfl rfl rfl rfl ?_
            refine TL.guard_no rfl rfl rfl rfl ?_
            refine TL.guard_no rfl rfl rfl rfl ?_
            refine TL.guard_no rfl rfl rfl rfl ?_
            refine TL.guard_no rfl rfl rfl rfl ?_
            refine TL.pu (.pick_f rfl rfl) rfl ?_
            refine TL.pu (.move rfl) rfl ?_
            refine TL.guard_no rfl rfl rfl rfl ?_
            refine TL.guard_no rfl rfl rfl rfl ?_
            refine TL.guard_no rfl rfl rfl rfl ?_
            refine TL.guard_no rfl rfl rfl rfl ?_
            refine TL.guard_no rfl rfl rfl rfl ?_
            refine TL.pu (.pick_f rfl rfl) rfl ?_
            refine TL.pu (.move rfl) rfl ?_
            refine TL.guard_no rfl rfl rfl rfl ?_
            refine TL.guard_no rfl rfl rfl rfl ?_
            refine TL.guard_no rfl rfl rfl rfl ?_
            refine TL.guard_no rfl rfl rfl rfl ?_
            refine TL.guard_no rfl rfl rfl rfl ?_
            refine TL.pu (.pick_f rfl rfl) rfl ?_
            refine TL.pu (.move rfl) rfl ?_
            refine TL.guard_no rfl rfl rfl rfl ?_
            refine TL.guard_no rfl rfl rfl rfl ?_
            refine TL.guard_no rfl rfl rfl rfl ?_
            refine TL.guard_no rfl rfl rfl rfl ?_
            refine TL.guard_no rfl rfl rfl rfl ?_
            refine TL.pu (.pick_f rfl rfl) rfl ?_
            refine TL.pu (.move rfl) rfl ?_
            refine TL.guard_no rfl rfl rfl rfl ?_
            refine TL.guard_no rfl rfl rfl rfl ?_
            refine TL.guard_no rfl rfl rfl rfl ?_
            refine TL.guard_no rfl rfl rfl rfl ?_
            refine TL.guard_no rfl rfl rfl rfl ?_
            refine TL.pu (.pick_f rfl rfl) rfl ?_
            refine TL.pu (.move rfl) rfl ?_
            refine TL.guard_no rfl rfl rfl rfl ?_
            refine TL.guard_no rfl rfl rfl rfl ?_
            refine TL.guard_no rfl rfl rfl rfl ?_
            refine TL.guard_no rfl rfl rfl rfl ?_
            refine TL.guard_no rfl rfl rfl rfl ?_
            refine TL.pu (.pick_f rfl rfl) rfl ?_
            refine TL.pu (.move rfl) rfl ?_
            refine TL.guard_no rfl rfl rfl rfl ?_
            refine TL.guard_no rfl rfl rfl rfl ?_
            refine TL.guard_no rfl rfl rfl rfl ?_
            refine TL.guard_no rfl rfl rfl rfl ?_
            refine TL.guard_no rfl rfl rfl rfl ?_
            refine TL.pu (.pick_f rfl rfl) rfl ?_
            refine TL.pu (.move rfl) rfl ?_
            refine TL.guard_no rfl rfl rfl rfl ?_
            refine TL.guard_no rfl rfl rfl rfl ?_
            refine TL.guard_no rfl rfl rfl rfl ?_
            refine TL.guard_no rfl rfl rfl rfl ?_
            refine TL.guard_no rfl rfl rfl rfl ?_
            refine TL.pu (.pick_f rfl rfl) rfl ?_
            refine TL.pu (.move rfl) rfl ?_
            refine TL.guard_no rfl rfl rfl rfl ?_
            refine TL.guard_no rfl rfl rfl rfl ?_
            refine TL.guard_no rfl rfl rfl rfl ?_
            refine TL.guard_no rfl rfl rfl rfl ?_
            refine TL.guard_no rfl rfl rfl rfl ?_
            refine TL.pu (.pick_f rfl rfl) rfl ?_
            refine TL.pu (.assign rfl) rfl ?_
            refine TL.nil ?_
            refine AQ.then_n ?_
            refine TC.ret ?_
            refine AQ.ret Try.results9 rfl ⟨ret_vt ?_, rfl⟩ (.nil _)
            unfold sameB
            simp only [Bool.not_eq_true', Bool.not_eq_false', decide_eq_true_eq, decide_eq_false_iff_not] at *
            simp only [*, decide_true, decide_false, Bool.true_and, Bool.false_and, Bool.and_false, Bool.and_true, Bool.not_true, Bool.not_false]
          refine TL.guard_no rfl rfl rfl rfl ?_
          refine TL.guard_no rfl rfl rfl rfl ?_
          refine TL.guard_no rfl rfl rfl rfl ?_
          refine TL.guard_no rfl rfl rfl rfl ?_
          refine TL.guard_no rfl rfl rfl rfl ?_
          refine TL.pu (.pick_f rfl rfl) rfl ?_
          refine TL.pu (.move rfl) rfl ?_
          refine TL.guard_no rfl rfl rfl rfl ?_
          refine TL.guard_no rfl rfl rfl rfl ?_
          refine TL.guard_no rfl rfl rfl rfl ?_
          refine TL.guard_no rfl rfl rfl rfl ?_
          refine TL.guard_no rfl rfl rfl rfl ?_
          refine TL.pu (.pick_f rfl rfl) rfl ?_
          refine TL.pu (.move rfl) rfl ?_
          refine TL.guard_no rfl rfl rfl rfl ?_
          refine TL.guard_no rfl rfl rfl rfl ?_
          refine TL.guard_no rfl rfl rfl rfl ?_
          refine TL.guard_no rfl rfl rfl rfl ?_
          refine TL.guard_no rfl rfl rfl rfl ?_
          refine TL.pu (.pick_f rfl rfl) rfl ?_
          refine TL.pu (.move rfl) rfl ?_
          refine TL.guard_no rfl rfl rfl rfl ?_
          refine TL.guard_no rfl rfl rfl rfl ?_
          refine TL.guard_no rfl rfl rfl rfl ?_
          refine TL.guard_no rfl rfl rfl rfl ?_
          refine TL.guard_no rfl rfl rfl rfl ?_
          refine TL.pu (.pick_f rfl rfl) rfl ?_
          refine TL.pu (.move rfl) rfl ?_
          refine TL.guard_no rfl rfl rfl rfl ?_
          refine TL.guard_no rfl rfl rfl rfl ?_
          refine TL.guard_no rfl rfl rfl rfl ?_
          refine TL.guard_no rfl rfl rfl rfl ?_
          refine TL.guard_no rfl rfl rfl rfl ?_
          refine TL.pu (.pick_f rfl rfl) rfl ?_
          refine TL.pu (.move rfl) rfl ?_
          refine TL.guard_no rfl rfl rfl rfl ?_
          refine TL.guard_no rfl rfl rfl rfl ?_
          refine TL.guard_no rfl rfl rfl rfl ?_
          refine TL.guard_no rfl rfl rfl rfl ?_
          refine TL.guard_no rfl rfl rfl rfl ?_
          refine TL.pu (.pick_f rfl rfl) rfl ?_
          refine TL.pu (.move rfl) rfl ?_
          refine TL.guard_no rfl rfl rfl rfl ?_
          refine TL.guard_no rfl rfl rfl rfl ?_
          refine TL.guard_no rfl rfl rfl rfl ?_
          refine TL.guard_no rfl rfl rfl rfl ?_
          refine TL.guard_no rfl rfl rfl rfl ?_
          refine TL.pu (.pick_f rfl rfl) rfl ?_
          refine TL.pu (.move rfl) rfl ?_
          refine TL.guard_no rfl rfl rfl rfl ?_
          refine TL.guard_no rfl rfl rfl rfl ?_
          refine TL.guard_no rfl rfl rfl rfl ?_
          refine TL.guard_no rfl rfl rfl rfl ?_
          refine TL.guard_no rfl rfl rfl rfl ?_
          refine TL.pu (.pick_f rfl rfl) rfl ?_
          refine TL.pu (.move rfl) rfl ?_
          refine TL.guard_no rfl rfl rfl rfl ?_
          refine TL.guard_no rfl rfl rfl rfl ?_
          refine TL.guard_no rfl rfl rfl rfl ?_
          refine TL.guard_no rfl rfl rfl rfl ?_
          refine TL.guard_no rfl rfl rfl rfl ?_
          refine TL.pu (.pick_f rfl rfl) rfl ?_
          refine TL.pu (.move rfl) rfl ?_
          refine TL.guard_no rfl rfl rfl rfl ?_
          refine TL.guard_no rfl rfl rfl rfl ?_
          refine TL.guard_no rfl rfl rfl rfl ?_
          refine TL.guard_no rfl rfl rfl rfl ?_
          refine TL.guard_no rfl rfl rfl rfl ?_
          refine TL.pu (.pick_f rfl rfl) rfl ?_
          refine TL.pu (.assign rfl) rfl ?_
          refine TL.nil ?_
          refine AQ.then_n ?_
          refine TC.ret ?_
          refine AQ.ret Try.results9 rfl ⟨ret_vt ?_, rfl⟩ (.nil _)
          unfold sameB
          simp only [Bool.not_eq_true', Bool.not_eq_false', decide_eq_true_eq, decide_eq_false_iff_not] at *
          simp only [*, decide_true, decide_false, Bool.true_and, Bool.false_and, Bool.and_false, Bool.and_true, Bool.not_true, Bool.not_false]
        refine TL.guard_no rfl rfl rfl rfl ?_
        refine TL.guard_no rfl rfl rfl rfl ?_
        refine TL.guard_no rfl rfl rfl rfl ?_
        refine TL.guard_no rfl rfl rfl rfl ?_
        refine TL.guard_no rfl rfl rfl rfl ?_
        refine TL.pu (.pick_f rfl rfl) rfl ?_
        refine TL.pu (.move rfl) rfl ?_
        refine TL.guard_no rfl rfl rfl rfl ?_
        refine TL.guard_no rfl rfl rfl rfl ?_
        refine TL.guard_no rfl rfl rfl rfl ?_
        refine TL.guard_no rfl rfl rfl rfl ?_
        refine TL.guard_no rfl rfl rfl rfl ?_
        refine TL.pu (.pick_f rfl rfl) rfl ?_
        refine TL.pu (.move rfl) rfl ?_
        refine TL.guard_no rfl rfl rfl rfl ?_
        refine TL.guard_no rfl rfl rfl rfl ?_
        refine TL.guard_no rfl rfl rfl rfl ?_
        refine TL.guard_no rfl rfl rfl rfl ?_
        refine TL.guard_no rfl rfl rfl rfl ?_
        refine TL.pu (.pick_f rfl rfl) rfl ?_
        refine TL.pu (.move rfl) rfl ?_
        refine TL.guard_no rfl rfl rfl rfl ?_
        refine TL.guard_no rfl rfl rfl rfl ?_
        refine TL.guard_no rfl rfl rfl rfl ?_
        refine TL.guard_no rfl rfl rfl rfl ?_
        refine TL.guard_no rfl rfl rfl rfl ?_
        refine TL.pu (.pick_f rfl rfl) rfl ?_
        refine TL.pu (.move rfl) rfl ?_
        refine TL.guard_no rfl rfl rfl rfl ?_
        refine TL.guard_no rfl rfl rfl rfl ?_
        refine TL.guard_no rfl rfl rfl rfl ?_
        refine TL.guard_no rfl rfl rfl rfl ?_
        refine TL.guard_no rfl rfl rfl rfl ?_
        refine TL.pu (.pick_f rfl rfl) rfl ?_
        refine TL.pu (.move rfl) rfl ?_
        refine TL.guard_no rfl rfl rfl rfl ?_
        refine TL.guard_no rfl rfl rfl rfl ?_
        refine TL.guard_no rfl rfl rfl rfl ?_
        refine TL.guard_no rfl rfl rfl rfl ?_
        refine TL.guard_no rfl rfl rfl rfl ?_
        refine TL.pu (.pick_f rfl rfl) rfl ?_
        refine TL.pu (.move rfl) rfl ?_
        refine TL.guard_no rfl rfl rfl rfl ?_
        refine TL.guard_no rfl rfl rfl rfl ?_
        refine TL.guard_no rfl rfl rfl rfl ?_
        refine TL.guard_no rfl rfl rfl rfl ?_
        refine TL.guard_no rfl rfl rfl rfl ?_
        refine TL.pu (.pick_f rfl rfl) rfl ?_
        refine TL.pu (.move rfl) rfl ?_
        refine TL.guard_no rfl rfl rfl rfl ?_
        refine TL.guard_no rfl rfl rfl rfl ?_
        refine TL.guard_no rfl rfl rfl rfl ?_
        refine TL.guard_no rfl rfl rfl rfl ?_
        refine TL.guard_no rfl rfl rfl rfl ?_
        refine TL.pu (.pick_f rfl rfl) rfl ?_
        refine TL.pu (.move rfl) rfl ?_
        refine TL.guard_no rfl rfl rfl rfl ?_
        refine TL.guard_no rfl rfl rfl rfl ?_
        refine TL.guard_no rfl rfl rfl rfl ?_
        refine TL.guard_no rfl rfl rfl rfl ?_
        refine TL.guard_no rfl rfl rfl rfl ?_
        refine TL.pu (.pick_f rfl rfl) rfl ?_
        refine TL.pu (.move rfl) rfl ?_
        refine TL.guard_no rfl rfl rfl rfl ?_
        refine TL.guard_no rfl rfl rfl rfl ?_
        refine TL.guard_no rfl rfl rfl rfl ?_
        refine TL.guard_no rfl rfl rfl rfl ?_
        refine TL.guard_no rfl rfl rfl rfl ?_
        refine TL.pu (.pick_f rfl rfl) rfl ?_
        refine TL.pu (.move rfl) rfl ?_
        refine TL.guard_no rfl rfl rfl rfl ?_
        refine TL.guard_no rfl rfl rfl rfl ?_
        refine TL.guard_no rfl rfl rfl rfl ?_
        refine TL.guard_no rfl rfl rfl rfl ?_
        refine TL.guard_no rfl rfl rfl rfl ?_
        refine TL.pu (.pick_f rfl rfl) rfl ?_
        refine TL.pu (.assign rfl) rfl ?_
        refine TL.nil ?_
        refine AQ.then_n ?_
        refine TC.ret ?_
        refine AQ.ret Try.results9 rfl ⟨ret_vt ?_, rfl⟩ (.nil _)
        unfold sameB
        simp only [Bool.not_eq_true', Bool.not_eq_false', decide_eq_true_eq, decide_eq_false_iff_not] at *
        simp only [*, decide_true, decide_false, Bool.true_and, Bool.false_and, Bool.and_false, Bool.and_true, Bool.not_true, Bool.not_false]
      refine TL.guard_no rfl rfl rfl rfl ?_
      refine TL.guard_no rfl rfl rfl rfl ?_
      refine TL.guard_no rfl rfl rfl rfl ?_
      refine TL.guard_no rfl rfl rfl rfl ?_
      refine TL.guard_no rfl rfl rfl rfl ?_
      refine TL.pu (.pick_f rfl rfl) rfl ?_
      refine TL.pu (.move rfl) rfl ?_
      refine TL.guard_no rfl rfl rfl rfl ?_
      refine TL.guard_no rfl rfl rfl rfl ?_
      refine TL.guard_no rfl rfl rfl rfl ?_
      refine TL.guard_no rfl rfl rfl rfl ?_
      refine TL.guard_no rfl rfl rfl rfl ?_
      refine TL.pu (.pick_f rfl rfl) rfl ?_
      refine TL.pu (.move rfl) rfl ?_
      refine TL.guard_no rfl rfl rfl rfl ?_
      refine TL.guard_no rfl rfl rfl rfl ?_
      refine TL.guard_no rfl rfl rfl rfl ?_
      refine TL.guard_no rfl rfl rfl rfl ?_
      refine TL.guard_no rfl rfl rfl rfl ?_
      refine TL.pu (.pick_f rfl rfl) rfl ?_
      refine TL.pu (.move rfl) rfl ?_
      refine TL.guard_no rfl rfl rfl rfl ?_
      refine TL.guard_no rfl rfl rfl rfl ?_
      refine TL.guard_no rfl rfl rfl rfl ?_
      refine TL.guard_no rfl rfl rfl rfl ?_
      refine TL.guard_no rfl rfl rfl rfl ?_
      refine TL.pu (.pick_f rfl rfl) rfl ?_
      refine TL.pu (.move rfl) rfl ?_
      refine TL.guard_no rfl rfl rfl rfl ?_
      refine TL.guard_no rfl rfl rfl rfl ?_
      refine TL.guard_no rfl rfl rfl rfl ?_
      refine TL.guard_no rfl rfl rfl rfl ?_
      refine TL.guard_no rfl rfl rfl rfl ?_
      refine TL.pu (.pick_f rfl rfl) rfl ?_
      refine TL.pu (.move rfl) rfl ?_
      refine TL.guard_no rfl rfl rfl rfl ?_
      refine TL.guard_no rfl rfl rfl rfl ?_
      refine TL.guard_no rfl rfl rfl rfl ?_
      refine TL.guard_no rfl rfl rfl rfl ?_
      refine TL.guard_no rfl rfl rfl rfl ?_
      refine TL.pu (.pick_f rfl rfl) rfl ?_
      refine TL.pu (.move rfl) rfl ?_
      refine TL.guard_no rfl rfl rfl rfl ?_
      refine TL.guard_no rfl rfl rfl rfl ?_
      refine TL.guard_no rfl rfl rfl rfl ?_
      refine TL.guard_no rfl rfl rfl rfl ?_
      refine TL.guard_no rfl rfl rfl rfl ?_
      refine TL.pu (.pick_f rfl rfl) rfl ?_
      refine TL.pu (.move rfl) rfl ?_
      refine TL.guard_no rfl rfl rfl rfl ?_
      refine TL.guard_no rfl rfl rfl rfl ?_
      refine TL.guard_no rfl rfl rfl rfl ?_
      refine TL.guard_no rfl rfl rfl rfl ?_
      refine TL.guard_no rfl rfl rfl rfl ?_
      refine TL.pu (.pick_f rfl rfl) rfl ?_
      refine TL.pu (.move rfl) rfl ?_
      refine TL.guard_no rfl rfl rfl rfl ?_
      refine TL.guard_no rfl rfl rfl rfl ?_
      refine TL.guard_no rfl rfl rfl rfl ?_
      refine TL.guard_no rfl rfl rfl rfl ?_
      refine TL.guard_no rfl rfl rfl rfl ?_
      refine TL.pu (.pick_f rfl rfl) rfl ?_
      refine TL.pu (.move rfl) rfl ?_
      refine TL.guard_no rfl rfl rfl rfl ?_
      refine TL.guard_no rfl rfl rfl rfl ?_
      refine TL.guard_no rfl rfl rfl rfl ?_
      refine TL.guard_no rfl rfl rfl rfl ?_
      refine TL.guard_no rfl rfl rfl rfl ?_
      refine TL.pu (.pick_f rfl rfl) rfl ?_
      refine TL.pu (.move rfl) rfl ?_
      refine TL.guard_no rfl rfl rfl rfl ?_
      refine TL.guard_no rfl rfl rfl rfl ?_
      refine TL.guard_no rfl rfl rfl rfl ?_
      refine TL.guard_no rfl rfl rfl rfl ?_
      refine TL.guard_no rfl rfl rfl rfl ?_
      refine TL.pu (.pick_f rfl rfl) rfl ?_
      refine TL.pu (.move rfl) rfl ?_
      refine TL.guard_no rfl rfl rfl rfl ?_
      refine TL.guard_no rfl rfl rfl rfl ?_
      refine TL.guard_no rfl rfl rfl rfl ?_
      refine TL.guard_no rfl rfl rfl rfl ?_
      refine TL.guard_no rfl rfl rfl rfl ?_
      refine TL.pu (.pick_f rfl rfl) rfl ?_
      refine TL.pu (.assign rfl) rfl ?_
      refine TL.nil ?_
      refine AQ.then_n ?_
      refine TC.ret ?_
      refine AQ.ret Try.results9 rfl ⟨ret_vt ?_, rfl⟩ (.nil _)
      unfold sameB
      simp only [Bool.not_eq_true', Bool.not_eq_false', decide_eq_true_eq, decide_eq_false_iff_not] at *
      simp only [*, decide_true, decide_false, Bool.true_and, Bool.false_and, Bool.and_false, Bool.and_true, Bool.not_true, Bool.not_false]
    refine TL.guard_no rfl rfl rfl rfl ?_
    refine TL.guard_no rfl rfl rfl rfl ?_
    refine TL.guard_no rfl rfl rfl rfl ?_
    refine TL.guard_no rfl rfl rfl rfl ?_
    refine TL.guard_no rfl rfl rfl rfl ?_
    refine TL.pu (.pick_f rfl rfl) rfl ?_
    refine TL.pu (.move rfl) rfl ?_
    refine TL.guard_no rfl rfl rfl rfl ?_
    refine TL.guard_no rfl rfl rfl rfl ?_
    refine TL.guard_no rfl rfl rfl rfl ?_
    refine TL.guard_no rfl rfl rfl rfl ?_
    refine TL.guard_no rfl rfl rfl rfl ?_
    refine TL.pu (.pick_f rfl rfl) rfl ?_
    refine TL.pu (.move rfl) rfl ?_
    refine TL.guard_no rfl rfl rfl rfl ?_
    refine TL.guard_no rfl rfl rfl rfl ?_
    refine TL.guard_no rfl rfl rfl rfl ?_
    refine TL.guard_no rfl rfl rfl rfl ?_
    refine TL.guard_no rfl rfl rfl rfl ?_
    refine TL.pu (.pick_f rfl rfl) rfl ?_
    refine TL.pu (.move rfl) rfl ?_
    refine TL.guard_no rfl rfl rfl rfl ?_
    refine TL.guard_no rfl rfl rfl rfl ?_
    refine TL.guard_no rfl rfl rfl rfl ?_
    refine TL.guard_no rfl rfl rfl rfl ?_
    refine TL.guard_no rfl rfl rfl rfl ?_
    refine TL.pu (.pick_f rfl rfl) rfl ?_
    refine TL.pu (.move rfl) rfl ?_
    refine TL.guard_no rfl rfl rfl rfl ?_
    refine TL.guard_no rfl rfl rfl rfl ?_
    refine TL.guard_no rfl rfl rfl rfl ?_
    refine TL.guard_no rfl rfl rfl rfl ?_
    refine TL.guard_no rfl rfl rfl rfl ?_
    refine TL.pu (.pick_f rfl rfl) rfl ?_
    refine TL.pu (.move rfl) rfl ?_
    refine TL.guard_no rfl rfl rfl rfl ?_
    refine TL.guard_no rfl rfl rfl rfl ?_
    refine TL.guard_no rfl rfl rfl rfl ?_
    refine TL.guard_no rfl rfl rfl rfl ?_
    refine TL.guard_no rfl rfl rfl rfl ?_
    refine TL.pu (.pick_f rfl rfl) rfl ?_
    refine TL.pu (.move rfl) rfl ?_
    refine TL.guard_no rfl rfl rfl rfl ?_
    refine TL.guard_no rfl rfl rfl rfl ?_
    refine TL.guard_no rfl rfl rfl rfl ?_
    refine TL.guard_no rfl rfl rfl rfl ?_
    refine TL.guard_no rfl rfl rfl rfl ?_
    refine TL.pu (.pick_f rfl rfl) rfl ?_
    refine TL.pu (.move rfl) rfl ?_
    refine TL.guard_no rfl rfl rfl rfl ?_
    refine TL.guard_no rfl rfl rfl rfl ?_
    refine TL.guard_no rfl rfl rfl rfl ?_
    refine TL.guard_no rfl rfl rfl rfl ?_
    refine TL.guard_no rfl rfl rfl rfl ?_
    refine TL.pu (.pick_f rfl rfl) rfl ?_
    refine TL.pu (.move rfl) rfl ?_
    refine TL.guard_no rfl rfl rfl rfl ?_
    refine TL.guard_no rfl rfl rfl rfl ?_
    refine TL.guard_no rfl rfl rfl rfl ?_
    refine TL.guard_no rfl rfl rfl rfl ?_
    refine TL.guard_no rfl rfl rfl rfl ?_
    refine TL.pu (.pick_f rfl rfl) rfl ?_
    refine TL.pu (.move rfl) rfl ?_
    refine TL.guard_no rfl rfl rfl rfl ?_
    refine TL.guard_no rfl rfl rfl rfl ?_
    refine TL.guard_no rfl rfl rfl rfl ?_
    refine TL.guard_no rfl rfl rfl rfl ?_
    refine TL.guard_no rfl rfl rfl rfl ?_
    refine TL.pu (.pick_f rfl rfl) rfl ?_
    refine TL.pu (.move rfl) rfl ?_
    refine TL.guard_no rfl rfl rfl rfl ?_
    refine TL.guard_no rfl rfl rfl rfl ?_
    refine TL.guard_no rfl rfl rfl rfl ?_
    refine TL.guard_no rfl rfl rfl rfl ?_
    refine TL.guard_no rfl rfl rfl rfl ?_
    refine TL.pu (.pick_f rfl rfl) rfl ?_
    refine TL.pu (.move rfl) rfl ?_
    refine TL.guard_no rfl rfl rfl rfl ?_
    refine TL.guard_no rfl rfl rfl rfl ?_
    refine TL.guard_no rfl rfl rfl rfl ?_
    refine TL.guard_no rfl rfl rfl rfl ?_
    refine TL.guard_no rfl rfl rfl rfl ?_
    refine TL.pu (.pick_f rfl rfl) rfl ?_
    refine TL.pu (.move rfl) rfl ?_
    refine TL.guard_no rfl rfl rfl rfl ?_
    refine TL.guard_no rfl rfl rfl rfl ?_
    refine TL.guard_no rfl rfl rfl rfl ?_
    refine TL.guard_no rfl rfl rfl rfl ?_
    refine TL.guard_no rfl rfl rfl rfl ?_
    refine TL.pu (.pick_f rfl rfl) rfl ?_
    refine TL.pu (.assign rfl) rfl ?_
    refine TL.nil ?_
    refine AQ.then_n ?_
    refine TC.ret ?_
    refine AQ.ret Try.results9 rfl ⟨ret_vt ?_, rfl⟩ (.nil _)
    unfold sameB
    simp only [Bool.not_eq_true', Bool.not_eq_false', decide_eq_true_eq, decide_eq_false_iff_not] at *
    simp only [*, decide_true, decide_false, Bool.true_and, Bool.false_and, Bool.and_false, Bool.and_true, Bool.not_true, Bool.not_false]
  refine TL.guard_no rfl rfl rfl rfl ?_
  refine TL.guard_no rfl rfl rfl rfl ?_
  refine TL.guard_no rfl rfl rfl rfl ?_
  refine TL.guard_no rfl rfl rfl rfl ?_
  refine TL.guard_no rfl rfl rfl rfl ?_
  refine TL.pu (.pick_f rfl rfl) rfl ?_
  refine TL.pu (.move rfl) rfl ?_
  refine TL.guard_no rfl rfl rfl rfl ?_
  refine TL.guard_no rfl rfl rfl rfl ?_
  refine TL.guard_no rfl rfl rfl rfl ?_
  refine TL.guard_no rfl rfl rfl rfl ?_
  refine TL.guard_no rfl rfl rfl rfl ?_
  refine TL.pu (.pick_f rfl rfl) rfl ?_
  refine TL.pu (.move rfl) rfl ?_
  refine TL.guard_no rfl rfl rfl rfl ?_
  refine TL.guard_no rfl rfl rfl rfl ?_
  refine TL.guard_no rfl rfl rfl rfl ?_
  refine TL.guard_no rfl rfl rfl rfl ?_
  refine TL.guard_no rfl rfl rfl rfl ?_
  refine TL.pu (.pick_f rfl rfl) rfl ?_
  refine TL.pu (.move rfl) rfl ?_
  refine TL.guard_no rfl rfl rfl rfl ?_
  refine TL.guard_no rfl rfl rfl rfl ?_
  refine TL.guard_no rfl rfl rfl rfl ?_
  refine TL.guard_no rfl rfl rfl rfl ?_
  refine TL.guard_no rfl rfl rfl rfl ?_
  refine TL.pu (.pick_f rfl rfl) rfl ?_
  refine TL.pu (.move rfl) rfl ?_
  refine TL.guard_no rfl rfl rfl rfl ?_
  refine TL.guard_no rfl rfl rfl rfl ?_
  refine TL.guard_no rfl rfl rfl rfl ?_
  refine TL.guard_no rfl rfl rfl rfl ?_
  refine TL.guard_no rfl rfl rfl rfl ?_
  refine TL.pu (.pick_f rfl rfl) rfl ?_
  refine TL.pu (.move rfl) rfl ?_
  refine TL.guard_no rfl rfl rfl rfl ?_
  refine TL.guard_no rfl rfl rfl rfl ?_
  refine TL.guard_no rfl rfl rfl rfl ?_
  refine TL.guard_no rfl rfl rfl rfl ?_
  refine TL.guard_no rfl rfl rfl rfl ?_
  refine TL.pu (.pick_f rfl rfl) rfl ?_
  refine TL.pu (.move rfl) rfl ?_
  refine TL.guard_no rfl rfl rfl rfl ?_
  refine TL.guard_no rfl rfl rfl rfl ?_
  refine TL.guard_no rfl rfl rfl rfl ?_
  refine TL.guard_no rfl rfl rfl rfl ?_
  refine TL.guard_no rfl rfl rfl rfl ?_
  refine TL.pu (.pick_f rfl rfl) rfl ?_
  refine TL.pu (.move rfl) rfl ?_
  refine TL.guard_no rfl rfl rfl rfl ?_
  refine TL.guard_no rfl rfl rfl rfl ?_
  refine TL.guard_no rfl rfl rfl rfl ?_
  refine TL.guard_no rfl rfl rfl rfl ?_
  refine TL.guard_no rfl rfl rfl rfl ?_
  refine TL.pu (.pick_f rfl rfl) rfl ?_
  refine TL.pu (.move rfl) rfl ?_
  refine TL.guard_no rfl rfl rfl rfl ?_
  refine TL.guard_no rfl rfl rfl rfl ?_
  refine TL.guard_no rfl rfl rfl rfl ?_
  refine TL.guard_no rfl rfl rfl rfl ?_
  refine TL.guard_no rfl rfl rfl rfl ?_
  refine TL.pu (.pick_f rfl rfl) rfl ?_
  refine TL.pu (.move rfl) rfl ?_
  refine TL.guard_no rfl rfl rfl rfl ?_
  refine TL.guard_no rfl rfl rfl rfl ?_
  refine TL.guard_no rfl rfl rfl rfl ?_
  refine TL.guard_no rfl rfl rfl rfl ?_
  refine TL.guard_no rfl rfl rfl rfl ?_
  refine TL.pu (.pick_f rfl rfl) rfl ?_
  refine TL.pu (.move rfl) rfl ?_
  refine TL.guard_no rfl rfl rfl rfl ?_
  refine TL.guard_no rfl rfl rfl rfl ?_
  refine TL.guard_no rfl rfl rfl rfl ?_
  refine TL.guard_no rfl rfl rfl rfl ?_
  refine TL.guard_no rfl rfl rfl rfl ?_
  refine TL.pu (.pick_f rfl rfl) rfl ?_
  refine TL.pu (.move rfl) rfl ?_
  refine TL.guard_no rfl rfl rfl rfl ?_
  refine TL.guard_no rfl rfl rfl rfl ?_
  refine TL.guard_no rfl rfl rfl rfl ?_
  refine TL.guard_no rfl rfl rfl rfl ?_
  refine TL.guard_no rfl rfl rfl rfl ?_
  refine TL.pu (.pick_f rfl rfl) rfl ?_
  refine TL.pu (.move rfl) rfl ?_
  refine TL.guard_no rfl rfl rfl rfl ?_
  refine TL.guard_no rfl rfl rfl rfl ?_
  refine TL.guard_no rfl rfl rfl rfl ?_
  refine TL.guard_no rfl rfl rfl rfl ?_
  refine TL.guard_no rfl rfl rfl rfl ?_
  refine TL.pu (.pick_f rfl rfl) rfl ?_
  refine TL.pu (.move rfl) rfl ?_
  refine TL.guard_no rfl rfl rfl rfl ?_
  refine TL.guard_no rfl rfl rfl rfl ?_
  refine TL.guard_no rfl rfl rfl rfl ?_
  refine TL.guard_no rfl rfl rfl rfl ?_
  refine TL.guard_no rfl rfl rfl rfl ?_
  refine TL.pu (.pick_f rfl rfl) rfl ?_
  refine TL.pu (.assign rfl) rfl ?_
  refine TL.nil ?_
  refine AQ.then_n ?_
  refine TC.ret ?_
  refine AQ.ret Try.results9 rfl ⟨ret_vt ?_, rfl⟩ (.nil _)
  unfold sameB
  simp only [Bool.not_eq_true', Bool.not_eq_false', decide_eq_true_eq, decide_eq_false_iff_not] at *
  simp only [*, decide_true, decide_false, Bool.true_and, Bool.false_and, Bool.and_false, Bool.and_true, Bool.not_true, Bool.not_false]
end Go.Sl