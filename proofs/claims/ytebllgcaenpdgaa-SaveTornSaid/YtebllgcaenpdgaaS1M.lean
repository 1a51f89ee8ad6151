/-
  Walks of this claim's functions, printed by a program of ours off the loaded program. Holds under no condition.
-/
import Derived.Test.YtebllgcaenpdgaaS1L
set_option linter.all false
namespace Go.Sl
open Go Go.Proofs
theorem noMachine_fn (m : Mach) (y0 : List Int) (n0 : Nat) (sg0 : HS) (R0 : Ro 1 m.s0 n0 (bys y0) sg0) (hy0 : ∀ x ∈ y0, 0 ≤ x ∧ x < 256) (y1 : List Int) (n1 : Nat) (sg1 : HS) (R1 : Ro 1 m.s1 n1 (bys y1) sg1) (hy1 : ∀ x ∈ y1, 0 ≤ x ∧ x < 256) (y2 : List Int) (n2 : Nat) (sg2 : HS) (R2 : Ro 1 m.s2 n2 (bys y2) sg2) (hy2 : ∀ x ∈ y2, 0 ≤ x ∧ x < 256) (y3 : List Int) (n3 : Nat) (sg3 : HS) (R3 : Ro 1 m.s3 n3 (bys y3) sg3) (hy3 : ∀ x ∈ y3, 0 ≤ x ∧ x < 256) (y4 : List Int) (n4 : Nat) (sg4 : HS) (R4 : Ro 1 m.s4 n4 (bys y4) sg4) (hy4 : ∀ x ∈ y4, 0 ≤ x ∧ x < 256) :
    FnD Try.prog 10 [.agg (machL m).toArray] (sg0 ++ (sg1 ++ (sg2 ++ (sg3 ++ sg4)))) (vt (sameB m machZ y0 y1 y2 y3 y4 [] [] [] [] [])) [] := by
  have h := SameMachine_fn m machZ y0 [] n0 0 sg0 [] R0 (.nil rfl rfl rfl) hy0 (by simp) y1 [] n1 0 sg1 [] R1 (.nil rfl rfl rfl) hy1 (by simp) y2 [] n2 0 sg2 [] R2 (.nil rfl rfl rfl) hy2 (by simp) y3 [] n3 0 sg3 [] R3 (.nil rfl rfl rfl) hy3 (by simp) y4 [] n4 0 sg4 [] R4 (.nil rfl rfl rfl) hy4 (by simp)
  simp only [List.append_nil, List.nil_append] at h
  refine FnE.enter Try.func10 rfl Try.ntmps10 rfl (fun w => ?_)
  refine TC.seq ?_
  refine TC.region ?_
  refine TL.box rfl rfl rfl (fun b1 => ?_)
  refine TL.pu (.assign rfl) rfl ?_
  refine TL.nil ?_
  refine AQ.then_n ?_
  refine TC.seq ?_
  refine TC.region ?_
  refine TL.rd (.loadAll rfl inferInstance rfl) rfl ?_
  refine TL.pu (.build rfl rfl) rfl ?_
  refine TL.callD h rfl rfl rfl (.sro inferInstance R0.ro (.sro inferInstance R1.ro (.sro inferInstance R2.ro (.sro inferInstance R3.ro (.lastro inferInstance R4.ro))))) rfl ?_
  refine TL.pu (.assign rfl) rfl ?_
  refine TL.nil ?_
  refine AQ.then_n ?_
  refine TC.ret ?_
  exact AQ.ret Try.results10 rfl ⟨rfl, rfl⟩ (.nil _)

theorem word_or (a b : Int) (ha : 0 ≤ a ∧ a < 256) (hb : 0 ≤ b ∧ b < 256) :
    IntKind.u16.wrap ((BitVec.ofInt 16 (IntKind.u16.wrap (IntKind.u16.wrap a * 2 ^ (min (8 : Int).toNat 16))) ||| BitVec.ofInt 16 (IntKind.u16.wrap b)).toNat) = a * 256 + b := by
  have e8 : (2 : Int) ^ (min (8 : Int).toNat 16) = 256 := by decide
  rw [e8]
  obtain ⟨x, rfl⟩ := Int.eq_ofNat_of_zero_le ha.1
  obtain ⟨y, rfl⟩ := Int.eq_ofNat_of_zero_le hb.1
  rw [IntWalk.u16_in (x : Int) (by omega), IntWalk.u16_in ((x : Int) * 256) (by omega), IntWalk.u16_in (y : Int) (by omega)]
  have hy : y < 2 ^ 8 := by omega
  have e1 : (BitVec.ofInt 16 ((x : Int) * 256)).toNat = 2 ^ 8 * x := by
    rw [show ((x : Int) * 256) = ((2 ^ 8 * x : Nat) : Int) by omega, BitVec.ofInt_natCast, BitVec.toNat_ofNat]
    exact Nat.mod_eq_of_lt (by show 2 ^ 8 * x < 65536; omega)
  have e2 : (BitVec.ofInt 16 ((y : Nat) : Int)).toNat = y := by
    rw [BitVec.ofInt_natCast, BitVec.toNat_ofNat]
    exact Nat.mod_eq_of_lt (by show y < 65536; omega)
  have e3 : (BitVec.ofInt 16 ((x : Int) * 256) ||| BitVec.ofInt 16 ((y : Nat) : Int)).toNat = x * 256 + y := by
    rw [BitVec.toNat_or, e1, e2, ← Nat.two_pow_add_eq_or_of_lt hy x]; omega
  show IntKind.u16.wrap (((BitVec.ofInt 16 ((x : Int) * 256) ||| BitVec.ofInt 16 ((y : Nat) : Int)).toNat : Nat) : Int) = _
  rw [e3, IntWalk.u16_in _ (by omega)]; omega
theorem wordOf_fn (a b : Int) (ha : 0 ≤ a ∧ a < 256) (hb : 0 ≤ b ∧ b < 256) : FnD Try.prog 35 [vb a, vb b] [] (vw (a * 256 + b)) [] := by
  refine FnE.enter Try.func35 rfl Try.ntmps35 rfl (fun w => ?_)
  refine TC.seq ?_
  refine TC.region ?_
  refine TL.pu (.assign rfl) rfl ?_
  refine TL.nil ?_
  refine AQ.then_n ?_
  refine TC.seq ?_
  refine TC.region ?_
  refine TL.pu (.move rfl) rfl ?_
  refine TL.pu (.conv rfl) rfl ?_
  refine TL.pu (.shl rfl rfl (by decide)) rfl ?_
  refine TL.pu (.move rfl) rfl ?_
  refine TL.pu (.conv rfl) rfl ?_
  refine TL.pu (.int rfl rfl rfl) rfl ?_
  refine TL.pu (.assign rfl) rfl ?_
  refine TL.nil ?_
  refine AQ.then_n ?_
  refine TC.ret ?_
  exact AQ.ret Try.results35 rfl ⟨congrArg (fun n => Ending.returned (vw n)) (word_or a b ha hb), rfl⟩ (.nil _)

/-- A rom's byte. -/
def romB (y : List Int) (a : Nat) : Int := y.getD a 255
theorem romB_in {y : List Int} (hy : ∀ x ∈ y, 0 ≤ x ∧ x < 256) (a : Nat) : 0 ≤ romB y a ∧ romB y a < 256 := by
  unfold romB
  rw [List.getD_eq_getElem?_getD]
  cases h : y[a]? with
  | none => simp
  | some x => exact hy x (List.mem_of_getElem? h)
def busV (b : Nat) : List Value := [.func (.func 33) [ptr b].toArray [].toArray, .func (.func 34) [ptr b].toArray [].toArray]


theorem plain0_fn (m : Mach) (t : List Value) (b : Nat) (e : TypeId) (y0 : List Int) (n0 : Nat) (sg0 : HS) (R0 : Ro 1 m.s0 n0 (bys y0) sg0) :
    FnD Try.prog 36 [ptr b, vw 0] (⟨b, cel (machT m t) e, false⟩ :: sg0) (vb (romB y0 0)) [] := by
  have hl : y0.length = n0 := by simpa [bys_length] using R0.length
  refine FnE.enter Try.func36 rfl Try.ntmps36 rfl (fun w => ?_)
  refine TC.seq ?_
  refine TC.region ?_
  refine TL.pu (.assign rfl) rfl ?_
  refine TL.nil ?_
  refine AQ.then_n ?_
  refine TC.seq ?_
  refine TC.region ?_
  refine TL.pu (.move rfl) rfl ?_
  refine TL.pu (.nilCheck rfl) rfl ?_
  refine TL.pu (.fieldAddr rfl (m := 0) rfl) rfl ?_
  refine TL.pu (.assign rfl) rfl ?_
  refine TL.nil ?_
  refine AQ.then_n ?_
  refine TC.seq ?_
  refine TC.block ?_
  refine TC.seq ?_
  refine TC.region ?_
  refine TL.pu (.move rfl) rfl ?_
  refine TL.pu (.conv rfl) rfl ?_
  refine TL.say 11 (vi 0) rfl rfl ?_
  refine TL.pu (.move rfl) rfl ?_
  refine TL.pu (.nilCheck rfl) rfl ?_
  refine TL.pu (.fieldAddr rfl (m := 30) rfl) rfl ?_
  refine TL.rd (.load1 rfl inferInstance rfl) rfl ?_
  refine TL.pu (.lenSl rfl R0.isl rfl) rfl ?_
  refine TL.pu (.int rfl rfl rfl) rfl ?_
  refine TL.pu (.move rfl) rfl ?_
  refine TL.guard_d rfl rfl (fun q1 => ?_) (fun q1 => ?_)
  · skip
    refine TL.guard_yes rfl rfl ?_
    refine TL.pu (.move rfl) rfl ?_
    refine TL.guard_yes rfl rfl ?_
    refine TL.pu (.int rfl rfl rfl) rfl ?_
    refine TL.say 20 (.bool true) rfl rfl ?_
    refine TL.pu (.pick_t rfl rfl) rfl ?_
    refine TL.pu (.assign rfl) rfl ?_
    refine TL.nil ?_
    refine AQ.then_n ?_
    refine TC.cond_t rfl ?_
    refine TC.seq ?_
    refine TC.region ?_
    refine TL.pu (.move rfl) rfl ?_
    refine TL.pu (.nilCheck rfl) rfl ?_
    refine TL.pu (.fieldAddr rfl (m := 30) rfl) rfl ?_
    refine TL.rd (.load1 rfl inferInstance rfl) rfl ?_
    refine TL.pu (.move rfl) rfl ?_
    obtain ⟨bb, off, cap, c, t, z, hv, rfl, hlen, hcut, hcap⟩ := R0.at2 (by omega)
    refine TL.say 25 (.slice (some ⟨bb, off, none⟩) n0 cap) rfl hv ?_
    refine TL.pu (.indexAddr rfl rfl (by decide) (by omega) rfl) rfl ?_
    refine TL.rd (.load1 rfl inferInstance (v := vb (romB y0 0)) (by
      show nth c (off + 0 * 1) = _
      rw [Nat.mul_one]
      exact nth_cut hcut (by omega) (by simp [bys, romB, show 0 < y0.length by omega]))) rfl ?_
    refine TL.pu (.assign rfl) rfl ?_
    refine TL.nil ?_
    refine AQ.then_n ?_
    refine TC.ret ?_
    refine AQ.block_r ?_
    refine AQ.then_r ?_
    exact AQ.ret Try.results36 rfl ⟨rfl, rfl⟩ (.nil _)
  refine TL.guard_no rfl rfl rfl rfl ?_
  refine TL.guard_no rfl rfl rfl rfl ?_
  refine TL.pu (.pick_f rfl rfl) rfl ?_
  refine TL.pu (.assign rfl) rfl ?_
  refine TL.nil ?_
  refine AQ.then_n ?_
  refine TC.cond_f rfl ?_
  refine TC.seq ?_
  refine TC.region ?_
  refine TL.pu (.move rfl) rfl ?_
  refine TL.pu (.int rfl rfl rfl) rfl ?_
  refine TL.say 31 (.bool false) rfl rfl ?_
  refine TL.pu (.move rfl) rfl ?_
  refine TL.guard_no rfl rfl rfl rfl ?_
  refine TL.guard_no rfl rfl rfl rfl ?_
  refine TL.pu (.pick_f rfl rfl) rfl ?_
  refine TL.pu (.assign rfl) rfl ?_
  refine TL.nil ?_
  refine AQ.then_n ?_
  refine TC.cond_f rfl ?_
  refine TC.seq ?_
  refine TC.region ?_
  refine TL.pu (.move rfl) rfl ?_
  refine TL.pu (.int rfl rfl rfl) rfl ?_
  refine TL.say 46 (.bool false) rfl rfl ?_
  refine TL.pu (.move rfl) rfl ?_
  refine TL.guard_no rfl rfl rfl rfl ?_
  refine TL.guard_no rfl rfl rfl rfl ?_
  refine TL.pu (.pick_f rfl rfl) rfl ?_
  refine TL.pu (.assign rfl) rfl ?_
  refine TL.nil ?_
  refine AQ.then_n ?_
  refine TC.cond_f rfl ?_
  refine TC.skip ?_
  refine AQ.block_n ?_
  refine AQ.then_n ?_
  refine TC.seq ?_
  refine TC.region ?_
  refine TL.pu (.assign rfl) rfl ?_
  refine TL.nil ?_
  refine AQ.then_n ?_
  refine TC.ret ?_
  exact AQ.ret Try.results36 rfl ⟨congrArg (fun n => Ending.returned (vb n)) (show (255 : Int) = romB y0 0 by unfold romB; simp [show y0.length ≤ 0 by omega]), rfl⟩ (.nil _)

theorem mainGet0_fn (m : Mach) (t : List Value) (b : Nat) (e : TypeId) (y0 : List Int) (n0 : Nat) (sg0 : HS) (R0 : Ro 1 m.s0 n0 (bys y0) sg0) :
    FnD Try.prog 33 [ptr b, vw 0] (⟨b, cel (machT m t) e, false⟩ :: sg0) (vb (romB y0 0)) [] := by
  refine FnE.enter Try.func33 rfl Try.ntmps33 rfl (fun w => ?_)
  refine TC.seq ?_
  refine TC.region ?_
  refine TL.pu (.assign rfl) rfl ?_
  refine TL.nil ?_
  refine AQ.then_n ?_
  refine TC.seq ?_
  refine TC.region ?_
  refine TL.pu (.move rfl) rfl ?_
  refine TL.pu (.nilCheck rfl) rfl ?_
  refine TL.pu (.fieldAddr rfl (m := 0) rfl) rfl ?_
  refine TL.pu (.assign rfl) rfl ?_
  refine TL.nil ?_
  refine AQ.then_n ?_
  refine TC.seq ?_
  refine TC.seq ?_
  refine TC.region ?_
  refine TL.pu (.move rfl) rfl ?_
  refine TL.pu (.int rfl rfl rfl) rfl ?_
  refine TL.say 12 (.bool true) rfl rfl ?_
  refine TL.pu (.move rfl) rfl ?_
  refine TL.guard_no rfl rfl rfl rfl ?_
  refine TL.guard_no rfl rfl rfl rfl ?_
  refine TL.pu (.pick_t rfl rfl) rfl ?_
  refine TL.nil ?_
  refine AQ.then_n ?_
  refine TC.cond_t rfl ?_
  refine TC.seq ?_
  refine TC.region ?_
  refine TL.pu (.move rfl) rfl ?_
  refine TL.pu (.move rfl) rfl ?_
  refine TL.callD (plain0_fn m t b e y0 n0 sg0 R0) rfl rfl rfl (.ro inferInstance (.lastro inferInstance R0.ro)) rfl ?_
  refine TL.pu (.assign rfl) rfl ?_
  refine TL.nil ?_
  refine AQ.then_n ?_
  refine TC.ret ?_
  refine AQ.then_r ?_
  exact AQ.ret Try.results33 rfl ⟨rfl, rfl⟩ (.nil _)

theorem plain1_fn (m : Mach) (t : List Value) (b : Nat) (e : TypeId) (y0 : List Int) (n0 : Nat) (sg0 : HS) (R0 : Ro 1 m.s0 n0 (bys y0) sg0) :
    FnD Try.prog 36 [ptr b, vw 1] (⟨b, cel (machT m t) e, false⟩ :: sg0) (vb (romB y0 1)) [] := by
  have hl : y0.length = n0 := by simpa [bys_length] using R0.length
  refine FnE.enter Try.func36 rfl Try.ntmps36 rfl (fun w => ?_)
  refine TC.seq ?_
  refine TC.region ?_
  refine TL.pu (.assign rfl) rfl ?_
  refine TL.nil ?_
  refine AQ.then_n ?_
  refine TC.seq ?_
  refine TC.region ?_
  refine TL.pu (.move rfl) rfl ?_
  refine TL.pu (.nilCheck rfl) rfl ?_
  refine TL.pu (.fieldAddr rfl (m := 0) rfl) rfl ?_
  refine TL.pu (.assign rfl) rfl ?_
  refine TL.nil ?_
  refine AQ.then_n ?_
  refine TC.seq ?_
  refine TC.block ?_
  refine TC.seq ?_
  refine TC.region ?_
  refine TL.pu (.move rfl) rfl ?_
  refine TL.pu (.conv rfl) rfl ?_
  refine TL.say 11 (vi 1) rfl rfl ?_
  refine TL.pu (.move rfl) rfl ?_
  refine TL.pu (.nilCheck rfl) rfl ?_
  refine TL.pu (.fieldAddr rfl (m := 30) rfl) rfl ?_
  refine TL.rd (.load1 rfl inferInstance rfl) rfl ?_
  refine TL.pu (.lenSl rfl R0.isl rfl) rfl ?_
  refine TL.pu (.int rfl rfl rfl) rfl ?_
  refine TL.pu (.move rfl) rfl ?_
  refine TL.guard_d rfl rfl (fun q1 => ?_) (fun q1 => ?_)
  · skip
    refine TL.guard_yes rfl rfl ?_
    refine TL.pu (.move rfl) rfl ?_
    refine TL.guard_yes rfl rfl ?_
    refine TL.pu (.int rfl rfl rfl) rfl ?_
    refine TL.say 20 (.bool true) rfl rfl ?_
    refine TL.pu (.pick_t rfl rfl) rfl ?_
    refine TL.pu (.assign rfl) rfl ?_
    refine TL.nil ?_
    refine AQ.then_n ?_
    refine TC.cond_t rfl ?_
    refine TC.seq ?_
    refine TC.region ?_
    refine TL.pu (.move rfl) rfl ?_
    refine TL.pu (.nilCheck rfl) rfl ?_
    refine TL.pu (.fieldAddr rfl (m := 30) rfl) rfl ?_
    refine TL.rd (.load1 rfl inferInstance rfl) rfl ?_
    refine TL.pu (.move rfl) rfl ?_
    obtain ⟨bb, off, cap, c, t, z, hv, rfl, hlen, hcut, hcap⟩ := R0.at2 (by omega)
    refine TL.say 25 (.slice (some ⟨bb, off, none⟩) n0 cap) rfl hv ?_
    refine TL.pu (.indexAddr rfl rfl (by decide) (by omega) rfl) rfl ?_
    refine TL.rd (.load1 rfl inferInstance (v := vb (romB y0 1)) (by
      show nth c (off + 1 * 1) = _
      rw [Nat.mul_one]
      exact nth_cut hcut (by omega) (by simp [bys, romB, show 1 < y0.length by omega]))) rfl ?_
    refine TL.pu (.assign rfl) rfl ?_
    refine TL.nil ?_
    refine AQ.then_n ?_
    refine TC.ret ?_
    refine AQ.block_r ?_
    refine AQ.then_r ?_
    exact AQ.ret Try.results36 rfl ⟨rfl, rfl⟩ (.nil _)
  refine TL.guard_no rfl rfl rfl rfl ?_
  refine TL.guard_no rfl rfl rfl rfl ?_
  refine TL.pu (.pick_f rfl rfl) rfl ?_
  refine TL.pu (.assign rfl) rfl ?_
  refine TL.nil ?_
  refine AQ.then_n ?_
  refine TC.cond_f rfl ?_
  refine TC.seq ?_
  refine TC.region ?_
  refine TL.pu (.move rfl) rfl ?_
  refine TL.pu (.int rfl rfl rfl) rfl ?_
  refine TL.say 31 (.bool false) rfl rfl ?_
  refine TL.pu (.move rfl) rfl ?_
  refine TL.guard_no rfl rfl rfl rfl ?_
  refine TL.guard_no rfl rfl rfl rfl ?_
  refine TL.pu (.pick_f rfl rfl) rfl ?_
  refine TL.pu (.assign rfl) rfl ?_
  refine TL.nil ?_
  refine AQ.then_n ?_
  refine TC.cond_f rfl ?_
  refine TC.seq ?_
  refine TC.region ?_
  refine TL.pu (.move rfl) rfl ?_
  refine TL.pu (.int rfl rfl rfl) rfl ?_
  refine TL.say 46 (.bool false) rfl rfl ?_
  refine TL.pu (.move rfl) rfl ?_
  refine TL.guard_no rfl rfl rfl rfl ?_
  refine TL.guard_no rfl rfl rfl rfl ?_
  refine TL.pu (.pick_f rfl rfl) rfl ?_
  refine TL.pu (.assign rfl) rfl ?_
  refine TL.nil ?_
  refine AQ.then_n ?_
  refine TC.cond_f rfl ?_
  refine TC.skip ?_
  refine AQ.block_n ?_
  refine AQ.then_n ?_
  refine TC.seq ?_
  refine TC.region ?_
  refine TL.pu (.assign rfl) rfl ?_
  refine TL.nil ?_
  refine AQ.then_n ?_
  refine TC.ret ?_
  exact AQ.ret Try.results36 rfl ⟨congrArg (fun n => Ending.returned (vb n)) (show (255 : Int) = romB y0 1 by unfold romB; simp [show y0.length ≤ 1 by omega]), rfl⟩ (.nil _)

theorem mainGet1_fn (m : Mach) (t : List Value) (b : Nat) (e : TypeId) (y0 : List Int) (n0 : Nat) (sg0 : HS) (R0 : Ro 1 m.s0 n0 (bys y0) sg0) :
    FnD Try.prog 33 [ptr b, vw 1] (⟨b, cel (machT m t) e, false⟩ :: sg0) (vb (romB y0 1)) [] := by
  refine FnE.enter Try.func33 rfl Try.ntmps33 rfl (fun w => ?_)
  refine TC.seq ?_
  refine TC.region ?_
  refine TL.pu (.assign rfl) rfl ?_
  refine TL.nil ?_
  refine AQ.then_n ?_
  refine TC.seq ?_
  refine TC.region ?_
  refine TL.pu (.move rfl) rfl ?_
  refine TL.pu (.nilCheck rfl) rfl ?_
  refine TL.pu (.fieldAddr rfl (m := 0) rfl) rfl ?_
  refine TL.pu (.assign rfl) rfl ?_
  refine TL.nil ?_
  refine AQ.then_n ?_
  refine TC.seq ?_
  refine TC.seq ?_
  refine TC.region ?_
  refine TL.pu (.move rfl) rfl ?_
  refine TL.pu (.int rfl rfl rfl) rfl ?_
  refine TL.say 12 (.bool true) rfl rfl ?_
  refine TL.pu (.move rfl) rfl ?_
  refine TL.guard_no rfl rfl rfl rfl ?_
  refine TL.guard_no rfl rfl rfl rfl ?_
  refine TL.pu (.pick_t rfl rfl) rfl ?_
  refine TL.nil ?_
  refine AQ.then_n ?_
  refine TC.cond_t rfl ?_
  refine TC.seq ?_
  refine TC.region ?_
  refine TL.pu (.move rfl) rfl ?_
  refine TL.pu (.move rfl) rfl ?_
  refine TL.callD (plain1_fn m t b e y0 n0 sg0 R0) rfl rfl rfl (.ro inferInstance (.lastro inferInstance R0.ro)) rfl ?_
  refine TL.pu (.assign rfl) rfl ?_
  refine TL.nil ?_
  refine AQ.then_n ?_
  refine TC.ret ?_
  refine AQ.then_r ?_
  exact AQ.ret Try.results33 rfl ⟨rfl, rfl⟩ (.nil _)
end Go.Sl