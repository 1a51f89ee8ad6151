/-
  Walks of this claim's functions, printed by a program of ours off the loaded program. Holds under no condition.
-/
import Derived.Test.YtebllgcaenpdgaaS1H
import Derived.Test.YtebllgcaenpdgaaSlDefer
set_option linter.all false
namespace Go.Sl
open Go Go.Proofs
def cpuZ : Cpu := ⟨0, 0, 0, 0, 0, 0, 0, 0, 0, false, false, false, false, false, false⟩
def voiceZ : Voice := ⟨0, 0, 0, false, 0⟩
def machZ : Mach := ⟨cpuZ, cpuZ, .slice none 0 0, .slice none 0 0, .slice none 0 0, .slice none 0 0, .slice none 0 0, 0, false, 0, 0, false, 0, 0, 0, false, false, voiceZ, voiceZ, voiceZ, 0, 0, 0, false, 0, 0, 0, false, false, 0, 0, false, 0, 0, 0⟩


theorem of1_ret (r q : Nat) (c : List Value) (x : Value) : FnDf Try.prog 19 [ptr r, ptr q] .returning [⟨r, cel c 41, true⟩, ⟨q, cel [x] 42, true⟩] (fun e u' js => e = .returned (tup []) ∧ u' = .returning ∧ js = [⟨r, cel c 41, true⟩, ⟨q, cel [x] 42, true⟩]) := by
  refine FnDf.enter Try.func19 rfl Try.ntmps19 rfl rfl rfl .ret (fun w => ?_)
  refine TC.seq ?_
  refine TC.region ?_
  refine TL.pu (.move rfl) rfl ?_
  refine TL.pu (.nilNe_f rfl) rfl ?_
  refine TL.nil ?_
  refine AQ.then_n ?_
  refine TC.cond_f rfl ?_
  refine TC.skip ?_
  exact AQ.end_ Try.results19 rfl ⟨rfl, rfl, rfl⟩ (.cons inferInstance rfl (.cons inferInstance rfl (.nil _)))

theorem of1_pan (r q : Nat) (c : List Value) (hc : c.length = 75) (x : Value) : FnDf Try.prog 19 [ptr r, ptr q] (.panicking torn) [⟨r, cel c 41, true⟩, ⟨q, cel [x] 42, true⟩] (fun e u' js => e = .returned (tup []) ∧ settle u' = .returning ∧ js = [⟨q, cel [vi 7] 42, true⟩, ⟨r, cel (machL machZ) 41, true⟩]) := by
  refine FnDf.enter Try.func19 rfl Try.ntmps19 rfl rfl rfl (.pan _ []) (fun w => ?_)
  refine TC.seq ?_
  refine TC.region ?_
  refine TL.pu (.move rfl) rfl ?_
  refine TL.pu (.nilNe_t rfl) rfl ?_
  refine TL.nil ?_
  refine AQ.then_n ?_
  refine TC.cond_t rfl ?_
  refine TC.seq ?_
  refine TC.seq ?_
  refine TC.region ?_
  refine TL.pu (.move rfl) rfl ?_
  refine TL.pu (.assertOk rfl rfl) rfl ?_
  refine TL.pu (.move rfl) rfl ?_
  refine TL.pu (.extract rfl rfl) rfl ?_
  refine TL.pu (.extract rfl rfl) rfl ?_
  refine TL.alloc rfl rfl (fun b3 => ?_)
  refine TL.storeA rfl rfl rfl rfl inferInstance rfl ?_
  refine TL.pu (.assign rfl) rfl ?_
  refine TL.nil ?_
  refine AQ.then_n ?_
  refine TC.seq ?_
  refine TC.region ?_
  refine TL.pu (.move rfl) rfl ?_
  refine TL.pu (.not rfl) rfl ?_
  refine TL.nil ?_
  refine AQ.then_n ?_
  refine TC.cond_f rfl ?_
  refine TC.skip ?_
  refine AQ.then_n ?_
  refine TC.region ?_
  refine TL.pu (.build rfl rfl) rfl ?_
  refine TL.storeAll rfl rfl rfl rfl inferInstance hc ?_
  refine TL.store1 rfl rfl rfl inferInstance rfl ?_
  refine TL.nil ?_
  exact AQ.end_ Try.results19 rfl ⟨rfl, rfl, rfl⟩ (.cons inferInstance rfl (.cons inferInstance rfl (.nil _)))
end Go.Sl