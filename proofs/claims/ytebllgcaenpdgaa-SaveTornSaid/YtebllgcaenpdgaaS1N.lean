/-
  Walks of this claim's functions, printed by a program of ours off the loaded program. Holds under no condition.
-/
import Derived.Test.YtebllgcaenpdgaaS1M
set_option linter.all false
namespace Go.Sl
open Go Go.Proofs


def startW (y : List Int) : Int := romB y 0 * 256 + romB y 1
theorem busword_fn (m : Mach) (t : List Value) (b : Nat) (e : TypeId) (y0 : List Int) (n0 : Nat) (sg0 : HS) (R0 : Ro 1 m.s0 n0 (bys y0) sg0) (hy0 : ∀ x ∈ y0, 0 ≤ x ∧ x < 256) : FnD Try.prog 32 [.agg (busV b).toArray, vw 0] (⟨b, cel (machT m t) e, false⟩ :: sg0) (vw (startW y0)) [] := by
  refine FnE.enter Try.func32 rfl Try.ntmps32 rfl (fun w => ?_)
  refine TC.seq ?_
  refine TC.region ?_
  refine TL.box rfl rfl rfl (fun b2 => ?_)
  refine TL.pu (.assign rfl) rfl ?_
  refine TL.nil ?_
  refine AQ.then_n ?_
  refine TC.seq ?_
  refine TC.draws [⟨b2, cel (busV b) 94, true⟩] (fun i => false) (.cons inferInstance rfl (.nil _)) ?_
  refine AL.pu 0 rfl (.fieldAddr rfl (m := 0) rfl) rfl (by decide +kernel) (by decide +kernel) (by decide +kernel) (by decide +kernel) rfl ?_
  refine AL.rd 1 rfl (.load1 rfl inferInstance rfl) rfl (by decide +kernel) (by decide +kernel) (by decide +kernel) (by decide +kernel) rfl ?_
  refine AL.pu 2 rfl (.move rfl) rfl (by decide +kernel) (by decide +kernel) (by decide +kernel) (by decide +kernel) rfl ?_
  refine AL.pu 4 rfl (.fieldAddr rfl (m := 0) rfl) rfl (by decide +kernel) (by decide +kernel) (by decide +kernel) (by decide +kernel) rfl ?_
  refine AL.rd 5 rfl (.load1 rfl inferInstance rfl) rfl (by decide +kernel) (by decide +kernel) (by decide +kernel) (by decide +kernel) rfl ?_
  refine AL.pu 6 rfl (.move rfl) rfl (by decide +kernel) (by decide +kernel) (by decide +kernel) (by decide +kernel) rfl ?_
  refine AL.pu 7 rfl (.int rfl rfl rfl) rfl (by decide +kernel) (by decide +kernel) (by decide +kernel) (by decide +kernel) rfl ?_
  refine AL.one 3 rfl (by decide +kernel) ?_
  refine TL.callD (mainGet0_fn m t b e y0 n0 sg0 R0) rfl rfl rfl (.ro inferInstance (.lastro inferInstance R0.ro)) rfl ?_
  refine TL.nil ?_
  refine AQ.al (.cons inferInstance rfl (.nil _)) ?_
  refine AL.one 8 rfl (by decide +kernel) ?_
  refine TL.callD (mainGet1_fn m t b e y0 n0 sg0 R0) rfl rfl rfl (.ro inferInstance (.lastro inferInstance R0.ro)) rfl ?_
  refine TL.nil ?_
  refine AQ.al (.cons inferInstance rfl (.nil _)) ?_
  refine AL.one 9 rfl (by decide +kernel) ?_
  refine TL.callD (wordOf_fn _ _ (romB_in hy0 0) (romB_in hy0 1)) rfl rfl rfl (.nil _) rfl ?_
  refine TL.nil ?_
  refine AQ.al (.cons inferInstance rfl (.nil _)) ?_
  refine AL.pu 10 rfl (.assign rfl) rfl (by decide +kernel) (by decide +kernel) (by decide +kernel) (by decide +kernel) rfl ?_
  refine AL.fin (by decide +kernel) ?_
  refine AQ.then_n ?_
  refine TC.ret ?_
  exact AQ.ret Try.results32 rfl ⟨rfl, rfl⟩ (.nil _)

theorem start_fn (m : Mach) (t : List Value) (b : Nat) (e : TypeId) (y0 : List Int) (n0 : Nat) (sg0 : HS) (R0 : Ro 1 m.s0 n0 (bys y0) sg0) (hy0 : ∀ x ∈ y0, 0 ≤ x ∧ x < 256) : FnD Try.prog 30 [.agg (busV b).toArray] (⟨b, cel (machT m t) e, false⟩ :: sg0) (.agg (cpuL { cpuZ with pc := startW y0 }).toArray) [] := by
  refine FnE.enter Try.func30 rfl Try.ntmps30 rfl (fun w => ?_)
  refine TC.seq ?_
  refine TC.region ?_
  refine TL.box rfl rfl rfl (fun b1 => ?_)
  refine TL.alloc rfl rfl (fun b2 => ?_)
  refine TL.nil ?_
  refine AQ.then_n ?_
  refine TC.seq ?_
  refine TC.region ?_
  refine TL.rd (.loadAll rfl inferInstance rfl) rfl ?_
  refine TL.callD (busword_fn m t b e y0 n0 sg0 R0 hy0) rfl rfl rfl (.ro inferInstance (.lastro inferInstance R0.ro)) rfl ?_
  refine TL.pu (.build rfl rfl) rfl ?_
  refine TL.storeA rfl rfl rfl rfl inferInstance rfl ?_
  refine TL.nil ?_
  refine AQ.then_n ?_
  refine TC.ret ?_
  exact AQ.retV Try.results30 (.cellA rfl inferInstance rfl .nil) ⟨rfl, rfl⟩ (.nil _)

theorem boxMain_fn (b : Nat) : FnD Try.prog 31 [ptr b] [] (.agg (busV b).toArray) [] := by
  refine FnE.enter Try.func31 rfl Try.ntmps31 rfl (fun w => ?_)
  refine TC.seq ?_
  refine TC.region ?_
  refine TL.alloc rfl rfl (fun b2 => ?_)
  refine TL.nil ?_
  refine AQ.then_n ?_
  refine TC.seq ?_
  refine TC.region ?_
  refine TL.pu (.move rfl) rfl ?_
  refine TL.pu (.func rfl rfl) rfl ?_
  refine TL.pu (.move rfl) rfl ?_
  refine TL.pu (.func rfl rfl) rfl ?_
  refine TL.pu (.build rfl rfl) rfl ?_
  refine TL.storeA rfl rfl rfl rfl inferInstance rfl ?_
  refine TL.nil ?_
  refine AQ.then_n ?_
  refine TC.ret ?_
  exact AQ.retV Try.results31 (.cellA rfl inferInstance rfl .nil) ⟨rfl, rfl⟩ (.nil _)
end Go.Sl