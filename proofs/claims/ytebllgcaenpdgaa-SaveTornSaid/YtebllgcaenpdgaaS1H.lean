/-
  Walks of this claim's functions, printed by a program of ours off the loaded program. Holds under no condition.
-/
import Derived.Test.YtebllgcaenpdgaaS1G
set_option linter.all false
namespace Go.Sl
open Go Go.Proofs
def bitAt (n : Int) (i : Nat) : Bool := decide (n / 2 ^ i % 2 = 1)
theorem and_bit (i : Nat) (hi : i < 5) (n : Int) (h0 : 0 ≤ n) (h1 : n ≤ 31) : decide (¬ IntKind.u16.wrap ((BitVec.ofInt 16 n &&& BitVec.ofInt 16 ((2 ^ i : Nat) : Int)).toNat) = 0) = bitAt n i := by
  obtain ⟨k, rfl⟩ := Int.eq_ofNat_of_zero_le h0
  have hk : k < 32 := by omega
  have key : ∀ (k : Fin 32) (i : Fin 5), decide (¬ IntKind.u16.wrap ((BitVec.ofInt 16 ((k.val : Nat) : Int) &&& BitVec.ofInt 16 ((2 ^ i.val : Nat) : Int)).toNat) = 0) = bitAt ((k.val : Nat) : Int) i.val := by decide +kernel
  exact key ⟨k, hk⟩ ⟨i, hi⟩
def pCpu (l : List Int) : Option (Cpu × List Int) := do
  let (r0, l) ← pNum 2 l
  let (r1, l) ← pNum 2 l
  let (r2, l) ← pNum 2 l
  let (r3, l) ← pNum 2 l
  let (r4, l) ← pNum 2 l
  let (r5, l) ← pNum 2 l
  let (r6, l) ← pNum 2 l
  let (r7, l) ← pNum 2 l
  let (pc, l) ← pNum 2 l
  let (n, l) ← pNum 2 l
  if n > 31 then none
  let (w, l) ← pBool l
  some (⟨r0, r1, r2, r3, r4, r5, r6, r7, pc, bitAt n 0, bitAt n 1, bitAt n 2, bitAt n 3, bitAt n 4, w⟩, l)


set_option maxRecDepth 20000 in
set_option maxHeartbeats 4000000 in
theorem rcpu_fn (r : Nat) (e : TypeId) (b : Nat) (c : List Value) (t : TypeId) (z : Nat × Nat) (u0 : Value) (rem0 : List Int) (hR0 : Rem b c u0 rem0) :
    FnP Try.prog 20 [ptr r] [⟨r, cel [u0] e, true⟩, ⟨b, .cells c.toArray t z, false⟩] (Cpu × List Int × Value) (fun x => pCpu rem0 = some (x.1, x.2.1) ∧ Rem b c x.2.2 x.2.1) (fun x => .agg (cpuL x.1).toArray) (fun x => [⟨r, cel [x.2.2] e, true⟩]) (pCpu rem0 = none) torn := by
  refine FnE.enter Try.func20 rfl Try.ntmps20 rfl (fun w => ?_)
  refine TC.seq ?_
  refine TC.region ?_
  refine TL.alloc rfl rfl (fun b2 => ?_)
  refine TL.nil ?_
  refine AQ.then_n ?_
  refine TC.seq ?_
  refine TC.region ?_
  refine TL.alloc rfl rfl (fun b3 => ?_)
  refine TL.nil ?_
  refine AQ.then_n ?_
  refine TC.seq ?_
  refine TC.seq ?_
  refine TC.region ?_
  refine TL.pu (.move rfl) rfl ?_
  refine TL.nil ?_
  refine AQ.then_n ?_
  refine TC.block ?_
  refine TC.unroll 8 ?_
  refine TC.seq ?_
  refine TC.region ?_
  refine TL.pu (.int rfl rfl rfl) rfl ?_
  refine TL.say 7 (.bool true) rfl rfl ?_
  refine TL.nil ?_
  refine AQ.then_n ?_
  refine TC.seq ?_
  refine TC.cond_t rfl ?_
  refine TC.skip ?_
  refine AQ.then_n ?_
  refine TC.seq ?_
  refine TC.block ?_
  refine TC.seq ?_
  refine TC.region ?_
  refine TL.pu (.move rfl) rfl ?_
  refine TL.pu (.assign rfl) rfl ?_
  refine TL.nil ?_
  refine AQ.then_n ?_
  refine TC.region ?_
  refine TL.pu (.move rfl) rfl ?_
  refine TL.pu (.move rfl) rfl ?_
  refine TL.callP (rword_fn r e b c t z u0 rem0 hR0) rfl rfl rfl (.rw inferInstance (.ro inferInstance (.nil _))) rfl ?_ ?_
  · intro hn
    refine AQ.block_p ?_
    refine AQ.then_p ?_
    refine AQ.then_p ?_
    refine AQ.block_p ?_
    refine AQ.then_p ?_
    exact AQ.panic (.inr ⟨by simp [pCpu, hn], rfl, rfl⟩) (.nil _)
  rintro ⟨n1, rem1, u1⟩ ⟨hp1, hR1⟩
  dsimp only at hp1 hR1
  show TL _ _ _ _ _ _ _ ((11, vw n1) :: _) ([⟨r, cel [u1] e, true⟩] ++ _) _
  refine TL.pu (.fieldAddr rfl (m := 0) rfl) rfl ?_
  refine TL.pu (.indexAddrA rfl rfl (by decide) (by decide) (m := 0) rfl) rfl ?_
  refine TL.store1 rfl rfl rfl inferInstance rfl ?_
  refine TL.nil ?_
  refine AQ.block_n ?_
  refine AQ.then_n ?_
  refine TC.region ?_
  refine TL.pu (.int rfl rfl rfl) rfl ?_
  refine TL.say 14 (.int .i64 1) rfl rfl ?_
  refine TL.pu (.move rfl) rfl ?_
  refine TL.nil ?_
  refine AQ.next ?_
  refine TC.seq ?_
  refine TC.region ?_
  refine TL.pu (.int rfl rfl rfl) rfl ?_
  refine TL.say 7 (.bool true) rfl rfl ?_
  refine TL.nil ?_
  refine AQ.then_n ?_
  refine TC.seq ?_
  refine TC.cond_t rfl ?_
  refine TC.skip ?_
  refine AQ.then_n ?_
  refine TC.seq ?_
  refine TC.block ?_
  refine TC.seq ?_
  refine TC.region ?_
  refine TL.pu (.move rfl) rfl ?_
  refine TL.pu (.assign rfl) rfl ?_
  refine TL.nil ?_
  refine AQ.then_n ?_
  refine TC.region ?_
  refine TL.pu (.move rfl) rfl ?_
  refine TL.pu (.move rfl) rfl ?_
  refine TL.callP (rword_fn r e b c t z u1 rem1 hR1) rfl rfl rfl (.rw inferInstance (.ro inferInstance (.nil _))) rfl ?_ ?_
  · intro hn
    refine AQ.block_p ?_
    refine AQ.then_p ?_
    refine AQ.then_p ?_
    refine AQ.block_p ?_
    refine AQ.then_p ?_
    exact AQ.panic (.inr ⟨by simp [pCpu, hp1, hn], rfl, rfl⟩) (.nil _)
  rintro ⟨n2, rem2, u2⟩ ⟨hp2, hR2⟩
  dsimp only at hp2 hR2
  show TL _ _ _ _ _ _ _ ((11, vw n2) :: _) ([⟨r, cel [u2] e, true⟩] ++ _) _
  refine TL.pu (.fieldAddr rfl (m := 0) rfl) rfl ?_
  refine TL.pu (.indexAddrA rfl rfl (by decide) (by decide) (m := 1) rfl) rfl ?_
  refine TL.store1 rfl rfl rfl inferInstance rfl ?_
  refine TL.nil ?_
  refine AQ.block_n ?_
  refine AQ.then_n ?_
  refine TC.region ?_
  refine TL.pu (.int rfl rfl rfl) rfl ?_
  refine TL.say 14 (.int .i64 2) rfl rfl ?_
  refine TL.pu (.move rfl) rfl ?_
  refine TL.nil ?_
  refine AQ.next ?_
  refine TC.seq ?_
  refine TC.region ?_
  refine TL.pu (.int rfl rfl rfl) rfl ?_
  refine TL.say 7 (.bool true) rfl rfl ?_
  refine TL.nil ?_
  refine AQ.then_n ?_
  refine TC.seq ?_
  refine TC.cond_t rfl ?_
  refine TC.skip ?_
  refine AQ.then_n ?_
  refine TC.seq ?_
  refine TC.block ?_
  refine TC.seq ?_
  refine TC.region ?_
  refine TL.pu (.move rfl) rfl ?_
  refine TL.pu (.assign rfl) rfl ?_
  refine TL.nil ?_
  refine AQ.then_n ?_
  refine TC.region ?_
  refine TL.pu (.move rfl) rfl ?_
  refine TL.pu (.move rfl) rfl ?_
  refine TL.callP (rword_fn r e b c t z u2 rem2 hR2) rfl rfl rfl (.rw inferInstance (.ro inferInstance (.nil _))) rfl ?_ ?_
  · intro hn
    refine AQ.block_p ?_
    refine AQ.then_p ?_
    refine AQ.then_p ?_
    refine AQ.block_p ?_
    refine AQ.then_p ?_
    exact AQ.panic (.inr ⟨by simp [pCpu, hp1, hp2, hn], rfl, rfl⟩) (.nil _)
  rintro ⟨n3, rem3, u3⟩ ⟨hp3, hR3⟩
  dsimp only at hp3 hR3
  show TL _ _ _ _ _ _ _ ((11, vw n3) :: _) ([⟨r, cel [u3] e, true⟩] ++ _) _
  refine TL.pu (.fieldAddr rfl (m := 0) rfl) rfl ?_
  refine TL.pu (.indexAddrA rfl rfl (by decide) (by decide) (m := 2) rfl) rfl ?_
  refine TL.store1 rfl rfl rfl inferInstance rfl ?_
  refine TL.nil ?_
  refine AQ.block_n ?_
  refine AQ.then_n ?_
  refine TC.region ?_
  refine TL.pu (.int rfl rfl rfl) rfl ?_
  refine TL.say 14 (.int .i64 3) rfl rfl ?_
  refine TL.pu (.move rfl) rfl ?_
  refine TL.nil ?_
  refine AQ.next ?_
  refine TC.seq ?_
  refine TC.region ?_
  refine TL.pu (.int rfl rfl rfl) rfl ?_
  refine TL.say 7 (.bool true) rfl rfl ?_
  refine TL.nil ?_
  refine AQ.then_n ?_
  refine TC.seq ?_
  refine TC.cond_t rfl ?_
  refine TC.skip ?_
  refine AQ.then_n ?_
  refine TC.seq ?_
  refine TC.block ?_
  refine TC.seq ?_
  refine TC.region ?_
  refine TL.pu (.move rfl) rfl ?_
  refine TL.pu (.assign rfl) rfl ?_
  refine TL.nil ?_
  refine AQ.then_n ?_
  refine TC.region ?_
  refine TL.pu (.move rfl) rfl ?_
  refine TL.pu (.move rfl) rfl ?_
  refine TL.callP (rword_fn r e b c t z u3 rem3 hR3) rfl rfl rfl (.rw inferInstance (.ro inferInstance (.nil _))) rfl ?_ ?_
  · intro hn
    refine AQ.block_p ?_
    refine AQ.then_p ?_
    refine AQ.then_p ?_
    refine AQ.block_p ?_
    refine AQ.then_p ?_
    exact AQ.panic (.inr ⟨by simp [pCpu, hp1, hp2, hp3, hn], rfl, rfl⟩) (.nil _)
  rintro ⟨n4, rem4, u4⟩ ⟨hp4, hR4⟩
  dsimp only at hp4 hR4
  show TL _ _ _ _ _ _ _ ((11, vw n4) :: _) ([⟨r, cel [u4] e, true⟩] ++ _) _
  refine TL.pu (.fieldAddr rfl (m := 0) rfl) rfl ?_
  refine TL.pu (.indexAddrA rfl rfl (by decide) (by decide) (m := 3) rfl) rfl ?_
  refine TL.store1 rfl rfl rfl inferInstance rfl ?_
  refine TL.nil ?_
  refine AQ.block_n ?_
  refine AQ.then_n ?_
  refine TC.region ?_
  refine TL.pu (.int rfl rfl rfl) rfl ?_
  refine TL.say 14 (.int .i64 4) rfl rfl ?_
  refine TL.pu (.move rfl) rfl ?_
  refine TL.nil ?_
  refine AQ.next ?_
  refine TC.seq ?_
  refine TC.region ?_
  refine TL.pu (.int rfl rfl rfl) rfl ?_
  refine TL.say 7 (.bool true) rfl rfl ?_
  refine TL.nil ?_
  refine AQ.then_n ?_
  refine TC.seq ?_
  refine TC.cond_t rfl ?_
  refine TC.skip ?_
  refine AQ.then_n ?_
  refine TC.seq ?_
  refine TC.block ?_
  refine TC.seq ?_
  refine TC.region ?_
  refine TL.pu (.move rfl) rfl ?_
  refine TL.pu (.assign rfl) rfl ?_
  refine TL.nil ?_
  refine AQ.then_n ?_
  refine TC.region ?_
  refine TL.pu (.move rfl) rfl ?_
  refine TL.pu (.move rfl) rfl ?_
  refine TL.callP (rword_fn r e b c t z u4 rem4 hR4) rfl rfl rfl (.rw inferInstance (.ro inferInstance (.nil _))) rfl ?_ ?_
  · intro hn
    refine AQ.block_p ?_
    refine AQ.then_p ?_
    refine AQ.then_p ?_
    refine AQ.block_p ?_
    refine AQ.then_p ?_
    exact AQ.panic (.inr ⟨by simp [pCpu, hp1, hp2, hp3, hp4, hn], rfl, rfl⟩) (.nil _)
  rintro ⟨n5, rem5, u5⟩ ⟨hp5, hR5⟩
  dsimp only at hp5 hR5
  show TL _ _ _ _ _ _ _ ((11, vw n5) :: _) ([⟨r, cel [u5] e, true⟩] ++ _) _
  refine TL.pu (.fieldAddr rfl (m := 0) rfl) rfl ?_
  refine TL.pu (.indexAddrA rfl rfl (by decide) (by decide) (m := 4) rfl) rfl ?_
  refine TL.store1 rfl rfl rfl inferInstance rfl ?_
  refine TL.nil ?_
  refine AQ.block_n ?_
  refine AQ.then_n ?_
  refine TC.region ?_
  refine TL.pu (.int rfl rfl rfl) rfl ?_
  refine TL.say 14 (.int .i64 5) rfl rfl ?_
  refine TL.pu (.move rfl) rfl ?_
  refine TL.nil ?_
  refine AQ.next ?_
  refine TC.seq ?_
  refine TC.region ?_
  refine TL.pu (.int rfl rfl rfl) rfl ?_
  refine TL.say 7 (.bool true) rfl rfl ?_
  refine TL.nil ?_
  refine AQ.then_n ?_
  refine TC.seq ?_
  refine TC.cond_t rfl ?_
  refine TC.skip ?_
  refine AQ.then_n ?_
  refine TC.seq ?_
  refine TC.block ?_
  refine TC.seq ?_
  refine TC.region ?_
  refine TL.pu (.move rfl) rfl ?_
  refine TL.pu (.assign rfl) rfl ?_
  refine TL.nil ?_
  refine AQ.then_n ?_
  refine TC.region ?_
  refine TL.pu (.move rfl) rfl ?_
  refine TL.pu (.move rfl) rfl ?_
  refine TL.callP (rword_fn r e b c t z u5 rem5 hR5) rfl rfl rfl (.rw inferInstance (.ro inferInstance (.nil _))) rfl ?_ ?_
  · intro hn
    refine AQ.block_p ?_
    refine AQ.then_p ?_
    refine AQ.then_p ?_
    refine AQ.block_p ?_
    refine AQ.then_p ?_
    exact AQ.panic (.inr ⟨by simp [pCpu, hp1, hp2, hp3, hp4, hp5, hn], rfl, rfl⟩) (.nil _)
  rintro ⟨n6, rem6, u6⟩ ⟨hp6, hR6⟩
  dsimp only at hp6 hR6
  show TL _ _ _ _ _ _ _ ((11, vw n6) :: _) ([⟨r, cel [u6] e, true⟩] ++ _) _
  refine TL.pu (.fieldAddr rfl (m := 0) rfl) rfl ?_
  refine TL.pu (.indexAddrA rfl rfl (by decide) (by decide) (m := 5) rfl) rfl ?_
  refine TL.store1 rfl rfl rfl inferInstance rfl ?_
  refine TL.nil ?_
  refine AQ.block_n ?_
  refine AQ.then_n ?_
  refine TC.region ?_
  refine TL.pu (.int rfl rfl rfl) rfl ?_
  refine TL.say 14 (.int .i64 6) rfl rfl ?_
  refine TL.pu (.move rfl) rfl ?_
  refine TL.nil ?_
  refine AQ.next ?_
  refine TC.seq ?_
  refine TC.region ?_
  refine TL.pu (.int rfl rfl rfl) rfl ?_
  refine TL.say 7 (.bool true) rfl rfl ?_
  refine TL.nil ?_
  refine AQ.then_n ?_
  refine TC.seq ?_
  refine TC.cond_t rfl ?_
  refine TC.skip ?_
  refine AQ.then_n ?_
  refine TC.seq ?_
  refine TC.block ?_
  refine TC.seq ?_
  refine TC.region ?_
  refine TL.pu (.move rfl) rfl ?_
  refine TL.pu (.assign rfl) rfl ?_
  refine TL.nil ?_
  refine AQ.then_n ?_
  refine TC.region ?_
  refine TL.pu (.move rfl) rfl ?_
  refine TL.pu (.move rfl) rfl ?_
  refine TL.callP (rword_fn r e b c t z u6 rem6 hR6) rfl rfl rfl (.rw inferInstance (.ro inferInstance (.nil _))) rfl ?_ ?_
  · intro hn
    refine AQ.block_p ?_
    refine AQ.then_p ?_
    refine AQ.then_p ?_
    refine AQ.block_p ?_
    refine AQ.then_p ?_
    exact AQ.panic (.inr ⟨by simp [pCpu, hp1, hp2, hp3, hp4, hp5, hp6, hn], rfl, rfl⟩) (.nil _)
  rintro ⟨n7, rem7, u7⟩ ⟨hp7, hR7⟩
  dsimp only at hp7 hR7
  show TL _ _ _ _ _ _ _ ((11, vw n7) :: _) ([⟨r, cel [u7] e, true⟩] ++ _) _
  refine TL.pu (.fieldAddr rfl (m := 0) rfl) rfl ?_
  refine TL.pu (.indexAddrA rfl rfl (by decide) (by decide) (m := 6) rfl) rfl ?_
  refine TL.store1 rfl rfl rfl inferInstance rfl ?_
  refine TL.nil ?_
  refine AQ.block_n ?_
  refine AQ.then_n ?_
  refine TC.region ?_
  refine TL.pu (.int rfl rfl rfl) rfl ?_
  refine TL.say 14 (.int .i64 7) rfl rfl ?_
  refine TL.pu (.move rfl) rfl ?_
  refine TL.nil ?_
  refine AQ.next ?_
  refine TC.seq ?_
  refine TC.region ?_
  refine TL.pu (.int rfl rfl rfl) rfl ?_
  refine TL.say 7 (.bool true) rfl rfl ?_
  refine TL.nil ?_
  refine AQ.then_n ?_
  refine TC.seq ?_
  refine TC.cond_t rfl ?_
  refine TC.skip ?_
  refine AQ.then_n ?_
  refine TC.seq ?_
  refine TC.block ?_
  refine TC.seq ?_
  refine TC.region ?_
  refine TL.pu (.move rfl) rfl ?_
  refine TL.pu (.assign rfl) rfl ?_
  refine TL.nil ?_
  refine AQ.then_n ?_
  refine TC.region ?_
  refine TL.pu (.move rfl) rfl ?_
  refine TL.pu (.move rfl) rfl ?_
  refine TL.callP (rword_fn r e b c t z u7 rem7 hR7) rfl rfl rfl (.rw inferInstance (.ro inferInstance (.nil _))) rfl ?_ ?_
  · intro hn
    refine AQ.block_p ?_
    refine AQ.then_p ?_
    refine AQ.then_p ?_
    refine AQ.block_p ?_
    refine AQ.then_p ?_
    exact AQ.panic (.inr ⟨by simp [pCpu, hp1, hp2, hp3, hp4, hp5, hp6, hp7, hn], rfl, rfl⟩) (.nil _)
  rintro ⟨n8, rem8, u8⟩ ⟨hp8, hR8⟩
  dsimp only at hp8 hR8
  show TL _ _ _ _ _ _ _ ((11, vw n8) :: _) ([⟨r, cel [u8] e, true⟩] ++ _) _
  refine TL.pu (.fieldAddr rfl (m := 0) rfl) rfl ?_
  refine TL.pu (.indexAddrA rfl rfl (by decide) (by decide) (m := 7) rfl) rfl ?_
  refine TL.store1 rfl rfl rfl inferInstance rfl ?_
  refine TL.nil ?_
  refine AQ.block_n ?_
  refine AQ.then_n ?_
  refine TC.region ?_
  refine TL.pu (.int rfl rfl rfl) rfl ?_
  refine TL.say 14 (.int .i64 8) rfl rfl ?_
  refine TL.pu (.move rfl) rfl ?_
  refine TL.nil ?_
  refine AQ.next ?_
  refine TC.seq ?_
  refine TC.region ?_
  refine TL.pu (.int rfl rfl rfl) rfl ?_
  refine TL.say 7 (.bool false) rfl rfl ?_
  refine TL.nil ?_
  refine AQ.then_n ?_
  refine TC.seq ?_
  refine TC.cond_f rfl ?_
  refine TC.exit ?_
  refine AQ.then_x ?_
  refine AQ.then_x ?_
  refine AQ.block_x ?_
  refine AQ.then_n ?_
  refine TC.seq ?_
  refine TC.region ?_
  refine TL.pu (.move rfl) rfl ?_
  refine TL.callP (rword_fn r e b c t z u8 rem8 hR8) rfl rfl rfl (.rw inferInstance (.ro inferInstance (.nil _))) rfl ?_ ?_
  · intro hn
    refine AQ.then_p ?_
    exact AQ.panic (.inr ⟨by simp [pCpu, hp1, hp2, hp3, hp4, hp5, hp6, hp7, hp8, hn], rfl, rfl⟩) (.nil _)
  rintro ⟨n9, rem9, u9⟩ ⟨hp9, hR9⟩
  dsimp only at hp9 hR9
  show TL _ _ _ _ _ _ _ ((16, vw n9) :: _) ([⟨r, cel [u9] e, true⟩] ++ _) _
  refine TL.pu (.fieldAddr rfl (m := 8) rfl) rfl ?_
  refine TL.store1 rfl rfl rfl inferInstance rfl ?_
  refine TL.nil ?_
  refine AQ.then_n ?_
  refine TC.seq ?_
  refine TC.region ?_
  refine TL.pu (.move rfl) rfl ?_
  refine TL.callP (rword_fn r e b c t z u9 rem9 hR9) rfl rfl rfl (.rw inferInstance (.ro inferInstance (.nil _))) rfl ?_ ?_
  · intro hn
    refine AQ.then_p ?_
    exact AQ.panic (.inr ⟨by simp [pCpu, hp1, hp2, hp3, hp4, hp5, hp6, hp7, hp8, hp9, hn], rfl, rfl⟩) (.nil _)
  rintro ⟨n10, rem10, u10⟩ ⟨hp10, hR10⟩
  dsimp only at hp10 hR10
  show TL _ _ _ _ _ _ _ ((19, vw n10) :: _) ([⟨r, cel [u10] e, true⟩] ++ _) _
  refine TL.pu (.assign rfl) rfl ?_
  refine TL.nil ?_
  refine AQ.then_n ?_
  refine TC.seq ?_
  refine TC.seq ?_
  refine TC.region ?_
  refine TL.pu (.move rfl) rfl ?_
  refine TL.pu (.int rfl rfl rfl) rfl ?_
  refine TL.nil ?_
  refine AQ.then_n ?_
  refine TC.condd rfl (fun q1 => ?_) (fun q1 => ?_)
  · skip
    refine TC.region ?_
    refine TL.pu (.build rfl rfl) rfl ?_
    refine TL.pu (.iface rfl rfl) rfl ?_
    refine TL.panic rfl ?_
    refine AQ.then_p ?_
    exact AQ.panic (.inr ⟨by simp [pCpu, hp1, hp2, hp3, hp4, hp5, hp6, hp7, hp8, hp9, hp10, q1], rfl, rfl⟩) (.nil _)
  refine TC.skip ?_
  refine AQ.then_n ?_
  refine TC.seq ?_
  refine TC.region ?_
  have hn10 : 0 ≤ n10 := (pNum_bound hR9.range hp10).1
  refine TL.pu (.move rfl) rfl ?_
  refine TL.pu (.int rfl rfl rfl) rfl ?_
  refine TL.pu (.int rfl rfl rfl) rfl ?_
  refine TL.say 26 (vt (bitAt n10 0)) rfl (congrArg Value.bool (and_bit 0 (by decide) n10 hn10 (Int.not_lt.1 q1))) ?_
  refine TL.pu (.move rfl) rfl ?_
  refine TL.pu (.int rfl rfl rfl) rfl ?_
  refine TL.pu (.int rfl rfl rfl) rfl ?_
  refine TL.say 29 (vt (bitAt n10 1)) rfl (congrArg Value.bool (and_bit 1 (by decide) n10 hn10 (Int.not_lt.1 q1))) ?_
  refine TL.pu (.move rfl) rfl ?_
  refine TL.pu (.int rfl rfl rfl) rfl ?_
  refine TL.pu (.int rfl rfl rfl) rfl ?_
  refine TL.say 32 (vt (bitAt n10 2)) rfl (congrArg Value.bool (and_bit 2 (by decide) n10 hn10 (Int.not_lt.1 q1))) ?_
  refine TL.pu (.move rfl) rfl ?_
  refine TL.pu (.int rfl rfl rfl) rfl ?_
  refine TL.pu (.int rfl rfl rfl) rfl ?_
  refine TL.say 35 (vt (bitAt n10 3)) rfl (congrArg Value.bool (and_bit 3 (by decide) n10 hn10 (Int.not_lt.1 q1))) ?_
  refine TL.pu (.move rfl) rfl ?_
  refine TL.pu (.int rfl rfl rfl) rfl ?_
  refine TL.pu (.int rfl rfl rfl) rfl ?_
  refine TL.say 38 (vt (bitAt n10 4)) rfl (congrArg Value.bool (and_bit 4 (by decide) n10 hn10 (Int.not_lt.1 q1))) ?_
  refine TL.pu (.fieldAddr rfl (m := 9) rfl) rfl ?_
  refine TL.store1 rfl rfl rfl inferInstance rfl ?_
  refine TL.pu (.fieldAddr rfl (m := 10) rfl) rfl ?_
  refine TL.store1 rfl rfl rfl inferInstance rfl ?_
  refine TL.pu (.fieldAddr rfl (m := 11) rfl) rfl ?_
  refine TL.store1 rfl rfl rfl inferInstance rfl ?_
  refine TL.pu (.fieldAddr rfl (m := 12) rfl) rfl ?_
  refine TL.store1 rfl rfl rfl inferInstance rfl ?_
  refine TL.pu (.fieldAddr rfl (m := 13) rfl) rfl ?_
  refine TL.store1 rfl rfl rfl inferInstance rfl ?_
  refine TL.nil ?_
  refine AQ.then_n ?_
  refine TC.seq ?_
  refine TC.region ?_
  refine TL.pu (.move rfl) rfl ?_
  refine TL.callP (rbool_fn r e b c t z u10 rem10 hR10) rfl rfl rfl (.rw inferInstance (.ro inferInstance (.nil _))) rfl ?_ ?_
  · intro hn
    refine AQ.then_p ?_
    exact AQ.panic (.inr ⟨by simp [pCpu, hp1, hp2, hp3, hp4, hp5, hp6, hp7, hp8, hp9, hp10, q1, hn], rfl, rfl⟩) (.nil _)
  rintro ⟨n11, rem11, u11⟩ ⟨hp11, hR11⟩
  dsimp only at hp11 hR11
  show TL _ _ _ _ _ _ _ ((45, vt n11) :: _) ([⟨r, cel [u11] e, true⟩] ++ _) _
  refine TL.pu (.fieldAddr rfl (m := 14) rfl) rfl ?_
  refine TL.store1 rfl rfl rfl inferInstance rfl ?_
  refine TL.nil ?_
  refine AQ.then_n ?_
  refine TC.seq ?_
  refine TC.region ?_
  refine TL.rd (.loadAll rfl inferInstance rfl) rfl ?_
  refine TL.storeA rfl rfl rfl rfl inferInstance rfl ?_
  refine TL.nil ?_
  refine AQ.then_n ?_
  refine TC.ret ?_
  refine AQ.retV Try.results20 (.cellA rfl inferInstance rfl .nil) (.inl ⟨(⟨n1, n2, n3, n4, n5, n6, n7, n8, n9, bitAt n10 0, bitAt n10 1, bitAt n10 2, bitAt n10 3, bitAt n10 4, n11⟩, rem11, u11), ⟨by simp [pCpu, hp1, hp2, hp3, hp4, hp5, hp6, hp7, hp8, hp9, hp10, q1, hp11], hR11⟩, rfl, rfl⟩) (.cons inferInstance rfl (.nil _))
end Go.Sl