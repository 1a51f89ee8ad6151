/-
  Walks of this claim's functions, printed by a program of ours off the loaded program. Holds under no condition.
-/
import Derived.Test.YtebllgcaenpdgaaS1D
set_option linter.all false
namespace Go.Sl
open Go Go.Proofs
structure Voice.Ok (v : Voice) : Prop where
  (period : 0 ≤ v.period ∧ v.period < 65536) (count : 0 ≤ v.count ∧ v.count < 65536) (loud : 0 ≤ v.loud ∧ v.loud < 256) (noise : 0 ≤ v.noise ∧ v.noise < 65536)
/-- Each number fits its kind. -/
structure Mach.Ok (m : Mach) : Prop where
  (main : m.main.Ok) (aux : m.aux.Ok)
  (d0 : 0 ≤ m.d0 ∧ m.d0 < 256) (h0 : 0 ≤ m.h0 ∧ m.h0 < 256) (d1 : 0 ≤ m.d1 ∧ m.d1 < 256) (h1 : 0 ≤ m.h1 ∧ m.h1 < 256)
  (reload : 0 ≤ m.reload ∧ m.reload < 65536) (count : 0 ≤ m.count ∧ m.count < 65536)
  (v0 : m.v0.Ok) (v1 : m.v1.Ok) (v2 : m.v2.Ok)
  (from_ : 0 ≤ m.from_ ∧ m.from_ < 65536) (to_ : 0 ≤ m.to_ ∧ m.to_ < 65536) (mail0 : 0 ≤ m.mail0 ∧ m.mail0 < 256) (mail1 : 0 ≤ m.mail1 ∧ m.mail1 < 256)
def padB (d : Int) (l : Bool) (h : Int) : List Int := numB d 1 ++ (numB h 1 ++ boolsB [l])
def voiceB (v : Voice) : List Int := wordsB [v.period, v.count, v.noise] ++ (numB v.loud 1 ++ boolsB [v.high])
def rowB (n : Nat) (y : List Int) : List Int := numB n 2 ++ y
/-- A machine's bytes. -/
def machB (m : Mach) (n0 n1 n2 n3 n4 : Nat) (y0 y1 y2 y3 y4 : List Int) : List Int :=
  [77, 65, 82, 81] ++ (cpuB m.main ++ (cpuB m.aux ++ (rowB n0 y0 ++ (rowB n1 y1 ++ (rowB n2 y2 ++ (rowB n3 y3 ++ (rowB n4 y4 ++ (padB m.d0 m.l0 m.h0 ++ (padB m.d1 m.l1 m.h1 ++
  (wordsB [m.reload, m.count] ++ (boolsB [m.on, m.rings] ++ (voiceB m.v0 ++ (voiceB m.v1 ++ (voiceB m.v2 ++ (numB m.wait 1 ++ (numB m.line 1 ++ (numB m.at_ 1 ++ (numB m.frame 4 ++ (boolsB [m.brings] ++
  (wordsB [m.from_, m.to_] ++ (boolsB [m.granted, m.held, m.rung] ++ (numB m.mail0 1 ++ (numB m.mail1 1 ++ (numB m.clock 4 ++ (numB m.mready 4 ++ numB m.aready 4)))))))))))))))))))))))))
theorem checkN_ok {m : Mach} {n0 n1 n2 n3 n4 : Nat} (h : checkN m n0 n1 n2 n3 n4 = 0) : n0 ≤ 1024 ∧ n1 ≤ 1024 ∧ n2 = 128 ∧ n3 = 64 ∧ n4 = 256 ∧ ¬ waitBad m.wait ∧ ¬ beamBad m.line m.at_ m.frame ∧ 0 ≤ m.clock ∧ m.clock ≤ 200000 ∧ soon m m.mready ∧ soon m m.aready := by
  unfold checkN at h
  by_cases c1 : n0 > 1024 ∨ n1 > 1024
  · rw [if_pos c1] at h; omega
  rw [if_neg c1] at h
  by_cases c2 : n2 ≠ 128 ∨ n3 ≠ 64 ∨ n4 ≠ 256
  · rw [if_pos c2] at h; omega
  rw [if_neg c2] at h
  by_cases c3 : waitBad m.wait
  · rw [if_pos c3] at h; omega
  rw [if_neg c3] at h
  by_cases c4 : beamBad m.line m.at_ m.frame
  · rw [if_pos c4] at h; omega
  rw [if_neg c4] at h
  by_cases c5 : m.clock < 0 ∨ m.clock > 200000 ∨ ¬ soon m m.mready ∨ ¬ soon m m.aready
  · rw [if_pos c5] at h; omega
  exact ⟨by omega, by omega, by omega, by omega, by omega, c3, c4, by omega, by omega, by omega, by omega⟩
theorem cells_isl {v : Value} {n : Nat} (h : IsSl v n) : v.cells = #[v] := by obtain ⟨a, cap, rfl⟩ := h; rfl
theorem ret2 (a b : Value) : Ending.returned (tup [a, b]) = Ending.returned (.tuple #[a, b]) := rfl


set_option maxRecDepth 20000 in
theorem Bytes_fn (m : Mach) (n0 n1 n2 n3 n4 : Nat) (y0 y1 y2 y3 y4 : List Int) (sg0 sg1 sg2 sg3 sg4 : HS) (R0 : Ro 1 m.s0 n0 (bys y0) sg0) (R1 : Ro 1 m.s1 n1 (bys y1) sg1) (R2 : Ro 1 m.s2 n2 (bys y2) sg2) (R3 : Ro 1 m.s3 n3 (bys y3) sg3) (R4 : Ro 1 m.s4 n4 (bys y4) sg4) (hm : m.Ok) :
    FnX Try.prog 5 [.agg (machL m).toArray] (sg0 ++ (sg1 ++ (sg2 ++ (sg3 ++ sg4)))) (Value × HS) (fun p => if checkN m n0 n1 n2 n3 n4 = 0 then Buf 5 1 p.1 (bys (machB m n0 n1 n2 n3 n4 y0 y1 y2 y3 y4)) p.2 else p = (.slice none 0 0, []))
      (fun p => .tuple #[p.1, vi (checkN m n0 n1 n2 n3 n4)]) (fun p => p.2) := by
  have hl0 : y0.length = n0 := by simpa [bys_length] using R0.length
  have hl1 : y1.length = n1 := by simpa [bys_length] using R1.length
  have hl2 : y2.length = n2 := by simpa [bys_length] using R2.length
  have hl3 : y3.length = n3 := by simpa [bys_length] using R3.length
  have hl4 : y4.length = n4 := by simpa [bys_length] using R4.length
  have c0 := cells_isl R0.isl
  haveI : CellsN m.s0 [m.s0] := ⟨by rw [c0]⟩
  have c1 := cells_isl R1.isl
  haveI : CellsN m.s1 [m.s1] := ⟨by rw [c1]⟩
  have c2 := cells_isl R2.isl
  haveI : CellsN m.s2 [m.s2] := ⟨by rw [c2]⟩
  have c3 := cells_isl R3.isl
  haveI : CellsN m.s3 [m.s3] := ⟨by rw [c3]⟩
  have c4 := cells_isl R4.isl
  haveI : CellsN m.s4 [m.s4] := ⟨by rw [c4]⟩
  refine FnE.enter Try.func5 rfl Try.ntmps5 rfl (fun w => ?_)
  refine TC.seq ?_
  refine TC.region ?_
  refine TL.box rfl rfl rfl (fun b1 => ?_)
  refine TL.pu (.assign rfl) rfl ?_
  refine TL.pu (.assign rfl) rfl ?_
  refine TL.nil ?_
  refine AQ.then_n ?_
  refine TC.seq ?_
  refine TC.seq ?_
  refine TC.region ?_
  refine TL.rd (.loadAll rfl inferInstance rfl) rfl ?_
  refine TL.callD (check_fn m n0 n1 n2 n3 n4 R0.isl R1.isl R2.isl R3.isl R4.isl) rfl rfl rfl (.nil _) rfl ?_
  refine TL.pu (.assign rfl) rfl ?_
  refine TL.nil ?_
  refine AQ.then_n ?_
  refine TC.seq ?_
  refine TC.region ?_
  refine TL.pu (.move rfl) rfl ?_
  refine TL.pu (.int rfl rfl rfl) rfl ?_
  refine TL.nil ?_
  refine AQ.then_n ?_
  refine TC.condd rfl (fun q1 => ?_) (fun q1 => ?_)
  · skip
    refine TC.seq ?_
    refine TC.region ?_
    refine TL.pu (.move rfl) rfl ?_
    refine TL.pu (.assign rfl) rfl ?_
    refine TL.pu (.assign rfl) rfl ?_
    refine TL.nil ?_
    refine AQ.then_n ?_
    refine TC.ret ?_
    refine AQ.then_r ?_
    refine AQ.ret Try.results5 rfl ⟨(.slice none 0 0, []), ?_, ret2 _ _, rfl⟩ (.nil _)
    dsimp only
    rw [if_neg q1]
  refine TC.skip ?_
  refine AQ.then_n ?_
  refine TC.seq ?_
  refine TC.region ?_
  have hck : checkN m n0 n1 n2 n3 n4 = 0 := Decidable.not_not.1 q1
  obtain ⟨k0, k1, k2, k3, k4, _, _, k5, k6, k7, k8⟩ := checkN_ok hck
  obtain ⟨hd0, hh0, hd1, hh1, hre, hco, hfr, hto, hm0, hm1⟩ := (⟨hm.d0, hm.h0, hm.d1, hm.h1, hm.reload, hm.count, hm.from_, hm.to_, hm.mail0, hm.mail1⟩ : _ ∧ _ ∧ _ ∧ _ ∧ _ ∧ _ ∧ _ ∧ _ ∧ _ ∧ _)
  obtain ⟨hv0p, hv0c, hv0l, hv0n⟩ := hm.v0
  obtain ⟨hv1p, hv1c, hv1l, hv1n⟩ := hm.v1
  obtain ⟨hv2p, hv2c, hv2l, hv2n⟩ := hm.v2
  refine TL.buildSlice rfl rfl rfl rfl rfl (fun b19 => ?_)
  refine TL.mark rfl inferInstance rfl ?_
  refine TL.pu (.build rfl rfl) rfl ?_
  refine TL.box rfl rfl rfl (fun b22 => ?_)
  have hB0 : Buf 5 1 (.slice (some ⟨b19, 0, none⟩) 4 4) (bys [77, 65, 82, 81]) [⟨b19, .cells [vb 77, vb 65, vb 82, vb 81].toArray 5 (4, 5), true⟩] := .own rfl rfl rfl (Nat.le_refl _) rfl (fun k hk h => by simp at hk; omega)
  generalize hv0 : Value.slice (some ⟨b19, 0, none⟩) 4 4 = v0 at hB0
  obtain ⟨hb0, hhb0⟩ : ∃ x, x = [Ent.mk b19 (.cells [vb 77, vb 65, vb 82, vb 81].toArray 5 (4, 5)) true] := ⟨_, rfl⟩
  rw [← hhb0] at hB0
  refine TL.re (⟨b22, cel [v0] 59, true⟩ :: hb0 ++ (⟨b1, cel (machL m) 41, true⟩ :: (sg0 ++ (sg1 ++ (sg2 ++ (sg3 ++ sg4)))))) (by subst hv0; subst hhb0; exact .cons inferInstance rfl (.cons inferInstance rfl (.cons inferInstance rfl (.seg inferInstance (.seg inferInstance (.seg inferInstance (.seg inferInstance (.last inferInstance)))))))) ?_
  refine TL.pu (.assign rfl) rfl ?_
  refine TL.nil ?_
  refine AQ.then_n ?_
  refine TC.seq ?_
  refine TC.region ?_
  refine TL.pu (.move rfl) rfl ?_
  refine TL.pu (.fieldAddr rfl (m := 0) rfl) rfl ?_
  refine TL.rd (.loadA rfl inferInstance rfl) rfl ?_
  refine TL.callX (wcpu_fn _ _ v0 _ hb0 m.main hB0 (by simp only [List.length_append, numB_length, wordsB_length, boolsB_length, cpuB_length, List.length_cons, List.length_nil]; omega) hm.main) rfl rfl rfl (.rw inferInstance (.last inferInstance hB0.own')) rfl (fun ⟨v1, hb1⟩ hB1 => ?_)
  refine TL.nil ?_
  refine AQ.then_n ?_
  refine TC.seq ?_
  refine TC.region ?_
  refine TL.pu (.move rfl) rfl ?_
  refine TL.pu (.fieldAddr rfl (m := 15) rfl) rfl ?_
  refine TL.rd (.loadA rfl inferInstance rfl) rfl ?_
  refine TL.callX (wcpu_fn _ _ v1 _ hb1 m.aux hB1 (by simp only [List.length_append, numB_length, wordsB_length, boolsB_length, cpuB_length, List.length_cons, List.length_nil]; omega) hm.aux) rfl rfl rfl (.rw inferInstance (.last inferInstance hB1.own')) rfl (fun ⟨v2, hb2⟩ hB2 => ?_)
  refine TL.nil ?_
  refine AQ.then_n ?_
  refine TC.seq ?_
  refine TC.seq ?_
  refine TC.region ?_
  refine TL.pu (.fieldAddr rfl (m := 30) rfl) rfl ?_
  refine TL.rd (.load1 rfl inferInstance rfl) rfl ?_
  refine TL.pu (.fieldAddr rfl (m := 31) rfl) rfl ?_
  refine TL.rd (.load1 rfl inferInstance rfl) rfl ?_
  refine TL.pu (.fieldAddr rfl (m := 32) rfl) rfl ?_
  refine TL.rd (.load1 rfl inferInstance rfl) rfl ?_
  refine TL.pu (.fieldAddr rfl (m := 33) rfl) rfl ?_
  refine TL.rd (.load1 rfl inferInstance rfl) rfl ?_
  refine TL.pu (.fieldAddr rfl (m := 34) rfl) rfl ?_
  refine TL.rd (.load1 rfl inferInstance rfl) rfl ?_
  refine TL.pu (.build rfl (by simp only [okL, c0, c1, c2, c3, c4]; rfl)) rfl ?_
  refine TL.pu (.move rfl) rfl ?_
  refine TL.nil ?_
  refine AQ.then_n ?_
  refine TC.block ?_
  refine TC.unroll 5 ?_
  refine TC.seq ?_
  refine TC.region ?_
  refine TL.pu (.int rfl rfl rfl) rfl ?_
  refine TL.say 43 (.bool true) rfl rfl ?_
  refine TL.nil ?_
  refine AQ.then_n ?_
  refine TC.seq ?_
  refine TC.cond_t rfl ?_
  refine TC.skip ?_
  refine AQ.then_n ?_
  refine TC.seq ?_
  refine TC.block ?_
  refine TC.seq ?_
  refine TC.region ?_
  refine TL.pu (.index1 rfl rfl (by decide) (by decide) rfl) rfl ?_
  refine TL.pu (.assign rfl) rfl ?_
  refine TL.nil ?_
  refine AQ.then_n ?_
  refine TC.region ?_
  refine TL.pu (.move rfl) rfl ?_
  refine TL.pu (.move rfl) rfl ?_
  refine TL.callX (bytes_fn _ _ v2 _ hb2 m.s0 n0 y0 sg0 hB2 R0 (by simp only [List.length_append, numB_length, wordsB_length, boolsB_length, cpuB_length, List.length_cons, List.length_nil]; omega)) rfl rfl rfl (.rw inferInstance (.seg inferInstance hB2.own' (.lastro inferInstance R0.ro))) rfl (fun ⟨v3, hb3⟩ hB3 => ?_)
  refine TL.nil ?_
  refine AQ.block_n ?_
  refine AQ.then_n ?_
  refine TC.region ?_
  refine TL.pu (.int rfl rfl rfl) rfl ?_
  refine TL.say 48 (.int .i64 1) rfl rfl ?_
  refine TL.pu (.move rfl) rfl ?_
  refine TL.nil ?_
  refine AQ.next ?_
  refine TC.seq ?_
  refine TC.region ?_
  refine TL.pu (.int rfl rfl rfl) rfl ?_
  refine TL.say 43 (.bool true) rfl rfl ?_
  refine TL.nil ?_
  refine AQ.then_n ?_
  refine TC.seq ?_
  refine TC.cond_t rfl ?_
  refine TC.skip ?_
  refine AQ.then_n ?_
  refine TC.seq ?_
  refine TC.block ?_
  refine TC.seq ?_
  refine TC.region ?_
  refine TL.pu (.index1 rfl rfl (by decide) (by decide) rfl) rfl ?_
  refine TL.pu (.assign rfl) rfl ?_
  refine TL.nil ?_
  refine AQ.then_n ?_
  refine TC.region ?_
  refine TL.pu (.move rfl) rfl ?_
  refine TL.pu (.move rfl) rfl ?_
  refine TL.callX (bytes_fn _ _ v3 _ hb3 m.s1 n1 y1 sg1 hB3 R1 (by simp only [List.length_append, numB_length, wordsB_length, boolsB_length, cpuB_length, List.length_cons, List.length_nil]; omega)) rfl rfl rfl (.rw inferInstance (.seg inferInstance hB3.own' (.lastro inferInstance R1.ro))) rfl (fun ⟨v4, hb4⟩ hB4 => ?_)
  refine TL.nil ?_
  refine AQ.block_n ?_
  refine AQ.then_n ?_
  refine TC.region ?_
  refine TL.pu (.int rfl rfl rfl) rfl ?_
  refine TL.say 48 (.int .i64 2) rfl rfl ?_
  refine TL.pu (.move rfl) rfl ?_
  refine TL.nil ?_
  refine AQ.next ?_
  refine TC.seq ?_
  refine TC.region ?_
  refine TL.pu (.int rfl rfl rfl) rfl ?_
  refine TL.say 43 (.bool true) rfl rfl ?_
  refine TL.nil ?_
  refine AQ.then_n ?_
  refine TC.seq ?_
  refine TC.cond_t rfl ?_
  refine TC.skip ?_
  refine AQ.then_n ?_
  refine TC.seq ?_
  refine TC.block ?_
  refine TC.seq ?_
  refine TC.region ?_
  refine TL.pu (.index1 rfl rfl (by decide) (by decide) rfl) rfl ?_
  refine TL.pu (.assign rfl) rfl ?_
  refine TL.nil ?_
  refine AQ.then_n ?_
  refine TC.region ?_
  refine TL.pu (.move rfl) rfl ?_
  refine TL.pu (.move rfl) rfl ?_
  refine TL.callX (bytes_fn _ _ v4 _ hb4 m.s2 n2 y2 sg2 hB4 R2 (by simp only [List.length_append, numB_length, wordsB_length, boolsB_length, cpuB_length, List.length_cons, List.length_nil]; omega)) rfl rfl rfl (.rw inferInstance (.seg inferInstance hB4.own' (.lastro inferInstance R2.ro))) rfl (fun ⟨v5, hb5⟩ hB5 => ?_)
  refine TL.nil ?_
  refine AQ.block_n ?_
  refine AQ.then_n ?_
  refine TC.region ?_
  refine TL.pu (.int rfl rfl rfl) rfl ?_
  refine TL.say 48 (.int .i64 3) rfl rfl ?_
  refine TL.pu (.move rfl) rfl ?_
  refine TL.nil ?_
  refine AQ.next ?_
  refine TC.seq ?_
  refine TC.region ?_
  refine TL.pu (.int rfl rfl rfl) rfl ?_
  refine TL.say 43 (.bool true) rfl rfl ?_
  refine TL.nil ?_
  refine AQ.then_n ?_
  refine TC.seq ?_
  refine TC.cond_t rfl ?_
  refine TC.skip ?_
  refine AQ.then_n ?_
  refine TC.seq ?_
  refine TC.block ?_
  refine TC.seq ?_
  refine TC.region ?_
  refine TL.pu (.index1 rfl rfl (by decide) (by decide) rfl) rfl ?_
  refine TL.pu (.assign rfl) rfl ?_
  refine TL.nil ?_
  refine AQ.then_n ?_
  refine TC.region ?_
  refine TL.pu (.move rfl) rfl ?_
  refine TL.pu (.move rfl) rfl ?_
  refine TL.callX (bytes_fn _ _ v5 _ hb5 m.s3 n3 y3 sg3 hB5 R3 (by simp only [List.length_append, numB_length, wordsB_length, boolsB_length, cpuB_length, List.length_cons, List.length_nil]; omega)) rfl rfl rfl (.rw inferInstance (.seg inferInstance hB5.own' (.lastro inferInstance R3.ro))) rfl (fun ⟨v6, hb6⟩ hB6 => ?_)
  refine TL.nil ?_
  refine AQ.block_n ?_
  refine AQ.then_n ?_
  refine TC.region ?_
  refine TL.pu (.int rfl rfl rfl) rfl ?_
  refine TL.say 48 (.int .i64 4) rfl rfl ?_
  refine TL.pu (.move rfl) rfl ?_
  refine TL.nil ?_
  refine AQ.next ?_
  refine TC.seq ?_
  refine TC.region ?_
  refine TL.pu (.int rfl rfl rfl) rfl ?_
  refine TL.say 43 (.bool true) rfl rfl ?_
  refine TL.nil ?_
  refine AQ.then_n ?_
  refine TC.seq ?_
  refine TC.cond_t rfl ?_
  refine TC.skip ?_
  refine AQ.then_n ?_
  refine TC.seq ?_
  refine TC.block ?_
  refine TC.seq ?_
  refine TC.region ?_
  refine TL.pu (.index1 rfl rfl (by decide) (by decide) rfl) rfl ?_
  refine TL.pu (.assign rfl) rfl ?_
  refine TL.nil ?_
  refine AQ.then_n ?_
  refine TC.region ?_
  refine TL.pu (.move rfl) rfl ?_
  refine TL.pu (.move rfl) rfl ?_
  refine TL.callX (bytes_fn _ _ v6 _ hb6 m.s4 n4 y4 sg4 hB6 R4 (by simp only [List.length_append, numB_length, wordsB_length, boolsB_length, cpuB_length, List.length_cons, List.length_nil]; omega)) rfl rfl rfl (.rw inferInstance (.seg inferInstance hB6.own' (.lastro inferInstance R4.ro))) rfl (fun ⟨v7, hb7⟩ hB7 => ?_)
  refine TL.nil ?_
  refine AQ.block_n ?_
  refine AQ.then_n ?_
  refine TC.region ?_
  refine TL.pu (.int rfl rfl rfl) rfl ?_
  refine TL.say 48 (.int .i64 5) rfl rfl ?_
  refine TL.pu (.move rfl) rfl ?_
  refine TL.nil ?_
  refine AQ.next ?_
  refine TC.seq ?_
  refine TC.region ?_
  refine TL.pu (.int rfl rfl rfl) rfl ?_
  refine TL.say 43 (.bool false) rfl rfl ?_
  refine TL.nil ?_
  refine AQ.then_n ?_
  refine TC.seq ?_
  refine TC.cond_f rfl ?_
  refine TC.exit ?_
  refine AQ.then_x ?_
  refine AQ.then_x ?_
  refine AQ.block_x ?_
  refine AQ.then_n ?_
  refine TC.seq ?_
  refine TC.seq ?_
  refine TC.region ?_
  refine TL.pu (.fieldAddr rfl (m := 35) rfl) rfl ?_
  refine TL.rd (.loadA rfl inferInstance rfl) rfl ?_
  refine TL.pu (.move rfl) rfl ?_
  refine TL.nil ?_
  refine AQ.then_n ?_
  refine TC.block ?_
  refine TC.unroll 2 ?_
  refine TC.seq ?_
  refine TC.region ?_
  refine TL.pu (.int rfl rfl rfl) rfl ?_
  refine TL.say 52 (.bool true) rfl rfl ?_
  refine TL.nil ?_
  refine AQ.then_n ?_
  refine TC.seq ?_
  refine TC.cond_t rfl ?_
  refine TC.skip ?_
  refine AQ.then_n ?_
  refine TC.seq ?_
  refine TC.block ?_
  refine TC.seq ?_
  refine TC.region ?_
  refine TL.pu (.index rfl rfl (by decide) (by decide) (m := 0) rfl) rfl ?_
  refine TL.alloc rfl rfl (fun b9 => ?_)
  refine TL.storeA rfl rfl rfl rfl inferInstance rfl ?_
  refine TL.nil ?_
  refine AQ.then_n ?_
  refine TC.seq ?_
  refine TC.region ?_
  refine TL.pu (.move rfl) rfl ?_
  refine TL.pu (.fieldAddr rfl (m := 0) rfl) rfl ?_
  refine TL.rd (.load1 rfl inferInstance rfl) rfl ?_
  refine TL.pu (.conv rfl) rfl ?_
  refine TL.say 57 (vi _) rfl (congrArg (Value.int .i64) (IntWalk.i64_in _ (by omega))) ?_
  refine TL.callX (number_fn _ _ v7 _ hb7 _ 1 hB7 (by omega) (by simp only [List.length_append, numB_length, wordsB_length, boolsB_length, cpuB_length, List.length_cons, List.length_nil]; omega)) rfl rfl rfl (.rw inferInstance (.last inferInstance hB7.own')) rfl (fun ⟨v8, hb8⟩ hB8 => ?_)
  refine TL.nil ?_
  refine AQ.then_n ?_
  refine TC.seq ?_
  refine TC.region ?_
  refine TL.pu (.move rfl) rfl ?_
  refine TL.pu (.fieldAddr rfl (m := 2) rfl) rfl ?_
  refine TL.rd (.load1 rfl inferInstance rfl) rfl ?_
  refine TL.pu (.conv rfl) rfl ?_
  refine TL.say 62 (vi _) rfl (congrArg (Value.int .i64) (IntWalk.i64_in _ (by omega))) ?_
  refine TL.callX (number_fn _ _ v8 _ hb8 _ 1 hB8 (by omega) (by simp only [List.length_append, numB_length, wordsB_length, boolsB_length, cpuB_length, List.length_cons, List.length_nil]; omega)) rfl rfl rfl (.rw inferInstance (.last inferInstance hB8.own')) rfl (fun ⟨v9, hb9⟩ hB9 => ?_)
  refine TL.nil ?_
  refine AQ.then_n ?_
  refine TC.region ?_
  refine TL.pu (.move rfl) rfl ?_
  refine TL.pu (.fieldAddr rfl (m := 1) rfl) rfl ?_
  refine TL.rd (.load1 rfl inferInstance rfl) rfl ?_
  refine TL.buildSlice rfl rfl rfl rfl rfl (fun b67 => ?_)
  refine TL.callX (bools_fn _ _ v9 _ hb9 _ 1 [m.l0] [⟨b67, cel _ 4, false⟩] hB9 (.row rfl (Nat.le_refl _) rfl (Nat.le_refl _)) (by simp only [List.length_append, numB_length, wordsB_length, boolsB_length, cpuB_length, List.length_cons, List.length_nil]; omega)) rfl rfl rfl (.rw inferInstance (.seg inferInstance hB9.own' (.ro inferInstance (.nil _)))) rfl (fun ⟨v10, hb10⟩ hB10 => ?_)
  refine TL.nil ?_
  refine AQ.block_n ?_
  refine AQ.then_n ?_
  refine TC.region ?_
  refine TL.pu (.int rfl rfl rfl) rfl ?_
  refine TL.say 69 (.int .i64 1) rfl rfl ?_
  refine TL.pu (.move rfl) rfl ?_
  refine TL.nil ?_
  refine AQ.next ?_
  refine TC.seq ?_
  refine TC.region ?_
  refine TL.pu (.int rfl rfl rfl) rfl ?_
  refine TL.say 52 (.bool true) rfl rfl ?_
  refine TL.nil ?_
  refine AQ.then_n ?_
  refine TC.seq ?_
  refine TC.cond_t rfl ?_
  refine TC.skip ?_
  refine AQ.then_n ?_
  refine TC.seq ?_
  refine TC.block ?_
  refine TC.seq ?_
  refine TC.region ?_
  refine TL.pu (.index rfl rfl (by decide) (by decide) (m := 3) rfl) rfl ?_
  refine TL.alloc rfl rfl (fun b9 => ?_)
  refine TL.storeA rfl rfl rfl rfl inferInstance rfl ?_
  refine TL.nil ?_
  refine AQ.then_n ?_
  refine TC.seq ?_
  refine TC.region ?_
  refine TL.pu (.move rfl) rfl ?_
  refine TL.pu (.fieldAddr rfl (m := 0) rfl) rfl ?_
  refine TL.rd (.load1 rfl inferInstance rfl) rfl ?_
  refine TL.pu (.conv rfl) rfl ?_
  refine TL.say 57 (vi _) rfl (congrArg (Value.int .i64) (IntWalk.i64_in _ (by omega))) ?_
  refine TL.callX (number_fn _ _ v10 _ hb10 _ 1 hB10 (by omega) (by simp only [List.length_append, numB_length, wordsB_length, boolsB_length, cpuB_length, List.length_cons, List.length_nil]; omega)) rfl rfl rfl (.rw inferInstance (.last inferInstance hB10.own')) rfl (fun ⟨v11, hb11⟩ hB11 => ?_)
  refine TL.nil ?_
  refine AQ.then_n ?_
  refine TC.seq ?_
  refine TC.region ?_
  refine TL.pu (.move rfl) rfl ?_
  refine TL.pu (.fieldAddr rfl (m := 2) rfl) rfl ?_
  refine TL.rd (.load1 rfl inferInstance rfl) rfl ?_
  refine TL.pu (.conv rfl) rfl ?_
  refine TL.say 62 (vi _) rfl (congrArg (Value.int .i64) (IntWalk.i64_in _ (by omega))) ?_
  refine TL.callX (number_fn _ _ v11 _ hb11 _ 1 hB11 (by omega) (by simp only [List.length_append, numB_length, wordsB_length, boolsB_length, cpuB_length, List.length_cons, List.length_nil]; omega)) rfl rfl rfl (.rw inferInstance (.last inferInstance hB11.own')) rfl (fun ⟨v12, hb12⟩ hB12 => ?_)
  refine TL.nil ?_
  refine AQ.then_n ?_
  refine TC.region ?_
  refine TL.pu (.move rfl) rfl ?_
  refine TL.pu (.fieldAddr rfl (m := 1) rfl) rfl ?_
  refine TL.rd (.load1 rfl inferInstance rfl) rfl ?_
  refine TL.buildSlice rfl rfl rfl rfl rfl (fun b67 => ?_)
  refine TL.callX (bools_fn _ _ v12 _ hb12 _ 1 [m.l1] [⟨b67, cel _ 4, false⟩] hB12 (.row rfl (Nat.le_refl _) rfl (Nat.le_refl _)) (by simp only [List.length_append, numB_length, wordsB_length, boolsB_length, cpuB_length, List.length_cons, List.length_nil]; omega)) rfl rfl rfl (.rw inferInstance (.seg inferInstance hB12.own' (.ro inferInstance (.nil _)))) rfl (fun ⟨v13, hb13⟩ hB13 => ?_)
  refine TL.nil ?_
  refine AQ.block_n ?_
  refine AQ.then_n ?_
  refine TC.region ?_
  refine TL.pu (.int rfl rfl rfl) rfl ?_
  refine TL.say 69 (.int .i64 2) rfl rfl ?_
  refine TL.pu (.move rfl) rfl ?_
  refine TL.nil ?_
  refine AQ.next ?_
  refine TC.seq ?_
  refine TC.region ?_
  refine TL.pu (.int rfl rfl rfl) rfl ?_
  refine TL.say 52 (.bool false) rfl rfl ?_
  refine TL.nil ?_
  refine AQ.then_n ?_
  refine TC.seq ?_
  refine TC.cond_f rfl ?_
  refine TC.exit ?_
  refine AQ.then_x ?_
  refine AQ.then_x ?_
  refine AQ.block_x ?_
  refine AQ.then_n ?_
  refine TC.seq ?_
  refine TC.region ?_
  refine TL.pu (.move rfl) rfl ?_
  refine TL.pu (.fieldAddr rfl (m := 41) rfl) rfl ?_
  refine TL.pu (.fieldAddr rfl (m := 41) rfl) rfl ?_
  refine TL.rd (.load1 rfl inferInstance rfl) rfl ?_
  refine TL.pu (.fieldAddr rfl (m := 41) rfl) rfl ?_
  refine TL.pu (.fieldAddr rfl (m := 42) rfl) rfl ?_
  refine TL.rd (.load1 rfl inferInstance rfl) rfl ?_
  refine TL.buildSlice rfl rfl rfl rfl rfl (fun b77 => ?_)
  refine TL.callX (words_fn _ _ v13 _ hb13 _ 2 [m.reload, m.count] [⟨b77, cel _ 22, false⟩] hB13 (.row rfl (Nat.le_refl _) rfl (Nat.le_refl _)) (by simp only [List.length_append, numB_length, wordsB_length, boolsB_length, cpuB_length, List.length_cons, List.length_nil]; omega) (by intro x hx; simp only [List.mem_cons, List.not_mem_nil, or_false] at hx; rcases hx with rfl | rfl <;> omega)) rfl rfl rfl (.rw inferInstance (.seg inferInstance hB13.own' (.ro inferInstance (.nil _)))) rfl (fun ⟨v14, hb14⟩ hB14 => ?_)
  refine TL.nil ?_
  refine AQ.then_n ?_
  refine TC.seq ?_
  refine TC.region ?_
  refine TL.pu (.move rfl) rfl ?_
  refine TL.pu (.fieldAddr rfl (m := 41) rfl) rfl ?_
  refine TL.pu (.fieldAddr rfl (m := 43) rfl) rfl ?_
  refine TL.rd (.load1 rfl inferInstance rfl) rfl ?_
  refine TL.pu (.fieldAddr rfl (m := 41) rfl) rfl ?_
  refine TL.pu (.fieldAddr rfl (m := 44) rfl) rfl ?_
  refine TL.rd (.load1 rfl inferInstance rfl) rfl ?_
  refine TL.buildSlice rfl rfl rfl rfl rfl (fun b86 => ?_)
  refine TL.callX (bools_fn _ _ v14 _ hb14 _ 2 [m.on, m.rings] [⟨b86, cel _ 4, false⟩] hB14 (.row rfl (Nat.le_refl _) rfl (Nat.le_refl _)) (by simp only [List.length_append, numB_length, wordsB_length, boolsB_length, cpuB_length, List.length_cons, List.length_nil]; omega)) rfl rfl rfl (.rw inferInstance (.seg inferInstance hB14.own' (.ro inferInstance (.nil _)))) rfl (fun ⟨v15, hb15⟩ hB15 => ?_)
  refine TL.nil ?_
  refine AQ.then_n ?_
  refine TC.seq ?_
  refine TC.seq ?_
  refine TC.region ?_
  refine TL.pu (.fieldAddr rfl (m := 45) rfl) rfl ?_
  refine TL.pu (.fieldAddr rfl (m := 45) rfl) rfl ?_
  refine TL.rd (.loadA rfl inferInstance rfl) rfl ?_
  refine TL.pu (.move rfl) rfl ?_
  refine TL.nil ?_
  refine AQ.then_n ?_
  refine TC.block ?_
  refine TC.unroll 3 ?_
  refine TC.seq ?_
  refine TC.region ?_
  refine TL.pu (.int rfl rfl rfl) rfl ?_
  refine TL.say 92 (.bool true) rfl rfl ?_
  refine TL.nil ?_
  refine AQ.then_n ?_
  refine TC.seq ?_
  refine TC.cond_t rfl ?_
  refine TC.skip ?_
  refine AQ.then_n ?_
  refine TC.seq ?_
  refine TC.block ?_
  refine TC.seq ?_
  refine TC.region ?_
  refine TL.pu (.index rfl rfl (by decide) (by decide) (m := 0) rfl) rfl ?_
  refine TL.alloc rfl rfl (fun b11 => ?_)
  refine TL.storeA rfl rfl rfl rfl inferInstance rfl ?_
  refine TL.nil ?_
  refine AQ.then_n ?_
  refine TC.seq ?_
  refine TC.region ?_
  refine TL.pu (.move rfl) rfl ?_
  refine TL.pu (.fieldAddr rfl (m := 0) rfl) rfl ?_
  refine TL.rd (.load1 rfl inferInstance rfl) rfl ?_
  refine TL.pu (.fieldAddr rfl (m := 1) rfl) rfl ?_
  refine TL.rd (.load1 rfl inferInstance rfl) rfl ?_
  refine TL.pu (.fieldAddr rfl (m := 4) rfl) rfl ?_
  refine TL.rd (.load1 rfl inferInstance rfl) rfl ?_
  refine TL.buildSlice rfl rfl rfl rfl rfl (fun b101 => ?_)
  refine TL.callX (words_fn _ _ v15 _ hb15 _ 3 [m.v0.period, m.v0.count, m.v0.noise] [⟨b101, cel _ 22, false⟩] hB15 (.row rfl (Nat.le_refl _) rfl (Nat.le_refl _)) (by simp only [List.length_append, numB_length, wordsB_length, boolsB_length, cpuB_length, List.length_cons, List.length_nil]; omega) (by intro x hx; simp only [List.mem_cons, List.not_mem_nil, or_false] at hx; rcases hx with rfl | rfl | rfl <;> omega)) rfl rfl rfl (.rw inferInstance (.seg inferInstance hB15.own' (.ro inferInstance (.nil _)))) rfl (fun ⟨v16, hb16⟩ hB16 => ?_)
  refine TL.nil ?_
  refine AQ.then_n ?_
  refine TC.seq ?_
  refine TC.region ?_
  refine TL.pu (.move rfl) rfl ?_
  refine TL.pu (.fieldAddr rfl (m := 2) rfl) rfl ?_
  refine TL.rd (.load1 rfl inferInstance rfl) rfl ?_
  refine TL.pu (.conv rfl) rfl ?_
  refine TL.say 106 (vi _) rfl (congrArg (Value.int .i64) (IntWalk.i64_in _ (by omega))) ?_
  refine TL.callX (number_fn _ _ v16 _ hb16 _ 1 hB16 (by omega) (by simp only [List.length_append, numB_length, wordsB_length, boolsB_length, cpuB_length, List.length_cons, List.length_nil]; omega)) rfl rfl rfl (.rw inferInstance (.last inferInstance hB16.own')) rfl (fun ⟨v17, hb17⟩ hB17 => ?_)
  refine TL.nil ?_
  refine AQ.then_n ?_
  refine TC.region ?_
  refine TL.pu (.move rfl) rfl ?_
  refine TL.pu (.fieldAddr rfl (m := 3) rfl) rfl ?_
  refine TL.rd (.load1 rfl inferInstance rfl) rfl ?_
  refine TL.buildSlice rfl rfl rfl rfl rfl (fun b111 => ?_)
  refine TL.callX (bools_fn _ _ v17 _ hb17 _ 1 [m.v0.high] [⟨b111, cel _ 4, false⟩] hB17 (.row rfl (Nat.le_refl _) rfl (Nat.le_refl _)) (by simp only [List.length_append, numB_length, wordsB_length, boolsB_length, cpuB_length, List.length_cons, List.length_nil]; omega)) rfl rfl rfl (.rw inferInstance (.seg inferInstance hB17.own' (.ro inferInstance (.nil _)))) rfl (fun ⟨v18, hb18⟩ hB18 => ?_)
  refine TL.nil ?_
  refine AQ.block_n ?_
  refine AQ.then_n ?_
  refine TC.region ?_
  refine TL.pu (.int rfl rfl rfl) rfl ?_
  refine TL.say 113 (.int .i64 1) rfl rfl ?_
  refine TL.pu (.move rfl) rfl ?_
  refine TL.nil ?_
  refine AQ.next ?_
  refine TC.seq ?_
  refine TC.region ?_
  refine TL.pu (.int rfl rfl rfl) rfl ?_
  refine TL.say 92 (.bool true) rfl rfl ?_
  refine TL.nil ?_
  refine AQ.then_n ?_
  refine TC.seq ?_
  refine TC.cond_t rfl ?_
  refine TC.skip ?_
  refine AQ.then_n ?_
  refine TC.seq ?_
  refine TC.block ?_
  refine TC.seq ?_
  refine TC.region ?_
  refine TL.pu (.index rfl rfl (by decide) (by decide) (m := 5) rfl) rfl ?_
  refine TL.alloc rfl rfl (fun b11 => ?_)
  refine TL.storeA rfl rfl rfl rfl inferInstance rfl ?_
  refine TL.nil ?_
  refine AQ.then_n ?_
  refine TC.seq ?_
  refine TC.region ?_
  refine TL.pu (.move rfl) rfl ?_
  refine TL.pu (.fieldAddr rfl (m := 0) rfl) rfl ?_
  refine TL.rd (.load1 rfl inferInstance rfl) rfl ?_
  refine TL.pu (.fieldAddr rfl (m := 1) rfl) rfl ?_
  refine TL.rd (.load1 rfl inferInstance rfl) rfl ?_
  refine TL.pu (.fieldAddr rfl (m := 4) rfl) rfl ?_
  refine TL.rd (.load1 rfl inferInstance rfl) rfl ?_
  refine TL.buildSlice rfl rfl rfl rfl rfl (fun b101 => ?_)
  refine TL.callX (words_fn _ _ v18 _ hb18 _ 3 [m.v1.period, m.v1.count, m.v1.noise] [⟨b101, cel _ 22, false⟩] hB18 (.row rfl (Nat.le_refl _) rfl (Nat.le_refl _)) (by simp only [List.length_append, numB_length, wordsB_length, boolsB_length, cpuB_length, List.length_cons, List.length_nil]; omega) (by intro x hx; simp only [List.mem_cons, List.not_mem_nil, or_false] at hx; rcases hx with rfl | rfl | rfl <;> omega)) rfl rfl rfl (.rw inferInstance (.seg inferInstance hB18.own' (.ro inferInstance (.nil _)))) rfl (fun ⟨v19, hb19⟩ hB19 => ?_)
  refine TL.nil ?_
  refine AQ.then_n ?_
  refine TC.seq ?_
  refine TC.region ?_
  refine TL.pu (.move rfl) rfl ?_
  refine TL.pu (.fieldAddr rfl (m := 2) rfl) rfl ?_
  refine TL.rd (.load1 rfl inferInstance rfl) rfl ?_
  refine TL.pu (.conv rfl) rfl ?_
  refine TL.say 106 (vi _) rfl (congrArg (Value.int .i64) (IntWalk.i64_in _ (by omega))) ?_
  refine TL.callX (number_fn _ _ v19 _ hb19 _ 1 hB19 (by omega) (by simp only [List.length_append, numB_length, wordsB_length, boolsB_length, cpuB_length, List.length_cons, List.length_nil]; omega)) rfl rfl rfl (.rw inferInstance (.last inferInstance hB19.own')) rfl (fun ⟨v20, hb20⟩ hB20 => ?_)
  refine TL.nil ?_
  refine AQ.then_n ?_
  refine TC.region ?_
  refine TL.pu (.move rfl) rfl ?_
  refine TL.pu (.fieldAddr rfl (m := 3) rfl) rfl ?_
  refine TL.rd (.load1 rfl inferInstance rfl) rfl ?_
  refine TL.buildSlice rfl rfl rfl rfl rfl (fun b111 => ?_)
  refine TL.callX (bools_fn _ _ v20 _ hb20 _ 1 [m.v1.high] [⟨b111, cel _ 4, false⟩] hB20 (.row rfl (Nat.le_refl _) rfl (Nat.le_refl _)) (by simp only [List.length_append, numB_length, wordsB_length, boolsB_length, cpuB_length, List.length_cons, List.length_nil]; omega)) rfl rfl rfl (.rw inferInstance (.seg inferInstance hB20.own' (.ro inferInstance (.nil _)))) rfl (fun ⟨v21, hb21⟩ hB21 => ?_)
  refine TL.nil ?_
  refine AQ.block_n ?_
  refine AQ.then_n ?_
  refine TC.region ?_
  refine TL.pu (.int rfl rfl rfl) rfl ?_
  refine TL.say 113 (.int .i64 2) rfl rfl ?_
  refine TL.pu (.move rfl) rfl ?_
  refine TL.nil ?_
  refine AQ.next ?_
  refine TC.seq ?_
  refine TC.region ?_
  refine TL.pu (.int rfl rfl rfl) rfl ?_
  refine TL.say 92 (.bool true) rfl rfl ?_
  refine TL.nil ?_
  refine AQ.then_n ?_
  refine TC.seq ?_
  refine TC.cond_t rfl ?_
  refine TC.skip ?_
  refine AQ.then_n ?_
  refine TC.seq ?_
  refine TC.block ?_
  refine TC.seq ?_
  refine TC.region ?_
  refine TL.pu (.index rfl rfl (by decide) (by decide) (m := 10) rfl) rfl ?_
  refine TL.alloc rfl rfl (fun b11 => ?_)
  refine TL.storeA rfl rfl rfl rfl inferInstance rfl ?_
  refine TL.nil ?_
  refine AQ.then_n ?_
  refine TC.seq ?_
  refine TC.region ?_
  refine TL.pu (.move rfl) rfl ?_
  refine TL.pu (.fieldAddr rfl (m := 0) rfl) rfl ?_
  refine TL.rd (.load1 rfl inferInstance rfl) rfl ?_
  refine TL.pu (.fieldAddr rfl (m := 1) rfl) rfl ?_
  refine TL.rd (.load1 rfl inferInstance rfl) rfl ?_
  refine TL.pu (.fieldAddr rfl (m := 4) rfl) rfl ?_
  refine TL.rd (.load1 rfl inferInstance rfl) rfl ?_
  refine TL.buildSlice rfl rfl rfl rfl rfl (fun b101 => ?_)
  refine TL.callX (words_fn _ _ v21 _ hb21 _ 3 [m.v2.period, m.v2.count, m.v2.noise] [⟨b101, cel _ 22, false⟩] hB21 (.row rfl (Nat.le_refl _) rfl (Nat.le_refl _)) (by simp only [List.length_append, numB_length, wordsB_length, boolsB_length, cpuB_length, List.length_cons, List.length_nil]; omega) (by intro x hx; simp only [List.mem_cons, List.not_mem_nil, or_false] at hx; rcases hx with rfl | rfl | rfl <;> omega)) rfl rfl rfl (.rw inferInstance (.seg inferInstance hB21.own' (.ro inferInstance (.nil _)))) rfl (fun ⟨v22, hb22⟩ hB22 => ?_)
  refine TL.nil ?_
  refine AQ.then_n ?_
  refine TC.seq ?_
  refine TC.region ?_
  refine TL.pu (.move rfl) rfl ?_
  refine TL.pu (.fieldAddr rfl (m := 2) rfl) rfl ?_
  refine TL.rd (.load1 rfl inferInstance rfl) rfl ?_
  refine TL.pu (.conv rfl) rfl ?_
  refine TL.say 106 (vi _) rfl (congrArg (Value.int .i64) (IntWalk.i64_in _ (by omega))) ?_
  refine TL.callX (number_fn _ _ v22 _ hb22 _ 1 hB22 (by omega) (by simp only [List.length_append, numB_length, wordsB_length, boolsB_length, cpuB_length, List.length_cons, List.length_nil]; omega)) rfl rfl rfl (.rw inferInstance (.last inferInstance hB22.own')) rfl (fun ⟨v23, hb23⟩ hB23 => ?_)
  refine TL.nil ?_
  refine AQ.then_n ?_
  refine TC.region ?_
  refine TL.pu (.move rfl) rfl ?_
  refine TL.pu (.fieldAddr rfl (m := 3) rfl) rfl ?_
  refine TL.rd (.load1 rfl inferInstance rfl) rfl ?_
  refine TL.buildSlice rfl rfl rfl rfl rfl (fun b111 => ?_)
  refine TL.callX (bools_fn _ _ v23 _ hb23 _ 1 [m.v2.high] [⟨b111, cel _ 4, false⟩] hB23 (.row rfl (Nat.le_refl _) rfl (Nat.le_refl _)) (by simp only [List.length_append, numB_length, wordsB_length, boolsB_length, cpuB_length, List.length_cons, List.length_nil]; omega)) rfl rfl rfl (.rw inferInstance (.seg inferInstance hB23.own' (.ro inferInstance (.nil _)))) rfl (fun ⟨v24, hb24⟩ hB24 => ?_)
  refine TL.nil ?_
  refine AQ.block_n ?_
  refine AQ.then_n ?_
  refine TC.region ?_
  refine TL.pu (.int rfl rfl rfl) rfl ?_
  refine TL.say 113 (.int .i64 3) rfl rfl ?_
  refine TL.pu (.move rfl) rfl ?_
  refine TL.nil ?_
  refine AQ.next ?_
  refine TC.seq ?_
  refine TC.region ?_
  refine TL.pu (.int rfl rfl rfl) rfl ?_
  refine TL.say 92 (.bool false) rfl rfl ?_
  refine TL.nil ?_
  refine AQ.then_n ?_
  refine TC.seq ?_
  refine TC.cond_f rfl ?_
  refine TC.exit ?_
  refine AQ.then_x ?_
  refine AQ.then_x ?_
  refine AQ.block_x ?_
  refine AQ.then_n ?_
  refine TC.seq ?_
  refine TC.region ?_
  refine TL.pu (.move rfl) rfl ?_
  refine TL.pu (.fieldAddr rfl (m := 45) rfl) rfl ?_
  refine TL.pu (.fieldAddr rfl (m := 60) rfl) rfl ?_
  refine TL.rd (.load1 rfl inferInstance rfl) rfl ?_
  refine TL.callX (number_fn _ _ v24 _ hb24 _ 1 hB24 (by omega) (by simp only [List.length_append, numB_length, wordsB_length, boolsB_length, cpuB_length, List.length_cons, List.length_nil]; omega)) rfl rfl rfl (.rw inferInstance (.last inferInstance hB24.own')) rfl (fun ⟨v25, hb25⟩ hB25 => ?_)
  refine TL.nil ?_
  refine AQ.then_n ?_
  refine TC.seq ?_
  refine TC.region ?_
  refine TL.pu (.move rfl) rfl ?_
  refine TL.pu (.fieldAddr rfl (m := 61) rfl) rfl ?_
  refine TL.pu (.fieldAddr rfl (m := 61) rfl) rfl ?_
  refine TL.rd (.load1 rfl inferInstance rfl) rfl ?_
  refine TL.callX (number_fn _ _ v25 _ hb25 _ 1 hB25 (by omega) (by simp only [List.length_append, numB_length, wordsB_length, boolsB_length, cpuB_length, List.length_cons, List.length_nil]; omega)) rfl rfl rfl (.rw inferInstance (.last inferInstance hB25.own')) rfl (fun ⟨v26, hb26⟩ hB26 => ?_)
  refine TL.nil ?_
  refine AQ.then_n ?_
  refine TC.seq ?_
  refine TC.region ?_
  refine TL.pu (.move rfl) rfl ?_
  refine TL.pu (.fieldAddr rfl (m := 61) rfl) rfl ?_
  refine TL.pu (.fieldAddr rfl (m := 62) rfl) rfl ?_
  refine TL.rd (.load1 rfl inferInstance rfl) rfl ?_
  refine TL.callX (number_fn _ _ v26 _ hb26 _ 1 hB26 (by omega) (by simp only [List.length_append, numB_length, wordsB_length, boolsB_length, cpuB_length, List.length_cons, List.length_nil]; omega)) rfl rfl rfl (.rw inferInstance (.last inferInstance hB26.own')) rfl (fun ⟨v27, hb27⟩ hB27 => ?_)
  refine TL.nil ?_
  refine AQ.then_n ?_
  refine TC.seq ?_
  refine TC.region ?_
  refine TL.pu (.move rfl) rfl ?_
  refine TL.pu (.fieldAddr rfl (m := 61) rfl) rfl ?_
  refine TL.pu (.fieldAddr rfl (m := 64) rfl) rfl ?_
  refine TL.rd (.load1 rfl inferInstance rfl) rfl ?_
  refine TL.callX (number_fn _ _ v27 _ hb27 _ 4 hB27 (by omega) (by simp only [List.length_append, numB_length, wordsB_length, boolsB_length, cpuB_length, List.length_cons, List.length_nil]; omega)) rfl rfl rfl (.rw inferInstance (.last inferInstance hB27.own')) rfl (fun ⟨v28, hb28⟩ hB28 => ?_)
  refine TL.nil ?_
  refine AQ.then_n ?_
  refine TC.seq ?_
  refine TC.region ?_
  refine TL.pu (.move rfl) rfl ?_
  refine TL.pu (.fieldAddr rfl (m := 61) rfl) rfl ?_
  refine TL.pu (.fieldAddr rfl (m := 63) rfl) rfl ?_
  refine TL.rd (.load1 rfl inferInstance rfl) rfl ?_
  refine TL.buildSlice rfl rfl rfl rfl rfl (fun b138 => ?_)
  refine TL.callX (bools_fn _ _ v28 _ hb28 _ 1 [m.brings] [⟨b138, cel _ 4, false⟩] hB28 (.row rfl (Nat.le_refl _) rfl (Nat.le_refl _)) (by simp only [List.length_append, numB_length, wordsB_length, boolsB_length, cpuB_length, List.length_cons, List.length_nil]; omega)) rfl rfl rfl (.rw inferInstance (.seg inferInstance hB28.own' (.ro inferInstance (.nil _)))) rfl (fun ⟨v29, hb29⟩ hB29 => ?_)
  refine TL.nil ?_
  refine AQ.then_n ?_
  refine TC.seq ?_
  refine TC.region ?_
  refine TL.pu (.move rfl) rfl ?_
  refine TL.pu (.fieldAddr rfl (m := 65) rfl) rfl ?_
  refine TL.rd (.load1 rfl inferInstance rfl) rfl ?_
  refine TL.pu (.fieldAddr rfl (m := 66) rfl) rfl ?_
  refine TL.rd (.load1 rfl inferInstance rfl) rfl ?_
  refine TL.buildSlice rfl rfl rfl rfl rfl (fun b145 => ?_)
  refine TL.callX (words_fn _ _ v29 _ hb29 _ 2 [m.from_, m.to_] [⟨b145, cel _ 22, false⟩] hB29 (.row rfl (Nat.le_refl _) rfl (Nat.le_refl _)) (by simp only [List.length_append, numB_length, wordsB_length, boolsB_length, cpuB_length, List.length_cons, List.length_nil]; omega) (by intro x hx; simp only [List.mem_cons, List.not_mem_nil, or_false] at hx; rcases hx with rfl | rfl <;> omega)) rfl rfl rfl (.rw inferInstance (.seg inferInstance hB29.own' (.ro inferInstance (.nil _)))) rfl (fun ⟨v30, hb30⟩ hB30 => ?_)
  refine TL.nil ?_
  refine AQ.then_n ?_
  refine TC.seq ?_
  refine TC.region ?_
  refine TL.pu (.move rfl) rfl ?_
  refine TL.pu (.fieldAddr rfl (m := 67) rfl) rfl ?_
  refine TL.rd (.load1 rfl inferInstance rfl) rfl ?_
  refine TL.pu (.fieldAddr rfl (m := 68) rfl) rfl ?_
  refine TL.rd (.load1 rfl inferInstance rfl) rfl ?_
  refine TL.pu (.fieldAddr rfl (m := 71) rfl) rfl ?_
  refine TL.rd (.load1 rfl inferInstance rfl) rfl ?_
  refine TL.buildSlice rfl rfl rfl rfl rfl (fun b154 => ?_)
  refine TL.callX (bools_fn _ _ v30 _ hb30 _ 3 [m.granted, m.held, m.rung] [⟨b154, cel _ 4, false⟩] hB30 (.row rfl (Nat.le_refl _) rfl (Nat.le_refl _)) (by simp only [List.length_append, numB_length, wordsB_length, boolsB_length, cpuB_length, List.length_cons, List.length_nil]; omega)) rfl rfl rfl (.rw inferInstance (.seg inferInstance hB30.own' (.ro inferInstance (.nil _)))) rfl (fun ⟨v31, hb31⟩ hB31 => ?_)
  refine TL.nil ?_
  refine AQ.then_n ?_
  refine TC.seq ?_
  refine TC.region ?_
  refine TL.pu (.move rfl) rfl ?_
  refine TL.pu (.fieldAddr rfl (m := 69) rfl) rfl ?_
  refine TL.pu (.indexAddrA rfl rfl (by decide) (by decide) (m := 69) rfl) rfl ?_
  refine TL.rd (.load1 rfl inferInstance rfl) rfl ?_
  refine TL.pu (.conv rfl) rfl ?_
  refine TL.say 160 (vi _) rfl (congrArg (Value.int .i64) (IntWalk.i64_in _ (by omega))) ?_
  refine TL.callX (number_fn _ _ v31 _ hb31 _ 1 hB31 (by omega) (by simp only [List.length_append, numB_length, wordsB_length, boolsB_length, cpuB_length, List.length_cons, List.length_nil]; omega)) rfl rfl rfl (.rw inferInstance (.last inferInstance hB31.own')) rfl (fun ⟨v32, hb32⟩ hB32 => ?_)
  refine TL.nil ?_
  refine AQ.then_n ?_
  refine TC.seq ?_
  refine TC.region ?_
  refine TL.pu (.move rfl) rfl ?_
  refine TL.pu (.fieldAddr rfl (m := 69) rfl) rfl ?_
  refine TL.pu (.indexAddrA rfl rfl (by decide) (by decide) (m := 70) rfl) rfl ?_
  refine TL.rd (.load1 rfl inferInstance rfl) rfl ?_
  refine TL.pu (.conv rfl) rfl ?_
  refine TL.say 166 (vi _) rfl (congrArg (Value.int .i64) (IntWalk.i64_in _ (by omega))) ?_
  refine TL.callX (number_fn _ _ v32 _ hb32 _ 1 hB32 (by omega) (by simp only [List.length_append, numB_length, wordsB_length, boolsB_length, cpuB_length, List.length_cons, List.length_nil]; omega)) rfl rfl rfl (.rw inferInstance (.last inferInstance hB32.own')) rfl (fun ⟨v33, hb33⟩ hB33 => ?_)
  refine TL.nil ?_
  refine AQ.then_n ?_
  refine TC.seq ?_
  refine TC.seq ?_
  refine TC.region ?_
  refine TL.pu (.fieldAddr rfl (m := 72) rfl) rfl ?_
  refine TL.rd (.load1 rfl inferInstance rfl) rfl ?_
  refine TL.pu (.fieldAddr rfl (m := 73) rfl) rfl ?_
  refine TL.rd (.load1 rfl inferInstance rfl) rfl ?_
  refine TL.pu (.fieldAddr rfl (m := 74) rfl) rfl ?_
  refine TL.rd (.load1 rfl inferInstance rfl) rfl ?_
  refine TL.pu (.build rfl rfl) rfl ?_
  refine TL.pu (.move rfl) rfl ?_
  refine TL.nil ?_
  refine AQ.then_n ?_
  refine TC.block ?_
  refine TC.unroll 3 ?_
  refine TC.seq ?_
  refine TC.region ?_
  refine TL.pu (.int rfl rfl rfl) rfl ?_
  refine TL.say 176 (.bool true) rfl rfl ?_
  refine TL.nil ?_
  refine AQ.then_n ?_
  refine TC.seq ?_
  refine TC.cond_t rfl ?_
  refine TC.skip ?_
  refine AQ.then_n ?_
  refine TC.seq ?_
  refine TC.block ?_
  refine TC.seq ?_
  refine TC.region ?_
  refine TL.pu (.index1 rfl rfl (by decide) (by decide) rfl) rfl ?_
  refine TL.pu (.assign rfl) rfl ?_
  refine TL.nil ?_
  refine AQ.then_n ?_
  refine TC.region ?_
  refine TL.pu (.move rfl) rfl ?_
  refine TL.pu (.move rfl) rfl ?_
  refine TL.callX (number_fn _ _ v33 _ hb33 _ 4 hB33 (by omega) (by simp only [List.length_append, numB_length, wordsB_length, boolsB_length, cpuB_length, List.length_cons, List.length_nil]; omega)) rfl rfl rfl (.rw inferInstance (.last inferInstance hB33.own')) rfl (fun ⟨v34, hb34⟩ hB34 => ?_)
  refine TL.nil ?_
  refine AQ.block_n ?_
  refine AQ.then_n ?_
  refine TC.region ?_
  refine TL.pu (.int rfl rfl rfl) rfl ?_
  refine TL.say 181 (.int .i64 1) rfl rfl ?_
  refine TL.pu (.move rfl) rfl ?_
  refine TL.nil ?_
  refine AQ.next ?_
  refine TC.seq ?_
  refine TC.region ?_
  refine TL.pu (.int rfl rfl rfl) rfl ?_
  refine TL.say 176 (.bool true) rfl rfl ?_
  refine TL.nil ?_
  refine AQ.then_n ?_
  refine TC.seq ?_
  refine TC.cond_t rfl ?_
  refine TC.skip ?_
  refine AQ.then_n ?_
  refine TC.seq ?_
  refine TC.block ?_
  refine TC.seq ?_
  refine TC.region ?_
  refine TL.pu (.index1 rfl rfl (by decide) (by decide) rfl) rfl ?_
  refine TL.pu (.assign rfl) rfl ?_
  refine TL.nil ?_
  refine AQ.then_n ?_
  refine TC.region ?_
  refine TL.pu (.move rfl) rfl ?_
  refine TL.pu (.move rfl) rfl ?_
  refine TL.callX (number_fn _ _ v34 _ hb34 _ 4 hB34 (by omega) (by simp only [List.length_append, numB_length, wordsB_length, boolsB_length, cpuB_length, List.length_cons, List.length_nil]; omega)) rfl rfl rfl (.rw inferInstance (.last inferInstance hB34.own')) rfl (fun ⟨v35, hb35⟩ hB35 => ?_)
  refine TL.nil ?_
  refine AQ.block_n ?_
  refine AQ.then_n ?_
  refine TC.region ?_
  refine TL.pu (.int rfl rfl rfl) rfl ?_
  refine TL.say 181 (.int .i64 2) rfl rfl ?_
  refine TL.pu (.move rfl) rfl ?_
  refine TL.nil ?_
  refine AQ.next ?_
  refine TC.seq ?_
  refine TC.region ?_
  refine TL.pu (.int rfl rfl rfl) rfl ?_
  refine TL.say 176 (.bool true) rfl rfl ?_
  refine TL.nil ?_
  refine AQ.then_n ?_
  refine TC.seq ?_
  refine TC.cond_t rfl ?_
  refine TC.skip ?_
  refine AQ.then_n ?_
  refine TC.seq ?_
  refine TC.block ?_
  refine TC.seq ?_
  refine TC.region ?_
  refine TL.pu (.index1 rfl rfl (by decide) (by decide) rfl) rfl ?_
  refine TL.pu (.assign rfl) rfl ?_
  refine TL.nil ?_
  refine AQ.then_n ?_
  refine TC.region ?_
  refine TL.pu (.move rfl) rfl ?_
  refine TL.pu (.move rfl) rfl ?_
  refine TL.callX (number_fn _ _ v35 _ hb35 _ 4 hB35 (by omega) (by simp only [List.length_append, numB_length, wordsB_length, boolsB_length, cpuB_length, List.length_cons, List.length_nil]; omega)) rfl rfl rfl (.rw inferInstance (.last inferInstance hB35.own')) rfl (fun ⟨v36, hb36⟩ hB36 => ?_)
  refine TL.nil ?_
  refine AQ.block_n ?_
  refine AQ.then_n ?_
  refine TC.region ?_
  refine TL.pu (.int rfl rfl rfl) rfl ?_
  refine TL.say 181 (.int .i64 3) rfl rfl ?_
  refine TL.pu (.move rfl) rfl ?_
  refine TL.nil ?_
  refine AQ.next ?_
  refine TC.seq ?_
  refine TC.region ?_
  refine TL.pu (.int rfl rfl rfl) rfl ?_
  refine TL.say 176 (.bool false) rfl rfl ?_
  refine TL.nil ?_
  refine AQ.then_n ?_
  refine TC.seq ?_
  refine TC.cond_f rfl ?_
  refine TC.exit ?_
  refine AQ.then_x ?_
  refine AQ.then_x ?_
  refine AQ.block_x ?_
  refine AQ.then_n ?_
  refine TC.seq ?_
  refine TC.region ?_
  refine TL.pu (.move rfl) rfl ?_
  refine TL.pu (.nilCheck rfl) rfl ?_
  refine TL.pu (.fieldAddr rfl (m := 0) rfl) rfl ?_
  refine TL.rd (.load1 rfl inferInstance rfl) rfl ?_
  refine TL.pu (.assign rfl) rfl ?_
  refine TL.pu (.assign rfl) rfl ?_
  refine TL.nil ?_
  refine AQ.then_n ?_
  refine TC.ret ?_
  refine AQ.ret Try.results5 rfl ⟨(v36, hb36), ?_, ?_, rfl⟩ (.last inferInstance hB36.own')
  · dsimp only
    rw [if_pos hck]
    simpa only [machB, padB, voiceB, rowB, List.append_assoc] using hB36
  · dsimp only
    rw [hck]; rfl
end Go.Sl