/-
  Walks of this claim's functions, printed by a program of ours off the loaded program. Holds under no condition.
-/
import Derived.Test.YtebllgcaenpdgaaS1N
set_option linter.all false
namespace Go.Sl
open Go Go.Proofs
abbrev slv (b n : Nat) : Value := .slice (some ⟨b, 0, none⟩) n n
def newM0 (v0 v1 : Value) (a b c : Nat) : Mach := { machZ with s0 := v0, s1 := v1, s2 := slv a 128, s3 := slv b 64, s4 := slv c 256, held := true }
def newM (v0 v1 : Value) (a b c : Nat) (y0 : List Int) : Mach := { newM0 v0 v1 a b c with main := { cpuZ with pc := startW y0 } }
abbrev zerB (b n : Nat) : Ent := ⟨b, cel (List.replicate n (vb 0)) 5, true⟩
structure NewR where
  (v0 : Value) (h0 : HS) (v1 : Value) (h1 : HS) (a b c : Nat)
structure NewR.Ok (y0 y1 : List Int) (r : NewR) : Prop where
  (b0 : Buf 5 1 r.v0 (bys y0) r.h0) (b1 : Buf 5 1 r.v1 (bys y1) r.h1)


set_option maxHeartbeats 4000000 in
set_option synthInstance.maxHeartbeats 400000 in
theorem New_fn (v u : Value) (n0 n1 : Nat) (y0 y1 : List Int) (sg0 sg1 : HS) (R0 : Ro 1 v n0 (bys y0) sg0) (R1 : Ro 1 u n1 (bys y1) sg1) (h0 : n0 ≤ 1024) (h1 : n1 ≤ 1024) (hy0 : ∀ x ∈ y0, 0 ≤ x ∧ x < 256) :
    FnX Try.prog 25 [v, u] (sg0 ++ sg1) NewR (fun r => r.Ok y0 y1) (fun r => .tuple #[.agg (machL (newM r.v0 r.v1 r.a r.b r.c y0)).toArray, vi 0]) (fun r => zerB r.a 128 :: zerB r.b 64 :: zerB r.c 256 :: (r.h0 ++ r.h1)) := by
  refine FnE.enter Try.func25 rfl Try.ntmps25 rfl (fun w => ?_)
  refine TC.seq ?_
  refine TC.region ?_
  refine TL.alloc rfl rfl (fun b4 => ?_)
  refine TL.pu (.assign rfl) rfl ?_
  refine TL.nil ?_
  refine AQ.then_n ?_
  refine TC.seq ?_
  refine TC.seq ?_
  refine TC.region ?_
  refine TL.pu (.move rfl) rfl ?_
  refine TL.pu (.lenSl rfl R0.isl rfl) rfl ?_
  refine TL.pu (.int rfl rfl rfl) rfl ?_
  refine TL.pu (.move rfl) rfl ?_
  refine TL.guard_d rfl rfl (fun q1 => ?_) (fun q1 => ?_)
  · skip
    refine TL.guard_no rfl rfl rfl rfl ?_
    refine TL.guard_no rfl rfl rfl rfl ?_
    refine TL.guard_no rfl rfl rfl rfl ?_
    refine TL.pu (.pick_t rfl rfl) rfl ?_
    refine TL.nil ?_
    refine AQ.then_n ?_
    refine TC.cond_t rfl ?_
    refine TC.seq ?_
    refine TC.region ?_
    refine TL.pu (.build rfl rfl) rfl ?_
    refine TL.storeA rfl rfl rfl rfl inferInstance rfl ?_
    refine TL.pu (.assign rfl) rfl ?_
    refine TL.nil ?_
    refine AQ.then_n ?_
    refine TC.ret ?_
    refine AQ.then_r ?_
    exfalso; omega
  refine TL.guard_yes rfl rfl ?_
  refine TL.pu (.move rfl) rfl ?_
  refine TL.guard_yes rfl rfl ?_
  refine TL.pu (.lenSl rfl R1.isl rfl) rfl ?_
  refine TL.guard_yes rfl rfl ?_
  refine TL.pu (.int rfl rfl rfl) rfl ?_
  refine TL.pu (.pick_f rfl rfl) rfl ?_
  refine TL.nil ?_
  refine AQ.then_n ?_
  refine TC.condd rfl (fun q2 => ?_) (fun q2 => ?_)
  · skip
    refine TC.seq ?_
    refine TC.region ?_
    refine TL.pu (.build rfl rfl) rfl ?_
    refine TL.storeA rfl rfl rfl rfl inferInstance rfl ?_
    refine TL.pu (.assign rfl) rfl ?_
    refine TL.nil ?_
    refine AQ.then_n ?_
    refine TC.ret ?_
    refine AQ.then_r ?_
    exfalso; omega
  refine TC.skip ?_
  refine AQ.then_n ?_
  refine TC.seq ?_
  refine TC.draws [] (fun i => false) (.nil _) ?_
  refine AL.pu 0 rfl (.move rfl) rfl (by decide +kernel) (by decide +kernel) (by decide +kernel) (by decide +kernel) rfl ?_
  refine AL.pu 2 rfl (.move rfl) rfl (by decide +kernel) (by decide +kernel) (by decide +kernel) (by decide +kernel) rfl ?_
  refine AL.meetAt (X := Value × HS × Value × HS × Nat × Nat × Nat) (fun ((v17, hb17, v19, hb19, b20, b21, b22) : Value × HS × Value × HS × Nat × Nat × Nat) => Buf 5 1 v17 (bys y0) hb17 ∧ Buf 5 1 v19 (bys y1) hb19) (fun ((v17, hb17, v19, hb19, b20, b21, b22) : Value × HS × Value × HS × Nat × Nat × Nat) => [(17, v17), (19, v19), (20, slv b20 128), (21, slv b21 64), (22, slv b22 256), (16, v), (18, u), (4, ptr b4)]) (fun ((v17, hb17, v19, hb19, b20, b21, b22) : Value × HS × Value × HS × Nat × Nat × Nat) => zerB b22 256 :: zerB b21 64 :: zerB b20 128 :: hb19 ++ (hb17 ++ (⟨b4, cel (machL machZ) 41, true⟩ :: sg0 ++ (sg1)))) #[true, true, true, true, true, true, true, false, false, false, false] 4 true (fun ⟨v17, hb17, v19, hb19, b20, b21, b22⟩ ⟨hB17, hB19⟩ => ?_) (fun J1_3_4_5_6 => ?_)
  · show AL _ _ _ _ _ _ _ _ _ _ _ _ [(17, v17), (19, v19), (20, slv b20 128), (21, slv b21 64), (22, slv b22 256), (16, v), (18, u), (4, ptr b4)] (zerB b22 256 :: zerB b21 64 :: zerB b20 128 :: hb19 ++ (hb17 ++ (⟨b4, cel (machL machZ) 41, true⟩ :: sg0 ++ (sg1))))
    obtain ⟨a17, c17, rfl⟩ := hB17.isl rfl
    obtain ⟨a19, c19, rfl⟩ := hB19.isl rfl
    refine AL.pu 7 rfl (.buildR (machL (newM0 (.slice a17 (bys y0).length c17) (.slice a19 (bys y1).length c19) b20 b21 b22)) rfl rfl) rfl (by decide +kernel) (by decide +kernel) (by decide +kernel) (by decide +kernel) rfl ?_
    refine AL.pu 8 rfl (.buildR (machT (newM0 (.slice a17 (bys y0).length c17) (.slice a19 (bys y1).length c19) b20 b21 b22) [.slice none 0 0, vi 0]) rfl ((fillL_first (m := 75) rfl (by decide)).trans rfl)) rfl (by decide +kernel) (by decide +kernel) (by decide +kernel) (by decide +kernel) rfl ?_
    refine AL.one 9 rfl (by decide +kernel) ?_
    refine TL.box (c := machT (newM0 (.slice a17 (bys y0).length c17) (.slice a19 (bys y1).length c19) b20 b21 b22) [.slice none 0 0, vi 0]) rfl rfl rfl (fun b25 => ?_)
    refine TL.nil ?_
    refine AQ.al (.nil _) ?_
    refine AL.pu 10 rfl (.assign rfl) rfl (by decide +kernel) (by decide +kernel) (by decide +kernel) (by decide +kernel) rfl ?_
    refine AL.fin (by decide +kernel) ?_
    refine AQ.then_n ?_
    refine TC.seq ?_
    refine TC.region ?_
    refine TL.pu (.move rfl) rfl ?_
    refine TL.pu (.move rfl) rfl ?_
    refine TL.callD (boxMain_fn b25) rfl rfl rfl (.nil _) rfl ?_
    refine TL.callD (start_fn (newM0 (.slice a17 (bys y0).length c17) (.slice a19 (bys y1).length c19) b20 b21 b22) [.slice none 0 0, vi 0] b25 89 y0 y0.length (roS hb17) (hB17.ro (bys_length _)) hy0) rfl rfl rfl (.ro inferInstance (.lastr inferInstance)) rfl ?_
    refine TL.pu (.nilCheck rfl) rfl ?_
    refine TL.pu (.fieldAddr rfl (m := 0) rfl) rfl ?_
    refine TL.pu (.fieldAddr rfl (m := 0) rfl) rfl ?_
    refine TL.storeA rfl rfl rfl rfl inferInstance rfl ?_
    refine TL.nil ?_
    refine AQ.then_n ?_
    refine TC.seq ?_
    refine TC.region ?_
    refine TL.pu (.move rfl) rfl ?_
    refine TL.pu (.nilCheck rfl) rfl ?_
    refine TL.pu (.fieldAddr rfl (m := 0) rfl) rfl ?_
    refine TL.rd (.loadA rfl inferInstance rfl) rfl ?_
    refine TL.storeA rfl rfl rfl rfl inferInstance rfl ?_
    refine TL.pu (.assign rfl) rfl ?_
    refine TL.nil ?_
    refine AQ.then_n ?_
    refine TC.ret ?_
    exact AQ.retV Try.results25 (.cellA rfl inferInstance rfl (.tmp rfl .nil)) ⟨⟨(.slice a17 (bys y0).length c17), hb17, (.slice a19 (bys y1).length c19), hb19, b20, b21, b22⟩, ⟨hB17, hB19⟩, rfl, rfl⟩ (.cons inferInstance rfl (.cons inferInstance rfl (.cons inferInstance rfl (.seg inferInstance hB17.own' (.last inferInstance hB19.own')))))
  refine AL.meetAt (X := Value × HS × Value × HS × Nat × Nat) (fun ((v17, hb17, v19, hb19, b20, b21) : Value × HS × Value × HS × Nat × Nat) => Buf 5 1 v17 (bys y0) hb17 ∧ Buf 5 1 v19 (bys y1) hb19) (fun ((v17, hb17, v19, hb19, b20, b21) : Value × HS × Value × HS × Nat × Nat) => [(17, v17), (19, v19), (20, slv b20 128), (21, slv b21 64), (16, v), (18, u), (4, ptr b4)]) (fun ((v17, hb17, v19, hb19, b20, b21) : Value × HS × Value × HS × Nat × Nat) => zerB b21 64 :: zerB b20 128 :: hb19 ++ (hb17 ++ (⟨b4, cel (machL machZ) 41, true⟩ :: sg0 ++ (sg1)))) #[true, true, true, true, true, true, false, false, false, false, false] 5 true (fun ⟨v17, hb17, v19, hb19, b20, b21⟩ ⟨hB17, hB19⟩ => ?_) (fun J1_3_4_5 => ?_)
  · show AL _ _ _ _ _ _ _ _ _ _ _ _ [(17, v17), (19, v19), (20, slv b20 128), (21, slv b21 64), (16, v), (18, u), (4, ptr b4)] (zerB b21 64 :: zerB b20 128 :: hb19 ++ (hb17 ++ (⟨b4, cel (machL machZ) 41, true⟩ :: sg0 ++ (sg1))))
    refine AL.one 6 rfl (by decide +kernel) ?_
    refine TL.makeSlice (m := 256) rfl rfl rfl rfl rfl rfl (fun b22 => ?_)
    refine TL.nil ?_
    refine AQ.al (.nil _) ?_
    exact AL.join' (J1_3_4_5_6 ⟨v17, hb17, v19, hb19, b20, b21, b22⟩ ⟨hB17, hB19⟩) (by decide +kernel) ⟨rfl, rfl, rfl, rfl, rfl, rfl, rfl, rfl, trivial⟩ (.cons inferInstance rfl (.cons inferInstance rfl (.cons inferInstance rfl (.seg inferInstance (.seg inferInstance (.cons inferInstance rfl (.seg inferInstance (.last inferInstance))))))))
  refine AL.meetAt (X := Value × HS × Value × HS × Nat × Nat) (fun ((v17, hb17, v19, hb19, b20, b22) : Value × HS × Value × HS × Nat × Nat) => Buf 5 1 v17 (bys y0) hb17 ∧ Buf 5 1 v19 (bys y1) hb19) (fun ((v17, hb17, v19, hb19, b20, b22) : Value × HS × Value × HS × Nat × Nat) => [(17, v17), (19, v19), (20, slv b20 128), (22, slv b22 256), (16, v), (18, u), (4, ptr b4)]) (fun ((v17, hb17, v19, hb19, b20, b22) : Value × HS × Value × HS × Nat × Nat) => zerB b22 256 :: zerB b20 128 :: hb19 ++ (hb17 ++ (⟨b4, cel (machL machZ) 41, true⟩ :: sg0 ++ (sg1)))) #[true, true, true, true, true, false, true, false, false, false, false] 5 true (fun ⟨v17, hb17, v19, hb19, b20, b22⟩ ⟨hB17, hB19⟩ => ?_) (fun J1_3_4_6 => ?_)
  · show AL _ _ _ _ _ _ _ _ _ _ _ _ [(17, v17), (19, v19), (20, slv b20 128), (22, slv b22 256), (16, v), (18, u), (4, ptr b4)] (zerB b22 256 :: zerB b20 128 :: hb19 ++ (hb17 ++ (⟨b4, cel (machL machZ) 41, true⟩ :: sg0 ++ (sg1))))
    refine AL.one 5 rfl (by decide +kernel) ?_
    refine TL.makeSlice (m := 64) rfl rfl rfl rfl rfl rfl (fun b21 => ?_)
    refine TL.nil ?_
    refine AQ.al (.nil _) ?_
    exact AL.join' (J1_3_4_5_6 ⟨v17, hb17, v19, hb19, b20, b21, b22⟩ ⟨hB17, hB19⟩) (by decide +kernel) ⟨rfl, rfl, rfl, rfl, rfl, rfl, rfl, rfl, trivial⟩ (.cons inferInstance rfl (.cons inferInstance rfl (.cons inferInstance rfl (.seg inferInstance (.seg inferInstance (.cons inferInstance rfl (.seg inferInstance (.last inferInstance))))))))
  refine AL.meetAt (X := Value × HS × Value × HS × Nat × Nat) (fun ((v17, hb17, v19, hb19, b21, b22) : Value × HS × Value × HS × Nat × Nat) => Buf 5 1 v17 (bys y0) hb17 ∧ Buf 5 1 v19 (bys y1) hb19) (fun ((v17, hb17, v19, hb19, b21, b22) : Value × HS × Value × HS × Nat × Nat) => [(17, v17), (19, v19), (21, slv b21 64), (22, slv b22 256), (16, v), (18, u), (4, ptr b4)]) (fun ((v17, hb17, v19, hb19, b21, b22) : Value × HS × Value × HS × Nat × Nat) => zerB b22 256 :: zerB b21 64 :: hb19 ++ (hb17 ++ (⟨b4, cel (machL machZ) 41, true⟩ :: sg0 ++ (sg1)))) #[true, true, true, true, false, true, true, false, false, false, false] 5 true (fun ⟨v17, hb17, v19, hb19, b21, b22⟩ ⟨hB17, hB19⟩ => ?_) (fun J1_3_5_6 => ?_)
  · show AL _ _ _ _ _ _ _ _ _ _ _ _ [(17, v17), (19, v19), (21, slv b21 64), (22, slv b22 256), (16, v), (18, u), (4, ptr b4)] (zerB b22 256 :: zerB b21 64 :: hb19 ++ (hb17 ++ (⟨b4, cel (machL machZ) 41, true⟩ :: sg0 ++ (sg1))))
    refine AL.one 4 rfl (by decide +kernel) ?_
    refine TL.makeSlice (m := 128) rfl rfl rfl rfl rfl rfl (fun b20 => ?_)
    refine TL.nil ?_
    refine AQ.al (.nil _) ?_
    exact AL.join' (J1_3_4_5_6 ⟨v17, hb17, v19, hb19, b20, b21, b22⟩ ⟨hB17, hB19⟩) (by decide +kernel) ⟨rfl, rfl, rfl, rfl, rfl, rfl, rfl, rfl, trivial⟩ (.cons inferInstance rfl (.cons inferInstance rfl (.cons inferInstance rfl (.seg inferInstance (.seg inferInstance (.cons inferInstance rfl (.seg inferInstance (.last inferInstance))))))))
  refine AL.meetAt (X := Value × HS × Nat × Nat × Nat) (fun ((v17, hb17, b20, b21, b22) : Value × HS × Nat × Nat × Nat) => Buf 5 1 v17 (bys y0) hb17) (fun ((v17, hb17, b20, b21, b22) : Value × HS × Nat × Nat × Nat) => [(17, v17), (20, slv b20 128), (21, slv b21 64), (22, slv b22 256), (16, v), (18, u), (4, ptr b4)]) (fun ((v17, hb17, b20, b21, b22) : Value × HS × Nat × Nat × Nat) => zerB b22 256 :: zerB b21 64 :: zerB b20 128 :: hb17 ++ (⟨b4, cel (machL machZ) 41, true⟩ :: sg0 ++ (sg1))) #[true, true, true, false, true, true, true, false, false, false, false] 5 true (fun ⟨v17, hb17, b20, b21, b22⟩ hB17 => ?_) (fun J1_4_5_6 => ?_)
  · show AL _ _ _ _ _ _ _ _ _ _ _ _ [(17, v17), (20, slv b20 128), (21, slv b21 64), (22, slv b22 256), (16, v), (18, u), (4, ptr b4)] (zerB b22 256 :: zerB b21 64 :: zerB b20 128 :: hb17 ++ (⟨b4, cel (machL machZ) 41, true⟩ :: sg0 ++ (sg1)))
    refine AL.one 3 rfl (by decide +kernel) ?_
    refine TL.callX (Clone_fn u n1 y1 sg1 R1 (by omega)) rfl rfl rfl (.lastro inferInstance R1.ro) rfl (fun ⟨v19, hb19⟩ hB19 => ?_)
    show TL _ _ _ _ _ _ _ ((19, v19) :: _) (hb19 ++ _) _
    refine TL.nil ?_
    refine AQ.al (.nil _) ?_
    exact AL.join' (J1_3_4_5_6 ⟨v17, hb17, v19, hb19, b20, b21, b22⟩ ⟨hB17, hB19⟩) (by decide +kernel) ⟨rfl, rfl, rfl, rfl, rfl, rfl, rfl, rfl, trivial⟩ (.cons inferInstance rfl (.cons inferInstance rfl (.cons inferInstance rfl (.seg inferInstance (.seg inferInstance (.cons inferInstance rfl (.seg inferInstance (.last inferInstance))))))))
  refine AL.meetAt (X := Value × HS × Value × HS × Nat) (fun ((v17, hb17, v19, hb19, b20) : Value × HS × Value × HS × Nat) => Buf 5 1 v17 (bys y0) hb17 ∧ Buf 5 1 v19 (bys y1) hb19) (fun ((v17, hb17, v19, hb19, b20) : Value × HS × Value × HS × Nat) => [(17, v17), (19, v19), (20, slv b20 128), (16, v), (18, u), (4, ptr b4)]) (fun ((v17, hb17, v19, hb19, b20) : Value × HS × Value × HS × Nat) => zerB b20 128 :: hb19 ++ (hb17 ++ (⟨b4, cel (machL machZ) 41, true⟩ :: sg0 ++ (sg1)))) #[true, true, true, true, true, false, false, false, false, false, false] 6 true (fun ⟨v17, hb17, v19, hb19, b20⟩ ⟨hB17, hB19⟩ => ?_) (fun J1_3_4 => ?_)
  · show AL _ _ _ _ _ _ _ _ _ _ _ _ [(17, v17), (19, v19), (20, slv b20 128), (16, v), (18, u), (4, ptr b4)] (zerB b20 128 :: hb19 ++ (hb17 ++ (⟨b4, cel (machL machZ) 41, true⟩ :: sg0 ++ (sg1))))
    refine AL.pick (is := [5, 6]) (by decide +kernel) (by decide) (.cons rfl ?_ (.cons rfl ?_ .nil))
    · skip
      refine TL.makeSlice (m := 64) rfl rfl rfl rfl rfl rfl (fun b21 => ?_)
      refine TL.nil ?_
      refine AQ.al (.nil _) ?_
      exact AL.join' (J1_3_4_5 ⟨v17, hb17, v19, hb19, b20, b21⟩ ⟨hB17, hB19⟩) (by decide +kernel) ⟨rfl, rfl, rfl, rfl, rfl, rfl, rfl, trivial⟩ (.cons inferInstance rfl (.cons inferInstance rfl (.seg inferInstance (.seg inferInstance (.cons inferInstance rfl (.seg inferInstance (.last inferInstance)))))))
    · skip
      refine TL.makeSlice (m := 256) rfl rfl rfl rfl rfl rfl (fun b22 => ?_)
      refine TL.nil ?_
      refine AQ.al (.nil _) ?_
      exact AL.join' (J1_3_4_6 ⟨v17, hb17, v19, hb19, b20, b22⟩ ⟨hB17, hB19⟩) (by decide +kernel) ⟨rfl, rfl, rfl, rfl, rfl, rfl, rfl, trivial⟩ (.cons inferInstance rfl (.cons inferInstance rfl (.seg inferInstance (.seg inferInstance (.cons inferInstance rfl (.seg inferInstance (.last inferInstance)))))))
  refine AL.meetAt (X := Value × HS × Value × HS × Nat) (fun ((v17, hb17, v19, hb19, b21) : Value × HS × Value × HS × Nat) => Buf 5 1 v17 (bys y0) hb17 ∧ Buf 5 1 v19 (bys y1) hb19) (fun ((v17, hb17, v19, hb19, b21) : Value × HS × Value × HS × Nat) => [(17, v17), (19, v19), (21, slv b21 64), (16, v), (18, u), (4, ptr b4)]) (fun ((v17, hb17, v19, hb19, b21) : Value × HS × Value × HS × Nat) => zerB b21 64 :: hb19 ++ (hb17 ++ (⟨b4, cel (machL machZ) 41, true⟩ :: sg0 ++ (sg1)))) #[true, true, true, true, false, true, false, false, false, false, false] 6 true (fun ⟨v17, hb17, v19, hb19, b21⟩ ⟨hB17, hB19⟩ => ?_) (fun J1_3_5 => ?_)
  · show AL _ _ _ _ _ _ _ _ _ _ _ _ [(17, v17), (19, v19), (21, slv b21 64), (16, v), (18, u), (4, ptr b4)] (zerB b21 64 :: hb19 ++ (hb17 ++ (⟨b4, cel (machL machZ) 41, true⟩ :: sg0 ++ (sg1))))
    refine AL.pick (is := [4, 6]) (by decide +kernel) (by decide) (.cons rfl ?_ (.cons rfl ?_ .nil))
    · skip
      refine TL.makeSlice (m := 128) rfl rfl rfl rfl rfl rfl (fun b20 => ?_)
      refine TL.nil ?_
      refine AQ.al (.nil _) ?_
      exact AL.join' (J1_3_4_5 ⟨v17, hb17, v19, hb19, b20, b21⟩ ⟨hB17, hB19⟩) (by decide +kernel) ⟨rfl, rfl, rfl, rfl, rfl, rfl, rfl, trivial⟩ (.cons inferInstance rfl (.cons inferInstance rfl (.seg inferInstance (.seg inferInstance (.cons inferInstance rfl (.seg inferInstance (.last inferInstance)))))))
    · skip
      refine TL.makeSlice (m := 256) rfl rfl rfl rfl rfl rfl (fun b22 => ?_)
      refine TL.nil ?_
      refine AQ.al (.nil _) ?_
      exact AL.join' (J1_3_5_6 ⟨v17, hb17, v19, hb19, b21, b22⟩ ⟨hB17, hB19⟩) (by decide +kernel) ⟨rfl, rfl, rfl, rfl, rfl, rfl, rfl, trivial⟩ (.cons inferInstance rfl (.cons inferInstance rfl (.seg inferInstance (.seg inferInstance (.cons inferInstance rfl (.seg inferInstance (.last inferInstance)))))))
  refine AL.meetAt (X := Value × HS × Value × HS × Nat) (fun ((v17, hb17, v19, hb19, b22) : Value × HS × Value × HS × Nat) => Buf 5 1 v17 (bys y0) hb17 ∧ Buf 5 1 v19 (bys y1) hb19) (fun ((v17, hb17, v19, hb19, b22) : Value × HS × Value × HS × Nat) => [(17, v17), (19, v19), (22, slv b22 256), (16, v), (18, u), (4, ptr b4)]) (fun ((v17, hb17, v19, hb19, b22) : Value × HS × Value × HS × Nat) => zerB b22 256 :: hb19 ++ (hb17 ++ (⟨b4, cel (machL machZ) 41, true⟩ :: sg0 ++ (sg1)))) #[true, true, true, true, false, false, true, false, false, false, false] 6 true (fun ⟨v17, hb17, v19, hb19, b22⟩ ⟨hB17, hB19⟩ => ?_) (fun J1_3_6 => ?_)
  · show AL _ _ _ _ _ _ _ _ _ _ _ _ [(17, v17), (19, v19), (22, slv b22 256), (16, v), (18, u), (4, ptr b4)] (zerB b22 256 :: hb19 ++ (hb17 ++ (⟨b4, cel (machL machZ) 41, true⟩ :: sg0 ++ (sg1))))
    refine AL.pick (is := [4, 5]) (by decide +kernel) (by decide) (.cons rfl ?_ (.cons rfl ?_ .nil))
    · skip
      refine TL.makeSlice (m := 128) rfl rfl rfl rfl rfl rfl (fun b20 => ?_)
      refine TL.nil ?_
      refine AQ.al (.nil _) ?_
      exact AL.join' (J1_3_4_6 ⟨v17, hb17, v19, hb19, b20, b22⟩ ⟨hB17, hB19⟩) (by decide +kernel) ⟨rfl, rfl, rfl, rfl, rfl, rfl, rfl, trivial⟩ (.cons inferInstance rfl (.cons inferInstance rfl (.seg inferInstance (.seg inferInstance (.cons inferInstance rfl (.seg inferInstance (.last inferInstance)))))))
    · skip
      refine TL.makeSlice (m := 64) rfl rfl rfl rfl rfl rfl (fun b21 => ?_)
      refine TL.nil ?_
      refine AQ.al (.nil _) ?_
      exact AL.join' (J1_3_5_6 ⟨v17, hb17, v19, hb19, b21, b22⟩ ⟨hB17, hB19⟩) (by decide +kernel) ⟨rfl, rfl, rfl, rfl, rfl, rfl, rfl, trivial⟩ (.cons inferInstance rfl (.cons inferInstance rfl (.seg inferInstance (.seg inferInstance (.cons inferInstance rfl (.seg inferInstance (.last inferInstance)))))))
  refine AL.meetAt (X := Value × HS × Nat × Nat) (fun ((v17, hb17, b20, b21) : Value × HS × Nat × Nat) => Buf 5 1 v17 (bys y0) hb17) (fun ((v17, hb17, b20, b21) : Value × HS × Nat × Nat) => [(17, v17), (20, slv b20 128), (21, slv b21 64), (16, v), (18, u), (4, ptr b4)]) (fun ((v17, hb17, b20, b21) : Value × HS × Nat × Nat) => zerB b21 64 :: zerB b20 128 :: hb17 ++ (⟨b4, cel (machL machZ) 41, true⟩ :: sg0 ++ (sg1))) #[true, true, true, false, true, true, false, false, false, false, false] 6 true (fun ⟨v17, hb17, b20, b21⟩ hB17 => ?_) (fun J1_4_5 => ?_)
  · show AL _ _ _ _ _ _ _ _ _ _ _ _ [(17, v17), (20, slv b20 128), (21, slv b21 64), (16, v), (18, u), (4, ptr b4)] (zerB b21 64 :: zerB b20 128 :: hb17 ++ (⟨b4, cel (machL machZ) 41, true⟩ :: sg0 ++ (sg1)))
    refine AL.pick (is := [3, 6]) (by decide +kernel) (by decide) (.cons rfl ?_ (.cons rfl ?_ .nil))
    · skip
      refine TL.callX (Clone_fn u n1 y1 sg1 R1 (by omega)) rfl rfl rfl (.lastro inferInstance R1.ro) rfl (fun ⟨v19, hb19⟩ hB19 => ?_)
      show TL _ _ _ _ _ _ _ ((19, v19) :: _) (hb19 ++ _) _
      refine TL.nil ?_
      refine AQ.al (.nil _) ?_
      exact AL.join' (J1_3_4_5 ⟨v17, hb17, v19, hb19, b20, b21⟩ ⟨hB17, hB19⟩) (by decide +kernel) ⟨rfl, rfl, rfl, rfl, rfl, rfl, rfl, trivial⟩ (.cons inferInstance rfl (.cons inferInstance rfl (.seg inferInstance (.seg inferInstance (.cons inferInstance rfl (.seg inferInstance (.last inferInstance)))))))
    · skip
      refine TL.makeSlice (m := 256) rfl rfl rfl rfl rfl rfl (fun b22 => ?_)
      refine TL.nil ?_
      refine AQ.al (.nil _) ?_
      exact AL.join' (J1_4_5_6 ⟨v17, hb17, b20, b21, b22⟩ hB17) (by decide +kernel) ⟨rfl, rfl, rfl, rfl, rfl, rfl, rfl, trivial⟩ (.cons inferInstance rfl (.cons inferInstance rfl (.cons inferInstance rfl (.seg inferInstance (.cons inferInstance rfl (.seg inferInstance (.last inferInstance)))))))
  refine AL.meetAt (X := Value × HS × Nat × Nat) (fun ((v17, hb17, b20, b22) : Value × HS × Nat × Nat) => Buf 5 1 v17 (bys y0) hb17) (fun ((v17, hb17, b20, b22) : Value × HS × Nat × Nat) => [(17, v17), (20, slv b20 128), (22, slv b22 256), (16, v), (18, u), (4, ptr b4)]) (fun ((v17, hb17, b20, b22) : Value × HS × Nat × Nat) => zerB b22 256 :: zerB b20 128 :: hb17 ++ (⟨b4, cel (machL machZ) 41, true⟩ :: sg0 ++ (sg1))) #[true, true, true, false, true, false, true, false, false, false, false] 6 true (fun ⟨v17, hb17, b20, b22⟩ hB17 => ?_) (fun J1_4_6 => ?_)
  · show AL _ _ _ _ _ _ _ _ _ _ _ _ [(17, v17), (20, slv b20 128), (22, slv b22 256), (16, v), (18, u), (4, ptr b4)] (zerB b22 256 :: zerB b20 128 :: hb17 ++ (⟨b4, cel (machL machZ) 41, true⟩ :: sg0 ++ (sg1)))
    refine AL.pick (is := [3, 5]) (by decide +kernel) (by decide) (.cons rfl ?_ (.cons rfl ?_ .nil))
    · skip
      refine TL.callX (Clone_fn u n1 y1 sg1 R1 (by omega)) rfl rfl rfl (.lastro inferInstance R1.ro) rfl (fun ⟨v19, hb19⟩ hB19 => ?_)
      show TL _ _ _ _ _ _ _ ((19, v19) :: _) (hb19 ++ _) _
      refine TL.nil ?_
      refine AQ.al (.nil _) ?_
      exact AL.join' (J1_3_4_6 ⟨v17, hb17, v19, hb19, b20, b22⟩ ⟨hB17, hB19⟩) (by decide +kernel) ⟨rfl, rfl, rfl, rfl, rfl, rfl, rfl, trivial⟩ (.cons inferInstance rfl (.cons inferInstance rfl (.seg inferInstance (.seg inferInstance (.cons inferInstance rfl (.seg inferInstance (.last inferInstance)))))))
    · skip
      refine TL.makeSlice (m := 64) rfl rfl rfl rfl rfl rfl (fun b21 => ?_)
      refine TL.nil ?_
      refine AQ.al (.nil _) ?_
      exact AL.join' (J1_4_5_6 ⟨v17, hb17, b20, b21, b22⟩ hB17) (by decide +kernel) ⟨rfl, rfl, rfl, rfl, rfl, rfl, rfl, trivial⟩ (.cons inferInstance rfl (.cons inferInstance rfl (.cons inferInstance rfl (.seg inferInstance (.cons inferInstance rfl (.seg inferInstance (.last inferInstance)))))))
  refine AL.meetAt (X := Value × HS × Nat × Nat) (fun ((v17, hb17, b21, b22) : Value × HS × Nat × Nat) => Buf 5 1 v17 (bys y0) hb17) (fun ((v17, hb17, b21, b22) : Value × HS × Nat × Nat) => [(17, v17), (21, slv b21 64), (22, slv b22 256), (16, v), (18, u), (4, ptr b4)]) (fun ((v17, hb17, b21, b22) : Value × HS × Nat × Nat) => zerB b22 256 :: zerB b21 64 :: hb17 ++ (⟨b4, cel (machL machZ) 41, true⟩ :: sg0 ++ (sg1))) #[true, true, true, false, false, true, true, false, false, false, false] 6 true (fun ⟨v17, hb17, b21, b22⟩ hB17 => ?_) (fun J1_5_6 => ?_)
  · show AL _ _ _ _ _ _ _ _ _ _ _ _ [(17, v17), (21, slv b21 64), (22, slv b22 256), (16, v), (18, u), (4, ptr b4)] (zerB b22 256 :: zerB b21 64 :: hb17 ++ (⟨b4, cel (machL machZ) 41, true⟩ :: sg0 ++ (sg1)))
    refine AL.pick (is := [3, 4]) (by decide +kernel) (by decide) (.cons rfl ?_ (.cons rfl ?_ .nil))
    · skip
      refine TL.callX (Clone_fn u n1 y1 sg1 R1 (by omega)) rfl rfl rfl (.lastro inferInstance R1.ro) rfl (fun ⟨v19, hb19⟩ hB19 => ?_)
      show TL _ _ _ _ _ _ _ ((19, v19) :: _) (hb19 ++ _) _
      refine TL.nil ?_
      refine AQ.al (.nil _) ?_
      exact AL.join' (J1_3_5_6 ⟨v17, hb17, v19, hb19, b21, b22⟩ ⟨hB17, hB19⟩) (by decide +kernel) ⟨rfl, rfl, rfl, rfl, rfl, rfl, rfl, trivial⟩ (.cons inferInstance rfl (.cons inferInstance rfl (.seg inferInstance (.seg inferInstance (.cons inferInstance rfl (.seg inferInstance (.last inferInstance)))))))
    · skip
      refine TL.makeSlice (m := 128) rfl rfl rfl rfl rfl rfl (fun b20 => ?_)
      refine TL.nil ?_
      refine AQ.al (.nil _) ?_
      exact AL.join' (J1_4_5_6 ⟨v17, hb17, b20, b21, b22⟩ hB17) (by decide +kernel) ⟨rfl, rfl, rfl, rfl, rfl, rfl, rfl, trivial⟩ (.cons inferInstance rfl (.cons inferInstance rfl (.cons inferInstance rfl (.seg inferInstance (.cons inferInstance rfl (.seg inferInstance (.last inferInstance)))))))
  refine AL.meetAt (X := Nat × Nat × Nat) (fun ((b20, b21, b22) : Nat × Nat × Nat) => True) (fun ((b20, b21, b22) : Nat × Nat × Nat) => [(20, slv b20 128), (21, slv b21 64), (22, slv b22 256), (16, v), (18, u), (4, ptr b4)]) (fun ((b20, b21, b22) : Nat × Nat × Nat) => zerB b22 256 :: zerB b21 64 :: zerB b20 128 :: ⟨b4, cel (machL machZ) 41, true⟩ :: sg0 ++ (sg1)) #[true, false, true, false, true, true, true, false, false, false, false] 6 true (fun ⟨b20, b21, b22⟩ _ => ?_) (fun J4_5_6 => ?_)
  · show AL _ _ _ _ _ _ _ _ _ _ _ _ [(20, slv b20 128), (21, slv b21 64), (22, slv b22 256), (16, v), (18, u), (4, ptr b4)] (zerB b22 256 :: zerB b21 64 :: zerB b20 128 :: ⟨b4, cel (machL machZ) 41, true⟩ :: sg0 ++ (sg1))
    refine AL.one 1 rfl (by decide +kernel) ?_
    refine TL.callX (Clone_fn v n0 y0 sg0 R0 (by omega)) rfl rfl rfl (.lastro inferInstance R0.ro) rfl (fun ⟨v17, hb17⟩ hB17 => ?_)
    show TL _ _ _ _ _ _ _ ((17, v17) :: _) (hb17 ++ _) _
    refine TL.nil ?_
    refine AQ.al (.nil _) ?_
    exact AL.join' (J1_4_5_6 ⟨v17, hb17, b20, b21, b22⟩ hB17) (by decide +kernel) ⟨rfl, rfl, rfl, rfl, rfl, rfl, rfl, trivial⟩ (.cons inferInstance rfl (.cons inferInstance rfl (.cons inferInstance rfl (.seg inferInstance (.cons inferInstance rfl (.seg inferInstance (.last inferInstance)))))))
  refine AL.meetAt (X := Value × HS × Value × HS) (fun ((v17, hb17, v19, hb19) : Value × HS × Value × HS) => Buf 5 1 v17 (bys y0) hb17 ∧ Buf 5 1 v19 (bys y1) hb19) (fun ((v17, hb17, v19, hb19) : Value × HS × Value × HS) => [(17, v17), (19, v19), (16, v), (18, u), (4, ptr b4)]) (fun ((v17, hb17, v19, hb19) : Value × HS × Value × HS) => hb19 ++ (hb17 ++ (⟨b4, cel (machL machZ) 41, true⟩ :: sg0 ++ (sg1)))) #[true, true, true, true, false, false, false, false, false, false, false] 7 true (fun ⟨v17, hb17, v19, hb19⟩ ⟨hB17, hB19⟩ => ?_) (fun J1_3 => ?_)
  · show AL _ _ _ _ _ _ _ _ _ _ _ _ [(17, v17), (19, v19), (16, v), (18, u), (4, ptr b4)] (hb19 ++ (hb17 ++ (⟨b4, cel (machL machZ) 41, true⟩ :: sg0 ++ (sg1))))
    refine AL.pick (is := [4, 5, 6]) (by decide +kernel) (by decide) (.cons rfl ?_ (.cons rfl ?_ (.cons rfl ?_ .nil)))
    · skip
      refine TL.makeSlice (m := 128) rfl rfl rfl rfl rfl rfl (fun b20 => ?_)
      refine TL.nil ?_
      refine AQ.al (.nil _) ?_
      exact AL.join' (J1_3_4 ⟨v17, hb17, v19, hb19, b20⟩ ⟨hB17, hB19⟩) (by decide +kernel) ⟨rfl, rfl, rfl, rfl, rfl, rfl, trivial⟩ (.cons inferInstance rfl (.seg inferInstance (.seg inferInstance (.cons inferInstance rfl (.seg inferInstance (.last inferInstance))))))
    · skip
      refine TL.makeSlice (m := 64) rfl rfl rfl rfl rfl rfl (fun b21 => ?_)
      refine TL.nil ?_
      refine AQ.al (.nil _) ?_
      exact AL.join' (J1_3_5 ⟨v17, hb17, v19, hb19, b21⟩ ⟨hB17, hB19⟩) (by decide +kernel) ⟨rfl, rfl, rfl, rfl, rfl, rfl, trivial⟩ (.cons inferInstance rfl (.seg inferInstance (.seg inferInstance (.cons inferInstance rfl (.seg inferInstance (.last inferInstance))))))
    · skip
      refine TL.makeSlice (m := 256) rfl rfl rfl rfl rfl rfl (fun b22 => ?_)
      refine TL.nil ?_
      refine AQ.al (.nil _) ?_
      exact AL.join' (J1_3_6 ⟨v17, hb17, v19, hb19, b22⟩ ⟨hB17, hB19⟩) (by decide +kernel) ⟨rfl, rfl, rfl, rfl, rfl, rfl, trivial⟩ (.cons inferInstance rfl (.seg inferInstance (.seg inferInstance (.cons inferInstance rfl (.seg inferInstance (.last inferInstance))))))
  refine AL.meetAt (X := Value × HS × Nat) (fun ((v17, hb17, b20) : Value × HS × Nat) => Buf 5 1 v17 (bys y0) hb17) (fun ((v17, hb17, b20) : Value × HS × Nat) => [(17, v17), (20, slv b20 128), (16, v), (18, u), (4, ptr b4)]) (fun ((v17, hb17, b20) : Value × HS × Nat) => zerB b20 128 :: hb17 ++ (⟨b4, cel (machL machZ) 41, true⟩ :: sg0 ++ (sg1))) #[true, true, true, false, true, false, false, false, false, false, false] 7 true (fun ⟨v17, hb17, b20⟩ hB17 => ?_) (fun J1_4 => ?_)
  · show AL _ _ _ _ _ _ _ _ _ _ _ _ [(17, v17), (20, slv b20 128), (16, v), (18, u), (4, ptr b4)] (zerB b20 128 :: hb17 ++ (⟨b4, cel (machL machZ) 41, true⟩ :: sg0 ++ (sg1)))
    refine AL.pick (is := [3, 5, 6]) (by decide +kernel) (by decide) (.cons rfl ?_ (.cons rfl ?_ (.cons rfl ?_ .nil)))
    · skip
      refine TL.callX (Clone_fn u n1 y1 sg1 R1 (by omega)) rfl rfl rfl (.lastro inferInstance R1.ro) rfl (fun ⟨v19, hb19⟩ hB19 => ?_)
      show TL _ _ _ _ _ _ _ ((19, v19) :: _) (hb19 ++ _) _
      refine TL.nil ?_
      refine AQ.al (.nil _) ?_
      exact AL.join' (J1_3_4 ⟨v17, hb17, v19, hb19, b20⟩ ⟨hB17, hB19⟩) (by decide +kernel) ⟨rfl, rfl, rfl, rfl, rfl, rfl, trivial⟩ (.cons inferInstance rfl (.seg inferInstance (.seg inferInstance (.cons inferInstance rfl (.seg inferInstance (.last inferInstance))))))
    · skip
      refine TL.makeSlice (m := 64) rfl rfl rfl rfl rfl rfl (fun b21 => ?_)
      refine TL.nil ?_
      refine AQ.al (.nil _) ?_
      exact AL.join' (J1_4_5 ⟨v17, hb17, b20, b21⟩ hB17) (by decide +kernel) ⟨rfl, rfl, rfl, rfl, rfl, rfl, trivial⟩ (.cons inferInstance rfl (.cons inferInstance rfl (.seg inferInstance (.cons inferInstance rfl (.seg inferInstance (.last inferInstance))))))
    · skip
      refine TL.makeSlice (m := 256) rfl rfl rfl rfl rfl rfl (fun b22 => ?_)
      refine TL.nil ?_
      refine AQ.al (.nil _) ?_
      exact AL.join' (J1_4_6 ⟨v17, hb17, b20, b22⟩ hB17) (by decide +kernel) ⟨rfl, rfl, rfl, rfl, rfl, rfl, trivial⟩ (.cons inferInstance rfl (.cons inferInstance rfl (.seg inferInstance (.cons inferInstance rfl (.seg inferInstance (.last inferInstance))))))
  refine AL.meetAt (X := Value × HS × Nat) (fun ((v17, hb17, b21) : Value × HS × Nat) => Buf 5 1 v17 (bys y0) hb17) (fun ((v17, hb17, b21) : Value × HS × Nat) => [(17, v17), (21, slv b21 64), (16, v), (18, u), (4, ptr b4)]) (fun ((v17, hb17, b21) : Value × HS × Nat) => zerB b21 64 :: hb17 ++ (⟨b4, cel (machL machZ) 41, true⟩ :: sg0 ++ (sg1))) #[true, true, true, false, false, true, false, false, false, false, false] 7 true (fun ⟨v17, hb17, b21⟩ hB17 => ?_) (fun J1_5 => ?_)
  · show AL _ _ _ _ _ _ _ _ _ _ _ _ [(17, v17), (21, slv b21 64), (16, v), (18, u), (4, ptr b4)] (zerB b21 64 :: hb17 ++ (⟨b4, cel (machL machZ) 41, true⟩ :: sg0 ++ (sg1)))
    refine AL.pick (is := [3, 4, 6]) (by decide +kernel) (by decide) (.cons rfl ?_ (.cons rfl ?_ (.cons rfl ?_ .nil)))
    · skip
      refine TL.callX (Clone_fn u n1 y1 sg1 R1 (by omega)) rfl rfl rfl (.lastro inferInstance R1.ro) rfl (fun ⟨v19, hb19⟩ hB19 => ?_)
      show TL _ _ _ _ _ _ _ ((19, v19) :: _) (hb19 ++ _) _
      refine TL.nil ?_
      refine AQ.al (.nil _) ?_
      exact AL.join' (J1_3_5 ⟨v17, hb17, v19, hb19, b21⟩ ⟨hB17, hB19⟩) (by decide +kernel) ⟨rfl, rfl, rfl, rfl, rfl, rfl, trivial⟩ (.cons inferInstance rfl (.seg inferInstance (.seg inferInstance (.cons inferInstance rfl (.seg inferInstance (.last inferInstance))))))
    · skip
      refine TL.makeSlice (m := 128) rfl rfl rfl rfl rfl rfl (fun b20 => ?_)
      refine TL.nil ?_
      refine AQ.al (.nil _) ?_
      exact AL.join' (J1_4_5 ⟨v17, hb17, b20, b21⟩ hB17) (by decide +kernel) ⟨rfl, rfl, rfl, rfl, rfl, rfl, trivial⟩ (.cons inferInstance rfl (.cons inferInstance rfl (.seg inferInstance (.cons inferInstance rfl (.seg inferInstance (.last inferInstance))))))
    · skip
      refine TL.makeSlice (m := 256) rfl rfl rfl rfl rfl rfl (fun b22 => ?_)
      refine TL.nil ?_
      refine AQ.al (.nil _) ?_
      exact AL.join' (J1_5_6 ⟨v17, hb17, b21, b22⟩ hB17) (by decide +kernel) ⟨rfl, rfl, rfl, rfl, rfl, rfl, trivial⟩ (.cons inferInstance rfl (.cons inferInstance rfl (.seg inferInstance (.cons inferInstance rfl (.seg inferInstance (.last inferInstance))))))
  refine AL.meetAt (X := Value × HS × Nat) (fun ((v17, hb17, b22) : Value × HS × Nat) => Buf 5 1 v17 (bys y0) hb17) (fun ((v17, hb17, b22) : Value × HS × Nat) => [(17, v17), (22, slv b22 256), (16, v), (18, u), (4, ptr b4)]) (fun ((v17, hb17, b22) : Value × HS × Nat) => zerB b22 256 :: hb17 ++ (⟨b4, cel (machL machZ) 41, true⟩ :: sg0 ++ (sg1))) #[true, true, true, false, false, false, true, false, false, false, false] 7 true (fun ⟨v17, hb17, b22⟩ hB17 => ?_) (fun J1_6 => ?_)
  · show AL _ _ _ _ _ _ _ _ _ _ _ _ [(17, v17), (22, slv b22 256), (16, v), (18, u), (4, ptr b4)] (zerB b22 256 :: hb17 ++ (⟨b4, cel (machL machZ) 41, true⟩ :: sg0 ++ (sg1)))
    refine AL.pick (is := [3, 4, 5]) (by decide +kernel) (by decide) (.cons rfl ?_ (.cons rfl ?_ (.cons rfl ?_ .nil)))
    · skip
      refine TL.callX (Clone_fn u n1 y1 sg1 R1 (by omega)) rfl rfl rfl (.lastro inferInstance R1.ro) rfl (fun ⟨v19, hb19⟩ hB19 => ?_)
      show TL _ _ _ _ _ _ _ ((19, v19) :: _) (hb19 ++ _) _
      refine TL.nil ?_
      refine AQ.al (.nil _) ?_
      exact AL.join' (J1_3_6 ⟨v17, hb17, v19, hb19, b22⟩ ⟨hB17, hB19⟩) (by decide +kernel) ⟨rfl, rfl, rfl, rfl, rfl, rfl, trivial⟩ (.cons inferInstance rfl (.seg inferInstance (.seg inferInstance (.cons inferInstance rfl (.seg inferInstance (.last inferInstance))))))
    · skip
      refine TL.makeSlice (m := 128) rfl rfl rfl rfl rfl rfl (fun b20 => ?_)
      refine TL.nil ?_
      refine AQ.al (.nil _) ?_
      exact AL.join' (J1_4_6 ⟨v17, hb17, b20, b22⟩ hB17) (by decide +kernel) ⟨rfl, rfl, rfl, rfl, rfl, rfl, trivial⟩ (.cons inferInstance rfl (.cons inferInstance rfl (.seg inferInstance (.cons inferInstance rfl (.seg inferInstance (.last inferInstance))))))
    · skip
      refine TL.makeSlice (m := 64) rfl rfl rfl rfl rfl rfl (fun b21 => ?_)
      refine TL.nil ?_
      refine AQ.al (.nil _) ?_
      exact AL.join' (J1_5_6 ⟨v17, hb17, b21, b22⟩ hB17) (by decide +kernel) ⟨rfl, rfl, rfl, rfl, rfl, rfl, trivial⟩ (.cons inferInstance rfl (.cons inferInstance rfl (.seg inferInstance (.cons inferInstance rfl (.seg inferInstance (.last inferInstance))))))
  refine AL.meetAt (X := Nat × Nat) (fun ((b20, b21) : Nat × Nat) => True) (fun ((b20, b21) : Nat × Nat) => [(20, slv b20 128), (21, slv b21 64), (16, v), (18, u), (4, ptr b4)]) (fun ((b20, b21) : Nat × Nat) => zerB b21 64 :: zerB b20 128 :: ⟨b4, cel (machL machZ) 41, true⟩ :: sg0 ++ (sg1)) #[true, false, true, false, true, true, false, false, false, false, false] 7 true (fun ⟨b20, b21⟩ _ => ?_) (fun J4_5 => ?_)
  · show AL _ _ _ _ _ _ _ _ _ _ _ _ [(20, slv b20 128), (21, slv b21 64), (16, v), (18, u), (4, ptr b4)] (zerB b21 64 :: zerB b20 128 :: ⟨b4, cel (machL machZ) 41, true⟩ :: sg0 ++ (sg1))
    refine AL.pick (is := [1, 6]) (by decide +kernel) (by decide) (.cons rfl ?_ (.cons rfl ?_ .nil))
    · skip
      refine TL.callX (Clone_fn v n0 y0 sg0 R0 (by omega)) rfl rfl rfl (.lastro inferInstance R0.ro) rfl (fun ⟨v17, hb17⟩ hB17 => ?_)
      show TL _ _ _ _ _ _ _ ((17, v17) :: _) (hb17 ++ _) _
      refine TL.nil ?_
      refine AQ.al (.nil _) ?_
      exact AL.join' (J1_4_5 ⟨v17, hb17, b20, b21⟩ hB17) (by decide +kernel) ⟨rfl, rfl, rfl, rfl, rfl, rfl, trivial⟩ (.cons inferInstance rfl (.cons inferInstance rfl (.seg inferInstance (.cons inferInstance rfl (.seg inferInstance (.last inferInstance))))))
    · skip
      refine TL.makeSlice (m := 256) rfl rfl rfl rfl rfl rfl (fun b22 => ?_)
      refine TL.nil ?_
      refine AQ.al (.nil _) ?_
      exact AL.join' (J4_5_6 ⟨b20, b21, b22⟩ trivial) (by decide +kernel) ⟨rfl, rfl, rfl, rfl, rfl, rfl, trivial⟩ (.cons inferInstance rfl (.cons inferInstance rfl (.cons inferInstance rfl (.cons inferInstance rfl (.seg inferInstance (.last inferInstance))))))
  refine AL.meetAt (X := Nat × Nat) (fun ((b20, b22) : Nat × Nat) => True) (fun ((b20, b22) : Nat × Nat) => [(20, slv b20 128), (22, slv b22 256), (16, v), (18, u), (4, ptr b4)]) (fun ((b20, b22) : Nat × Nat) => zerB b22 256 :: zerB b20 128 :: ⟨b4, cel (machL machZ) 41, true⟩ :: sg0 ++ (sg1)) #[true, false, true, false, true, false, true, false, false, false, false] 7 true (fun ⟨b20, b22⟩ _ => ?_) (fun J4_6 => ?_)
  · show AL _ _ _ _ _ _ _ _ _ _ _ _ [(20, slv b20 128), (22, slv b22 256), (16, v), (18, u), (4, ptr b4)] (zerB b22 256 :: zerB b20 128 :: ⟨b4, cel (machL machZ) 41, true⟩ :: sg0 ++ (sg1))
    refine AL.pick (is := [1, 5]) (by decide +kernel) (by decide) (.cons rfl ?_ (.cons rfl ?_ .nil))
    · skip
      refine TL.callX (Clone_fn v n0 y0 sg0 R0 (by omega)) rfl rfl rfl (.lastro inferInstance R0.ro) rfl (fun ⟨v17, hb17⟩ hB17 => ?_)
      show TL _ _ _ _ _ _ _ ((17, v17) :: _) (hb17 ++ _) _
      refine TL.nil ?_
      refine AQ.al (.nil _) ?_
      exact AL.join' (J1_4_6 ⟨v17, hb17, b20, b22⟩ hB17) (by decide +kernel) ⟨rfl, rfl, rfl, rfl, rfl, rfl, trivial⟩ (.cons inferInstance rfl (.cons inferInstance rfl (.seg inferInstance (.cons inferInstance rfl (.seg inferInstance (.last inferInstance))))))
    · skip
      refine TL.makeSlice (m := 64) rfl rfl rfl rfl rfl rfl (fun b21 => ?_)
      refine TL.nil ?_
      refine AQ.al (.nil _) ?_
      exact AL.join' (J4_5_6 ⟨b20, b21, b22⟩ trivial) (by decide +kernel) ⟨rfl, rfl, rfl, rfl, rfl, rfl, trivial⟩ (.cons inferInstance rfl (.cons inferInstance rfl (.cons inferInstance rfl (.cons inferInstance rfl (.seg inferInstance (.last inferInstance))))))
  refine AL.meetAt (X := Nat × Nat) (fun ((b21, b22) : Nat × Nat) => True) (fun ((b21, b22) : Nat × Nat) => [(21, slv b21 64), (22, slv b22 256), (16, v), (18, u), (4, ptr b4)]) (fun ((b21, b22) : Nat × Nat) => zerB b22 256 :: zerB b21 64 :: ⟨b4, cel (machL machZ) 41, true⟩ :: sg0 ++ (sg1)) #[true, false, true, false, false, true, true, false, false, false, false] 7 true (fun ⟨b21, b22⟩ _ => ?_) (fun J5_6 => ?_)
  · show AL _ _ _ _ _ _ _ _ _ _ _ _ [(21, slv b21 64), (22, slv b22 256), (16, v), (18, u), (4, ptr b4)] (zerB b22 256 :: zerB b21 64 :: ⟨b4, cel (machL machZ) 41, true⟩ :: sg0 ++ (sg1))
    refine AL.pick (is := [1, 4]) (by decide +kernel) (by decide) (.cons rfl ?_ (.cons rfl ?_ .nil))
    · skip
      refine TL.callX (Clone_fn v n0 y0 sg0 R0 (by omega)) rfl rfl rfl (.lastro inferInstance R0.ro) rfl (fun ⟨v17, hb17⟩ hB17 => ?_)
      show TL _ _ _ _ _ _ _ ((17, v17) :: _) (hb17 ++ _) _
      refine TL.nil ?_
      refine AQ.al (.nil _) ?_
      exact AL.join' (J1_5_6 ⟨v17, hb17, b21, b22⟩ hB17) (by decide +kernel) ⟨rfl, rfl, rfl, rfl, rfl, rfl, trivial⟩ (.cons inferInstance rfl (.cons inferInstance rfl (.seg inferInstance (.cons inferInstance rfl (.seg inferInstance (.last inferInstance))))))
    · skip
      refine TL.makeSlice (m := 128) rfl rfl rfl rfl rfl rfl (fun b20 => ?_)
      refine TL.nil ?_
      refine AQ.al (.nil _) ?_
      exact AL.join' (J4_5_6 ⟨b20, b21, b22⟩ trivial) (by decide +kernel) ⟨rfl, rfl, rfl, rfl, rfl, rfl, trivial⟩ (.cons inferInstance rfl (.cons inferInstance rfl (.cons inferInstance rfl (.cons inferInstance rfl (.seg inferInstance (.last inferInstance))))))
  refine AL.meetAt (X := Value × HS) (fun ((v17, hb17) : Value × HS) => Buf 5 1 v17 (bys y0) hb17) (fun ((v17, hb17) : Value × HS) => [(17, v17), (16, v), (18, u), (4, ptr b4)]) (fun ((v17, hb17) : Value × HS) => hb17 ++ (⟨b4, cel (machL machZ) 41, true⟩ :: sg0 ++ (sg1))) #[true, true, true, false, false, false, false, false, false, false, false] 8 true (fun ⟨v17, hb17⟩ hB17 => ?_) (fun J1 => ?_)
  · show AL _ _ _ _ _ _ _ _ _ _ _ _ [(17, v17), (16, v), (18, u), (4, ptr b4)] (hb17 ++ (⟨b4, cel (machL machZ) 41, true⟩ :: sg0 ++ (sg1)))
    refine AL.pick (is := [3, 4, 5, 6]) (by decide +kernel) (by decide) (.cons rfl ?_ (.cons rfl ?_ (.cons rfl ?_ (.cons rfl ?_ .nil))))
    · skip
      refine TL.callX (Clone_fn u n1 y1 sg1 R1 (by omega)) rfl rfl rfl (.lastro inferInstance R1.ro) rfl (fun ⟨v19, hb19⟩ hB19 => ?_)
      show TL _ _ _ _ _ _ _ ((19, v19) :: _) (hb19 ++ _) _
      refine TL.nil ?_
      refine AQ.al (.nil _) ?_
      exact AL.join' (J1_3 ⟨v17, hb17, v19, hb19⟩ ⟨hB17, hB19⟩) (by decide +kernel) ⟨rfl, rfl, rfl, rfl, rfl, trivial⟩ (.seg inferInstance (.seg inferInstance (.cons inferInstance rfl (.seg inferInstance (.last inferInstance)))))
    · skip
      refine TL.makeSlice (m := 128) rfl rfl rfl rfl rfl rfl (fun b20 => ?_)
      refine TL.nil ?_
      refine AQ.al (.nil _) ?_
      exact AL.join' (J1_4 ⟨v17, hb17, b20⟩ hB17) (by decide +kernel) ⟨rfl, rfl, rfl, rfl, rfl, trivial⟩ (.cons inferInstance rfl (.seg inferInstance (.cons inferInstance rfl (.seg inferInstance (.last inferInstance)))))
    · skip
      refine TL.makeSlice (m := 64) rfl rfl rfl rfl rfl rfl (fun b21 => ?_)
      refine TL.nil ?_
      refine AQ.al (.nil _) ?_
      exact AL.join' (J1_5 ⟨v17, hb17, b21⟩ hB17) (by decide +kernel) ⟨rfl, rfl, rfl, rfl, rfl, trivial⟩ (.cons inferInstance rfl (.seg inferInstance (.cons inferInstance rfl (.seg inferInstance (.last inferInstance)))))
    · skip
      refine TL.makeSlice (m := 256) rfl rfl rfl rfl rfl rfl (fun b22 => ?_)
      refine TL.nil ?_
      refine AQ.al (.nil _) ?_
      exact AL.join' (J1_6 ⟨v17, hb17, b22⟩ hB17) (by decide +kernel) ⟨rfl, rfl, rfl, rfl, rfl, trivial⟩ (.cons inferInstance rfl (.seg inferInstance (.cons inferInstance rfl (.seg inferInstance (.last inferInstance)))))
  refine AL.meetAt (X := Nat) (fun (b20 : Nat) => True) (fun (b20 : Nat) => [(20, slv b20 128), (16, v), (18, u), (4, ptr b4)]) (fun (b20 : Nat) => zerB b20 128 :: ⟨b4, cel (machL machZ) 41, true⟩ :: sg0 ++ (sg1)) #[true, false, true, false, true, false, false, false, false, false, false] 8 true (fun b20 _ => ?_) (fun J4 => ?_)
  · show AL _ _ _ _ _ _ _ _ _ _ _ _ [(20, slv b20 128), (16, v), (18, u), (4, ptr b4)] (zerB b20 128 :: ⟨b4, cel (machL machZ) 41, true⟩ :: sg0 ++ (sg1))
    refine AL.pick (is := [1, 5, 6]) (by decide +kernel) (by decide) (.cons rfl ?_ (.cons rfl ?_ (.cons rfl ?_ .nil)))
    · skip
      refine TL.callX (Clone_fn v n0 y0 sg0 R0 (by omega)) rfl rfl rfl (.lastro inferInstance R0.ro) rfl (fun ⟨v17, hb17⟩ hB17 => ?_)
      show TL _ _ _ _ _ _ _ ((17, v17) :: _) (hb17 ++ _) _
      refine TL.nil ?_
      refine AQ.al (.nil _) ?_
      exact AL.join' (J1_4 ⟨v17, hb17, b20⟩ hB17) (by decide +kernel) ⟨rfl, rfl, rfl, rfl, rfl, trivial⟩ (.cons inferInstance rfl (.seg inferInstance (.cons inferInstance rfl (.seg inferInstance (.last inferInstance)))))
    · skip
      refine TL.makeSlice (m := 64) rfl rfl rfl rfl rfl rfl (fun b21 => ?_)
      refine TL.nil ?_
      refine AQ.al (.nil _) ?_
      exact AL.join' (J4_5 ⟨b20, b21⟩ trivial) (by decide +kernel) ⟨rfl, rfl, rfl, rfl, rfl, trivial⟩ (.cons inferInstance rfl (.cons inferInstance rfl (.cons inferInstance rfl (.seg inferInstance (.last inferInstance)))))
    · skip
      refine TL.makeSlice (m := 256) rfl rfl rfl rfl rfl rfl (fun b22 => ?_)
      refine TL.nil ?_
      refine AQ.al (.nil _) ?_
      exact AL.join' (J4_6 ⟨b20, b22⟩ trivial) (by decide +kernel) ⟨rfl, rfl, rfl, rfl, rfl, trivial⟩ (.cons inferInstance rfl (.cons inferInstance rfl (.cons inferInstance rfl (.seg inferInstance (.last inferInstance)))))
  refine AL.meetAt (X := Nat) (fun (b21 : Nat) => True) (fun (b21 : Nat) => [(21, slv b21 64), (16, v), (18, u), (4, ptr b4)]) (fun (b21 : Nat) => zerB b21 64 :: ⟨b4, cel (machL machZ) 41, true⟩ :: sg0 ++ (sg1)) #[true, false, true, false, false, true, false, false, false, false, false] 8 true (fun b21 _ => ?_) (fun J5 => ?_)
  · show AL _ _ _ _ _ _ _ _ _ _ _ _ [(21, slv b21 64), (16, v), (18, u), (4, ptr b4)] (zerB b21 64 :: ⟨b4, cel (machL machZ) 41, true⟩ :: sg0 ++ (sg1))
    refine AL.pick (is := [1, 4, 6]) (by decide +kernel) (by decide) (.cons rfl ?_ (.cons rfl ?_ (.cons rfl ?_ .nil)))
    · skip
      refine TL.callX (Clone_fn v n0 y0 sg0 R0 (by omega)) rfl rfl rfl (.lastro inferInstance R0.ro) rfl (fun ⟨v17, hb17⟩ hB17 => ?_)
      show TL _ _ _ _ _ _ _ ((17, v17) :: _) (hb17 ++ _) _
      refine TL.nil ?_
      refine AQ.al (.nil _) ?_
      exact AL.join' (J1_5 ⟨v17, hb17, b21⟩ hB17) (by decide +kernel) ⟨rfl, rfl, rfl, rfl, rfl, trivial⟩ (.cons inferInstance rfl (.seg inferInstance (.cons inferInstance rfl (.seg inferInstance (.last inferInstance)))))
    · skip
      refine TL.makeSlice (m := 128) rfl rfl rfl rfl rfl rfl (fun b20 => ?_)
      refine TL.nil ?_
      refine AQ.al (.nil _) ?_
      exact AL.join' (J4_5 ⟨b20, b21⟩ trivial) (by decide +kernel) ⟨rfl, rfl, rfl, rfl, rfl, trivial⟩ (.cons inferInstance rfl (.cons inferInstance rfl (.cons inferInstance rfl (.seg inferInstance (.last inferInstance)))))
    · skip
      refine TL.makeSlice (m := 256) rfl rfl rfl rfl rfl rfl (fun b22 => ?_)
      refine TL.nil ?_
      refine AQ.al (.nil _) ?_
      exact AL.join' (J5_6 ⟨b21, b22⟩ trivial) (by decide +kernel) ⟨rfl, rfl, rfl, rfl, rfl, trivial⟩ (.cons inferInstance rfl (.cons inferInstance rfl (.cons inferInstance rfl (.seg inferInstance (.last inferInstance)))))
  refine AL.meetAt (X := Nat) (fun (b22 : Nat) => True) (fun (b22 : Nat) => [(22, slv b22 256), (16, v), (18, u), (4, ptr b4)]) (fun (b22 : Nat) => zerB b22 256 :: ⟨b4, cel (machL machZ) 41, true⟩ :: sg0 ++ (sg1)) #[true, false, true, false, false, false, true, false, false, false, false] 8 true (fun b22 _ => ?_) (fun J6 => ?_)
  · show AL _ _ _ _ _ _ _ _ _ _ _ _ [(22, slv b22 256), (16, v), (18, u), (4, ptr b4)] (zerB b22 256 :: ⟨b4, cel (machL machZ) 41, true⟩ :: sg0 ++ (sg1))
    refine AL.pick (is := [1, 4, 5]) (by decide +kernel) (by decide) (.cons rfl ?_ (.cons rfl ?_ (.cons rfl ?_ .nil)))
    · skip
      refine TL.callX (Clone_fn v n0 y0 sg0 R0 (by omega)) rfl rfl rfl (.lastro inferInstance R0.ro) rfl (fun ⟨v17, hb17⟩ hB17 => ?_)
      show TL _ _ _ _ _ _ _ ((17, v17) :: _) (hb17 ++ _) _
      refine TL.nil ?_
      refine AQ.al (.nil _) ?_
      exact AL.join' (J1_6 ⟨v17, hb17, b22⟩ hB17) (by decide +kernel) ⟨rfl, rfl, rfl, rfl, rfl, trivial⟩ (.cons inferInstance rfl (.seg inferInstance (.cons inferInstance rfl (.seg inferInstance (.last inferInstance)))))
    · skip
      refine TL.makeSlice (m := 128) rfl rfl rfl rfl rfl rfl (fun b20 => ?_)
      refine TL.nil ?_
      refine AQ.al (.nil _) ?_
      exact AL.join' (J4_6 ⟨b20, b22⟩ trivial) (by decide +kernel) ⟨rfl, rfl, rfl, rfl, rfl, trivial⟩ (.cons inferInstance rfl (.cons inferInstance rfl (.cons inferInstance rfl (.seg inferInstance (.last inferInstance)))))
    · skip
      refine TL.makeSlice (m := 64) rfl rfl rfl rfl rfl rfl (fun b21 => ?_)
      refine TL.nil ?_
      refine AQ.al (.nil _) ?_
      exact AL.join' (J5_6 ⟨b21, b22⟩ trivial) (by decide +kernel) ⟨rfl, rfl, rfl, rfl, rfl, trivial⟩ (.cons inferInstance rfl (.cons inferInstance rfl (.cons inferInstance rfl (.seg inferInstance (.last inferInstance)))))
  refine AL.pick (is := [1, 4, 5, 6]) (by decide +kernel) (by decide) (.cons rfl ?_ (.cons rfl ?_ (.cons rfl ?_ (.cons rfl ?_ .nil))))
  · skip
    refine TL.callX (Clone_fn v n0 y0 sg0 R0 (by omega)) rfl rfl rfl (.lastro inferInstance R0.ro) rfl (fun ⟨v17, hb17⟩ hB17 => ?_)
    show TL _ _ _ _ _ _ _ ((17, v17) :: _) (hb17 ++ _) _
    refine TL.nil ?_
    refine AQ.al (.nil _) ?_
    exact AL.join' (J1 ⟨v17, hb17⟩ hB17) (by decide +kernel) ⟨rfl, rfl, rfl, rfl, trivial⟩ (.seg inferInstance (.cons inferInstance rfl (.seg inferInstance (.last inferInstance))))
  · skip
    refine TL.makeSlice (m := 128) rfl rfl rfl rfl rfl rfl (fun b20 => ?_)
    refine TL.nil ?_
    refine AQ.al (.nil _) ?_
    exact AL.join' (J4 b20 trivial) (by decide +kernel) ⟨rfl, rfl, rfl, rfl, trivial⟩ (.cons inferInstance rfl (.cons inferInstance rfl (.seg inferInstance (.last inferInstance))))
  · skip
    refine TL.makeSlice (m := 64) rfl rfl rfl rfl rfl rfl (fun b21 => ?_)
    refine TL.nil ?_
    refine AQ.al (.nil _) ?_
    exact AL.join' (J5 b21 trivial) (by decide +kernel) ⟨rfl, rfl, rfl, rfl, trivial⟩ (.cons inferInstance rfl (.cons inferInstance rfl (.seg inferInstance (.last inferInstance))))
  · skip
    refine TL.makeSlice (m := 256) rfl rfl rfl rfl rfl rfl (fun b22 => ?_)
    refine TL.nil ?_
    refine AQ.al (.nil _) ?_
    exact AL.join' (J6 b22 trivial) (by decide +kernel) ⟨rfl, rfl, rfl, rfl, trivial⟩ (.cons inferInstance rfl (.cons inferInstance rfl (.seg inferInstance (.last inferInstance))))
end Go.Sl