/-
  Walks of this claim's functions, printed by a program of ours off the loaded program. Holds under no condition.
-/
import Derived.Test.YtebllgcaenpdgaaS1Q
set_option linter.all false
namespace Go.Sl
open Go Go.Proofs
theorem Bytes_b {m : Mach} {y : Rw} {s : Sg} (h : Bufs m y s) (hm : m.Ok) : FnX Try.prog 5 [.agg (machL m).toArray] (roS s.hs) (Value × HS) (fun p => if ckY m y = 0 then Buf 5 1 p.1 (bys (machY m y)) p.2 else p = (.slice none 0 0, [])) (fun p => .tuple #[p.1, vi (ckY m y)]) (fun p => p.2) := by
  rw [← Sg.ro_hs]; exact Bytes_m h.rows hm
theorem no_b {m : Mach} {y : Rw} {s : Sg} (h : Bufs m y s) (hy : y.rng) : FnD Try.prog 10 [.agg (machL m).toArray] (roS s.hs) (vt (sameY m machZ y rwZ)) [] := by
  rw [← Sg.ro_hs]; exact no_m h.rows hy
theorem same_bb {m k : Mach} {y z : Rw} {s t : Sg} (h : Bufs m y s) (h' : Bufs k z t) (hy : y.rng) (hz : z.rng) : FnD Try.prog 9 [.agg (machL m).toArray, .agg (machL k).toArray] (roS s.hs ++ roS t.hs) (vt (sameY m k y z)) [] := by
  rw [← Sg.ro_hs, ← Sg.ro_hs]; exact same_m h.rows h'.rows hy hz
theorem same_rb {m k : Mach} {y z : Rw} {s t : Sg} (h : Rows m y s) (h' : Bufs k z t) (hy : y.rng) (hz : z.rng) : FnD Try.prog 9 [.agg (machL m).toArray, .agg (machL k).toArray] (s.hs ++ roS t.hs) (vt (sameY m k y z)) [] := by
  rw [← Sg.ro_hs]; exact same_m h h'.rows hy hz
theorem Of_some {m : Mach} {y : Rw} {x : Option OfM} (hm : m.Ok) (hc : ckY m y = 0) (hx : ofCY (machY m y) x) : ∃ r, x = some r ∧ r.Ok (machY m y) ∧ sameY m r.m y r.y = true := by
  cases x with
  | none => exact absurd hc (hx m y (ofP_machY hm hc))
  | some r => exact ⟨r, rfl, hx, valY_inj.1 (Option.some.inj ((ofP_machY hm hc).symm.trans hx.p))⟩
theorem sameY_main {m k : Mach} {y z : Rw} (h : sameY m k y z = true) : m.main = k.main := by
  have := (sameB_iff.1 h).1
  exact (congrArg Mach.main this : _)
theorem rng_zeros (n : Nat) : rng (List.replicate n 0) := fun x hx => by obtain rfl := List.eq_of_mem_replicate hx; omega
theorem startW_in {y : List Int} (hy : rng y) : u16 (startW y) := by
  have h0 := romB_in hy 0
  have h1 := romB_in hy 1
  unfold startW u16; omega
theorem NewM.spec {y0 y1 : List Int} {m : Mach} {y : Rw} {s : Sg} (h : NewM y0 y1 ⟨m, y, s⟩) (g0 : rng y0) (g1 : rng y1) (l0 : y0.length ≤ 1024) (l1 : y1.length ≤ 1024) : m.Ok ∧ ckY m y = 0 ∧ m.main.pc = startW y0 ∧ y.rng := by
  obtain ⟨_, hy, hm⟩ := h
  simp only at hy hm
  subst hy
  have hs := startW_in g0
  obtain ⟨m1, m2, s0, s1, s2, s3, s4, c1, c2, c3, c4, c5, c6, c7, c8, c9, c10, w1, w2, w3, d1, d2, d3, d4, d5, e1, e2, e3, e4, e5, e6, e7, e8, e9, e10⟩ := m
  simp only [Mach.as, machZ, Mach.mk.injEq] at hm
  obtain ⟨rfl, rfl, -, -, -, -, -, rfl, rfl, rfl, rfl, rfl, rfl, rfl, rfl, rfl, rfl, rfl, rfl, rfl, rfl, rfl, rfl, rfl, rfl, rfl, rfl, rfl, rfl, rfl, rfl, rfl, rfl, rfl, rfl⟩ := hm
  have z16 : u16 0 := by unfold u16; omega
  refine ⟨⟨⟨z16, z16, z16, z16, z16, z16, z16, z16, hs⟩, ⟨z16, z16, z16, z16, z16, z16, z16, z16, z16⟩, ?_, ?_, ?_, ?_, ?_, ?_, ⟨?_, ?_, ?_, ?_⟩, ⟨?_, ?_, ?_, ?_⟩, ⟨?_, ?_, ?_, ?_⟩, ?_, ?_, ?_, ?_⟩, ?_, rfl, ⟨g0, g1, rng_zeros _, rng_zeros _, rng_zeros _⟩⟩ <;> try (simp only [voiceZ]; omega)
  simp only [ckY, checkN, List.length_replicate]
  rw [if_neg (by omega), if_neg (by omega)]
  rfl


set_option maxRecDepth 20000 in
theorem saved_fn : FnD Try.prog 7 [] [] (vt true) [] := by
  have g0 : rng [0, 2, 121, 31] := by intro x hx; simp only [List.mem_cons, List.not_mem_nil, or_false] at hx; omega
  have g1 : rng [1] := by intro x hx; simp only [List.mem_cons, List.not_mem_nil, or_false] at hx; omega
  refine FnE.enter Try.func7 rfl Try.ntmps7 rfl (fun w => ?_)
  refine TC.seq ?_
  refine TC.region ?_
  refine TL.pu (.assign rfl) rfl ?_
  refine TL.nil ?_
  refine AQ.then_n ?_
  refine TC.seq ?_
  refine TC.region ?_
  refine TL.buildSlice rfl rfl rfl rfl rfl (fun b8 => ?_)
  refine TL.buildSlice rfl rfl rfl rfl rfl (fun b9 => ?_)
  refine TL.callX (New_m (y0 := [0, 2, 121, 31]) (y1 := [1]) (sg0 := [⟨b8, cel _ 5, false⟩]) (sg1 := [⟨b9, cel _ 5, false⟩]) (.row rfl (by decide) rfl (by decide)) (.row rfl (by decide) rfl (by decide)) (by decide) (by decide) g0) rfl rfl rfl (.ro inferInstance (.ro inferInstance (.nil _))) rfl (fun ⟨m, y, s⟩ hN => ?_)
  have hB := hN.b
  obtain ⟨hok, hck, hpc, hyr⟩ := hN.spec g0 g1 (by decide) (by decide)
  show TL _ _ _ _ _ _ _ ((10, .tuple #[.agg (machL m).toArray, vi 0]) :: _) (s.hs ++ _) _
  refine TL.pu (.move rfl) rfl ?_
  refine TL.pu (.extract rfl rfl) rfl ?_
  refine TL.pu (.extract rfl rfl) rfl ?_
  refine TL.alloc rfl rfl (fun b1 => ?_)
  refine TL.storeAll rfl rfl rfl (hB.rows.one [] rfl) inferInstance rfl ?_
  refine TL.pu (.assign rfl) rfl ?_
  refine TL.nil ?_
  refine AQ.then_n ?_
  refine TC.seq ?_
  refine TC.region ?_
  refine TL.rd (.loadAll rfl inferInstance rfl) rfl ?_
  refine TL.callX (Bytes_b hB hok) rfl rfl rfl (.lastr inferInstance) rfl (fun ⟨v15, hb15⟩ hB15 => ?_)
  replace hB15 : Buf 5 1 v15 (bys (machY m y)) hb15 := by have h := hB15; rw [if_pos hck] at h; exact h
  show TL _ _ _ _ _ _ _ ((15, .tuple #[v15, vi (ckY m y)]) :: _) (hb15 ++ _) _
  refine TL.pu (.move rfl) rfl ?_
  refine TL.pu (.extract rfl rfl) rfl ?_
  refine TL.pu (.extract rfl rfl) rfl ?_
  refine TL.say 17 (vi 0) rfl (congrArg (Value.int .i64) hck) ?_
  refine TL.pu (.assign rfl) rfl ?_
  refine TL.pu (.assign rfl) rfl ?_
  refine TL.nil ?_
  refine AQ.then_n ?_
  refine TC.seq ?_
  refine TC.region ?_
  refine TL.pu (.move rfl) rfl ?_
  refine TL.callX (Of_m (hB15.ro (bys_length _)) (machY_rng hyr)) rfl rfl rfl (.lastr inferInstance) rfl (fun x hx => ?_)
  obtain ⟨⟨m2, y2, s2⟩, rfl, ⟨hp2, hck2, hB2⟩, hsame⟩ := Of_some hok hck hx
  obtain ⟨hok2, -, hyr2⟩ := ofP_backY (machY_rng hyr) hp2
  show TL _ _ _ _ _ _ _ ((20, .tuple #[.agg (machL m2).toArray, vi 0]) :: _) (s2.hs ++ _) _
  refine TL.pu (.move rfl) rfl ?_
  refine TL.pu (.extract rfl rfl) rfl ?_
  refine TL.pu (.extract rfl rfl) rfl ?_
  refine TL.alloc rfl rfl (fun b5 => ?_)
  refine TL.storeAll rfl rfl rfl (hB2.rows.one [] rfl) inferInstance rfl ?_
  refine TL.pu (.assign rfl) rfl ?_
  refine TL.nil ?_
  refine AQ.then_n ?_
  refine TC.seq ?_
  refine TC.region ?_
  refine TL.pu (.move rfl) rfl ?_
  refine TL.pu (.int rfl rfl rfl) rfl ?_
  refine TL.say 24 (.bool true) rfl rfl ?_
  refine TL.pu (.move rfl) rfl ?_
  refine TL.guard_yes rfl rfl ?_
  refine TL.pu (.move rfl) rfl ?_
  refine TL.guard_yes rfl rfl ?_
  refine TL.pu (.int rfl rfl rfl) rfl ?_
  refine TL.say 27 (.bool true) rfl rfl ?_
  refine TL.pu (.pick_t rfl rfl) rfl ?_
  refine TL.pu (.move rfl) rfl ?_
  refine TL.guard_yes rfl rfl ?_
  refine TL.pu (.move rfl) rfl ?_
  refine TL.guard_yes rfl rfl ?_
  refine TL.pu (.int rfl rfl rfl) rfl ?_
  refine TL.say 31 (.bool true) rfl rfl ?_
  refine TL.pu (.pick_t rfl rfl) rfl ?_
  refine TL.pu (.move rfl) rfl ?_
  refine TL.guard_yes rfl rfl ?_
  refine TL.pu (.move rfl) rfl ?_
  refine TL.guard_yes rfl rfl ?_
  refine TL.pu (.lenSl rfl (hB15.isl rfl) rfl) rfl ?_
  refine TL.guard_yes rfl rfl ?_
  refine TL.pu (.int rfl rfl rfl) rfl ?_
  refine TL.say 36 (vt true) rfl (congrArg Value.bool (decide_eq_true (by rw [bys_length, machY_length]; omega))) ?_
  refine TL.pu (.pick_t rfl rfl) rfl ?_
  refine TL.pu (.move rfl) rfl ?_
  refine TL.guard_yes rfl rfl ?_
  refine TL.rd (.loadAll rfl inferInstance rfl) rfl ?_
  refine TL.guard_yes rfl rfl ?_
  refine TL.rd (.loadAll rfl inferInstance rfl) rfl ?_
  refine TL.guard_yes rfl rfl ?_
  refine TL.callD (same_bb hB hB2 hyr hyr2) rfl rfl rfl (.sgr inferInstance (.lastr inferInstance)) rfl ?_
  refine TL.say 41 (vt true) rfl (congrArg Value.bool hsame) ?_
  refine TL.pu (.pick_t rfl rfl) rfl ?_
  refine TL.pu (.move rfl) rfl ?_
  refine TL.guard_yes rfl rfl ?_
  refine TL.pu (.fieldAddr rfl (m := 0) rfl) rfl ?_
  refine TL.guard_yes rfl rfl ?_
  refine TL.pu (.fieldAddr rfl (m := 8) rfl) rfl ?_
  refine TL.guard_yes rfl rfl ?_
  refine TL.rd (.load1 rfl inferInstance rfl) rfl ?_
  refine TL.say 46 (vw 2) rfl (congrArg (Value.int .u16) (by rw [← sameY_main hsame, hpc]; rfl)) ?_
  refine TL.guard_yes rfl rfl ?_
  refine TL.pu (.int rfl rfl rfl) rfl ?_
  refine TL.say 47 (.bool true) rfl rfl ?_
  refine TL.pu (.pick_t rfl rfl) rfl ?_
  refine TL.pu (.assign rfl) rfl ?_
  refine TL.nil ?_
  refine AQ.then_n ?_
  refine TC.ret ?_
  exact AQ.ret Try.results7 rfl ⟨rfl, rfl⟩ (.nil _)
end Go.Sl