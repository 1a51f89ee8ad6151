/-
  Walks of this claim's functions, printed by a program of ours off the loaded program. Holds under no condition.
-/
import Derived.Test.YtebllgcaenpdgaaS1S
set_option linter.all false
namespace Go.Sl
open Go Go.Proofs
theorem machY_inj {m k : Mach} {y z : Rw} (hm : m.Ok) (hk : k.Ok) (c1 : ckY m y = 0) (c2 : ckY k z = 0) : decide (machY m y = machY k z) = sameY m k y z := by
  have h : machY m y = machY k z ↔ sameY m k y z = true := by
    rw [← valY_inj]
    constructor
    · intro h
      have h1 := ofP_machY hm c1
      have h2 := ofP_machY hk c2
      rw [h, h2] at h1
      exact (Option.some.inj h1).symm
    · intro h
      unfold machY
      rw [machB_eq, machB_eq]
      show _ ++ wMany machF (valY m y) = _ ++ wMany machF (valY k z)
      rw [h]
  by_cases h' : machY m y = machY k z
  · rw [h.1 h', decide_eq_true h']
  · rw [decide_eq_false h']
    cases hs : sameY m k y z with
    | false => rfl
    | true => exact absurd (h.2 hs) h'
theorem Ro.take' {a : Option Addr} {n cap k : Nat} {ys : List Int} {sg : HS} (h : Ro 1 (.slice a n cap) n (bys ys) sg) (hk : k ≤ n) : Ro 1 (.slice a k cap) (ys.take k).length (bys (ys.take k)) sg := by
  have hl := h.length
  rw [bys_length] at hl
  have hkl : (ys.take k).length = k := by rw [List.length_take]; omega
  rw [hkl]
  cases h with
  | nil h1 h2 h3 =>
    subst h2
    obtain rfl : k = 0 := by omega
    simp only [Value.slice.injEq] at h1
    obtain ⟨rfl, -, rfl⟩ := h1
    exact .nil rfl rfl (by simp [bys])
  | @zero a' cap' h1 h2 h3 =>
    subst h2
    obtain rfl : k = 0 := by omega
    simp only [Value.slice.injEq] at h1
    obtain ⟨rfl, -, rfl⟩ := h1
    exact .zero rfl rfl (by simp [bys])
  | @row b off cap' c t z h1 h2 h3 h4 =>
    simp only [Value.slice.injEq] at h1
    obtain ⟨rfl, -, rfl⟩ := h1
    refine .row rfl (by omega) ?_ (by omega)
    have : bys (ys.take k) = (bys ys).take k := by simp [bys, List.map_take]
    rw [this, h3]; simp only [cut, List.take_take]; congr 1; omega
theorem atN_in (x n : Int) (hn : 0 < n) : 0 ≤ atN x n ∧ atN x n < n := by
  have h1 : -n < x.tmod n := by have := Int.lt_tmod_of_pos x hn; omega
  have h2 : x.tmod n < n := Int.tmod_lt_of_pos x hn
  unfold atN; split <;> omega
theorem rng_take {l : List Int} (h : rng l) (k : Nat) : rng (l.take k) := fun x hx => h x (List.mem_of_mem_take hx)


set_option maxRecDepth 20000 in
theorem SaveTorn_fn {m k : Mach} {y z : Rw} {s t : Sg} (R : Rows m y s) (R' : Rows k z t) (hm : m.Ok) (hk : k.Ok) (hy : y.rng) (hz : z.rng) {c q : Int} (hc : -9223372036854775808 ≤ c ∧ c < 9223372036854775808) (hq : 0 ≤ q ∧ q < 256) :
    FnD Try.prog 4 [.agg (machL m).toArray, .agg (machL k).toArray, vi c, vb q] (s.hs ++ t.hs) (vt true) [] := by
  have hq66 : rng (machY m y ++ [q]) := rng_append (machY_rng hy) (fun x hx => by rw [List.mem_singleton.1 hx]; exact hq)
  refine FnE.enter Try.func4 rfl Try.ntmps4 rfl (fun w => ?_)
  refine TC.seq ?_
  refine TC.region ?_
  refine TL.box (c := machL m) rfl rfl rfl (fun b4 => ?_)
  refine TL.box (c := machL k) rfl rfl rfl (fun b5 => ?_)
  refine TL.pu (.assign rfl) rfl ?_
  refine TL.nil ?_
  refine AQ.then_n ?_
  refine TC.seq ?_
  refine TC.region ?_
  refine TL.rd (.loadAll rfl inferInstance rfl) rfl ?_
  refine TL.callX (Bytes_m R hm) rfl rfl rfl (.lastro inferInstance R.ro) rfl (fun ⟨v20, hb20⟩ hB20 => ?_)
  show TL _ _ _ _ _ _ _ ((21, .tuple #[v20, vi (ckY m y)]) :: _) (hb20 ++ _) _
  refine TL.pu (.move rfl) rfl ?_
  refine TL.pu (.extract rfl rfl) rfl ?_
  refine TL.pu (.extract rfl rfl) rfl ?_
  refine TL.pu (.assign rfl) rfl ?_
  refine TL.pu (.assign rfl) rfl ?_
  refine TL.nil ?_
  refine AQ.then_n ?_
  refine TC.seq ?_
  refine TC.region ?_
  refine TL.rd (.loadAll rfl inferInstance rfl) rfl ?_
  refine TL.callX (Bytes_m R' hk) rfl rfl rfl (.lastro inferInstance R'.ro) rfl (fun ⟨v26, hb26⟩ hB26 => ?_)
  show TL _ _ _ _ _ _ _ ((26, .tuple #[v26, vi (ckY k z)]) :: _) (hb26 ++ _) _
  refine TL.pu (.move rfl) rfl ?_
  refine TL.pu (.extract rfl rfl) rfl ?_
  refine TL.pu (.extract rfl rfl) rfl ?_
  refine TL.pu (.assign rfl) rfl ?_
  refine TL.pu (.assign rfl) rfl ?_
  refine TL.nil ?_
  refine AQ.then_n ?_
  refine TC.seq ?_
  refine TC.seq ?_
  refine TC.region ?_
  refine TL.callD saved_fn rfl rfl rfl (.nil _) rfl ?_
  refine TL.pu (.not rfl) rfl ?_
  refine TL.say 30 (vt false) rfl rfl ?_
  refine TL.pu (.move rfl) rfl ?_
  refine TL.guard_yes rfl rfl ?_
  refine TL.pu (.move rfl) rfl ?_
  refine TL.guard_yes rfl rfl ?_
  refine TL.pu (.int rfl rfl rfl) rfl ?_
  refine TL.pu (.pick_f rfl rfl) rfl ?_
  refine TL.pu (.move rfl) rfl ?_
  refine TL.guard_d rfl rfl (fun p1 => ?_) (fun p1 => ?_)
  · skip
    refine TL.guard_no rfl rfl rfl rfl ?_
    refine TL.guard_no rfl rfl rfl rfl ?_
    refine TL.guard_no rfl rfl rfl rfl ?_
    refine TL.pu (.pick_t rfl rfl) rfl ?_
    refine TL.nil ?_
    refine AQ.then_n ?_
    refine TC.cond_t rfl ?_
    refine TC.seq ?_
    refine TC.region ?_
    refine TL.callD saved_fn rfl rfl rfl (.nil _) rfl ?_
    refine TL.pu (.move rfl) rfl ?_
    refine TL.guard_yes rfl rfl ?_
    refine TL.pu (.move rfl) rfl ?_
    refine TL.guard_yes rfl rfl ?_
    refine TL.pu (.int rfl rfl rfl) rfl ?_
    refine TL.say 43 (vt true) rfl (congrArg Value.bool (decide_eq_true (by assumption))) ?_
    refine TL.pu (.pick_t rfl rfl) rfl ?_
    refine TL.pu (.assign rfl) rfl ?_
    refine TL.nil ?_
    refine AQ.then_n ?_
    refine TC.ret ?_
    refine AQ.then_r ?_
    first
      | exact AQ.ret Try.results4 rfl ⟨rfl, rfl⟩ (.nil _)
      | exact absurd ‹(sameY m k y z != sameY m k y z) = true› (by simp)
  refine TL.guard_yes rfl rfl ?_
  refine TL.pu (.move rfl) rfl ?_
  refine TL.guard_yes rfl rfl ?_
  have hck : ckY m y = 0 := Decidable.not_not.1 ‹¬ ¬ ckY m y = 0›
  replace hB20 : Buf 5 1 v20 (bys (machY m y)) hb20 := by have h := hB20; rw [if_pos hck] at h; exact h
  obtain ⟨a21, c21, hv20, hcap⟩ := (hB20.ro rfl).is
  subst hv20
  have hR21 : Ro 1 (.slice a21 (bys (machY m y)).length c21) (bys (machY m y)).length (bys (machY m y)) (roS hb20) := hB20.ro rfl
  have hL0 : 0 < ((bys (machY m y)).length : Int) := by rw [bys_length, machY_length]; omega
  have hL1 : (bys (machY m y)).length ≤ 3000 := by have := ckY_lens hck; rw [bys_length, machY_length]; omega
  refine TL.pu (.lenSlice rfl rfl) rfl ?_
  refine TL.guard_yes rfl rfl ?_
  refine TL.pu (.int rfl rfl rfl) rfl ?_
  refine TL.say 38 (vt false) rfl (congrArg Value.bool (decide_eq_false (by omega))) ?_
  refine TL.pu (.pick_f rfl rfl) rfl ?_
  refine TL.nil ?_
  refine AQ.then_n ?_
  refine TC.cond_f rfl ?_
  refine TC.skip ?_
  refine AQ.then_n ?_
  refine TC.seq ?_
  refine TC.seq ?_
  refine TC.draws [⟨b4, cel (machL m) 41, true⟩, ⟨b5, cel (machL k) 41, true⟩] (fun i => false) (.cons inferInstance rfl (.cons inferInstance rfl (.nil _))) ?_
  refine AL.pu 0 rfl (.move rfl) rfl (by decide +kernel) (by decide +kernel) (by decide +kernel) (by decide +kernel) rfl ?_
  refine AL.pu 1 rfl (.int rfl rfl rfl) rfl (by decide +kernel) (by decide +kernel) (by decide +kernel) (by decide +kernel) rfl ?_
  refine AL.pu 2 rfl (.move rfl) rfl (by decide +kernel) (by decide +kernel) (by decide +kernel) (by decide +kernel) rfl ?_
  refine AL.splitd (t := 47) rfl (fun p2 => ?_) (fun p2 => ?_)
  · skip
    refine AL.rd_yes 3 rfl (Pu.rd (.move rfl)) rfl rfl rfl (by decide +kernel) (by decide +kernel) (by decide +kernel) (by decide +kernel) rfl ?_
    refine AL.rd_yes 4 rfl (Pu.rd (.move rfl)) rfl rfl rfl (by decide +kernel) (by decide +kernel) (by decide +kernel) (by decide +kernel) rfl ?_
    refine AL.rd_yes 6 rfl (.loadA rfl inferInstance rfl) rfl rfl rfl (by decide +kernel) (by decide +kernel) (by decide +kernel) (by decide +kernel) rfl ?_
    refine AL.rd_yes 7 rfl (.loadA rfl inferInstance rfl) rfl rfl rfl (by decide +kernel) (by decide +kernel) (by decide +kernel) (by decide +kernel) rfl ?_
    refine AL.one 5 rfl (by decide +kernel) ?_
    refine TL.guard_yes rfl rfl ?_
    have hck' : ckY k z = 0 := by assumption
    replace hB26 : Buf 5 1 v26 (bys (machY k z)) hb26 := by have h := hB26; rw [if_pos hck'] at h; exact h
    refine TL.callD (Equal_fn _ v26 _ _ (machY m y) (machY k z) (roS hb20) (roS hb26) hR21 (hB26.ro (bys_length _)) (machY_rng hy) (machY_rng hz)) rfl rfl rfl (.sgr inferInstance (.lastr inferInstance)) rfl ?_
    refine TL.say 50 (vt (sameY m k y z)) rfl (congrArg Value.bool (machY_inj hm hk hck hck')) ?_
    refine TL.nil ?_
    refine AQ.al (.cons inferInstance rfl (.cons inferInstance rfl (.nil _))) ?_
    refine AL.one 8 rfl (by decide +kernel) ?_
    refine TL.guard_yes rfl rfl ?_
    refine TL.callD (same_m R R' hy hz) rfl rfl rfl (.sro inferInstance R.ro (.lastro inferInstance R'.ro)) rfl ?_
    refine TL.nil ?_
    refine AQ.al (.cons inferInstance rfl (.cons inferInstance rfl (.nil _))) ?_
    refine AL.rd_yes 9 rfl (Pu.rd (.bne rfl rfl)) rfl rfl rfl (by decide +kernel) (by decide +kernel) (by decide +kernel) (by decide +kernel) rfl ?_
    refine AL.pu 10 rfl (.pick_t rfl rfl) rfl (by decide +kernel) (by decide +kernel) (by decide +kernel) (by decide +kernel) rfl ?_
    refine AL.fin (by decide +kernel) ?_
    refine AQ.then_n ?_
    refine TC.cond rfl (fun p3 => ?_) (fun p3 => ?_)
    · skip
      refine TC.seq ?_
      refine TC.region ?_
      refine TL.pu (.assign rfl) rfl ?_
      refine TL.nil ?_
      refine AQ.then_n ?_
      refine TC.ret ?_
      refine AQ.then_r ?_
      first
        | exact AQ.ret Try.results4 rfl ⟨rfl, rfl⟩ (.nil _)
        | exact absurd ‹(sameY m k y z != sameY m k y z) = true› (by simp)
    refine TC.skip ?_
    refine AQ.then_n ?_
    refine TC.seq ?_
    refine TC.seq ?_
    refine TC.draws [] (fun i => false) (.nil _) ?_
    refine AL.pu 0 rfl (.move rfl) rfl (by decide +kernel) (by decide +kernel) (by decide +kernel) (by decide +kernel) rfl ?_
    refine AL.pu 1 rfl (.move rfl) rfl (by decide +kernel) (by decide +kernel) (by decide +kernel) (by decide +kernel) rfl ?_
    refine AL.pu 2 rfl (.move rfl) rfl (by decide +kernel) (by decide +kernel) (by decide +kernel) (by decide +kernel) rfl ?_
    refine AL.pu 3 rfl (.lenSlice rfl rfl) rfl (by decide +kernel) (by decide +kernel) (by decide +kernel) (by decide +kernel) rfl ?_
    refine AL.pu 6 rfl (.move rfl) rfl (by decide +kernel) (by decide +kernel) (by decide +kernel) (by decide +kernel) rfl ?_
    refine AL.pu 8 rfl (.move rfl) rfl (by decide +kernel) (by decide +kernel) (by decide +kernel) (by decide +kernel) rfl ?_
    refine AL.pu 13 rfl (.move rfl) rfl (by decide +kernel) (by decide +kernel) (by decide +kernel) (by decide +kernel) rfl ?_
    refine AL.meetAt (X := Value × HS × Nat × Value × HS) (fun ((v63, hb63, b65, v66, hb66) : Value × HS × Nat × Value × HS) => Buf 5 1 v63 (bys (machY m y)) hb63 ∧ Buf 5 1 v66 (bys (machY m y ++ [q])) hb66) (fun ((v63, hb63, b65, v66, hb66) : Value × HS × Nat × Value × HS) => [(60, vi (atN c ((bys (machY m y)).length : Int))), (61, .slice a21 (atN c ((bys (machY m y)).length : Int)).toNat c21), (63, v63), (65, slv b65 1), (66, v66), (56, (.slice a21 (bys (machY m y)).length c21)), (57, vi c), (59, vi ((bys (machY m y)).length : Int)), (62, (.slice a21 (bys (machY m y)).length c21)), (64, vb q), (69, vi 0)]) (fun ((v63, hb63, b65, v66, hb66) : Value × HS × Nat × Value × HS) => hb66 ++ (⟨b65, cel [vb q] 5, true⟩ :: hb20)) #[true, true, true, true, true, true, true, true, true, true, true, false, false, true] 2 true (fun ⟨v63, hb63, b65, v66, hb66⟩ ⟨hB63, hB66⟩ => ?_) (fun J4_5_7_9_10 => ?_)
    · show AL _ _ _ _ _ _ _ _ _ _ _ _ [(60, vi (atN c ((bys (machY m y)).length : Int))), (61, .slice a21 (atN c ((bys (machY m y)).length : Int)).toNat c21), (63, v63), (65, slv b65 1), (66, v66), (56, (.slice a21 (bys (machY m y)).length c21)), (57, vi c), (59, vi ((bys (machY m y)).length : Int)), (62, (.slice a21 (bys (machY m y)).length c21)), (64, vb q), (69, vi 0)] (hb66 ++ (⟨b65, cel [vb q] 5, true⟩ :: hb20))
      obtain ⟨a66, c66, rfl⟩ := hB66.isl rfl
      refine AL.one 11 rfl (by decide +kernel) ?_
      refine TL.buildSlice rfl rfl rfl rfl rfl (fun b67 => ?_)
      refine TL.nil ?_
      refine AQ.al (.nil _) ?_
      refine AL.pu 12 rfl (.lenSlice rfl rfl) rfl (by decide +kernel) (by decide +kernel) (by decide +kernel) (by decide +kernel) rfl ?_
      refine AL.fin (by decide +kernel) ?_
      refine AQ.then_n ?_
      refine TC.block ?_
      refine TC.unroll 2 ?_
      refine TC.seq ?_
      refine TC.region ?_
      refine TL.say 68 (vi 2) rfl rfl ?_
      refine TL.pu (.int rfl rfl rfl) rfl ?_
      refine TL.say 70 (.bool true) rfl rfl ?_
      refine TL.nil ?_
      refine AQ.then_n ?_
      refine TC.seq ?_
      refine TC.cond_t rfl ?_
      refine TC.skip ?_
      refine AQ.then_n ?_
      refine TC.seq ?_
      refine TC.block ?_
      refine TC.seq ?_
      refine TC.region ?_
      refine TL.pu (.indexAddr rfl rfl (by decide) (by decide) (m := 0) rfl) rfl ?_
      refine TL.rd (.load1 rfl inferInstance rfl) rfl ?_
      refine TL.pu (.assign rfl) rfl ?_
      refine TL.nil ?_
      refine AQ.then_n ?_
      refine TC.seq ?_
      refine TC.region ?_
      refine TL.pu (.move rfl) rfl ?_
      refine TL.callX (Of_n (ys := ((machY m y).take (atN c ((bys (machY m y)).length : Int)).toNat)) (hR21.take' (by have := atN_in c ((bys (machY m y)).length : Int) hL0; omega)) (rng_take (machY_rng hy) _)) rfl rfl rfl (.lastr inferInstance) rfl (fun ⟨⟨m2, y2, s2⟩, e2⟩ hF => ?_)
      show TL _ _ _ _ _ _ _ ((75, .tuple #[.agg (machL m2).toArray, vi e2]) :: _) (s2.hs ++ _) _
      refine TL.pu (.move rfl) rfl ?_
      refine TL.pu (.extract rfl rfl) rfl ?_
      refine TL.pu (.extract rfl rfl) rfl ?_
      refine TL.alloc rfl rfl (fun b15 => ?_)
      refine TL.storeAll rfl rfl rfl (hF.b.rows.one [] rfl) inferInstance rfl ?_
      refine TL.pu (.assign rfl) rfl ?_
      refine TL.nil ?_
      refine AQ.then_n ?_
      refine TC.seq ?_
      refine TC.region ?_
      refine TL.pu (.move rfl) rfl ?_
      refine TL.pu (.int rfl rfl rfl) rfl ?_
      refine TL.nil ?_
      refine AQ.then_n ?_
      refine TC.condd rfl (fun p4 => ?_) (fun p4 => ?_)
      · skip
        refine TC.seq ?_
        refine TC.region ?_
        have he2 : e2 = 0 := by assumption
        obtain ⟨-, hl2, hc2⟩ := hF.is.resolve_right (fun h => by have h1 := h.1; simp only at h1; omega)
        simp only at hl2 hc2
        refine TL.rd (.loadAll rfl inferInstance rfl) rfl ?_
        refine TL.callX (Bytes_b hF.b hF.ok) rfl rfl rfl (.lastr inferInstance) rfl (fun ⟨v82, hb82⟩ hB82 => ?_)
        replace hB82 : Buf 5 1 v82 (bys (machY m2 y2)) hb82 := by have h := hB82; rw [if_pos hc2] at h; exact h
        show TL _ _ _ _ _ _ _ ((82, .tuple #[v82, vi (ckY m2 y2)]) :: _) (hb82 ++ _) _
        refine TL.pu (.move rfl) rfl ?_
        refine TL.pu (.extract rfl rfl) rfl ?_
        refine TL.pu (.extract rfl rfl) rfl ?_
        refine TL.say 84 (vi 0) rfl (congrArg (Value.int .i64) hc2) ?_
        refine TL.pu (.assign rfl) rfl ?_
        refine TL.pu (.assign rfl) rfl ?_
        refine TL.nil ?_
        refine AQ.then_n ?_
        refine TC.seq ?_
        refine TC.region ?_
        refine TL.pu (.move rfl) rfl ?_
        refine TL.pu (.int rfl rfl rfl) rfl ?_
        refine TL.say 86 (.bool false) rfl rfl ?_
        refine TL.pu (.move rfl) rfl ?_
        refine TL.guard_yes rfl rfl ?_
        refine TL.pu (.move rfl) rfl ?_
        refine TL.guard_yes rfl rfl ?_
        refine TL.pu (.move rfl) rfl ?_
        refine TL.guard_yes rfl rfl ?_
        refine TL.callD (Equal_fn v82 _ _ _ (machY m2 y2) ((machY m y).take (atN c ((bys (machY m y)).length : Int)).toNat) (roS hb82) _ (hB82.ro (bys_length _)) (hR21.take' (by have := atN_in c ((bys (machY m y)).length : Int) hL0; omega)) (machY_rng hF.rg) (rng_take (machY_rng hy) _)) rfl rfl rfl (.sgr inferInstance (.lastr inferInstance)) rfl ?_
        refine TL.say 90 (vt true) rfl (congrArg Value.bool (decide_eq_true hl2.symm)) ?_
        refine TL.guard_yes rfl rfl ?_
        refine TL.pu (.not rfl) rfl ?_
        refine TL.say 91 (vt false) rfl rfl ?_
        refine TL.pu (.pick_f rfl rfl) rfl ?_
        refine TL.nil ?_
        refine AQ.then_n ?_
        refine TC.cond_f rfl ?_
        refine TC.skip ?_
        refine AQ.block_n ?_
        refine AQ.then_n ?_
        refine TC.region ?_
        refine TL.pu (.int rfl rfl rfl) rfl ?_
        refine TL.say 93 (.int .i64 1) rfl rfl ?_
        refine TL.pu (.move rfl) rfl ?_
        refine TL.nil ?_
        refine AQ.next ?_
        refine TC.seq ?_
        refine TC.region ?_
        refine TL.say 68 (vi 2) rfl rfl ?_
        refine TL.pu (.int rfl rfl rfl) rfl ?_
        refine TL.say 70 (.bool true) rfl rfl ?_
        refine TL.nil ?_
        refine AQ.then_n ?_
        refine TC.seq ?_
        refine TC.cond_t rfl ?_
        refine TC.skip ?_
        refine AQ.then_n ?_
        refine TC.seq ?_
        refine TC.block ?_
        refine TC.seq ?_
        refine TC.region ?_
        refine TL.pu (.indexAddr rfl rfl (by decide) (by decide) (m := 1) rfl) rfl ?_
        refine TL.rd (.load1 rfl inferInstance rfl) rfl ?_
        refine TL.pu (.assign rfl) rfl ?_
        refine TL.nil ?_
        refine AQ.then_n ?_
        refine TC.seq ?_
        refine TC.region ?_
        refine TL.pu (.move rfl) rfl ?_
        refine TL.callX (Of_n (ys := (machY m y ++ [q])) (hB66.ro (bys_length _)) hq66) rfl rfl rfl (.lastr inferInstance) rfl (fun ⟨⟨m2, y2, s2⟩, e2⟩ hF => ?_)
        show TL _ _ _ _ _ _ _ ((75, .tuple #[.agg (machL m2).toArray, vi e2]) :: _) (s2.hs ++ _) _
        refine TL.pu (.move rfl) rfl ?_
        refine TL.pu (.extract rfl rfl) rfl ?_
        refine TL.pu (.extract rfl rfl) rfl ?_
        refine TL.alloc rfl rfl (fun b15 => ?_)
        refine TL.storeAll rfl rfl rfl (hF.b.rows.one [] rfl) inferInstance rfl ?_
        refine TL.pu (.assign rfl) rfl ?_
        refine TL.nil ?_
        refine AQ.then_n ?_
        refine TC.seq ?_
        refine TC.region ?_
        refine TL.pu (.move rfl) rfl ?_
        refine TL.pu (.int rfl rfl rfl) rfl ?_
        refine TL.nil ?_
        refine AQ.then_n ?_
        refine TC.condd rfl (fun p5 => ?_) (fun p5 => ?_)
        · skip
          refine TC.seq ?_
          refine TC.region ?_
          have he2 : e2 = 0 := by assumption
          obtain ⟨-, hl2, hc2⟩ := hF.is.resolve_right (fun h => by have h1 := h.1; simp only at h1; omega)
          simp only at hl2 hc2
          refine TL.rd (.loadAll rfl inferInstance rfl) rfl ?_
          refine TL.callX (Bytes_b hF.b hF.ok) rfl rfl rfl (.lastr inferInstance) rfl (fun ⟨v82, hb82⟩ hB82 => ?_)
          replace hB82 : Buf 5 1 v82 (bys (machY m2 y2)) hb82 := by have h := hB82; rw [if_pos hc2] at h; exact h
          show TL _ _ _ _ _ _ _ ((82, .tuple #[v82, vi (ckY m2 y2)]) :: _) (hb82 ++ _) _
          refine TL.pu (.move rfl) rfl ?_
          refine TL.pu (.extract rfl rfl) rfl ?_
          refine TL.pu (.extract rfl rfl) rfl ?_
          refine TL.say 84 (vi 0) rfl (congrArg (Value.int .i64) hc2) ?_
          refine TL.pu (.assign rfl) rfl ?_
          refine TL.pu (.assign rfl) rfl ?_
          refine TL.nil ?_
          refine AQ.then_n ?_
          refine TC.seq ?_
          refine TC.region ?_
          refine TL.pu (.move rfl) rfl ?_
          refine TL.pu (.int rfl rfl rfl) rfl ?_
          refine TL.say 86 (.bool false) rfl rfl ?_
          refine TL.pu (.move rfl) rfl ?_
          refine TL.guard_yes rfl rfl ?_
          refine TL.pu (.move rfl) rfl ?_
          refine TL.guard_yes rfl rfl ?_
          refine TL.pu (.move rfl) rfl ?_
          refine TL.guard_yes rfl rfl ?_
          refine TL.callD (Equal_fn v82 _ _ _ (machY m2 y2) (machY m y ++ [q]) (roS hb82) _ (hB82.ro (bys_length _)) (hB66.ro (bys_length _)) (machY_rng hF.rg) hq66) rfl rfl rfl (.sgr inferInstance (.lastr inferInstance)) rfl ?_
          refine TL.say 90 (vt true) rfl (congrArg Value.bool (decide_eq_true hl2.symm)) ?_
          refine TL.guard_yes rfl rfl ?_
          refine TL.pu (.not rfl) rfl ?_
          refine TL.say 91 (vt false) rfl rfl ?_
          refine TL.pu (.pick_f rfl rfl) rfl ?_
          refine TL.nil ?_
          refine AQ.then_n ?_
          refine TC.cond_f rfl ?_
          refine TC.skip ?_
          refine AQ.block_n ?_
          refine AQ.then_n ?_
          refine TC.region ?_
          refine TL.pu (.int rfl rfl rfl) rfl ?_
          refine TL.say 93 (.int .i64 2) rfl rfl ?_
          refine TL.pu (.move rfl) rfl ?_
          refine TL.nil ?_
          refine AQ.next ?_
          refine TC.seq ?_
          refine TC.region ?_
          refine TL.say 68 (vi 2) rfl rfl ?_
          refine TL.pu (.int rfl rfl rfl) rfl ?_
          refine TL.say 70 (.bool false) rfl rfl ?_
          refine TL.nil ?_
          refine AQ.then_n ?_
          refine TC.seq ?_
          refine TC.cond_f rfl ?_
          refine TC.exit ?_
          refine AQ.then_x ?_
          refine AQ.then_x ?_
          refine AQ.block_x ?_
          refine AQ.then_n ?_
          refine TC.seq ?_
          refine TC.region ?_
          refine TL.pu (.assign rfl) rfl ?_
          refine TL.nil ?_
          refine AQ.then_n ?_
          refine TC.ret ?_
          first
            | exact AQ.ret Try.results4 rfl ⟨rfl, rfl⟩ (.nil _)
            | exact absurd ‹(sameY m k y z != sameY m k y z) = true› (by simp)
        refine TC.skip ?_
        refine AQ.block_n ?_
        refine AQ.then_n ?_
        refine TC.region ?_
        refine TL.pu (.int rfl rfl rfl) rfl ?_
        refine TL.say 93 (.int .i64 2) rfl rfl ?_
        refine TL.pu (.move rfl) rfl ?_
        refine TL.nil ?_
        refine AQ.next ?_
        refine TC.seq ?_
        refine TC.region ?_
        refine TL.say 68 (vi 2) rfl rfl ?_
        refine TL.pu (.int rfl rfl rfl) rfl ?_
        refine TL.say 70 (.bool false) rfl rfl ?_
        refine TL.nil ?_
        refine AQ.then_n ?_
        refine TC.seq ?_
        refine TC.cond_f rfl ?_
        refine TC.exit ?_
        refine AQ.then_x ?_
        refine AQ.then_x ?_
        refine AQ.block_x ?_
        refine AQ.then_n ?_
        refine TC.seq ?_
        refine TC.region ?_
        refine TL.pu (.assign rfl) rfl ?_
        refine TL.nil ?_
        refine AQ.then_n ?_
        refine TC.ret ?_
        first
          | exact AQ.ret Try.results4 rfl ⟨rfl, rfl⟩ (.nil _)
          | exact absurd ‹(sameY m k y z != sameY m k y z) = true› (by simp)
      refine TC.skip ?_
      refine AQ.block_n ?_
      refine AQ.then_n ?_
      refine TC.region ?_
      refine TL.pu (.int rfl rfl rfl) rfl ?_
      refine TL.say 93 (.int .i64 1) rfl rfl ?_
      refine TL.pu (.move rfl) rfl ?_
      refine TL.nil ?_
      refine AQ.next ?_
      refine TC.seq ?_
      refine TC.region ?_
      refine TL.say 68 (vi 2) rfl rfl ?_
      refine TL.pu (.int rfl rfl rfl) rfl ?_
      refine TL.say 70 (.bool true) rfl rfl ?_
      refine TL.nil ?_
      refine AQ.then_n ?_
      refine TC.seq ?_
      refine TC.cond_t rfl ?_
      refine TC.skip ?_
      refine AQ.then_n ?_
      refine TC.seq ?_
      refine TC.block ?_
      refine TC.seq ?_
      refine TC.region ?_
      refine TL.pu (.indexAddr rfl rfl (by decide) (by decide) (m := 1) rfl) rfl ?_
      refine TL.rd (.load1 rfl inferInstance rfl) rfl ?_
      refine TL.pu (.assign rfl) rfl ?_
      refine TL.nil ?_
      refine AQ.then_n ?_
      refine TC.seq ?_
      refine TC.region ?_
      refine TL.pu (.move rfl) rfl ?_
      refine TL.callX (Of_n (ys := (machY m y ++ [q])) (hB66.ro (bys_length _)) hq66) rfl rfl rfl (.lastr inferInstance) rfl (fun ⟨⟨m2, y2, s2⟩, e2⟩ hF => ?_)
      show TL _ _ _ _ _ _ _ ((75, .tuple #[.agg (machL m2).toArray, vi e2]) :: _) (s2.hs ++ _) _
      refine TL.pu (.move rfl) rfl ?_
      refine TL.pu (.extract rfl rfl) rfl ?_
      refine TL.pu (.extract rfl rfl) rfl ?_
      refine TL.alloc rfl rfl (fun b15 => ?_)
      refine TL.storeAll rfl rfl rfl (hF.b.rows.one [] rfl) inferInstance rfl ?_
      refine TL.pu (.assign rfl) rfl ?_
      refine TL.nil ?_
      refine AQ.then_n ?_
      refine TC.seq ?_
      refine TC.region ?_
      refine TL.pu (.move rfl) rfl ?_
      refine TL.pu (.int rfl rfl rfl) rfl ?_
      refine TL.nil ?_
      refine AQ.then_n ?_
      refine TC.condd rfl (fun p6 => ?_) (fun p6 => ?_)
      · skip
        refine TC.seq ?_
        refine TC.region ?_
        have he2 : e2 = 0 := by assumption
        obtain ⟨-, hl2, hc2⟩ := hF.is.resolve_right (fun h => by have h1 := h.1; simp only at h1; omega)
        simp only at hl2 hc2
        refine TL.rd (.loadAll rfl inferInstance rfl) rfl ?_
        refine TL.callX (Bytes_b hF.b hF.ok) rfl rfl rfl (.lastr inferInstance) rfl (fun ⟨v82, hb82⟩ hB82 => ?_)
        replace hB82 : Buf 5 1 v82 (bys (machY m2 y2)) hb82 := by have h := hB82; rw [if_pos hc2] at h; exact h
        show TL _ _ _ _ _ _ _ ((82, .tuple #[v82, vi (ckY m2 y2)]) :: _) (hb82 ++ _) _
        refine TL.pu (.move rfl) rfl ?_
        refine TL.pu (.extract rfl rfl) rfl ?_
        refine TL.pu (.extract rfl rfl) rfl ?_
        refine TL.say 84 (vi 0) rfl (congrArg (Value.int .i64) hc2) ?_
        refine TL.pu (.assign rfl) rfl ?_
        refine TL.pu (.assign rfl) rfl ?_
        refine TL.nil ?_
        refine AQ.then_n ?_
        refine TC.seq ?_
        refine TC.region ?_
        refine TL.pu (.move rfl) rfl ?_
        refine TL.pu (.int rfl rfl rfl) rfl ?_
        refine TL.say 86 (.bool false) rfl rfl ?_
        refine TL.pu (.move rfl) rfl ?_
        refine TL.guard_yes rfl rfl ?_
        refine TL.pu (.move rfl) rfl ?_
        refine TL.guard_yes rfl rfl ?_
        refine TL.pu (.move rfl) rfl ?_
        refine TL.guard_yes rfl rfl ?_
        refine TL.callD (Equal_fn v82 _ _ _ (machY m2 y2) (machY m y ++ [q]) (roS hb82) _ (hB82.ro (bys_length _)) (hB66.ro (bys_length _)) (machY_rng hF.rg) hq66) rfl rfl rfl (.sgr inferInstance (.lastr inferInstance)) rfl ?_
        refine TL.say 90 (vt true) rfl (congrArg Value.bool (decide_eq_true hl2.symm)) ?_
        refine TL.guard_yes rfl rfl ?_
        refine TL.pu (.not rfl) rfl ?_
        refine TL.say 91 (vt false) rfl rfl ?_
        refine TL.pu (.pick_f rfl rfl) rfl ?_
        refine TL.nil ?_
        refine AQ.then_n ?_
        refine TC.cond_f rfl ?_
        refine TC.skip ?_
        refine AQ.block_n ?_
        refine AQ.then_n ?_
        refine TC.region ?_
        refine TL.pu (.int rfl rfl rfl) rfl ?_
        refine TL.say 93 (.int .i64 2) rfl rfl ?_
        refine TL.pu (.move rfl) rfl ?_
        refine TL.nil ?_
        refine AQ.next ?_
        refine TC.seq ?_
        refine TC.region ?_
        refine TL.say 68 (vi 2) rfl rfl ?_
        refine TL.pu (.int rfl rfl rfl) rfl ?_
        refine TL.say 70 (.bool false) rfl rfl ?_
        refine TL.nil ?_
        refine AQ.then_n ?_
        refine TC.seq ?_
        refine TC.cond_f rfl ?_
        refine TC.exit ?_
        refine AQ.then_x ?_
        refine AQ.then_x ?_
        refine AQ.block_x ?_
        refine AQ.then_n ?_
        refine TC.seq ?_
        refine TC.region ?_
        refine TL.pu (.assign rfl) rfl ?_
        refine TL.nil ?_
        refine AQ.then_n ?_
        refine TC.ret ?_
        first
          | exact AQ.ret Try.results4 rfl ⟨rfl, rfl⟩ (.nil _)
          | exact absurd ‹(sameY m k y z != sameY m k y z) = true› (by simp)
      refine TC.skip ?_
      refine AQ.block_n ?_
      refine AQ.then_n ?_
      refine TC.region ?_
      refine TL.pu (.int rfl rfl rfl) rfl ?_
      refine TL.say 93 (.int .i64 2) rfl rfl ?_
      refine TL.pu (.move rfl) rfl ?_
      refine TL.nil ?_
      refine AQ.next ?_
      refine TC.seq ?_
      refine TC.region ?_
      refine TL.say 68 (vi 2) rfl rfl ?_
      refine TL.pu (.int rfl rfl rfl) rfl ?_
      refine TL.say 70 (.bool false) rfl rfl ?_
      refine TL.nil ?_
      refine AQ.then_n ?_
      refine TC.seq ?_
      refine TC.cond_f rfl ?_
      refine TC.exit ?_
      refine AQ.then_x ?_
      refine AQ.then_x ?_
      refine AQ.block_x ?_
      refine AQ.then_n ?_
      refine TC.seq ?_
      refine TC.region ?_
      refine TL.pu (.assign rfl) rfl ?_
      refine TL.nil ?_
      refine AQ.then_n ?_
      refine TC.ret ?_
      first
        | exact AQ.ret Try.results4 rfl ⟨rfl, rfl⟩ (.nil _)
        | exact absurd ‹(sameY m k y z != sameY m k y z) = true› (by simp)
    refine AL.meetAt (X := Value × HS × Nat) (fun ((v63, hb63, b65) : Value × HS × Nat) => Buf 5 1 v63 (bys (machY m y)) hb63) (fun ((v63, hb63, b65) : Value × HS × Nat) => [(60, vi (atN c ((bys (machY m y)).length : Int))), (61, .slice a21 (atN c ((bys (machY m y)).length : Int)).toNat c21), (63, v63), (65, slv b65 1), (56, (.slice a21 (bys (machY m y)).length c21)), (57, vi c), (59, vi ((bys (machY m y)).length : Int)), (62, (.slice a21 (bys (machY m y)).length c21)), (64, vb q), (69, vi 0)]) (fun ((v63, hb63, b65) : Value × HS × Nat) => ⟨b65, cel [vb q] 5, true⟩ :: hb63 ++ (hb20)) #[true, true, true, true, true, true, true, true, true, true, false, false, false, true] 3 true (fun ⟨v63, hb63, b65⟩ hB63 => ?_) (fun J4_5_7_9 => ?_)
    · show AL _ _ _ _ _ _ _ _ _ _ _ _ [(60, vi (atN c ((bys (machY m y)).length : Int))), (61, .slice a21 (atN c ((bys (machY m y)).length : Int)).toNat c21), (63, v63), (65, slv b65 1), (56, (.slice a21 (bys (machY m y)).length c21)), (57, vi c), (59, vi ((bys (machY m y)).length : Int)), (62, (.slice a21 (bys (machY m y)).length c21)), (64, vb q), (69, vi 0)] (⟨b65, cel [vb q] 5, true⟩ :: hb63 ++ (hb20))
      refine AL.one 10 rfl (by decide +kernel) ?_
      refine TL.append rfl rfl hB63 inferInstance (.row rfl inferInstance (Nat.le_refl _) rfl) rfl rfl (by decide) (by decide) rfl (by simp only [cut, List.drop_zero, List.length_take, List.length_cons, List.length_nil]; omega) rfl (fun v66 hb66 hB66 => ?_)
      replace hB66 : Buf 5 1 v66 (bys (machY m y ++ [q])) hb66 := by rw [bys_append]; exact hB66
      refine TL.nil ?_
      refine AQ.al (.nil _) ?_
      exact AL.join' (J4_5_7_9_10 ⟨v63, hb63, b65, v66, hb66⟩ ⟨hB63, hB66⟩) (by decide +kernel) ⟨rfl, rfl, rfl, rfl, rfl, rfl, rfl, rfl, rfl, rfl, rfl, trivial⟩ (.seg inferInstance (.cons inferInstance rfl (.last inferInstance)))
    refine AL.meetAt (X := Value × HS × Nat × Value × HS) (fun ((v63, hb63, b65, v66, hb66) : Value × HS × Nat × Value × HS) => Buf 5 1 v63 (bys (machY m y)) hb63 ∧ Buf 5 1 v66 (bys (machY m y ++ [q])) hb66) (fun ((v63, hb63, b65, v66, hb66) : Value × HS × Nat × Value × HS) => [(60, vi (atN c ((bys (machY m y)).length : Int))), (63, v63), (65, slv b65 1), (66, v66), (56, (.slice a21 (bys (machY m y)).length c21)), (57, vi c), (59, vi ((bys (machY m y)).length : Int)), (62, (.slice a21 (bys (machY m y)).length c21)), (64, vb q), (69, vi 0)]) (fun ((v63, hb63, b65, v66, hb66) : Value × HS × Nat × Value × HS) => hb66 ++ (⟨b65, cel [vb q] 5, true⟩ :: hb20)) #[true, true, true, true, true, false, true, true, true, true, true, false, false, true] 3 true (fun ⟨v63, hb63, b65, v66, hb66⟩ ⟨hB63, hB66⟩ => ?_) (fun J4_7_9_10 => ?_)
    · show AL _ _ _ _ _ _ _ _ _ _ _ _ [(60, vi (atN c ((bys (machY m y)).length : Int))), (63, v63), (65, slv b65 1), (66, v66), (56, (.slice a21 (bys (machY m y)).length c21)), (57, vi c), (59, vi ((bys (machY m y)).length : Int)), (62, (.slice a21 (bys (machY m y)).length c21)), (64, vb q), (69, vi 0)] (hb66 ++ (⟨b65, cel [vb q] 5, true⟩ :: hb20))
      refine AL.one 5 rfl (by decide +kernel) ?_
      refine TL.pu (.slice_hi rfl rfl (atN_in c ((bys (machY m y)).length : Int) hL0).1 (by have := atN_in c ((bys (machY m y)).length : Int) hL0; omega)) rfl ?_
      refine TL.nil ?_
      refine AQ.al (.nil _) ?_
      exact AL.join' (J4_5_7_9_10 ⟨v63, hb63, b65, v66, hb66⟩ ⟨hB63, hB66⟩) (by decide +kernel) ⟨rfl, rfl, rfl, rfl, rfl, rfl, rfl, rfl, rfl, rfl, rfl, trivial⟩ (.seg inferInstance (.cons inferInstance rfl (.last inferInstance)))
    refine AL.meetAt (X := Value × HS) (fun ((v63, hb63) : Value × HS) => Buf 5 1 v63 (bys (machY m y)) hb63) (fun ((v63, hb63) : Value × HS) => [(60, vi (atN c ((bys (machY m y)).length : Int))), (61, .slice a21 (atN c ((bys (machY m y)).length : Int)).toNat c21), (63, v63), (56, (.slice a21 (bys (machY m y)).length c21)), (57, vi c), (59, vi ((bys (machY m y)).length : Int)), (62, (.slice a21 (bys (machY m y)).length c21)), (64, vb q), (69, vi 0)]) (fun ((v63, hb63) : Value × HS) => hb63 ++ (hb20)) #[true, true, true, true, true, true, true, true, true, false, false, false, false, true] 4 true (fun ⟨v63, hb63⟩ hB63 => ?_) (fun J4_5_7 => ?_)
    · show AL _ _ _ _ _ _ _ _ _ _ _ _ [(60, vi (atN c ((bys (machY m y)).length : Int))), (61, .slice a21 (atN c ((bys (machY m y)).length : Int)).toNat c21), (63, v63), (56, (.slice a21 (bys (machY m y)).length c21)), (57, vi c), (59, vi ((bys (machY m y)).length : Int)), (62, (.slice a21 (bys (machY m y)).length c21)), (64, vb q), (69, vi 0)] (hb63 ++ (hb20))
      refine AL.one 9 rfl (by decide +kernel) ?_
      refine TL.buildSlice rfl rfl rfl rfl rfl (fun b65 => ?_)
      refine TL.nil ?_
      refine AQ.al (.nil _) ?_
      exact AL.join' (J4_5_7_9 ⟨v63, hb63, b65⟩ hB63) (by decide +kernel) ⟨rfl, rfl, rfl, rfl, rfl, rfl, rfl, rfl, rfl, rfl, trivial⟩ (.cons inferInstance rfl (.seg inferInstance (.last inferInstance)))
    refine AL.meetAt (X := Nat) (fun (b65 : Nat) => True) (fun (b65 : Nat) => [(60, vi (atN c ((bys (machY m y)).length : Int))), (61, .slice a21 (atN c ((bys (machY m y)).length : Int)).toNat c21), (65, slv b65 1), (56, (.slice a21 (bys (machY m y)).length c21)), (57, vi c), (59, vi ((bys (machY m y)).length : Int)), (62, (.slice a21 (bys (machY m y)).length c21)), (64, vb q), (69, vi 0)]) (fun (b65 : Nat) => ⟨b65, cel [vb q] 5, true⟩ :: hb20) #[true, true, true, true, true, true, true, false, true, true, false, false, false, true] 4 true (fun b65 _ => ?_) (fun J4_5_9 => ?_)
    · show AL _ _ _ _ _ _ _ _ _ _ _ _ [(60, vi (atN c ((bys (machY m y)).length : Int))), (61, .slice a21 (atN c ((bys (machY m y)).length : Int)).toNat c21), (65, slv b65 1), (56, (.slice a21 (bys (machY m y)).length c21)), (57, vi c), (59, vi ((bys (machY m y)).length : Int)), (62, (.slice a21 (bys (machY m y)).length c21)), (64, vb q), (69, vi 0)] (⟨b65, cel [vb q] 5, true⟩ :: hb20)
      refine AL.one 7 rfl (by decide +kernel) ?_
      refine TL.callX (Clone_fn (.slice a21 (bys (machY m y)).length c21) _ (machY m y) (roS hb20) hR21 (by omega)) rfl rfl rfl (.lastr inferInstance) rfl (fun ⟨v63, hb63⟩ hB63 => ?_)
      show TL _ _ _ _ _ _ _ ((63, v63) :: _) (hb63 ++ _) _
      refine TL.nil ?_
      refine AQ.al (.nil _) ?_
      exact AL.join' (J4_5_7_9 ⟨v63, hb63, b65⟩ hB63) (by decide +kernel) ⟨rfl, rfl, rfl, rfl, rfl, rfl, rfl, rfl, rfl, rfl, trivial⟩ (.cons inferInstance rfl (.seg inferInstance (.last inferInstance)))
    refine AL.meetAt (X := Value × HS × Nat) (fun ((v63, hb63, b65) : Value × HS × Nat) => Buf 5 1 v63 (bys (machY m y)) hb63) (fun ((v63, hb63, b65) : Value × HS × Nat) => [(60, vi (atN c ((bys (machY m y)).length : Int))), (63, v63), (65, slv b65 1), (56, (.slice a21 (bys (machY m y)).length c21)), (57, vi c), (59, vi ((bys (machY m y)).length : Int)), (62, (.slice a21 (bys (machY m y)).length c21)), (64, vb q), (69, vi 0)]) (fun ((v63, hb63, b65) : Value × HS × Nat) => ⟨b65, cel [vb q] 5, true⟩ :: hb63 ++ (hb20)) #[true, true, true, true, true, false, true, true, true, true, false, false, false, true] 4 true (fun ⟨v63, hb63, b65⟩ hB63 => ?_) (fun J4_7_9 => ?_)
    · show AL _ _ _ _ _ _ _ _ _ _ _ _ [(60, vi (atN c ((bys (machY m y)).length : Int))), (63, v63), (65, slv b65 1), (56, (.slice a21 (bys (machY m y)).length c21)), (57, vi c), (59, vi ((bys (machY m y)).length : Int)), (62, (.slice a21 (bys (machY m y)).length c21)), (64, vb q), (69, vi 0)] (⟨b65, cel [vb q] 5, true⟩ :: hb63 ++ (hb20))
      refine AL.pick (is := [5, 10]) (by decide +kernel) (by decide) (.cons rfl ?_ (.cons rfl ?_ .nil))
      · skip
        refine TL.pu (.slice_hi rfl rfl (atN_in c ((bys (machY m y)).length : Int) hL0).1 (by have := atN_in c ((bys (machY m y)).length : Int) hL0; omega)) rfl ?_
        refine TL.nil ?_
        refine AQ.al (.nil _) ?_
        exact AL.join' (J4_5_7_9 ⟨v63, hb63, b65⟩ hB63) (by decide +kernel) ⟨rfl, rfl, rfl, rfl, rfl, rfl, rfl, rfl, rfl, rfl, trivial⟩ (.cons inferInstance rfl (.seg inferInstance (.last inferInstance)))
      · skip
        refine TL.append rfl rfl hB63 inferInstance (.row rfl inferInstance (Nat.le_refl _) rfl) rfl rfl (by decide) (by decide) rfl (by simp only [cut, List.drop_zero, List.length_take, List.length_cons, List.length_nil]; omega) rfl (fun v66 hb66 hB66 => ?_)
        replace hB66 : Buf 5 1 v66 (bys (machY m y ++ [q])) hb66 := by rw [bys_append]; exact hB66
        refine TL.nil ?_
        refine AQ.al (.nil _) ?_
        exact AL.join' (J4_7_9_10 ⟨v63, hb63, b65, v66, hb66⟩ ⟨hB63, hB66⟩) (by decide +kernel) ⟨rfl, rfl, rfl, rfl, rfl, rfl, rfl, rfl, rfl, rfl, trivial⟩ (.seg inferInstance (.cons inferInstance rfl (.last inferInstance)))
    refine AL.meetAt (X := Unit) (fun (_ : Unit) => True) (fun (_ : Unit) => [(60, vi (atN c ((bys (machY m y)).length : Int))), (61, .slice a21 (atN c ((bys (machY m y)).length : Int)).toNat c21), (56, (.slice a21 (bys (machY m y)).length c21)), (57, vi c), (59, vi ((bys (machY m y)).length : Int)), (62, (.slice a21 (bys (machY m y)).length c21)), (64, vb q), (69, vi 0)]) (fun (_ : Unit) => hb20) #[true, true, true, true, true, true, true, false, true, false, false, false, false, true] 5 true (fun _ _ => ?_) (fun J4_5 => ?_)
    · show AL _ _ _ _ _ _ _ _ _ _ _ _ [(60, vi (atN c ((bys (machY m y)).length : Int))), (61, .slice a21 (atN c ((bys (machY m y)).length : Int)).toNat c21), (56, (.slice a21 (bys (machY m y)).length c21)), (57, vi c), (59, vi ((bys (machY m y)).length : Int)), (62, (.slice a21 (bys (machY m y)).length c21)), (64, vb q), (69, vi 0)] (hb20)
      refine AL.pick (is := [7, 9]) (by decide +kernel) (by decide) (.cons rfl ?_ (.cons rfl ?_ .nil))
      · skip
        refine TL.callX (Clone_fn (.slice a21 (bys (machY m y)).length c21) _ (machY m y) (roS hb20) hR21 (by omega)) rfl rfl rfl (.lastr inferInstance) rfl (fun ⟨v63, hb63⟩ hB63 => ?_)
        show TL _ _ _ _ _ _ _ ((63, v63) :: _) (hb63 ++ _) _
        refine TL.nil ?_
        refine AQ.al (.nil _) ?_
        exact AL.join' (J4_5_7 ⟨v63, hb63⟩ hB63) (by decide +kernel) ⟨rfl, rfl, rfl, rfl, rfl, rfl, rfl, rfl, rfl, trivial⟩ (.seg inferInstance (.last inferInstance))
      · skip
        refine TL.buildSlice rfl rfl rfl rfl rfl (fun b65 => ?_)
        refine TL.nil ?_
        refine AQ.al (.nil _) ?_
        exact AL.join' (J4_5_9 b65 trivial) (by decide +kernel) ⟨rfl, rfl, rfl, rfl, rfl, rfl, rfl, rfl, rfl, trivial⟩ (.cons inferInstance rfl (.last inferInstance))
    refine AL.meetAt (X := Value × HS) (fun ((v63, hb63) : Value × HS) => Buf 5 1 v63 (bys (machY m y)) hb63) (fun ((v63, hb63) : Value × HS) => [(60, vi (atN c ((bys (machY m y)).length : Int))), (63, v63), (56, (.slice a21 (bys (machY m y)).length c21)), (57, vi c), (59, vi ((bys (machY m y)).length : Int)), (62, (.slice a21 (bys (machY m y)).length c21)), (64, vb q), (69, vi 0)]) (fun ((v63, hb63) : Value × HS) => hb63 ++ (hb20)) #[true, true, true, true, true, false, true, true, true, false, false, false, false, true] 5 true (fun ⟨v63, hb63⟩ hB63 => ?_) (fun J4_7 => ?_)
    · show AL _ _ _ _ _ _ _ _ _ _ _ _ [(60, vi (atN c ((bys (machY m y)).length : Int))), (63, v63), (56, (.slice a21 (bys (machY m y)).length c21)), (57, vi c), (59, vi ((bys (machY m y)).length : Int)), (62, (.slice a21 (bys (machY m y)).length c21)), (64, vb q), (69, vi 0)] (hb63 ++ (hb20))
      refine AL.pick (is := [5, 9]) (by decide +kernel) (by decide) (.cons rfl ?_ (.cons rfl ?_ .nil))
      · skip
        refine TL.pu (.slice_hi rfl rfl (atN_in c ((bys (machY m y)).length : Int) hL0).1 (by have := atN_in c ((bys (machY m y)).length : Int) hL0; omega)) rfl ?_
        refine TL.nil ?_
        refine AQ.al (.nil _) ?_
        exact AL.join' (J4_5_7 ⟨v63, hb63⟩ hB63) (by decide +kernel) ⟨rfl, rfl, rfl, rfl, rfl, rfl, rfl, rfl, rfl, trivial⟩ (.seg inferInstance (.last inferInstance))
      · skip
        refine TL.buildSlice rfl rfl rfl rfl rfl (fun b65 => ?_)
        refine TL.nil ?_
        refine AQ.al (.nil _) ?_
        exact AL.join' (J4_7_9 ⟨v63, hb63, b65⟩ hB63) (by decide +kernel) ⟨rfl, rfl, rfl, rfl, rfl, rfl, rfl, rfl, rfl, trivial⟩ (.cons inferInstance rfl (.seg inferInstance (.last inferInstance)))
    refine AL.meetAt (X := Nat) (fun (b65 : Nat) => True) (fun (b65 : Nat) => [(60, vi (atN c ((bys (machY m y)).length : Int))), (65, slv b65 1), (56, (.slice a21 (bys (machY m y)).length c21)), (57, vi c), (59, vi ((bys (machY m y)).length : Int)), (62, (.slice a21 (bys (machY m y)).length c21)), (64, vb q), (69, vi 0)]) (fun (b65 : Nat) => ⟨b65, cel [vb q] 5, true⟩ :: hb20) #[true, true, true, true, true, false, true, false, true, true, false, false, false, true] 5 true (fun b65 _ => ?_) (fun J4_9 => ?_)
    · show AL _ _ _ _ _ _ _ _ _ _ _ _ [(60, vi (atN c ((bys (machY m y)).length : Int))), (65, slv b65 1), (56, (.slice a21 (bys (machY m y)).length c21)), (57, vi c), (59, vi ((bys (machY m y)).length : Int)), (62, (.slice a21 (bys (machY m y)).length c21)), (64, vb q), (69, vi 0)] (⟨b65, cel [vb q] 5, true⟩ :: hb20)
      refine AL.pick (is := [5, 7]) (by decide +kernel) (by decide) (.cons rfl ?_ (.cons rfl ?_ .nil))
      · skip
        refine TL.pu (.slice_hi rfl rfl (atN_in c ((bys (machY m y)).length : Int) hL0).1 (by have := atN_in c ((bys (machY m y)).length : Int) hL0; omega)) rfl ?_
        refine TL.nil ?_
        refine AQ.al (.nil _) ?_
        exact AL.join' (J4_5_9 b65 trivial) (by decide +kernel) ⟨rfl, rfl, rfl, rfl, rfl, rfl, rfl, rfl, rfl, trivial⟩ (.cons inferInstance rfl (.last inferInstance))
      · skip
        refine TL.callX (Clone_fn (.slice a21 (bys (machY m y)).length c21) _ (machY m y) (roS hb20) hR21 (by omega)) rfl rfl rfl (.lastr inferInstance) rfl (fun ⟨v63, hb63⟩ hB63 => ?_)
        show TL _ _ _ _ _ _ _ ((63, v63) :: _) (hb63 ++ _) _
        refine TL.nil ?_
        refine AQ.al (.nil _) ?_
        exact AL.join' (J4_7_9 ⟨v63, hb63, b65⟩ hB63) (by decide +kernel) ⟨rfl, rfl, rfl, rfl, rfl, rfl, rfl, rfl, rfl, trivial⟩ (.cons inferInstance rfl (.seg inferInstance (.last inferInstance)))
    refine AL.meetAt (X := Unit) (fun (_ : Unit) => True) (fun (_ : Unit) => [(60, vi (atN c ((bys (machY m y)).length : Int))), (56, (.slice a21 (bys (machY m y)).length c21)), (57, vi c), (59, vi ((bys (machY m y)).length : Int)), (62, (.slice a21 (bys (machY m y)).length c21)), (64, vb q), (69, vi 0)]) (fun (_ : Unit) => hb20) #[true, true, true, true, true, false, true, false, true, false, false, false, false, true] 6 true (fun _ _ => ?_) (fun J4 => ?_)
    · show AL _ _ _ _ _ _ _ _ _ _ _ _ [(60, vi (atN c ((bys (machY m y)).length : Int))), (56, (.slice a21 (bys (machY m y)).length c21)), (57, vi c), (59, vi ((bys (machY m y)).length : Int)), (62, (.slice a21 (bys (machY m y)).length c21)), (64, vb q), (69, vi 0)] (hb20)
      refine AL.pick (is := [5, 7, 9]) (by decide +kernel) (by decide) (.cons rfl ?_ (.cons rfl ?_ (.cons rfl ?_ .nil)))
      · skip
        refine TL.pu (.slice_hi rfl rfl (atN_in c ((bys (machY m y)).length : Int) hL0).1 (by have := atN_in c ((bys (machY m y)).length : Int) hL0; omega)) rfl ?_
        refine TL.nil ?_
        refine AQ.al (.nil _) ?_
        exact AL.join' (J4_5 () trivial) (by decide +kernel) ⟨rfl, rfl, rfl, rfl, rfl, rfl, rfl, rfl, trivial⟩ (.last inferInstance)
      · skip
        refine TL.callX (Clone_fn (.slice a21 (bys (machY m y)).length c21) _ (machY m y) (roS hb20) hR21 (by omega)) rfl rfl rfl (.lastr inferInstance) rfl (fun ⟨v63, hb63⟩ hB63 => ?_)
        show TL _ _ _ _ _ _ _ ((63, v63) :: _) (hb63 ++ _) _
        refine TL.nil ?_
        refine AQ.al (.nil _) ?_
        exact AL.join' (J4_7 ⟨v63, hb63⟩ hB63) (by decide +kernel) ⟨rfl, rfl, rfl, rfl, rfl, rfl, rfl, rfl, trivial⟩ (.seg inferInstance (.last inferInstance))
      · skip
        refine TL.buildSlice rfl rfl rfl rfl rfl (fun b65 => ?_)
        refine TL.nil ?_
        refine AQ.al (.nil _) ?_
        exact AL.join' (J4_9 b65 trivial) (by decide +kernel) ⟨rfl, rfl, rfl, rfl, rfl, rfl, rfl, rfl, trivial⟩ (.cons inferInstance rfl (.last inferInstance))
    refine AL.meetAt (X := Nat) (fun (b65 : Nat) => True) (fun (b65 : Nat) => [(65, slv b65 1), (56, (.slice a21 (bys (machY m y)).length c21)), (57, vi c), (59, vi ((bys (machY m y)).length : Int)), (62, (.slice a21 (bys (machY m y)).length c21)), (64, vb q), (69, vi 0)]) (fun (b65 : Nat) => ⟨b65, cel [vb q] 5, true⟩ :: hb20) #[true, true, true, true, false, false, true, false, true, true, false, false, false, true] 6 true (fun b65 _ => ?_) (fun J9 => ?_)
    · show AL _ _ _ _ _ _ _ _ _ _ _ _ [(65, slv b65 1), (56, (.slice a21 (bys (machY m y)).length c21)), (57, vi c), (59, vi ((bys (machY m y)).length : Int)), (62, (.slice a21 (bys (machY m y)).length c21)), (64, vb q), (69, vi 0)] (⟨b65, cel [vb q] 5, true⟩ :: hb20)
      refine AL.one 4 rfl (by decide +kernel) ?_
      refine TL.callD (at_fn c ((bys (machY m y)).length : Int) hc ⟨hL0, by omega⟩) rfl rfl rfl (.nil _) rfl ?_
      refine TL.nil ?_
      refine AQ.al (.nil _) ?_
      exact AL.join' (J4_9 b65 trivial) (by decide +kernel) ⟨rfl, rfl, rfl, rfl, rfl, rfl, rfl, rfl, trivial⟩ (.cons inferInstance rfl (.last inferInstance))
    refine AL.pick (is := [4, 9]) (by decide +kernel) (by decide) (.cons rfl ?_ (.cons rfl ?_ .nil))
    · skip
      refine TL.callD (at_fn c ((bys (machY m y)).length : Int) hc ⟨hL0, by omega⟩) rfl rfl rfl (.nil _) rfl ?_
      refine TL.nil ?_
      refine AQ.al (.nil _) ?_
      exact AL.join' (J4 () trivial) (by decide +kernel) ⟨rfl, rfl, rfl, rfl, rfl, rfl, rfl, trivial⟩ (.last inferInstance)
    · skip
      refine TL.buildSlice rfl rfl rfl rfl rfl (fun b65 => ?_)
      refine TL.nil ?_
      refine AQ.al (.nil _) ?_
      exact AL.join' (J9 b65 trivial) (by decide +kernel) ⟨rfl, rfl, rfl, rfl, rfl, rfl, rfl, trivial⟩ (.cons inferInstance rfl (.last inferInstance))
  refine AL.no 3 rfl rfl rfl rfl rfl (by decide +kernel) (by decide +kernel) (by decide +kernel) (by decide +kernel) rfl ?_
  refine AL.no 4 rfl rfl rfl rfl rfl (by decide +kernel) (by decide +kernel) (by decide +kernel) (by decide +kernel) rfl ?_
  refine AL.no 6 rfl rfl rfl rfl rfl (by decide +kernel) (by decide +kernel) (by decide +kernel) (by decide +kernel) rfl ?_
  refine AL.no 7 rfl rfl rfl rfl rfl (by decide +kernel) (by decide +kernel) (by decide +kernel) (by decide +kernel) rfl ?_
  refine AL.one 5 rfl (by decide +kernel) ?_
  refine TL.guard_no rfl rfl rfl rfl ?_
  refine TL.nil ?_
  refine AQ.al (.cons inferInstance rfl (.cons inferInstance rfl (.nil _))) ?_
  refine AL.one 8 rfl (by decide +kernel) ?_
  refine TL.guard_no rfl rfl rfl rfl ?_
  refine TL.nil ?_
  refine AQ.al (.cons inferInstance rfl (.cons inferInstance rfl (.nil _))) ?_
  refine AL.no 9 rfl rfl rfl rfl rfl (by decide +kernel) (by decide +kernel) (by decide +kernel) (by decide +kernel) rfl ?_
  refine AL.pu 10 rfl (.pick_f rfl rfl) rfl (by decide +kernel) (by decide +kernel) (by decide +kernel) (by decide +kernel) rfl ?_
  refine AL.fin (by decide +kernel) ?_
  refine AQ.then_n ?_
  refine TC.cond_f rfl ?_
  refine TC.skip ?_
  refine AQ.then_n ?_
  refine TC.seq ?_
  refine TC.seq ?_
  refine TC.draws [] (fun i => false) (.nil _) ?_
  refine AL.pu 0 rfl (.move rfl) rfl (by decide +kernel) (by decide +kernel) (by decide +kernel) (by decide +kernel) rfl ?_
  refine AL.pu 1 rfl (.move rfl) rfl (by decide +kernel) (by decide +kernel) (by decide +kernel) (by decide +kernel) rfl ?_
  refine AL.pu 2 rfl (.move rfl) rfl (by decide +kernel) (by decide +kernel) (by decide +kernel) (by decide +kernel) rfl ?_
  refine AL.pu 3 rfl (.lenSlice rfl rfl) rfl (by decide +kernel) (by decide +kernel) (by decide +kernel) (by decide +kernel) rfl ?_
  refine AL.pu 6 rfl (.move rfl) rfl (by decide +kernel) (by decide +kernel) (by decide +kernel) (by decide +kernel) rfl ?_
  refine AL.pu 8 rfl (.move rfl) rfl (by decide +kernel) (by decide +kernel) (by decide +kernel) (by decide +kernel) rfl ?_
  refine AL.pu 13 rfl (.move rfl) rfl (by decide +kernel) (by decide +kernel) (by decide +kernel) (by decide +kernel) rfl ?_
  refine AL.meetAt (X := Value × HS × Nat × Value × HS) (fun ((v63, hb63, b65, v66, hb66) : Value × HS × Nat × Value × HS) => Buf 5 1 v63 (bys (machY m y)) hb63 ∧ Buf 5 1 v66 (bys (machY m y ++ [q])) hb66) (fun ((v63, hb63, b65, v66, hb66) : Value × HS × Nat × Value × HS) => [(60, vi (atN c ((bys (machY m y)).length : Int))), (61, .slice a21 (atN c ((bys (machY m y)).length : Int)).toNat c21), (63, v63), (65, slv b65 1), (66, v66), (56, (.slice a21 (bys (machY m y)).length c21)), (57, vi c), (59, vi ((bys (machY m y)).length : Int)), (62, (.slice a21 (bys (machY m y)).length c21)), (64, vb q), (69, vi 0)]) (fun ((v63, hb63, b65, v66, hb66) : Value × HS × Nat × Value × HS) => hb66 ++ (⟨b65, cel [vb q] 5, true⟩ :: hb20)) #[true, true, true, true, true, true, true, true, true, true, true, false, false, true] 2 true (fun ⟨v63, hb63, b65, v66, hb66⟩ ⟨hB63, hB66⟩ => ?_) (fun J4_5_7_9_10 => ?_)
  · show AL _ _ _ _ _ _ _ _ _ _ _ _ [(60, vi (atN c ((bys (machY m y)).length : Int))), (61, .slice a21 (atN c ((bys (machY m y)).length : Int)).toNat c21), (63, v63), (65, slv b65 1), (66, v66), (56, (.slice a21 (bys (machY m y)).length c21)), (57, vi c), (59, vi ((bys (machY m y)).length : Int)), (62, (.slice a21 (bys (machY m y)).length c21)), (64, vb q), (69, vi 0)] (hb66 ++ (⟨b65, cel [vb q] 5, true⟩ :: hb20))
    obtain ⟨a66, c66, rfl⟩ := hB66.isl rfl
    refine AL.one 11 rfl (by decide +kernel) ?_
    refine TL.buildSlice rfl rfl rfl rfl rfl (fun b67 => ?_)
    refine TL.nil ?_
    refine AQ.al (.nil _) ?_
    refine AL.pu 12 rfl (.lenSlice rfl rfl) rfl (by decide +kernel) (by decide +kernel) (by decide +kernel) (by decide +kernel) rfl ?_
    refine AL.fin (by decide +kernel) ?_
    refine AQ.then_n ?_
    refine TC.block ?_
    refine TC.unroll 2 ?_
    refine TC.seq ?_
    refine TC.region ?_
    refine TL.say 68 (vi 2) rfl rfl ?_
    refine TL.pu (.int rfl rfl rfl) rfl ?_
    refine TL.say 70 (.bool true) rfl rfl ?_
    refine TL.nil ?_
    refine AQ.then_n ?_
    refine TC.seq ?_
    refine TC.cond_t rfl ?_
    refine TC.skip ?_
    refine AQ.then_n ?_
    refine TC.seq ?_
    refine TC.block ?_
    refine TC.seq ?_
    refine TC.region ?_
    refine TL.pu (.indexAddr rfl rfl (by decide) (by decide) (m := 0) rfl) rfl ?_
    refine TL.rd (.load1 rfl inferInstance rfl) rfl ?_
    refine TL.pu (.assign rfl) rfl ?_
    refine TL.nil ?_
    refine AQ.then_n ?_
    refine TC.seq ?_
    refine TC.region ?_
    refine TL.pu (.move rfl) rfl ?_
    refine TL.callX (Of_n (ys := ((machY m y).take (atN c ((bys (machY m y)).length : Int)).toNat)) (hR21.take' (by have := atN_in c ((bys (machY m y)).length : Int) hL0; omega)) (rng_take (machY_rng hy) _)) rfl rfl rfl (.lastr inferInstance) rfl (fun ⟨⟨m2, y2, s2⟩, e2⟩ hF => ?_)
    show TL _ _ _ _ _ _ _ ((75, .tuple #[.agg (machL m2).toArray, vi e2]) :: _) (s2.hs ++ _) _
    refine TL.pu (.move rfl) rfl ?_
    refine TL.pu (.extract rfl rfl) rfl ?_
    refine TL.pu (.extract rfl rfl) rfl ?_
    refine TL.alloc rfl rfl (fun b15 => ?_)
    refine TL.storeAll rfl rfl rfl (hF.b.rows.one [] rfl) inferInstance rfl ?_
    refine TL.pu (.assign rfl) rfl ?_
    refine TL.nil ?_
    refine AQ.then_n ?_
    refine TC.seq ?_
    refine TC.region ?_
    refine TL.pu (.move rfl) rfl ?_
    refine TL.pu (.int rfl rfl rfl) rfl ?_
    refine TL.nil ?_
    refine AQ.then_n ?_
    refine TC.condd rfl (fun p7 => ?_) (fun p7 => ?_)
    · skip
      refine TC.seq ?_
      refine TC.region ?_
      have he2 : e2 = 0 := by assumption
      obtain ⟨-, hl2, hc2⟩ := hF.is.resolve_right (fun h => by have h1 := h.1; simp only at h1; omega)
      simp only at hl2 hc2
      refine TL.rd (.loadAll rfl inferInstance rfl) rfl ?_
      refine TL.callX (Bytes_b hF.b hF.ok) rfl rfl rfl (.lastr inferInstance) rfl (fun ⟨v82, hb82⟩ hB82 => ?_)
      replace hB82 : Buf 5 1 v82 (bys (machY m2 y2)) hb82 := by have h := hB82; rw [if_pos hc2] at h; exact h
      show TL _ _ _ _ _ _ _ ((82, .tuple #[v82, vi (ckY m2 y2)]) :: _) (hb82 ++ _) _
      refine TL.pu (.move rfl) rfl ?_
      refine TL.pu (.extract rfl rfl) rfl ?_
      refine TL.pu (.extract rfl rfl) rfl ?_
      refine TL.say 84 (vi 0) rfl (congrArg (Value.int .i64) hc2) ?_
      refine TL.pu (.assign rfl) rfl ?_
      refine TL.pu (.assign rfl) rfl ?_
      refine TL.nil ?_
      refine AQ.then_n ?_
      refine TC.seq ?_
      refine TC.region ?_
      refine TL.pu (.move rfl) rfl ?_
      refine TL.pu (.int rfl rfl rfl) rfl ?_
      refine TL.say 86 (.bool false) rfl rfl ?_
      refine TL.pu (.move rfl) rfl ?_
      refine TL.guard_yes rfl rfl ?_
      refine TL.pu (.move rfl) rfl ?_
      refine TL.guard_yes rfl rfl ?_
      refine TL.pu (.move rfl) rfl ?_
      refine TL.guard_yes rfl rfl ?_
      refine TL.callD (Equal_fn v82 _ _ _ (machY m2 y2) ((machY m y).take (atN c ((bys (machY m y)).length : Int)).toNat) (roS hb82) _ (hB82.ro (bys_length _)) (hR21.take' (by have := atN_in c ((bys (machY m y)).length : Int) hL0; omega)) (machY_rng hF.rg) (rng_take (machY_rng hy) _)) rfl rfl rfl (.sgr inferInstance (.lastr inferInstance)) rfl ?_
      refine TL.say 90 (vt true) rfl (congrArg Value.bool (decide_eq_true hl2.symm)) ?_
      refine TL.guard_yes rfl rfl ?_
      refine TL.pu (.not rfl) rfl ?_
      refine TL.say 91 (vt false) rfl rfl ?_
      refine TL.pu (.pick_f rfl rfl) rfl ?_
      refine TL.nil ?_
      refine AQ.then_n ?_
      refine TC.cond_f rfl ?_
      refine TC.skip ?_
      refine AQ.block_n ?_
      refine AQ.then_n ?_
      refine TC.region ?_
      refine TL.pu (.int rfl rfl rfl) rfl ?_
      refine TL.say 93 (.int .i64 1) rfl rfl ?_
      refine TL.pu (.move rfl) rfl ?_
      refine TL.nil ?_
      refine AQ.next ?_
      refine TC.seq ?_
      refine TC.region ?_
      refine TL.say 68 (vi 2) rfl rfl ?_
      refine TL.pu (.int rfl rfl rfl) rfl ?_
      refine TL.say 70 (.bool true) rfl rfl ?_
      refine TL.nil ?_
      refine AQ.then_n ?_
      refine TC.seq ?_
      refine TC.cond_t rfl ?_
      refine TC.skip ?_
      refine AQ.then_n ?_
      refine TC.seq ?_
      refine TC.block ?_
      refine TC.seq ?_
      refine TC.region ?_
      refine TL.pu (.indexAddr rfl rfl (by decide) (by decide) (m := 1) rfl) rfl ?_
      refine TL.rd (.load1 rfl inferInstance rfl) rfl ?_
      refine TL.pu (.assign rfl) rfl ?_
      refine TL.nil ?_
      refine AQ.then_n ?_
      refine TC.seq ?_
      refine TC.region ?_
      refine TL.pu (.move rfl) rfl ?_
      refine TL.callX (Of_n (ys := (machY m y ++ [q])) (hB66.ro (bys_length _)) hq66) rfl rfl rfl (.lastr inferInstance) rfl (fun ⟨⟨m2, y2, s2⟩, e2⟩ hF => ?_)
      show TL _ _ _ _ _ _ _ ((75, .tuple #[.agg (machL m2).toArray, vi e2]) :: _) (s2.hs ++ _) _
      refine TL.pu (.move rfl) rfl ?_
      refine TL.pu (.extract rfl rfl) rfl ?_
      refine TL.pu (.extract rfl rfl) rfl ?_
      refine TL.alloc rfl rfl (fun b15 => ?_)
      refine TL.storeAll rfl rfl rfl (hF.b.rows.one [] rfl) inferInstance rfl ?_
      refine TL.pu (.assign rfl) rfl ?_
      refine TL.nil ?_
      refine AQ.then_n ?_
      refine TC.seq ?_
      refine TC.region ?_
      refine TL.pu (.move rfl) rfl ?_
      refine TL.pu (.int rfl rfl rfl) rfl ?_
      refine TL.nil ?_
      refine AQ.then_n ?_
      refine TC.condd rfl (fun p8 => ?_) (fun p8 => ?_)
      · skip
        refine TC.seq ?_
        refine TC.region ?_
        have he2 : e2 = 0 := by assumption
        obtain ⟨-, hl2, hc2⟩ := hF.is.resolve_right (fun h => by have h1 := h.1; simp only at h1; omega)
        simp only at hl2 hc2
        refine TL.rd (.loadAll rfl inferInstance rfl) rfl ?_
        refine TL.callX (Bytes_b hF.b hF.ok) rfl rfl rfl (.lastr inferInstance) rfl (fun ⟨v82, hb82⟩ hB82 => ?_)
        replace hB82 : Buf 5 1 v82 (bys (machY m2 y2)) hb82 := by have h := hB82; rw [if_pos hc2] at h; exact h
        show TL _ _ _ _ _ _ _ ((82, .tuple #[v82, vi (ckY m2 y2)]) :: _) (hb82 ++ _) _
        refine TL.pu (.move rfl) rfl ?_
        refine TL.pu (.extract rfl rfl) rfl ?_
        refine TL.pu (.extract rfl rfl) rfl ?_
        refine TL.say 84 (vi 0) rfl (congrArg (Value.int .i64) hc2) ?_
        refine TL.pu (.assign rfl) rfl ?_
        refine TL.pu (.assign rfl) rfl ?_
        refine TL.nil ?_
        refine AQ.then_n ?_
        refine TC.seq ?_
        refine TC.region ?_
        refine TL.pu (.move rfl) rfl ?_
        refine TL.pu (.int rfl rfl rfl) rfl ?_
        refine TL.say 86 (.bool false) rfl rfl ?_
        refine TL.pu (.move rfl) rfl ?_
        refine TL.guard_yes rfl rfl ?_
        refine TL.pu (.move rfl) rfl ?_
        refine TL.guard_yes rfl rfl ?_
        refine TL.pu (.move rfl) rfl ?_
        refine TL.guard_yes rfl rfl ?_
        refine TL.callD (Equal_fn v82 _ _ _ (machY m2 y2) (machY m y ++ [q]) (roS hb82) _ (hB82.ro (bys_length _)) (hB66.ro (bys_length _)) (machY_rng hF.rg) hq66) rfl rfl rfl (.sgr inferInstance (.lastr inferInstance)) rfl ?_
        refine TL.say 90 (vt true) rfl (congrArg Value.bool (decide_eq_true hl2.symm)) ?_
        refine TL.guard_yes rfl rfl ?_
        refine TL.pu (.not rfl) rfl ?_
        refine TL.say 91 (vt false) rfl rfl ?_
        refine TL.pu (.pick_f rfl rfl) rfl ?_
        refine TL.nil ?_
        refine AQ.then_n ?_
        refine TC.cond_f rfl ?_
        refine TC.skip ?_
        refine AQ.block_n ?_
        refine AQ.then_n ?_
        refine TC.region ?_
        refine TL.pu (.int rfl rfl rfl) rfl ?_
        refine TL.say 93 (.int .i64 2) rfl rfl ?_
        refine TL.pu (.move rfl) rfl ?_
        refine TL.nil ?_
        refine AQ.next ?_
        refine TC.seq ?_
        refine TC.region ?_
        refine TL.say 68 (vi 2) rfl rfl ?_
        refine TL.pu (.int rfl rfl rfl) rfl ?_
        refine TL.say 70 (.bool false) rfl rfl ?_
        refine TL.nil ?_
        refine AQ.then_n ?_
        refine TC.seq ?_
        refine TC.cond_f rfl ?_
        refine TC.exit ?_
        refine AQ.then_x ?_
        refine AQ.then_x ?_
        refine AQ.block_x ?_
        refine AQ.then_n ?_
        refine TC.seq ?_
        refine TC.region ?_
        refine TL.pu (.assign rfl) rfl ?_
        refine TL.nil ?_
        refine AQ.then_n ?_
        refine TC.ret ?_
        first
          | exact AQ.ret Try.results4 rfl ⟨rfl, rfl⟩ (.nil _)
          | exact absurd ‹(sameY m k y z != sameY m k y z) = true› (by simp)
      refine TC.skip ?_
      refine AQ.block_n ?_
      refine AQ.then_n ?_
      refine TC.region ?_
      refine TL.pu (.int rfl rfl rfl) rfl ?_
      refine TL.say 93 (.int .i64 2) rfl rfl ?_
      refine TL.pu (.move rfl) rfl ?_
      refine TL.nil ?_
      refine AQ.next ?_
      refine TC.seq ?_
      refine TC.region ?_
      refine TL.say 68 (vi 2) rfl rfl ?_
      refine TL.pu (.int rfl rfl rfl) rfl ?_
      refine TL.say 70 (.bool false) rfl rfl ?_
      refine TL.nil ?_
      refine AQ.then_n ?_
      refine TC.seq ?_
      refine TC.cond_f rfl ?_
      refine TC.exit ?_
      refine AQ.then_x ?_
      refine AQ.then_x ?_
      refine AQ.block_x ?_
      refine AQ.then_n ?_
      refine TC.seq ?_
      refine TC.region ?_
      refine TL.pu (.assign rfl) rfl ?_
      refine TL.nil ?_
      refine AQ.then_n ?_
      refine TC.ret ?_
      first
        | exact AQ.ret Try.results4 rfl ⟨rfl, rfl⟩ (.nil _)
        | exact absurd ‹(sameY m k y z != sameY m k y z) = true› (by simp)
    refine TC.skip ?_
    refine AQ.block_n ?_
    refine AQ.then_n ?_
    refine TC.region ?_
    refine TL.pu (.int rfl rfl rfl) rfl ?_
    refine TL.say 93 (.int .i64 1) rfl rfl ?_
    refine TL.pu (.move rfl) rfl ?_
    refine TL.nil ?_
    refine AQ.next ?_
    refine TC.seq ?_
    refine TC.region ?_
    refine TL.say 68 (vi 2) rfl rfl ?_
    refine TL.pu (.int rfl rfl rfl) rfl ?_
    refine TL.say 70 (.bool true) rfl rfl ?_
    refine TL.nil ?_
    refine AQ.then_n ?_
    refine TC.seq ?_
    refine TC.cond_t rfl ?_
    refine TC.skip ?_
    refine AQ.then_n ?_
    refine TC.seq ?_
    refine TC.block ?_
    refine TC.seq ?_
    refine TC.region ?_
    refine TL.pu (.indexAddr rfl rfl (by decide) (by decide) (m := 1) rfl) rfl ?_
    refine TL.rd (.load1 rfl inferInstance rfl) rfl ?_
    refine TL.pu (.assign rfl) rfl ?_
    refine TL.nil ?_
    refine AQ.then_n ?_
    refine TC.seq ?_
    refine TC.region ?_
    refine TL.pu (.move rfl) rfl ?_
    refine TL.callX (Of_n (ys := (machY m y ++ [q])) (hB66.ro (bys_length _)) hq66) rfl rfl rfl (.lastr inferInstance) rfl (fun ⟨⟨m2, y2, s2⟩, e2⟩ hF => ?_)
    show TL _ _ _ _ _ _ _ ((75, .tuple #[.agg (machL m2).toArray, vi e2]) :: _) (s2.hs ++ _) _
    refine TL.pu (.move rfl) rfl ?_
    refine TL.pu (.extract rfl rfl) rfl ?_
    refine TL.pu (.extract rfl rfl) rfl ?_
    refine TL.alloc rfl rfl (fun b15 => ?_)
    refine TL.storeAll rfl rfl rfl (hF.b.rows.one [] rfl) inferInstance rfl ?_
    refine TL.pu (.assign rfl) rfl ?_
    refine TL.nil ?_
    refine AQ.then_n ?_
    refine TC.seq ?_
    refine TC.region ?_
    refine TL.pu (.move rfl) rfl ?_
    refine TL.pu (.int rfl rfl rfl) rfl ?_
    refine TL.nil ?_
    refine AQ.then_n ?_
    refine TC.condd rfl (fun p9 => ?_) (fun p9 => ?_)
    · skip
      refine TC.seq ?_
      refine TC.region ?_
      have he2 : e2 = 0 := by assumption
      obtain ⟨-, hl2, hc2⟩ := hF.is.resolve_right (fun h => by have h1 := h.1; simp only at h1; omega)
      simp only at hl2 hc2
      refine TL.rd (.loadAll rfl inferInstance rfl) rfl ?_
      refine TL.callX (Bytes_b hF.b hF.ok) rfl rfl rfl (.lastr inferInstance) rfl (fun ⟨v82, hb82⟩ hB82 => ?_)
      replace hB82 : Buf 5 1 v82 (bys (machY m2 y2)) hb82 := by have h := hB82; rw [if_pos hc2] at h; exact h
      show TL _ _ _ _ _ _ _ ((82, .tuple #[v82, vi (ckY m2 y2)]) :: _) (hb82 ++ _) _
      refine TL.pu (.move rfl) rfl ?_
      refine TL.pu (.extract rfl rfl) rfl ?_
      refine TL.pu (.extract rfl rfl) rfl ?_
      refine TL.say 84 (vi 0) rfl (congrArg (Value.int .i64) hc2) ?_
      refine TL.pu (.assign rfl) rfl ?_
      refine TL.pu (.assign rfl) rfl ?_
      refine TL.nil ?_
      refine AQ.then_n ?_
      refine TC.seq ?_
      refine TC.region ?_
      refine TL.pu (.move rfl) rfl ?_
      refine TL.pu (.int rfl rfl rfl) rfl ?_
      refine TL.say 86 (.bool false) rfl rfl ?_
      refine TL.pu (.move rfl) rfl ?_
      refine TL.guard_yes rfl rfl ?_
      refine TL.pu (.move rfl) rfl ?_
      refine TL.guard_yes rfl rfl ?_
      refine TL.pu (.move rfl) rfl ?_
      refine TL.guard_yes rfl rfl ?_
      refine TL.callD (Equal_fn v82 _ _ _ (machY m2 y2) (machY m y ++ [q]) (roS hb82) _ (hB82.ro (bys_length _)) (hB66.ro (bys_length _)) (machY_rng hF.rg) hq66) rfl rfl rfl (.sgr inferInstance (.lastr inferInstance)) rfl ?_
      refine TL.say 90 (vt true) rfl (congrArg Value.bool (decide_eq_true hl2.symm)) ?_
      refine TL.guard_yes rfl rfl ?_
      refine TL.pu (.not rfl) rfl ?_
      refine TL.say 91 (vt false) rfl rfl ?_
      refine TL.pu (.pick_f rfl rfl) rfl ?_
      refine TL.nil ?_
      refine AQ.then_n ?_
      refine TC.cond_f rfl ?_
      refine TC.skip ?_
      refine AQ.block_n ?_
      refine AQ.then_n ?_
      refine TC.region ?_
      refine TL.pu (.int rfl rfl rfl) rfl ?_
      refine TL.say 93 (.int .i64 2) rfl rfl ?_
      refine TL.pu (.move rfl) rfl ?_
      refine TL.nil ?_
      refine AQ.next ?_
      refine TC.seq ?_
      refine TC.region ?_
      refine TL.say 68 (vi 2) rfl rfl ?_
      refine TL.pu (.int rfl rfl rfl) rfl ?_
      refine TL.say 70 (.bool false) rfl rfl ?_
      refine TL.nil ?_
      refine AQ.then_n ?_
      refine TC.seq ?_
      refine TC.cond_f rfl ?_
      refine TC.exit ?_
      refine AQ.then_x ?_
      refine AQ.then_x ?_
      refine AQ.block_x ?_
      refine AQ.then_n ?_
      refine TC.seq ?_
      refine TC.region ?_
      refine TL.pu (.assign rfl) rfl ?_
      refine TL.nil ?_
      refine AQ.then_n ?_
      refine TC.ret ?_
      first
        | exact AQ.ret Try.results4 rfl ⟨rfl, rfl⟩ (.nil _)
        | exact absurd ‹(sameY m k y z != sameY m k y z) = true› (by simp)
    refine TC.skip ?_
    refine AQ.block_n ?_
    refine AQ.then_n ?_
    refine TC.region ?_
    refine TL.pu (.int rfl rfl rfl) rfl ?_
    refine TL.say 93 (.int .i64 2) rfl rfl ?_
    refine TL.pu (.move rfl) rfl ?_
    refine TL.nil ?_
    refine AQ.next ?_
    refine TC.seq ?_
    refine TC.region ?_
    refine TL.say 68 (vi 2) rfl rfl ?_
    refine TL.pu (.int rfl rfl rfl) rfl ?_
    refine TL.say 70 (.bool false) rfl rfl ?_
    refine TL.nil ?_
    refine AQ.then_n ?_
    refine TC.seq ?_
    refine TC.cond_f rfl ?_
    refine TC.exit ?_
    refine AQ.then_x ?_
    refine AQ.then_x ?_
    refine AQ.block_x ?_
    refine AQ.then_n ?_
    refine TC.seq ?_
    refine TC.region ?_
    refine TL.pu (.assign rfl) rfl ?_
    refine TL.nil ?_
    refine AQ.then_n ?_
    refine TC.ret ?_
    first
      | exact AQ.ret Try.results4 rfl ⟨rfl, rfl⟩ (.nil _)
      | exact absurd ‹(sameY m k y z != sameY m k y z) = true› (by simp)
  refine AL.meetAt (X := Value × HS × Nat) (fun ((v63, hb63, b65) : Value × HS × Nat) => Buf 5 1 v63 (bys (machY m y)) hb63) (fun ((v63, hb63, b65) : Value × HS × Nat) => [(60, vi (atN c ((bys (machY m y)).length : Int))), (61, .slice a21 (atN c ((bys (machY m y)).length : Int)).toNat c21), (63, v63), (65, slv b65 1), (56, (.slice a21 (bys (machY m y)).length c21)), (57, vi c), (59, vi ((bys (machY m y)).length : Int)), (62, (.slice a21 (bys (machY m y)).length c21)), (64, vb q), (69, vi 0)]) (fun ((v63, hb63, b65) : Value × HS × Nat) => ⟨b65, cel [vb q] 5, true⟩ :: hb63 ++ (hb20)) #[true, true, true, true, true, true, true, true, true, true, false, false, false, true] 3 true (fun ⟨v63, hb63, b65⟩ hB63 => ?_) (fun J4_5_7_9 => ?_)
  · show AL _ _ _ _ _ _ _ _ _ _ _ _ [(60, vi (atN c ((bys (machY m y)).length : Int))), (61, .slice a21 (atN c ((bys (machY m y)).length : Int)).toNat c21), (63, v63), (65, slv b65 1), (56, (.slice a21 (bys (machY m y)).length c21)), (57, vi c), (59, vi ((bys (machY m y)).length : Int)), (62, (.slice a21 (bys (machY m y)).length c21)), (64, vb q), (69, vi 0)] (⟨b65, cel [vb q] 5, true⟩ :: hb63 ++ (hb20))
    refine AL.one 10 rfl (by decide +kernel) ?_
    refine TL.append rfl rfl hB63 inferInstance (.row rfl inferInstance (Nat.le_refl _) rfl) rfl rfl (by decide) (by decide) rfl (by simp only [cut, List.drop_zero, List.length_take, List.length_cons, List.length_nil]; omega) rfl (fun v66 hb66 hB66 => ?_)
    replace hB66 : Buf 5 1 v66 (bys (machY m y ++ [q])) hb66 := by rw [bys_append]; exact hB66
    refine TL.nil ?_
    refine AQ.al (.nil _) ?_
    exact AL.join' (J4_5_7_9_10 ⟨v63, hb63, b65, v66, hb66⟩ ⟨hB63, hB66⟩) (by decide +kernel) ⟨rfl, rfl, rfl, rfl, rfl, rfl, rfl, rfl, rfl, rfl, rfl, trivial⟩ (.seg inferInstance (.cons inferInstance rfl (.last inferInstance)))
  refine AL.meetAt (X := Value × HS × Nat × Value × HS) (fun ((v63, hb63, b65, v66, hb66) : Value × HS × Nat × Value × HS) => Buf 5 1 v63 (bys (machY m y)) hb63 ∧ Buf 5 1 v66 (bys (machY m y ++ [q])) hb66) (fun ((v63, hb63, b65, v66, hb66) : Value × HS × Nat × Value × HS) => [(60, vi (atN c ((bys (machY m y)).length : Int))), (63, v63), (65, slv b65 1), (66, v66), (56, (.slice a21 (bys (machY m y)).length c21)), (57, vi c), (59, vi ((bys (machY m y)).length : Int)), (62, (.slice a21 (bys (machY m y)).length c21)), (64, vb q), (69, vi 0)]) (fun ((v63, hb63, b65, v66, hb66) : Value × HS × Nat × Value × HS) => hb66 ++ (⟨b65, cel [vb q] 5, true⟩ :: hb20)) #[true, true, true, true, true, false, true, true, true, true, true, false, false, true] 3 true (fun ⟨v63, hb63, b65, v66, hb66⟩ ⟨hB63, hB66⟩ => ?_) (fun J4_7_9_10 => ?_)
  · show AL _ _ _ _ _ _ _ _ _ _ _ _ [(60, vi (atN c ((bys (machY m y)).length : Int))), (63, v63), (65, slv b65 1), (66, v66), (56, (.slice a21 (bys (machY m y)).length c21)), (57, vi c), (59, vi ((bys (machY m y)).length : Int)), (62, (.slice a21 (bys (machY m y)).length c21)), (64, vb q), (69, vi 0)] (hb66 ++ (⟨b65, cel [vb q] 5, true⟩ :: hb20))
    refine AL.one 5 rfl (by decide +kernel) ?_
    refine TL.pu (.slice_hi rfl rfl (atN_in c ((bys (machY m y)).length : Int) hL0).1 (by have := atN_in c ((bys (machY m y)).length : Int) hL0; omega)) rfl ?_
    refine TL.nil ?_
    refine AQ.al (.nil _) ?_
    exact AL.join' (J4_5_7_9_10 ⟨v63, hb63, b65, v66, hb66⟩ ⟨hB63, hB66⟩) (by decide +kernel) ⟨rfl, rfl, rfl, rfl, rfl, rfl, rfl, rfl, rfl, rfl, rfl, trivial⟩ (.seg inferInstance (.cons inferInstance rfl (.last inferInstance)))
  refine AL.meetAt (X := Value × HS) (fun ((v63, hb63) : Value × HS) => Buf 5 1 v63 (bys (machY m y)) hb63) (fun ((v63, hb63) : Value × HS) => [(60, vi (atN c ((bys (machY m y)).length : Int))), (61, .slice a21 (atN c ((bys (machY m y)).length : Int)).toNat c21), (63, v63), (56, (.slice a21 (bys (machY m y)).length c21)), (57, vi c), (59, vi ((bys (machY m y)).length : Int)), (62, (.slice a21 (bys (machY m y)).length c21)), (64, vb q), (69, vi 0)]) (fun ((v63, hb63) : Value × HS) => hb63 ++ (hb20)) #[true, true, true, true, true, true, true, true, true, false, false, false, false, true] 4 true (fun ⟨v63, hb63⟩ hB63 => ?_) (fun J4_5_7 => ?_)
  · show AL _ _ _ _ _ _ _ _ _ _ _ _ [(60, vi (atN c ((bys (machY m y)).length : Int))), (61, .slice a21 (atN c ((bys (machY m y)).length : Int)).toNat c21), (63, v63), (56, (.slice a21 (bys (machY m y)).length c21)), (57, vi c), (59, vi ((bys (machY m y)).length : Int)), (62, (.slice a21 (bys (machY m y)).length c21)), (64, vb q), (69, vi 0)] (hb63 ++ (hb20))
    refine AL.one 9 rfl (by decide +kernel) ?_
    refine TL.buildSlice rfl rfl rfl rfl rfl (fun b65 => ?_)
    refine TL.nil ?_
    refine AQ.al (.nil _) ?_
    exact AL.join' (J4_5_7_9 ⟨v63, hb63, b65⟩ hB63) (by decide +kernel) ⟨rfl, rfl, rfl, rfl, rfl, rfl, rfl, rfl, rfl, rfl, trivial⟩ (.cons inferInstance rfl (.seg inferInstance (.last inferInstance)))
  refine AL.meetAt (X := Nat) (fun (b65 : Nat) => True) (fun (b65 : Nat) => [(60, vi (atN c ((bys (machY m y)).length : Int))), (61, .slice a21 (atN c ((bys (machY m y)).length : Int)).toNat c21), (65, slv b65 1), (56, (.slice a21 (bys (machY m y)).length c21)), (57, vi c), (59, vi ((bys (machY m y)).length : Int)), (62, (.slice a21 (bys (machY m y)).length c21)), (64, vb q), (69, vi 0)]) (fun (b65 : Nat) => ⟨b65, cel [vb q] 5, true⟩ :: hb20) #[true, true, true, true, true, true, true, false, true, true, false, false, false, true] 4 true (fun b65 _ => ?_) (fun J4_5_9 => ?_)
  · show AL _ _ _ _ _ _ _ _ _ _ _ _ [(60, vi (atN c ((bys (machY m y)).length : Int))), (61, .slice a21 (atN c ((bys (machY m y)).length : Int)).toNat c21), (65, slv b65 1), (56, (.slice a21 (bys (machY m y)).length c21)), (57, vi c), (59, vi ((bys (machY m y)).length : Int)), (62, (.slice a21 (bys (machY m y)).length c21)), (64, vb q), (69, vi 0)] (⟨b65, cel [vb q] 5, true⟩ :: hb20)
    refine AL.one 7 rfl (by decide +kernel) ?_
    refine TL.callX (Clone_fn (.slice a21 (bys (machY m y)).length c21) _ (machY m y) (roS hb20) hR21 (by omega)) rfl rfl rfl (.lastr inferInstance) rfl (fun ⟨v63, hb63⟩ hB63 => ?_)
    show TL _ _ _ _ _ _ _ ((63, v63) :: _) (hb63 ++ _) _
    refine TL.nil ?_
    refine AQ.al (.nil _) ?_
    exact AL.join' (J4_5_7_9 ⟨v63, hb63, b65⟩ hB63) (by decide +kernel) ⟨rfl, rfl, rfl, rfl, rfl, rfl, rfl, rfl, rfl, rfl, trivial⟩ (.cons inferInstance rfl (.seg inferInstance (.last inferInstance)))
  refine AL.meetAt (X := Value × HS × Nat) (fun ((v63, hb63, b65) : Value × HS × Nat) => Buf 5 1 v63 (bys (machY m y)) hb63) (fun ((v63, hb63, b65) : Value × HS × Nat) => [(60, vi (atN c ((bys (machY m y)).length : Int))), (63, v63), (65, slv b65 1), (56, (.slice a21 (bys (machY m y)).length c21)), (57, vi c), (59, vi ((bys (machY m y)).length : Int)), (62, (.slice a21 (bys (machY m y)).length c21)), (64, vb q), (69, vi 0)]) (fun ((v63, hb63, b65) : Value × HS × Nat) => ⟨b65, cel [vb q] 5, true⟩ :: hb63 ++ (hb20)) #[true, true, true, true, true, false, true, true, true, true, false, false, false, true] 4 true (fun ⟨v63, hb63, b65⟩ hB63 => ?_) (fun J4_7_9 => ?_)
  · show AL _ _ _ _ _ _ _ _ _ _ _ _ [(60, vi (atN c ((bys (machY m y)).length : Int))), (63, v63), (65, slv b65 1), (56, (.slice a21 (bys (machY m y)).length c21)), (57, vi c), (59, vi ((bys (machY m y)).length : Int)), (62, (.slice a21 (bys (machY m y)).length c21)), (64, vb q), (69, vi 0)] (⟨b65, cel [vb q] 5, true⟩ :: hb63 ++ (hb20))
    refine AL.pick (is := [5, 10]) (by decide +kernel) (by decide) (.cons rfl ?_ (.cons rfl ?_ .nil))
    · skip
      refine TL.pu (.slice_hi rfl rfl (atN_in c ((bys (machY m y)).length : Int) hL0).1 (by have := atN_in c ((bys (machY m y)).length : Int) hL0; omega)) rfl ?_
      refine TL.nil ?_
      refine AQ.al (.nil _) ?_
      exact AL.join' (J4_5_7_9 ⟨v63, hb63, b65⟩ hB63) (by decide +kernel) ⟨rfl, rfl, rfl, rfl, rfl, rfl, rfl, rfl, rfl, rfl, trivial⟩ (.cons inferInstance rfl (.seg inferInstance (.last inferInstance)))
    · skip
      refine TL.append rfl rfl hB63 inferInstance (.row rfl inferInstance (Nat.le_refl _) rfl) rfl rfl (by decide) (by decide) rfl (by simp only [cut, List.drop_zero, List.length_take, List.length_cons, List.length_nil]; omega) rfl (fun v66 hb66 hB66 => ?_)
      replace hB66 : Buf 5 1 v66 (bys (machY m y ++ [q])) hb66 := by rw [bys_append]; exact hB66
      refine TL.nil ?_
      refine AQ.al (.nil _) ?_
      exact AL.join' (J4_7_9_10 ⟨v63, hb63, b65, v66, hb66⟩ ⟨hB63, hB66⟩) (by decide +kernel) ⟨rfl, rfl, rfl, rfl, rfl, rfl, rfl, rfl, rfl, rfl, trivial⟩ (.seg inferInstance (.cons inferInstance rfl (.last inferInstance)))
  refine AL.meetAt (X := Unit) (fun (_ : Unit) => True) (fun (_ : Unit) => [(60, vi (atN c ((bys (machY m y)).length : Int))), (61, .slice a21 (atN c ((bys (machY m y)).length : Int)).toNat c21), (56, (.slice a21 (bys (machY m y)).length c21)), (57, vi c), (59, vi ((bys (machY m y)).length : Int)), (62, (.slice a21 (bys (machY m y)).length c21)), (64, vb q), (69, vi 0)]) (fun (_ : Unit) => hb20) #[true, true, true, true, true, true, true, false, true, false, false, false, false, true] 5 true (fun _ _ => ?_) (fun J4_5 => ?_)
  · show AL _ _ _ _ _ _ _ _ _ _ _ _ [(60, vi (atN c ((bys (machY m y)).length : Int))), (61, .slice a21 (atN c ((bys (machY m y)).length : Int)).toNat c21), (56, (.slice a21 (bys (machY m y)).length c21)), (57, vi c), (59, vi ((bys (machY m y)).length : Int)), (62, (.slice a21 (bys (machY m y)).length c21)), (64, vb q), (69, vi 0)] (hb20)
    refine AL.pick (is := [7, 9]) (by decide +kernel) (by decide) (.cons rfl ?_ (.cons rfl ?_ .nil))
    · skip
      refine TL.callX (Clone_fn (.slice a21 (bys (machY m y)).length c21) _ (machY m y) (roS hb20) hR21 (by omega)) rfl rfl rfl (.lastr inferInstance) rfl (fun ⟨v63, hb63⟩ hB63 => ?_)
      show TL _ _ _ _ _ _ _ ((63, v63) :: _) (hb63 ++ _) _
      refine TL.nil ?_
      refine AQ.al (.nil _) ?_
      exact AL.join' (J4_5_7 ⟨v63, hb63⟩ hB63) (by decide +kernel) ⟨rfl, rfl, rfl, rfl, rfl, rfl, rfl, rfl, rfl, trivial⟩ (.seg inferInstance (.last inferInstance))
    · skip
      refine TL.buildSlice rfl rfl rfl rfl rfl (fun b65 => ?_)
      refine TL.nil ?_
      refine AQ.al (.nil _) ?_
      exact AL.join' (J4_5_9 b65 trivial) (by decide +kernel) ⟨rfl, rfl, rfl, rfl, rfl, rfl, rfl, rfl, rfl, trivial⟩ (.cons inferInstance rfl (.last inferInstance))
  refine AL.meetAt (X := Value × HS) (fun ((v63, hb63) : Value × HS) => Buf 5 1 v63 (bys (machY m y)) hb63) (fun ((v63, hb63) : Value × HS) => [(60, vi (atN c ((bys (machY m y)).length : Int))), (63, v63), (56, (.slice a21 (bys (machY m y)).length c21)), (57, vi c), (59, vi ((bys (machY m y)).length : Int)), (62, (.slice a21 (bys (machY m y)).length c21)), (64, vb q), (69, vi 0)]) (fun ((v63, hb63) : Value × HS) => hb63 ++ (hb20)) #[true, true, true, true, true, false, true, true, true, false, false, false, false, true] 5 true (fun ⟨v63, hb63⟩ hB63 => ?_) (fun J4_7 => ?_)
  · show AL _ _ _ _ _ _ _ _ _ _ _ _ [(60, vi (atN c ((bys (machY m y)).length : Int))), (63, v63), (56, (.slice a21 (bys (machY m y)).length c21)), (57, vi c), (59, vi ((bys (machY m y)).length : Int)), (62, (.slice a21 (bys (machY m y)).length c21)), (64, vb q), (69, vi 0)] (hb63 ++ (hb20))
    refine AL.pick (is := [5, 9]) (by decide +kernel) (by decide) (.cons rfl ?_ (.cons rfl ?_ .nil))
    · skip
      refine TL.pu (.slice_hi rfl rfl (atN_in c ((bys (machY m y)).length : Int) hL0).1 (by have := atN_in c ((bys (machY m y)).length : Int) hL0; omega)) rfl ?_
      refine TL.nil ?_
      refine AQ.al (.nil _) ?_
      exact AL.join' (J4_5_7 ⟨v63, hb63⟩ hB63) (by decide +kernel) ⟨rfl, rfl, rfl, rfl, rfl, rfl, rfl, rfl, rfl, trivial⟩ (.seg inferInstance (.last inferInstance))
    · skip
      refine TL.buildSlice rfl rfl rfl rfl rfl (fun b65 => ?_)
      refine TL.nil ?_
      refine AQ.al (.nil _) ?_
      exact AL.join' (J4_7_9 ⟨v63, hb63, b65⟩ hB63) (by decide +kernel) ⟨rfl, rfl, rfl, rfl, rfl, rfl, rfl, rfl, rfl, trivial⟩ (.cons inferInstance rfl (.seg inferInstance (.last inferInstance)))
  refine AL.meetAt (X := Nat) (fun (b65 : Nat) => True) (fun (b65 : Nat) => [(60, vi (atN c ((bys (machY m y)).length : Int))), (65, slv b65 1), (56, (.slice a21 (bys (machY m y)).length c21)), (57, vi c), (59, vi ((bys (machY m y)).length : Int)), (62, (.slice a21 (bys (machY m y)).length c21)), (64, vb q), (69, vi 0)]) (fun (b65 : Nat) => ⟨b65, cel [vb q] 5, true⟩ :: hb20) #[true, true, true, true, true, false, true, false, true, true, false, false, false, true] 5 true (fun b65 _ => ?_) (fun J4_9 => ?_)
  · show AL _ _ _ _ _ _ _ _ _ _ _ _ [(60, vi (atN c ((bys (machY m y)).length : Int))), (65, slv b65 1), (56, (.slice a21 (bys (machY m y)).length c21)), (57, vi c), (59, vi ((bys (machY m y)).length : Int)), (62, (.slice a21 (bys (machY m y)).length c21)), (64, vb q), (69, vi 0)] (⟨b65, cel [vb q] 5, true⟩ :: hb20)
    refine AL.pick (is := [5, 7]) (by decide +kernel) (by decide) (.cons rfl ?_ (.cons rfl ?_ .nil))
    · skip
      refine TL.pu (.slice_hi rfl rfl (atN_in c ((bys (machY m y)).length : Int) hL0).1 (by have := atN_in c ((bys (machY m y)).length : Int) hL0; omega)) rfl ?_
      refine TL.nil ?_
      refine AQ.al (.nil _) ?_
      exact AL.join' (J4_5_9 b65 trivial) (by decide +kernel) ⟨rfl, rfl, rfl, rfl, rfl, rfl, rfl, rfl, rfl, trivial⟩ (.cons inferInstance rfl (.last inferInstance))
    · skip
      refine TL.callX (Clone_fn (.slice a21 (bys (machY m y)).length c21) _ (machY m y) (roS hb20) hR21 (by omega)) rfl rfl rfl (.lastr inferInstance) rfl (fun ⟨v63, hb63⟩ hB63 => ?_)
      show TL _ _ _ _ _ _ _ ((63, v63) :: _) (hb63 ++ _) _
      refine TL.nil ?_
      refine AQ.al (.nil _) ?_
      exact AL.join' (J4_7_9 ⟨v63, hb63, b65⟩ hB63) (by decide +kernel) ⟨rfl, rfl, rfl, rfl, rfl, rfl, rfl, rfl, rfl, trivial⟩ (.cons inferInstance rfl (.seg inferInstance (.last inferInstance)))
  refine AL.meetAt (X := Unit) (fun (_ : Unit) => True) (fun (_ : Unit) => [(60, vi (atN c ((bys (machY m y)).length : Int))), (56, (.slice a21 (bys (machY m y)).length c21)), (57, vi c), (59, vi ((bys (machY m y)).length : Int)), (62, (.slice a21 (bys (machY m y)).length c21)), (64, vb q), (69, vi 0)]) (fun (_ : Unit) => hb20) #[true, true, true, true, true, false, true, false, true, false, false, false, false, true] 6 true (fun _ _ => ?_) (fun J4 => ?_)
  · show AL _ _ _ _ _ _ _ _ _ _ _ _ [(60, vi (atN c ((bys (machY m y)).length : Int))), (56, (.slice a21 (bys (machY m y)).length c21)), (57, vi c), (59, vi ((bys (machY m y)).length : Int)), (62, (.slice a21 (bys (machY m y)).length c21)), (64, vb q), (69, vi 0)] (hb20)
    refine AL.pick (is := [5, 7, 9]) (by decide +kernel) (by decide) (.cons rfl ?_ (.cons rfl ?_ (.cons rfl ?_ .nil)))
    · skip
      refine TL.pu (.slice_hi rfl rfl (atN_in c ((bys (machY m y)).length : Int) hL0).1 (by have := atN_in c ((bys (machY m y)).length : Int) hL0; omega)) rfl ?_
      refine TL.nil ?_
      refine AQ.al (.nil _) ?_
      exact AL.join' (J4_5 () trivial) (by decide +kernel) ⟨rfl, rfl, rfl, rfl, rfl, rfl, rfl, rfl, trivial⟩ (.last inferInstance)
    · skip
      refine TL.callX (Clone_fn (.slice a21 (bys (machY m y)).length c21) _ (machY m y) (roS hb20) hR21 (by omega)) rfl rfl rfl (.lastr inferInstance) rfl (fun ⟨v63, hb63⟩ hB63 => ?_)
      show TL _ _ _ _ _ _ _ ((63, v63) :: _) (hb63 ++ _) _
      refine TL.nil ?_
      refine AQ.al (.nil _) ?_
      exact AL.join' (J4_7 ⟨v63, hb63⟩ hB63) (by decide +kernel) ⟨rfl, rfl, rfl, rfl, rfl, rfl, rfl, rfl, trivial⟩ (.seg inferInstance (.last inferInstance))
    · skip
      refine TL.buildSlice rfl rfl rfl rfl rfl (fun b65 => ?_)
      refine TL.nil ?_
      refine AQ.al (.nil _) ?_
      exact AL.join' (J4_9 b65 trivial) (by decide +kernel) ⟨rfl, rfl, rfl, rfl, rfl, rfl, rfl, rfl, trivial⟩ (.cons inferInstance rfl (.last inferInstance))
  refine AL.meetAt (X := Nat) (fun (b65 : Nat) => True) (fun (b65 : Nat) => [(65, slv b65 1), (56, (.slice a21 (bys (machY m y)).length c21)), (57, vi c), (59, vi ((bys (machY m y)).length : Int)), (62, (.slice a21 (bys (machY m y)).length c21)), (64, vb q), (69, vi 0)]) (fun (b65 : Nat) => ⟨b65, cel [vb q] 5, true⟩ :: hb20) #[true, true, true, true, false, false, true, false, true, true, false, false, false, true] 6 true (fun b65 _ => ?_) (fun J9 => ?_)
  · show AL _ _ _ _ _ _ _ _ _ _ _ _ [(65, slv b65 1), (56, (.slice a21 (bys (machY m y)).length c21)), (57, vi c), (59, vi ((bys (machY m y)).length : Int)), (62, (.slice a21 (bys (machY m y)).length c21)), (64, vb q), (69, vi 0)] (⟨b65, cel [vb q] 5, true⟩ :: hb20)
    refine AL.one 4 rfl (by decide +kernel) ?_
    refine TL.callD (at_fn c ((bys (machY m y)).length : Int) hc ⟨hL0, by omega⟩) rfl rfl rfl (.nil _) rfl ?_
    refine TL.nil ?_
    refine AQ.al (.nil _) ?_
    exact AL.join' (J4_9 b65 trivial) (by decide +kernel) ⟨rfl, rfl, rfl, rfl, rfl, rfl, rfl, rfl, trivial⟩ (.cons inferInstance rfl (.last inferInstance))
  refine AL.pick (is := [4, 9]) (by decide +kernel) (by decide) (.cons rfl ?_ (.cons rfl ?_ .nil))
  · skip
    refine TL.callD (at_fn c ((bys (machY m y)).length : Int) hc ⟨hL0, by omega⟩) rfl rfl rfl (.nil _) rfl ?_
    refine TL.nil ?_
    refine AQ.al (.nil _) ?_
    exact AL.join' (J4 () trivial) (by decide +kernel) ⟨rfl, rfl, rfl, rfl, rfl, rfl, rfl, trivial⟩ (.last inferInstance)
  · skip
    refine TL.buildSlice rfl rfl rfl rfl rfl (fun b65 => ?_)
    refine TL.nil ?_
    refine AQ.al (.nil _) ?_
    exact AL.join' (J9 b65 trivial) (by decide +kernel) ⟨rfl, rfl, rfl, rfl, rfl, rfl, rfl, trivial⟩ (.cons inferInstance rfl (.last inferInstance))
end Go.Sl