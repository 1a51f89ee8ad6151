/-
  Walks of this claim's functions, printed by a program of ours off the loaded program. Holds under no condition.
-/
import Derived.Test.YtebllgcaenpdgaaS1R
set_option linter.all false
namespace Go.Sl
open Go Go.Proofs
theorem machZ_ok : machZ.Ok := by
  refine ⟨⟨?_, ?_, ?_, ?_, ?_, ?_, ?_, ?_, ?_⟩, ⟨?_, ?_, ?_, ?_, ?_, ?_, ?_, ?_, ?_⟩, ?_, ?_, ?_, ?_, ?_, ?_, ⟨?_, ?_, ?_, ?_⟩, ⟨?_, ?_, ?_, ?_⟩, ⟨?_, ?_, ?_, ?_⟩, ?_, ?_, ?_, ?_⟩ <;> (simp only [machZ, voiceZ, cpuZ, u16]; omega)
theorem rwZ_rng : rwZ.rng := by constructor <;> (intro x hx; cases hx)
def sgZ : Sg := ⟨[], [], [], [], []⟩
/-- What 'Of' gives, in one form. -/
structure OfM.Fin (l : List Int) (r : OfM) (e : Int) : Prop where
  b : Bufs r.m r.y r.s
  ok : r.m.Ok
  rg : r.y.rng
  is : (e = 0 ∧ l = machY r.m r.y ∧ ckY r.m r.y = 0) ∨ (e = 7 ∧ r.m = machZ ∧ r.y = rwZ ∧ ofCY l none)
theorem Of_n {v : Value} {ys : List Int} {sg : HS} (R : Ro 1 v ys.length (bys ys) sg) (hr : rng ys) : FnX Try.prog 6 [v] sg (OfM × Int) (fun r => r.1.Fin ys r.2) (fun r => .tuple #[.agg (machL r.1.m).toArray, vi r.2]) (fun r => r.1.s.hs) := by
  intro w hw
  refine (Of_m R hr w hw).mono ?_
  rintro e w' ⟨h1, ks, ⟨x, h2, h3, h4⟩, h5⟩
  refine ⟨h1, ks, ?_, h5⟩
  cases x with
  | none => exact ⟨(⟨machZ, rwZ, sgZ⟩, 7), ⟨⟨.nil rfl rfl, .nil rfl rfl, .nil rfl rfl, .nil rfl rfl, .nil rfl rfl⟩, machZ_ok, rwZ_rng, .inr ⟨rfl, rfl, rfl, h2⟩⟩, h3, h4⟩
  | some r =>
    obtain ⟨g1, g2, g3⟩ := ofP_backY hr h2.p
    exact ⟨(r, 0), ⟨h2.b, g1, g3, .inl ⟨rfl, g2, h2.ck⟩⟩, h3, h4⟩
theorem same_zero : sameY machZ machZ rwZ rwZ = true := rfl


set_option maxRecDepth 20000 in
theorem SaveBytes_fn {m : Mach} {y : Rw} {s : Sg} (R : Rows m y s) (hm : m.Ok) (hy : y.rng) {v : Value} {ys : List Int} {sg : HS} (Rb : Ro 1 v ys.length (bys ys) sg) (hr : rng ys) :
    FnD Try.prog 3 [.agg (machL m).toArray, v] (s.hs ++ sg) (vt true) [] := by
  refine FnE.enter Try.func3 rfl Try.ntmps3 rfl (fun w => ?_)
  refine TC.seq ?_
  refine TC.region ?_
  refine TL.box (c := machL m) rfl rfl rfl (fun b2 => ?_)
  refine TL.pu (.assign rfl) rfl ?_
  refine TL.nil ?_
  refine AQ.then_n ?_
  refine TC.seq ?_
  refine TC.region ?_
  refine TL.rd (.loadAll rfl inferInstance rfl) rfl ?_
  refine TL.callX (Bytes_m R hm) rfl rfl rfl (.lastro inferInstance R.ro) rfl (fun ⟨v16, hb16⟩ hB16 => ?_)
  show TL _ _ _ _ _ _ _ ((16, .tuple #[v16, vi (ckY m y)]) :: _) (hb16 ++ _) _
  refine TL.pu (.move rfl) rfl ?_
  refine TL.pu (.extract rfl rfl) rfl ?_
  refine TL.pu (.extract rfl rfl) rfl ?_
  refine TL.pu (.assign rfl) rfl ?_
  refine TL.pu (.assign rfl) rfl ?_
  refine TL.nil ?_
  refine AQ.then_n ?_
  refine TC.seq ?_
  refine TC.region ?_
  refine TL.pu (.move rfl) rfl ?_
  refine TL.callX (Of_n Rb hr) rfl rfl rfl (.lastro inferInstance Rb.ro) rfl (fun ⟨⟨m2, y2, s2⟩, e2⟩ hF => ?_)
  show TL _ _ _ _ _ _ _ ((21, .tuple #[.agg (machL m2).toArray, vi e2]) :: _) (s2.hs ++ _) _
  refine TL.pu (.move rfl) rfl ?_
  refine TL.pu (.extract rfl rfl) rfl ?_
  refine TL.pu (.extract rfl rfl) rfl ?_
  refine TL.alloc rfl rfl (fun b7 => ?_)
  refine TL.storeAll rfl rfl rfl (hF.b.rows.one [] rfl) inferInstance rfl ?_
  refine TL.pu (.assign rfl) rfl ?_
  refine TL.nil ?_
  refine AQ.then_n ?_
  refine TC.seq ?_
  refine TC.seq ?_
  refine TC.region ?_
  refine TL.callD saved_fn rfl rfl rfl (.nil _) rfl ?_
  refine TL.pu (.not rfl) rfl ?_
  refine TL.say 25 (vt false) rfl rfl ?_
  refine TL.nil ?_
  refine AQ.then_n ?_
  refine TC.cond_f rfl ?_
  refine TC.skip ?_
  refine AQ.then_n ?_
  refine TC.seq ?_
  refine TC.seq ?_
  refine TC.region ?_
  refine TL.rd (.loadAll rfl inferInstance rfl) rfl ?_
  refine TL.callD (check_m R) rfl rfl rfl (.nil _) rfl ?_
  refine TL.pu (.assign rfl) rfl ?_
  refine TL.nil ?_
  refine AQ.then_n ?_
  refine TC.seq ?_
  refine TC.region ?_
  refine TL.pu (.move rfl) rfl ?_
  refine TL.pu (.int rfl rfl rfl) rfl ?_
  refine TL.nil ?_
  refine AQ.then_n ?_
  refine TC.condd rfl (fun q1 => ?_) (fun q1 => ?_)
  · skip
    refine TC.seq ?_
    refine TC.region ?_
    obtain ⟨rfl, rfl⟩ : v16 = .slice none 0 0 ∧ hb16 = [] := by have h := hB16; rw [if_neg q1] at h; exact Prod.mk.inj h
    refine TL.pu (.move rfl) rfl ?_
    refine TL.pu (.move rfl) rfl ?_
    refine TL.pu (.int rfl rfl rfl) rfl ?_
    refine TL.say 32 (vt false) rfl (congrArg Value.bool (by simp)) ?_
    refine TL.pu (.move rfl) rfl ?_
    refine TL.guard_yes rfl rfl ?_
    refine TL.pu (.move rfl) rfl ?_
    refine TL.guard_yes rfl rfl ?_
    refine TL.pu (.lenSlice rfl rfl) rfl ?_
    refine TL.say 35 (vi 0) rfl rfl ?_
    refine TL.guard_yes rfl rfl ?_
    refine TL.pu (.int rfl rfl rfl) rfl ?_
    refine TL.say 36 (.bool false) rfl rfl ?_
    refine TL.pu (.pick_f rfl rfl) rfl ?_
    refine TL.nil ?_
    refine AQ.then_n ?_
    refine TC.cond_f rfl ?_
    refine TC.skip ?_
    refine AQ.then_n ?_
    refine TC.seq ?_
    refine TC.seq ?_
    refine TC.region ?_
    refine TL.pu (.move rfl) rfl ?_
    refine TL.pu (.int rfl rfl rfl) rfl ?_
    refine TL.nil ?_
    refine AQ.then_n ?_
    refine TC.condd rfl (fun q2 => ?_) (fun q2 => ?_)
    · skip
      refine TC.seq ?_
      refine TC.region ?_
      obtain ⟨he2, hz1, hz2, -⟩ := hF.is.resolve_left (fun h => ‹¬ e2 = 0› h.1)
      simp only at hz1 hz2
      refine TL.pu (.move rfl) rfl ?_
      refine TL.pu (.int rfl rfl rfl) rfl ?_
      refine TL.say 63 (vt true) rfl (congrArg Value.bool (decide_eq_true he2)) ?_
      refine TL.pu (.move rfl) rfl ?_
      refine TL.guard_yes rfl rfl ?_
      refine TL.rd (.loadAll rfl inferInstance rfl) rfl ?_
      refine TL.guard_yes rfl rfl ?_
      refine TL.callD (no_b hF.b hF.rg) rfl rfl rfl (.lastr inferInstance) rfl ?_
      refine TL.say 66 (vt true) rfl (by rw [hz1, hz2]; rfl) ?_
      refine TL.pu (.pick_t rfl rfl) rfl ?_
      refine TL.pu (.assign rfl) rfl ?_
      refine TL.nil ?_
      refine AQ.then_n ?_
      refine TC.ret ?_
      refine AQ.then_r ?_
      exact AQ.ret Try.results3 rfl ⟨rfl, rfl⟩ (.nil _)
    refine TC.skip ?_
    refine AQ.then_n ?_
    refine TC.seq ?_
    refine TC.region ?_
    obtain ⟨-, hl2, hc2⟩ := hF.is.resolve_right (fun h => by have h1 := h.1; have h2 := ‹¬ ¬ e2 = 0›; omega)
    simp only at hl2 hc2
    refine TL.rd (.loadAll rfl inferInstance rfl) rfl ?_
    refine TL.callX (Bytes_b hF.b hF.ok) rfl rfl rfl (.lastr inferInstance) rfl (fun ⟨v70, hb70⟩ hB70 => ?_)
    replace hB70 : Buf 5 1 v70 (bys (machY m2 y2)) hb70 := by have h := hB70; rw [if_pos hc2] at h; exact h
    show TL _ _ _ _ _ _ _ ((70, .tuple #[v70, vi (ckY m2 y2)]) :: _) (hb70 ++ _) _
    refine TL.pu (.move rfl) rfl ?_
    refine TL.pu (.extract rfl rfl) rfl ?_
    refine TL.pu (.extract rfl rfl) rfl ?_
    refine TL.say 72 (vi 0) rfl (congrArg (Value.int .i64) hc2) ?_
    refine TL.pu (.assign rfl) rfl ?_
    refine TL.pu (.assign rfl) rfl ?_
    refine TL.nil ?_
    refine AQ.then_n ?_
    refine TC.seq ?_
    refine TC.region ?_
    refine TL.pu (.move rfl) rfl ?_
    refine TL.pu (.int rfl rfl rfl) rfl ?_
    refine TL.say 74 (.bool true) rfl rfl ?_
    refine TL.pu (.move rfl) rfl ?_
    refine TL.guard_yes rfl rfl ?_
    refine TL.pu (.move rfl) rfl ?_
    refine TL.guard_yes rfl rfl ?_
    refine TL.pu (.move rfl) rfl ?_
    refine TL.guard_yes rfl rfl ?_
    refine TL.callD (Equal_fn v70 v _ _ (machY m2 y2) ys (roS hb70) sg (hB70.ro (bys_length _)) Rb (machY_rng hF.rg) hr) rfl rfl rfl (.sgr inferInstance (.lastro inferInstance Rb.ro)) rfl ?_
    refine TL.say 78 (vt true) rfl (congrArg Value.bool (decide_eq_true hl2.symm)) ?_
    refine TL.pu (.pick_t rfl rfl) rfl ?_
    refine TL.pu (.assign rfl) rfl ?_
    refine TL.nil ?_
    refine AQ.then_n ?_
    refine TC.ret ?_
    exact AQ.ret Try.results3 rfl ⟨rfl, rfl⟩ (.nil _)
  refine TC.seq ?_
  refine TC.region ?_
  have hck : ckY m y = 0 := Decidable.not_not.1 ‹¬ ¬ ckY m y = 0›
  replace hB16 : Buf 5 1 v16 (bys (machY m y)) hb16 := by have h := hB16; rw [if_pos hck] at h; exact h
  refine TL.pu (.move rfl) rfl ?_
  refine TL.callX (Of_m (hB16.ro (bys_length _)) (machY_rng hy)) rfl rfl rfl (.lastr inferInstance) rfl (fun x hx => ?_)
  obtain ⟨⟨m3, y3, s3⟩, rfl, ⟨hp3, hck3, hB3⟩, hsame⟩ := Of_some hm hck hx
  obtain ⟨hok3, -, hyr3⟩ := ofP_backY (machY_rng hy) hp3
  show TL _ _ _ _ _ _ _ ((40, .tuple #[.agg (machL m3).toArray, vi 0]) :: _) (s3.hs ++ _) _
  refine TL.pu (.move rfl) rfl ?_
  refine TL.pu (.extract rfl rfl) rfl ?_
  refine TL.pu (.extract rfl rfl) rfl ?_
  refine TL.alloc rfl rfl (fun b10 => ?_)
  refine TL.storeAll rfl rfl rfl (hB3.rows.one [] rfl) inferInstance rfl ?_
  refine TL.pu (.assign rfl) rfl ?_
  refine TL.nil ?_
  refine AQ.then_n ?_
  refine TC.seq ?_
  refine TC.region ?_
  refine TL.pu (.move rfl) rfl ?_
  refine TL.pu (.int rfl rfl rfl) rfl ?_
  refine TL.say 44 (vt false) rfl (congrArg Value.bool (by simp [hck])) ?_
  refine TL.pu (.move rfl) rfl ?_
  refine TL.guard_yes rfl rfl ?_
  refine TL.pu (.move rfl) rfl ?_
  refine TL.guard_yes rfl rfl ?_
  refine TL.pu (.int rfl rfl rfl) rfl ?_
  refine TL.say 47 (.bool false) rfl rfl ?_
  refine TL.pu (.pick_f rfl rfl) rfl ?_
  refine TL.pu (.move rfl) rfl ?_
  refine TL.guard_yes rfl rfl ?_
  refine TL.pu (.move rfl) rfl ?_
  refine TL.guard_yes rfl rfl ?_
  refine TL.pu (.lenSl rfl (hB16.isl rfl) rfl) rfl ?_
  refine TL.guard_yes rfl rfl ?_
  refine TL.pu (.int rfl rfl rfl) rfl ?_
  refine TL.say 52 (vt false) rfl (congrArg Value.bool (decide_eq_false (by have := ckY_lens hck; rw [bys_length, machY_length]; omega))) ?_
  refine TL.pu (.pick_f rfl rfl) rfl ?_
  refine TL.pu (.move rfl) rfl ?_
  refine TL.guard_yes rfl rfl ?_
  refine TL.rd (.loadAll rfl inferInstance rfl) rfl ?_
  refine TL.guard_yes rfl rfl ?_
  refine TL.rd (.loadAll rfl inferInstance rfl) rfl ?_
  refine TL.guard_yes rfl rfl ?_
  refine TL.callD (same_rb R hB3 hy hyr3) rfl rfl rfl (.sro inferInstance R.ro (.lastr inferInstance)) rfl ?_
  refine TL.say 57 (vt true) rfl (congrArg Value.bool hsame) ?_
  refine TL.guard_yes rfl rfl ?_
  refine TL.pu (.not rfl) rfl ?_
  refine TL.say 58 (vt false) rfl rfl ?_
  refine TL.pu (.pick_f rfl rfl) rfl ?_
  refine TL.nil ?_
  refine AQ.then_n ?_
  refine TC.cond_f rfl ?_
  refine TC.skip ?_
  refine AQ.then_n ?_
  refine TC.seq ?_
  refine TC.seq ?_
  refine TC.region ?_
  refine TL.pu (.move rfl) rfl ?_
  refine TL.pu (.int rfl rfl rfl) rfl ?_
  refine TL.nil ?_
  refine AQ.then_n ?_
  refine TC.condd rfl (fun q3 => ?_) (fun q3 => ?_)
  · skip
    refine TC.seq ?_
    refine TC.region ?_
    obtain ⟨he2, hz1, hz2, -⟩ := hF.is.resolve_left (fun h => ‹¬ e2 = 0› h.1)
    simp only at hz1 hz2
    refine TL.pu (.move rfl) rfl ?_
    refine TL.pu (.int rfl rfl rfl) rfl ?_
    refine TL.say 63 (vt true) rfl (congrArg Value.bool (decide_eq_true he2)) ?_
    refine TL.pu (.move rfl) rfl ?_
    refine TL.guard_yes rfl rfl ?_
    refine TL.rd (.loadAll rfl inferInstance rfl) rfl ?_
    refine TL.guard_yes rfl rfl ?_
    refine TL.callD (no_b hF.b hF.rg) rfl rfl rfl (.lastr inferInstance) rfl ?_
    refine TL.say 66 (vt true) rfl (by rw [hz1, hz2]; rfl) ?_
    refine TL.pu (.pick_t rfl rfl) rfl ?_
    refine TL.pu (.assign rfl) rfl ?_
    refine TL.nil ?_
    refine AQ.then_n ?_
    refine TC.ret ?_
    refine AQ.then_r ?_
    exact AQ.ret Try.results3 rfl ⟨rfl, rfl⟩ (.nil _)
  refine TC.skip ?_
  refine AQ.then_n ?_
  refine TC.seq ?_
  refine TC.region ?_
  obtain ⟨-, hl2, hc2⟩ := hF.is.resolve_right (fun h => by have h1 := h.1; have h2 := ‹¬ ¬ e2 = 0›; omega)
  simp only at hl2 hc2
  refine TL.rd (.loadAll rfl inferInstance rfl) rfl ?_
  refine TL.callX (Bytes_b hF.b hF.ok) rfl rfl rfl (.lastr inferInstance) rfl (fun ⟨v70, hb70⟩ hB70 => ?_)
  replace hB70 : Buf 5 1 v70 (bys (machY m2 y2)) hb70 := by have h := hB70; rw [if_pos hc2] at h; exact h
  show TL _ _ _ _ _ _ _ ((70, .tuple #[v70, vi (ckY m2 y2)]) :: _) (hb70 ++ _) _
  refine TL.pu (.move rfl) rfl ?_
  refine TL.pu (.extract rfl rfl) rfl ?_
  refine TL.pu (.extract rfl rfl) rfl ?_
  refine TL.say 72 (vi 0) rfl (congrArg (Value.int .i64) hc2) ?_
  refine TL.pu (.assign rfl) rfl ?_
  refine TL.pu (.assign rfl) rfl ?_
  refine TL.nil ?_
  refine AQ.then_n ?_
  refine TC.seq ?_
  refine TC.region ?_
  refine TL.pu (.move rfl) rfl ?_
  refine TL.pu (.int rfl rfl rfl) rfl ?_
  refine TL.say 74 (.bool true) rfl rfl ?_
  refine TL.pu (.move rfl) rfl ?_
  refine TL.guard_yes rfl rfl ?_
  refine TL.pu (.move rfl) rfl ?_
  refine TL.guard_yes rfl rfl ?_
  refine TL.pu (.move rfl) rfl ?_
  refine TL.guard_yes rfl rfl ?_
  refine TL.callD (Equal_fn v70 v _ _ (machY m2 y2) ys (roS hb70) sg (hB70.ro (bys_length _)) Rb (machY_rng hF.rg) hr) rfl rfl rfl (.sgr inferInstance (.lastro inferInstance Rb.ro)) rfl ?_
  refine TL.say 78 (vt true) rfl (congrArg Value.bool (decide_eq_true hl2.symm)) ?_
  refine TL.pu (.pick_t rfl rfl) rfl ?_
  refine TL.pu (.assign rfl) rfl ?_
  refine TL.nil ?_
  refine AQ.then_n ?_
  refine TC.ret ?_
  exact AQ.ret Try.results3 rfl ⟨rfl, rfl⟩ (.nil _)
end Go.Sl