/-
  Walks of this claim's functions, printed by a program of ours off the loaded program. Holds under no condition.
-/
import Derived.Test.YtebllgcaenpdgaaS1P
set_option linter.all false
namespace Go.Sl
open Go Go.Proofs
/-- The rows of a machine: their bytes; the blocks where they lie. -/
structure Rw where
  (y0 y1 y2 y3 y4 : List Int)
structure Sg where
  (h0 h1 h2 h3 h4 : HS)
def Sg.hs (s : Sg) : HS := s.h0 ++ (s.h1 ++ (s.h2 ++ (s.h3 ++ s.h4)))
def Sg.ro (s : Sg) : Sg := ⟨roS s.h0, roS s.h1, roS s.h2, roS s.h3, roS s.h4⟩
theorem roS_append (a b : HS) : roS (a ++ b) = roS a ++ roS b := by simp [roS]
theorem Sg.ro_hs (s : Sg) : s.ro.hs = roS s.hs := by simp only [Sg.ro, Sg.hs, roS_append]
structure Rows (m : Mach) (y : Rw) (s : Sg) : Prop where
  (r0 : Ro 1 m.s0 y.y0.length (bys y.y0) s.h0) (r1 : Ro 1 m.s1 y.y1.length (bys y.y1) s.h1) (r2 : Ro 1 m.s2 y.y2.length (bys y.y2) s.h2) (r3 : Ro 1 m.s3 y.y3.length (bys y.y3) s.h3) (r4 : Ro 1 m.s4 y.y4.length (bys y.y4) s.h4)
structure Bufs (m : Mach) (y : Rw) (s : Sg) : Prop where
  (b0 : Buf 5 1 m.s0 (bys y.y0) s.h0) (b1 : Buf 5 1 m.s1 (bys y.y1) s.h1) (b2 : Buf 5 1 m.s2 (bys y.y2) s.h2) (b3 : Buf 5 1 m.s3 (bys y.y3) s.h3) (b4 : Buf 5 1 m.s4 (bys y.y4) s.h4)
structure Rw.rng (y : Rw) : Prop where
  (g0 : Sl.rng y.y0) (g1 : Sl.rng y.y1) (g2 : Sl.rng y.y2) (g3 : Sl.rng y.y3) (g4 : Sl.rng y.y4)
theorem Rows.ro {m : Mach} {y : Rw} {s : Sg} (h : Rows m y s) : ∀ e ∈ s.hs, e.rw = false := by
  intro e he
  simp only [Sg.hs, List.mem_append] at he
  rcases he with he | he | he | he | he
  · exact h.r0.ro e he
  · exact h.r1.ro e he
  · exact h.r2.ro e he
  · exact h.r3.ro e he
  · exact h.r4.ro e he
theorem Bufs.own {m : Mach} {y : Rw} {s : Sg} (h : Bufs m y s) : ∀ e ∈ s.hs, e.rw = true := by
  intro e he
  simp only [Sg.hs, List.mem_append] at he
  rcases he with he | he | he | he | he
  · exact h.b0.own' e he
  · exact h.b1.own' e he
  · exact h.b2.own' e he
  · exact h.b3.own' e he
  · exact h.b4.own' e he
theorem Bufs.rows {m : Mach} {y : Rw} {s : Sg} (h : Bufs m y s) : Rows m y s.ro :=
  ⟨h.b0.ro (bys_length _), h.b1.ro (bys_length _), h.b2.ro (bys_length _), h.b3.ro (bys_length _), h.b4.ro (bys_length _)⟩
theorem Rows.one {m : Mach} {y : Rw} {s : Sg} (h : Rows m y s) (t : List Value) (ht : t.all Sl.one = true) : (machT m t).all Sl.one = true := by
  simp only [machT, List.all_cons, isl_one h.r0.isl, isl_one h.r1.isl, isl_one h.r2.isl, isl_one h.r3.isl, isl_one h.r4.isl, ht]; rfl
def ckY (m : Mach) (y : Rw) : Int := checkN m y.y0.length y.y1.length y.y2.length y.y3.length y.y4.length
def machY (m : Mach) (y : Rw) : List Int := machB m y.y0.length y.y1.length y.y2.length y.y3.length y.y4.length y.y0 y.y1 y.y2 y.y3 y.y4
def sameY (m k : Mach) (y z : Rw) : Bool := sameB m k y.y0 y.y1 y.y2 y.y3 y.y4 z.y0 z.y1 z.y2 z.y3 z.y4
def valY (m : Mach) (y : Rw) : List Fv := machV m y.y0 y.y1 y.y2 y.y3 y.y4
theorem valY_inj {m k : Mach} {y z : Rw} : valY m y = valY k z ↔ sameY m k y z = true := machV_inj
theorem ofP_machY {m : Mach} {y : Rw} (hm : m.Ok) (hc : ckY m y = 0) : ofP (machY m y) = some (valY m y) := ofP_machB hm hc
theorem ofP_backY {m : Mach} {y : Rw} {l : List Int} (hl : rng l) (h : ofP l = some (valY m y)) : m.Ok ∧ l = machY m y ∧ y.rng := by
  obtain ⟨h1, h2, h3, h4, h5, h6, h7⟩ := ofP_back hl h
  exact ⟨h1, h2, ⟨h3, h4, h5, h6, h7⟩⟩
theorem wMany_rng : ∀ {fs : List Fmt} {vs : List Fv}, (∀ y, Fv.bytes y ∈ vs → rng y) → rng (wMany fs vs)
  | [], _, _ => by simp [wMany, rng]
  | _ :: _, [], _ => by simp [wMany, rng]
  | f :: fs, v :: vs, h => by
    refine rng_append ?_ (wMany_rng (fun y hy => h y (List.mem_cons_of_mem _ hy)))
    cases f <;> cases v <;> simp only [Fmt.w] <;> try exact fun x hx => absurd hx (by simp)
    · simp only [cpuB, wordsB, Cpu.regs, boolsB]
      repeat' (first | apply rng_append | exact numB_rng _ _)
      all_goals (intro x hx; cases hx)
    · exact rng_append (numB_rng _ _) (h _ List.mem_cons_self)
    · exact numB_rng _ _
    · exact rng_append (numB_rng _ _) (fun x hx => by cases hx)
theorem machY_rng {m : Mach} {y : Rw} (h : y.rng) : rng (machY m y) := by
  unfold machY
  rw [machB_eq]
  refine rng_append (by intro x hx; simp only [List.mem_cons, List.not_mem_nil, or_false] at hx; omega) (wMany_rng (fun z hz => ?_))
  simp only [machV, List.mem_cons, Fv.bytes.injEq, List.not_mem_nil, or_false, false_or, reduceCtorEq] at hz
  rcases hz with rfl | rfl | rfl | rfl | rfl
  · exact h.g0
  · exact h.g1
  · exact h.g2
  · exact h.g3
  · exact h.g4
theorem machY_length (m : Mach) (y : Rw) : (machY m y).length = 121 + y.y0.length + y.y1.length + y.y2.length + y.y3.length + y.y4.length := by
  simp only [machY, machB, padB, voiceB, rowB, List.length_append, numB_length, wordsB_length, boolsB_length, cpuB_length, List.length_cons, List.length_nil]; omega
theorem ckY_lens {m : Mach} {y : Rw} (h : ckY m y = 0) : y.y0.length ≤ 1024 ∧ y.y1.length ≤ 1024 ∧ y.y2.length = 128 ∧ y.y3.length = 64 ∧ y.y4.length = 256 := by
  obtain ⟨h1, h2, h3, h4, h5, _⟩ := checkN_ok h; exact ⟨h1, h2, h3, h4, h5⟩
/-- The contracts, in these words. -/
theorem check_m {m : Mach} {y : Rw} {s : Sg} (h : Rows m y s) : FnD Try.prog 8 [.agg (machL m).toArray] [] (vi (ckY m y)) [] := check_fn m _ _ _ _ _ h.r0.isl h.r1.isl h.r2.isl h.r3.isl h.r4.isl
theorem Bytes_m {m : Mach} {y : Rw} {s : Sg} (h : Rows m y s) (hm : m.Ok) : FnX Try.prog 5 [.agg (machL m).toArray] s.hs (Value × HS) (fun p => if ckY m y = 0 then Buf 5 1 p.1 (bys (machY m y)) p.2 else p = (.slice none 0 0, [])) (fun p => .tuple #[p.1, vi (ckY m y)]) (fun p => p.2) :=
  Bytes_fn m _ _ _ _ _ _ _ _ _ _ _ _ _ _ _ h.r0 h.r1 h.r2 h.r3 h.r4 hm
theorem same_m {m k : Mach} {y z : Rw} {s t : Sg} (h : Rows m y s) (h' : Rows k z t) (hy : y.rng) (hz : z.rng) : FnD Try.prog 9 [.agg (machL m).toArray, .agg (machL k).toArray] (s.hs ++ t.hs) (vt (sameY m k y z)) [] := by
  have := SameMachine_fn m k _ _ _ _ _ _ h.r0 h'.r0 hy.g0 hz.g0 _ _ _ _ _ _ h.r1 h'.r1 hy.g1 hz.g1 _ _ _ _ _ _ h.r2 h'.r2 hy.g2 hz.g2 _ _ _ _ _ _ h.r3 h'.r3 hy.g3 hz.g3 _ _ _ _ _ _ h.r4 h'.r4 hy.g4 hz.g4
  simpa only [Sg.hs, List.append_assoc, sameY] using this
def rwZ : Rw := ⟨[], [], [], [], []⟩
theorem no_m {m : Mach} {y : Rw} {s : Sg} (h : Rows m y s) (hy : y.rng) : FnD Try.prog 10 [.agg (machL m).toArray] s.hs (vt (sameY m machZ y rwZ)) [] :=
  noMachine_fn m _ _ _ h.r0 hy.g0 _ _ _ h.r1 hy.g1 _ _ _ h.r2 hy.g2 _ _ _ h.r3 hy.g3 _ _ _ h.r4 hy.g4
structure OfM where
  (m : Mach) (y : Rw) (s : Sg)
structure OfM.Ok (l : List Int) (r : OfM) : Prop where
  p : ofP l = some (valY r.m r.y)
  ck : ckY r.m r.y = 0
  b : Bufs r.m r.y r.s
def ofCY (l : List Int) : Option OfM → Prop
  | some r => r.Ok l
  | none => ∀ m y, ofP l = some (valY m y) → ckY m y ≠ 0
def ofValY : Option OfM → Value
  | some r => .tuple #[.agg (machL r.m).toArray, vi 0]
  | none => .tuple #[.agg (machL machZ).toArray, vi 7]
def ofHSY : Option OfM → HS
  | some r => r.s.hs
  | none => []
theorem Of_m {v : Value} {ys : List Int} {sg : HS} (R : Ro 1 v ys.length (bys ys) sg) (hr : rng ys) : FnX Try.prog 6 [v] sg (Option OfM) (ofCY ys) ofValY ofHSY := by
  intro w hw
  refine (Of_fn v ys sg R hr w hw).mono ?_
  rintro e w' ⟨h1, ks, ⟨x, h2, h3, h4⟩, h5⟩
  refine ⟨h1, ks, ?_, h5⟩
  cases x with
  | none => exact ⟨none, fun m y => h2 m _ _ _ _ _, h3, h4⟩
  | some r =>
    obtain ⟨m, h0, h1', h2', h3', h4', y0, y1, y2, y3, y4⟩ := r
    exact ⟨some ⟨m, ⟨y0, y1, y2, y3, y4⟩, ⟨h0, h1', h2', h3', h4'⟩⟩, ⟨h2.p, h2.ck, ⟨h2.b0, h2.b1, h2.b2, h2.b3, h2.b4⟩⟩, h3, h4⟩
/-- A machine that is new. -/
structure NewM (y0 y1 : List Int) (r : OfM) : Prop where
  b : Bufs r.m r.y r.s
  y : r.y = ⟨y0, y1, List.replicate 128 0, List.replicate 64 0, List.replicate 256 0⟩
  m : r.m.as machZ = { machZ with held := true, main := { cpuZ with pc := startW y0 } }
theorem bys_zero (n : Nat) : bys (List.replicate n 0) = List.replicate n (vb 0) := by simp [bys]
theorem Buf.zeros (a n : Nat) : Buf 5 1 (slv a n) (bys (List.replicate n 0)) [⟨a, cel (List.replicate n (vb 0)) 5, true⟩] := by
  rw [bys_zero]
  exact .own rfl (by simp) (by simp) (Nat.le_refl _) (by simp) (clear_zero _)
theorem Held.perm {hs ks : HS} {w : World} (h : Held hs w) (p : hs.Perm ks) : Held ks w := ⟨fun e he => h.at_ e (p.mem_iff.2 he), (p.pairwise_iff (by intro a b hab h1 h2; exact hab (h1.symm) h2.symm)).1 h.pair⟩
theorem New_m {v u : Value} {y0 y1 : List Int} {sg0 sg1 : HS} (R0 : Ro 1 v y0.length (bys y0) sg0) (R1 : Ro 1 u y1.length (bys y1) sg1) (h0 : y0.length ≤ 1024) (h1 : y1.length ≤ 1024) (hy0 : rng y0) :
    FnX Try.prog 25 [v, u] (sg0 ++ sg1) OfM (NewM y0 y1) (fun r => .tuple #[.agg (machL r.m).toArray, vi 0]) (fun r => r.s.hs) := by
  intro w hw
  refine (New_fn v u _ _ y0 y1 sg0 sg1 R0 R1 h0 h1 hy0 w hw).mono ?_
  rintro e w' ⟨hne, ks, ⟨r, h2, h3, rfl⟩, h5, h6, h7⟩
  obtain ⟨v0, k0, v1, k1, a, b, c⟩ := r
  obtain ⟨hB0, hB1⟩ := h2
  have hp : (zerB a 128 :: zerB b 64 :: zerB c 256 :: (k0 ++ k1)).Perm (k0 ++ (k1 ++ ([zerB a 128] ++ ([zerB b 64] ++ [zerB c 256])))) := by
    have := List.perm_append_comm (l₁ := [zerB a 128, zerB b 64, zerB c 256]) (l₂ := k0 ++ k1)
    rw [List.append_assoc] at this
    exact this
  exact ⟨hne, _, ⟨⟨newM v0 v1 a b c y0, ⟨y0, y1, List.replicate 128 0, List.replicate 64 0, List.replicate 256 0⟩, ⟨k0, k1, [zerB a 128], [zerB b 64], [zerB c 256]⟩⟩,
      ⟨⟨hB0, hB1, .zeros a 128, .zeros b 64, .zeros c 256⟩, rfl, rfl⟩, h3, rfl⟩, h5, h6.perm hp, fun x hx => h7 x (hp.mem_iff.2 hx)⟩
end Go.Sl
