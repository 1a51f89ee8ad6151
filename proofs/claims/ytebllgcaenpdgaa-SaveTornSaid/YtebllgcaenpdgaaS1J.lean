/-
  Walks of this claim's functions, printed by a program of ours off the loaded program. Holds under no condition.
-/
import Derived.Test.YtebllgcaenpdgaaS1I
set_option linter.all false
namespace Go.Sl
open Go Go.Proofs
/-! ### a reader of many fields -/
inductive Fmt | cpu | bytes (most : Int) | num (s : Nat) | bool
inductive Fv | cpu (c : Cpu) | bytes (y : List Int) | num (n : Int) | bool (b : Bool)
def Fmt.p : Fmt → List Int → Option (Fv × List Int)
  | .cpu, l => (pCpu l).map fun x => (.cpu x.1, x.2)
  | .bytes m, l => (pBytes m l).map fun x => (.bytes x.1, x.2)
  | .num s, l => (pNum s l).map fun x => (.num x.1, x.2)
  | .bool, l => (pBool l).map fun x => (.bool x.1, x.2)
def pMany : List Fmt → List Int → Option (List Fv × List Int)
  | [], l => some ([], l)
  | f :: fs, l => match f.p l with
    | none => none
    | some (v, l) => (pMany fs l).map fun x => (v :: x.1, x.2)
/-- So far: these values, and what is left. -/
def Pre (fs0 : List Fmt) (l0 : List Int) (vs : List Fv) (fs : List Fmt) (l : List Int) : Prop := pMany fs0 l0 = (pMany fs l).map fun x => (vs.reverse ++ x.1, x.2)
theorem Pre.start (fs : List Fmt) (l : List Int) : Pre fs l [] fs l := by
  unfold Pre; cases pMany fs l <;> simp
theorem Pre.step {fs0 fs : List Fmt} {l0 l l' : List Int} {vs : List Fv} {f : Fmt} {v : Fv} (h : Pre fs0 l0 vs (f :: fs) l) (hp : f.p l = some (v, l')) : Pre fs0 l0 (v :: vs) fs l' := by
  unfold Pre at h ⊢
  rw [h]; simp only [pMany, hp]
  cases pMany fs l' <;> simp
theorem Pre.no {fs0 fs : List Fmt} {l0 l : List Int} {vs : List Fv} {f : Fmt} (h : Pre fs0 l0 vs (f :: fs) l) (hp : f.p l = none) : pMany fs0 l0 = none := by
  unfold Pre at h; rw [h]; simp [pMany, hp]
theorem Pre.end_ {fs0 : List Fmt} {l0 l : List Int} {vs : List Fv} (h : Pre fs0 l0 vs [] l) : pMany fs0 l0 = some (vs.reverse, l) := by
  unfold Pre at h; rw [h]; simp [pMany]
theorem Fmt.cpu_p {l l' : List Int} {c : Cpu} (h : pCpu l = some (c, l')) : Fmt.cpu.p l = some (.cpu c, l') := by simp [Fmt.p, h]
theorem Fmt.bytes_p {m : Int} {l l' y : List Int} (h : pBytes m l = some (y, l')) : (Fmt.bytes m).p l = some (.bytes y, l') := by simp [Fmt.p, h]
theorem Fmt.num_p {s : Nat} {l l' : List Int} {n : Int} (h : pNum s l = some (n, l')) : (Fmt.num s).p l = some (.num n, l') := by simp [Fmt.p, h]
theorem Fmt.bool_p {l l' : List Int} {b : Bool} (h : pBool l = some (b, l')) : Fmt.bool.p l = some (.bool b, l') := by simp [Fmt.p, h]
theorem Fmt.cpu_n {l : List Int} (h : pCpu l = none) : Fmt.cpu.p l = none := by simp [Fmt.p, h]
theorem Fmt.bytes_n {m : Int} {l : List Int} (h : pBytes m l = none) : (Fmt.bytes m).p l = none := by simp [Fmt.p, h]
theorem Fmt.num_n {s : Nat} {l : List Int} (h : pNum s l = none) : (Fmt.num s).p l = none := by simp [Fmt.p, h]
theorem Fmt.bool_n {l : List Int} (h : pBool l = none) : Fmt.bool.p l = none := by simp [Fmt.p, h]
def machF : List Fmt := [.cpu, .cpu, .bytes 1024, .bytes 1024, .bytes 128, .bytes 64, .bytes 256, .num 1, .num 1, .bool, .num 1, .num 1, .bool, .num 2, .num 2, .bool, .bool, .num 2, .num 2, .num 2, .num 1, .bool, .num 2, .num 2, .num 2, .num 1, .bool, .num 2, .num 2, .num 2, .num 1, .bool, .num 1, .num 1, .num 1, .num 4, .bool, .num 2, .num 2, .bool, .bool, .bool, .num 1, .num 1, .num 4, .num 4, .num 4]
def machV (m : Mach) (y0 y1 y2 y3 y4 : List Int) : List Fv := .cpu m.main :: .cpu m.aux :: .bytes y0 :: .bytes y1 :: .bytes y2 :: .bytes y3 :: .bytes y4 :: .num m.d0 :: .num m.h0 :: .bool m.l0 :: .num m.d1 :: .num m.h1 :: .bool m.l1 :: .num m.reload :: .num m.count :: .bool m.on :: .bool m.rings :: .num m.v0.period :: .num m.v0.count :: .num m.v0.noise :: .num m.v0.loud :: .bool m.v0.high :: .num m.v1.period :: .num m.v1.count :: .num m.v1.noise :: .num m.v1.loud :: .bool m.v1.high :: .num m.v2.period :: .num m.v2.count :: .num m.v2.noise :: .num m.v2.loud :: .bool m.v2.high :: .num m.wait :: .num m.line :: .num m.at_ :: .num m.frame :: .bool m.brings :: .num m.from_ :: .num m.to_ :: .bool m.granted :: .bool m.held :: .bool m.rung :: .num m.mail0 :: .num m.mail1 :: .num m.clock :: .num m.mready :: .num m.aready :: []
/-- What a row of bytes says. -/
def ofP (l : List Int) : Option (List Fv) := if l.take 4 ≠ [77, 65, 82, 81] then none else match pMany machF (l.drop 4) with
  | some (vs, []) => some vs
  | _ => none
theorem ofP_no {l : List Int} (h : pMany machF (l.drop 4) = none) : ofP l = none := by unfold ofP; split <;> simp [h]
theorem ofP_magic {l : List Int} (h : l.take 4 ≠ [77, 65, 82, 81]) : ofP l = none := by unfold ofP; rw [if_pos h]
theorem ofP_rest {l : List Int} {vs : List Fv} {x : Int} {r : List Int} (h : pMany machF (l.drop 4) = some (vs, x :: r)) : ofP l = none := by unfold ofP; split <;> simp [h]
theorem ofP_some {l : List Int} {vs : List Fv} (h0 : l.take 4 = [77, 65, 82, 81]) (h : pMany machF (l.drop 4) = some (vs, [])) : ofP l = some vs := by unfold ofP; rw [if_neg (by simp [h0]), h]
theorem map_u8_inj : ∀ (l k : List Int), (∀ x ∈ l, 0 ≤ x ∧ x < 256) → (∀ x ∈ k, 0 ≤ x ∧ x < 256) → (l.map fun n => UInt8.ofNat n.toNat) = (k.map fun n => UInt8.ofNat n.toNat) → l = k := by
  intro l
  induction l with
  | nil => intro k _ _ h; cases k with
    | nil => rfl
    | cons _ _ => simp at h
  | cons a l ih => intro k h1 h2 h; cases k with
    | nil => simp at h
    | cons b k =>
      simp only [List.map_cons, List.cons.injEq] at h
      obtain ⟨ha, hb⟩ := h
      have h3 := h1 a List.mem_cons_self
      have h4 := h2 b List.mem_cons_self
      have : (UInt8.ofNat a.toNat).toNat = (UInt8.ofNat b.toNat).toNat := by rw [ha]
      simp only [UInt8.toNat_ofNat'] at this
      rw [ih k (fun x hx => h1 x (List.mem_cons_of_mem _ hx)) (fun x hx => h2 x (List.mem_cons_of_mem _ hx)) hb]
      congr 1; omega
theorem map_u8_inj' {l k : List Int} (h1 : ∀ x ∈ l, 0 ≤ x ∧ x < 256) (h2 : ∀ x ∈ k, 0 ≤ x ∧ x < 256) (h : (l.map fun n => UInt8.ofNat n.toNat).toArray = (k.map fun n => UInt8.ofNat n.toNat).toArray) : l = k :=
  map_u8_inj l k h1 h2 (by simpa using h)
theorem magic {l : List Int} (hr : ∀ x ∈ l, 0 ≤ x ∧ x < 256) : ((bytesOf l).toList == (ByteArray.mk #[77, 65, 82, 81]).toList) = decide (l = [77, 65, 82, 81]) := by
  rw [ByteArray.toList_eq, ByteArray.toList_eq]
  simp only [bytesOf]
  have e : ([77, 65, 82, 81] : List UInt8) = ([77, 65, 82, 81] : List Int).map fun n => UInt8.ofNat n.toNat := by decide
  by_cases h : l = [77, 65, 82, 81]
  · subst h; decide
  · rw [decide_eq_false h]
    rw [beq_eq_false_iff_ne]
    intro h2
    exact h (map_u8_inj l _ hr (by decide) (by rw [← e]; simpa using h2))
theorem Ro.at2 {v : Value} {n : Nat} {ys : List Value} {sg : HS} (h : Ro 1 v n ys sg) (hn : 0 < n) : ∃ b off cap c t z, v = .slice (some ⟨b, off, none⟩) n cap ∧ sg = [⟨b, .cells c.toArray t z, false⟩] ∧ off + n ≤ c.length ∧ ys = cut c off n ∧ n ≤ cap := by
  cases h with
  | nil h1 h2 h3 => omega
  | zero h1 h2 h3 => omega
  | @row b off cap c t z h1 h2 h3 h4 => exact ⟨b, off, cap, c, t, z, h1, rfl, by omega, by rw [h3, Nat.mul_one], h4⟩
/-- What 'Of' gives where it reads a machine. -/
structure OfR where
  (m : Mach) (h0 h1 h2 h3 h4 : HS) (y0 y1 y2 y3 y4 : List Int)
structure OfR.Ok (l : List Int) (r : OfR) : Prop where
  p : ofP l = some (machV r.m r.y0 r.y1 r.y2 r.y3 r.y4)
  ck : checkN r.m r.y0.length r.y1.length r.y2.length r.y3.length r.y4.length = 0
  (b0 : Buf 5 1 r.m.s0 (bys r.y0) r.h0) (b1 : Buf 5 1 r.m.s1 (bys r.y1) r.h1) (b2 : Buf 5 1 r.m.s2 (bys r.y2) r.h2) (b3 : Buf 5 1 r.m.s3 (bys r.y3) r.h3) (b4 : Buf 5 1 r.m.s4 (bys r.y4) r.h4)
def ofC (l : List Int) : Option OfR → Prop
  | some r => r.Ok l
  | none => ∀ m y0 y1 y2 y3 y4, ofP l = some (machV m y0 y1 y2 y3 y4) → checkN m y0.length y1.length y2.length y3.length y4.length ≠ 0
theorem ofC_no {l : List Int} (h : ofP l = none) : ofC l none := by intro m y0 y1 y2 y3 y4 e; rw [h] at e; cases e
theorem ofC_bad {l : List Int} {m : Mach} {y0 y1 y2 y3 y4 : List Int} (h : ofP l = some (machV m y0 y1 y2 y3 y4)) (hc : checkN m y0.length y1.length y2.length y3.length y4.length ≠ 0) : ofC l none := by
  intro m' z0 z1 z2 z3 z4 e
  rw [h] at e
  simp only [machV, Option.some.injEq, List.cons.injEq, Fv.cpu.injEq, Fv.bytes.injEq, Fv.num.injEq, Fv.bool.injEq] at e
  have e1 : checkN m' z0.length z1.length z2.length z3.length z4.length = checkN m y0.length y1.length y2.length y3.length y4.length := by
    obtain ⟨-, -, e0, e1, e2, e3, e4, e⟩ := e
    simp only [checkN, waitBad, beamBad, soon, e0, e1, e2, e3, e4, e]
  rw [e1]; exact hc
theorem ofC_left {l rem : List Int} {vs : List Fv} (h : pMany machF (l.drop 4) = some (vs, rem)) (h0 : (rem.length : Int) > 0) : ofC l none := by
  cases rem with
  | nil => simp at h0
  | cons x r => exact ofC_no (ofP_rest h)
def ofVal : Option OfR → Value
  | some r => .tuple #[.agg (machL r.m).toArray, vi 0]
  | none => .tuple #[.agg (machL machZ).toArray, vi 7]
def ofHS : Option OfR → HS
  | some r => r.h0 ++ (r.h1 ++ (r.h2 ++ (r.h3 ++ r.h4)))
  | none => []


set_option maxRecDepth 20000 in
set_option maxHeartbeats 1000000 in
theorem Of_fn (v : Value) (ys : List Int) (sg : HS) (R : Ro 1 v ys.length (bys ys) sg) (hr : ∀ x ∈ ys, 0 ≤ x ∧ x < 256) :
    FnX Try.prog 6 [v] sg (Option OfR) (ofC ys) ofVal ofHS := by
  have hcv := cells_isl R.isl
  haveI : CellsN v [v] := ⟨by rw [hcv]⟩
  refine FnE.enterD Try.func6 rfl Try.ntmps6 rfl (fun w => ?_)
  refine TC.seq ?_
  refine TC.region ?_
  refine TL.alloc rfl rfl (fun b2 => ?_)
  refine TL.alloc rfl rfl (fun b3 => ?_)
  refine TL.nil ?_
  refine AQ.then_n ?_
  refine TC.seq ?_
  refine TC.region ?_
  refine TL.pu (.func rfl rfl) rfl ?_
  refine TL.defer rfl rfl rfl ?_
  refine TL.nil ?_
  refine AQ.then_n ?_
  refine TC.seq ?_
  refine TC.region ?_
  refine TL.pu (.move rfl) rfl ?_
  refine TL.pu (.build rfl (by simp only [okL, hcv]; rfl)) rfl ?_
  refine TL.box rfl rfl rfl (fun b11 => ?_)
  refine TL.pu (.assign rfl) rfl ?_
  refine TL.nil ?_
  refine AQ.then_n ?_
  refine TC.seq ?_
  refine TC.seq ?_
  refine TC.region ?_
  refine TL.pu (.move rfl) rfl ?_
  refine TL.pu (.lenSl rfl R.isl rfl) rfl ?_
  refine TL.pu (.int rfl rfl rfl) rfl ?_
  refine TL.pu (.move rfl) rfl ?_
  refine TL.guard_d rfl rfl (fun q1 => ?_) (fun q1 => ?_)
  · skip
    refine TL.guard_no rfl rfl rfl rfl ?_
    refine TL.guard_no rfl rfl rfl rfl ?_
    refine TL.guard_no rfl rfl rfl rfl ?_
    refine TL.guard_no rfl rfl rfl rfl ?_
    refine TL.pu (.pick_t rfl rfl) rfl ?_
    refine TL.nil ?_
    refine AQ.then_n ?_
    refine TC.cond_t rfl ?_
    refine TC.region ?_
    refine TL.pu (.build rfl rfl) rfl ?_
    refine TL.pu (.iface rfl rfl) rfl ?_
    have hmg : ys.take 4 ≠ [77, 65, 82, 81] := by
      first
        | assumption
        | (intro h; have := congrArg List.length h; simp only [List.length_take, List.length_cons, List.length_nil] at this; omega)
    refine TL.panic rfl ?_
    refine AQ.then_p ?_
    exact AQ.leave (rs := [.cell 2 41, .cell 3 42]) (.inr (.inr ⟨_, rfl, rfl⟩)) rfl (of1_pan b2 b3 _ rfl _) (.rw inferInstance (.rw inferInstance (.nil _))) Try.results6 (by rintro e' u' js ⟨rfl, hs', rfl⟩; exact ⟨_, _, _, rfl, hs', .cellA rfl inferInstance rfl (.cell1 rfl inferInstance rfl .nil), ⟨none, ofC_no (ofP_magic hmg), rfl, rfl⟩, .nil _⟩)
  refine TL.guard_yes rfl rfl ?_
  refine TL.pu (.move rfl) rfl ?_
  refine TL.guard_yes rfl rfl ?_
  obtain ⟨b, off, cap, c, t, z, rfl, rfl, hlen, hcut, hcap⟩ := R.at2 (by omega)
  have h4 : (ys.take 4).map u8v = cut c off (4 * 1) := by
    have : (ys.take 4).map u8v = (bys ys).take 4 := by simp only [bys, List.map_take]; rfl
    rw [this, hcut]; simp only [cut, List.take_take]; rw [Nat.min_eq_left (by omega)]
  refine TL.pu (.slice_hi rfl rfl (by decide) (by omega)) rfl ?_
  refine TL.say 17 (.slice (some ⟨b, off, none⟩) 4 cap) rfl rfl ?_
  refine TL.guard_yes rfl rfl ?_
  refine TL.rd (.str rfl (.row rfl inferInstance (by omega) h4)) rfl ?_
  refine TL.guard_yes rfl rfl ?_
  refine TL.pu (.strNe rfl rfl) rfl ?_
  refine TL.say 19 (vt (decide (ys.take 4 ≠ [77, 65, 82, 81]))) rfl (by rw [magic (fun x hx => hr x (List.mem_of_mem_take hx)), decide_not]) ?_
  refine TL.pu (.pick_f rfl rfl) rfl ?_
  refine TL.nil ?_
  refine AQ.then_n ?_
  refine TC.condd rfl (fun q2 => ?_) (fun q2 => ?_)
  · skip
    refine TC.region ?_
    refine TL.pu (.build rfl rfl) rfl ?_
    refine TL.pu (.iface rfl rfl) rfl ?_
    have hmg : ys.take 4 ≠ [77, 65, 82, 81] := by
      first
        | assumption
        | (intro h; have := congrArg List.length h; simp only [List.length_take, List.length_cons, List.length_nil] at this; omega)
    refine TL.panic rfl ?_
    refine AQ.then_p ?_
    exact AQ.leave (rs := [.cell 2 41, .cell 3 42]) (.inr (.inr ⟨_, rfl, rfl⟩)) rfl (of1_pan b2 b3 _ rfl _) (.rw inferInstance (.rw inferInstance (.nil _))) Try.results6 (by rintro e' u' js ⟨rfl, hs', rfl⟩; exact ⟨_, _, _, rfl, hs', .cellA rfl inferInstance rfl (.cell1 rfl inferInstance rfl .nil), ⟨none, ofC_no (ofP_magic hmg), rfl, rfl⟩, .nil _⟩)
  refine TC.skip ?_
  refine AQ.then_n ?_
  refine TC.seq ?_
  refine TC.region ?_
  have hmg : ys.take 4 = [77, 65, 82, 81] := Decidable.not_not.1 q2
  refine TL.pu (.move rfl) rfl ?_
  refine TL.pu (.move rfl) rfl ?_
  refine TL.pu (.slice_lo rfl rfl (by decide) (by omega)) rfl ?_
  refine TL.say 25 (.slice (some ⟨b, if cap = 4 then off else off + 4 * 1, none⟩) (ys.length - 4) (cap - 4)) rfl rfl ?_
  have hR0 := Rem.drop (b := b) (s := 4) hcap hlen hcut hr (by omega)
  refine TL.pu (.nilCheck rfl) rfl ?_
  refine TL.pu (.fieldAddr rfl (m := 0) rfl) rfl ?_
  refine TL.store1 rfl rfl rfl inferInstance rfl ?_
  refine TL.nil ?_
  refine AQ.then_n ?_
  refine TC.seq ?_
  refine TC.region ?_
  generalize Value.slice (some ⟨b, if cap = 4 then off else off + 4 * 1, none⟩) (ys.length - 4) (cap - 4) = u0 at hR0 ⊢
  generalize hrem0 : ys.drop 4 = rem0 at hR0
  have hq0 : Pre machF (ys.drop 4) [] machF rem0 := by rw [hrem0]; exact .start _ _
  refine TL.pu (.move rfl) rfl ?_
  refine TL.callP (rcpu_fn b11 71 b c t z u0 rem0 hR0) rfl rfl rfl (.rw inferInstance (.ro inferInstance (.nil _))) rfl ?_ ?_
  · intro hn
    refine AQ.then_p ?_
    exact AQ.leave (rs := [.cell 2 41, .cell 3 42]) (.inr (.inr ⟨_, rfl, rfl⟩)) rfl (of1_pan b2 b3 _ rfl _) (.rw inferInstance (.rw inferInstance (.nil _))) Try.results6 (by rintro e' u' js ⟨rfl, hs', rfl⟩; exact ⟨_, _, _, rfl, hs', .cellA rfl inferInstance rfl (.cell1 rfl inferInstance rfl .nil), ⟨none, ofC_no (ofP_no (hq0.no (Fmt.cpu_n hn))), rfl, rfl⟩, .nil _⟩)
  rintro ⟨x1, rem1, u1⟩ ⟨hp1, hR1⟩
  dsimp only at hp1 hR1
  have hq1 := hq0.step (Fmt.cpu_p hp1)
  show TL _ _ _ _ _ _ _ ((29, .agg (cpuL x1).toArray) :: _) ([⟨b11, cel [u1] 71, true⟩] ++ _) _
  refine TL.pu (.move rfl) rfl ?_
  refine TL.callP (rcpu_fn b11 71 b c t z u1 rem1 hR1) rfl rfl rfl (.rw inferInstance (.ro inferInstance (.nil _))) rfl ?_ ?_
  · intro hn
    refine AQ.then_p ?_
    exact AQ.leave (rs := [.cell 2 41, .cell 3 42]) (.inr (.inr ⟨_, rfl, rfl⟩)) rfl (of1_pan b2 b3 _ rfl _) (.rw inferInstance (.rw inferInstance (.nil _))) Try.results6 (by rintro e' u' js ⟨rfl, hs', rfl⟩; exact ⟨_, _, _, rfl, hs', .cellA rfl inferInstance rfl (.cell1 rfl inferInstance rfl .nil), ⟨none, ofC_no (ofP_no (hq1.no (Fmt.cpu_n hn))), rfl, rfl⟩, .nil _⟩)
  rintro ⟨x2, rem2, u2⟩ ⟨hp2, hR2⟩
  dsimp only at hp2 hR2
  have hq2 := hq1.step (Fmt.cpu_p hp2)
  show TL _ _ _ _ _ _ _ ((31, .agg (cpuL x2).toArray) :: _) ([⟨b11, cel [u2] 71, true⟩] ++ _) _
  refine TL.pu (.fieldAddr rfl (m := 0) rfl) rfl ?_
  refine TL.storeA rfl rfl rfl rfl inferInstance rfl ?_
  refine TL.pu (.fieldAddr rfl (m := 15) rfl) rfl ?_
  refine TL.storeA rfl rfl rfl rfl inferInstance rfl ?_
  refine TL.nil ?_
  refine AQ.then_n ?_
  refine TC.seq ?_
  refine TC.region ?_
  refine TL.pu (.move rfl) rfl ?_
  refine TL.callP (rbytes_fn 1024 b11 71 b c t z u2 rem2 hR2) rfl rfl rfl (.rw inferInstance (.ro inferInstance (.nil _))) rfl ?_ ?_
  · intro hn
    refine AQ.then_p ?_
    exact AQ.leave (rs := [.cell 2 41, .cell 3 42]) (.inr (.inr ⟨_, rfl, rfl⟩)) rfl (of1_pan b2 b3 _ rfl _) (.rw inferInstance (.rw inferInstance (.nil _))) Try.results6 (by rintro e' u' js ⟨rfl, hs', rfl⟩; exact ⟨_, _, _, rfl, hs', .cellA rfl inferInstance rfl (.cell1 rfl inferInstance rfl .nil), ⟨none, ofC_no (ofP_no (hq2.no (Fmt.bytes_n hn))), rfl, rfl⟩, .nil _⟩)
  rintro ⟨x3, rem3, u3, v3, hb3⟩ ⟨hp3, hR3, hB3⟩
  dsimp only at hp3 hR3 hB3
  have hq3 := hq2.step (Fmt.bytes_p hp3)
  show TL _ _ _ _ _ _ _ ((35, v3) :: _) ((⟨b11, cel [u3] 71, true⟩ :: hb3) ++ _) _
  refine TL.pu (.move rfl) rfl ?_
  refine TL.callP (rbytes_fn 1024 b11 71 b c t z u3 rem3 hR3) rfl rfl rfl (.rw inferInstance (.ro inferInstance (.nil _))) rfl ?_ ?_
  · intro hn
    refine AQ.then_p ?_
    exact AQ.leave (rs := [.cell 2 41, .cell 3 42]) (.inr (.inr ⟨_, rfl, rfl⟩)) rfl (of1_pan b2 b3 _ rfl _) (.rw inferInstance (.rw inferInstance (.nil _))) Try.results6 (by rintro e' u' js ⟨rfl, hs', rfl⟩; exact ⟨_, _, _, rfl, hs', .cellA rfl inferInstance rfl (.cell1 rfl inferInstance rfl .nil), ⟨none, ofC_no (ofP_no (hq3.no (Fmt.bytes_n hn))), rfl, rfl⟩, .nil _⟩)
  rintro ⟨x4, rem4, u4, v4, hb4⟩ ⟨hp4, hR4, hB4⟩
  dsimp only at hp4 hR4 hB4
  have hq4 := hq3.step (Fmt.bytes_p hp4)
  show TL _ _ _ _ _ _ _ ((37, v4) :: _) ((⟨b11, cel [u4] 71, true⟩ :: hb4) ++ _) _
  refine TL.pu (.fieldAddr rfl (m := 30) rfl) rfl ?_
  refine TL.store1 rfl rfl hB3.one inferInstance rfl ?_
  refine TL.pu (.fieldAddr rfl (m := 31) rfl) rfl ?_
  refine TL.store1 rfl rfl hB4.one inferInstance rfl ?_
  refine TL.nil ?_
  refine AQ.then_n ?_
  refine TC.seq ?_
  refine TC.region ?_
  refine TL.pu (.move rfl) rfl ?_
  refine TL.callP (rbytes_fn 128 b11 71 b c t z u4 rem4 hR4) rfl rfl rfl (.rw inferInstance (.ro inferInstance (.nil _))) rfl ?_ ?_
  · intro hn
    refine AQ.then_p ?_
    exact AQ.leave (rs := [.cell 2 41, .cell 3 42]) (.inr (.inr ⟨_, rfl, rfl⟩)) rfl (of1_pan b2 b3 _ rfl _) (.rw inferInstance (.rw inferInstance (.nil _))) Try.results6 (by rintro e' u' js ⟨rfl, hs', rfl⟩; exact ⟨_, _, _, rfl, hs', .cellA rfl inferInstance rfl (.cell1 rfl inferInstance rfl .nil), ⟨none, ofC_no (ofP_no (hq4.no (Fmt.bytes_n hn))), rfl, rfl⟩, .nil _⟩)
  rintro ⟨x5, rem5, u5, v5, hb5⟩ ⟨hp5, hR5, hB5⟩
  dsimp only at hp5 hR5 hB5
  have hq5 := hq4.step (Fmt.bytes_p hp5)
  show TL _ _ _ _ _ _ _ ((41, v5) :: _) ((⟨b11, cel [u5] 71, true⟩ :: hb5) ++ _) _
  refine TL.pu (.move rfl) rfl ?_
  refine TL.callP (rbytes_fn 64 b11 71 b c t z u5 rem5 hR5) rfl rfl rfl (.rw inferInstance (.ro inferInstance (.nil _))) rfl ?_ ?_
  · intro hn
    refine AQ.then_p ?_
    exact AQ.leave (rs := [.cell 2 41, .cell 3 42]) (.inr (.inr ⟨_, rfl, rfl⟩)) rfl (of1_pan b2 b3 _ rfl _) (.rw inferInstance (.rw inferInstance (.nil _))) Try.results6 (by rintro e' u' js ⟨rfl, hs', rfl⟩; exact ⟨_, _, _, rfl, hs', .cellA rfl inferInstance rfl (.cell1 rfl inferInstance rfl .nil), ⟨none, ofC_no (ofP_no (hq5.no (Fmt.bytes_n hn))), rfl, rfl⟩, .nil _⟩)
  rintro ⟨x6, rem6, u6, v6, hb6⟩ ⟨hp6, hR6, hB6⟩
  dsimp only at hp6 hR6 hB6
  have hq6 := hq5.step (Fmt.bytes_p hp6)
  show TL _ _ _ _ _ _ _ ((43, v6) :: _) ((⟨b11, cel [u6] 71, true⟩ :: hb6) ++ _) _
  refine TL.pu (.move rfl) rfl ?_
  refine TL.callP (rbytes_fn 256 b11 71 b c t z u6 rem6 hR6) rfl rfl rfl (.rw inferInstance (.ro inferInstance (.nil _))) rfl ?_ ?_
  · intro hn
    refine AQ.then_p ?_
    exact AQ.leave (rs := [.cell 2 41, .cell 3 42]) (.inr (.inr ⟨_, rfl, rfl⟩)) rfl (of1_pan b2 b3 _ rfl _) (.rw inferInstance (.rw inferInstance (.nil _))) Try.results6 (by rintro e' u' js ⟨rfl, hs', rfl⟩; exact ⟨_, _, _, rfl, hs', .cellA rfl inferInstance rfl (.cell1 rfl inferInstance rfl .nil), ⟨none, ofC_no (ofP_no (hq6.no (Fmt.bytes_n hn))), rfl, rfl⟩, .nil _⟩)
  rintro ⟨x7, rem7, u7, v7, hb7⟩ ⟨hp7, hR7, hB7⟩
  dsimp only at hp7 hR7 hB7
  have hq7 := hq6.step (Fmt.bytes_p hp7)
  show TL _ _ _ _ _ _ _ ((45, v7) :: _) ((⟨b11, cel [u7] 71, true⟩ :: hb7) ++ _) _
  refine TL.pu (.fieldAddr rfl (m := 32) rfl) rfl ?_
  refine TL.store1 rfl rfl hB5.one inferInstance rfl ?_
  refine TL.pu (.fieldAddr rfl (m := 33) rfl) rfl ?_
  refine TL.store1 rfl rfl hB6.one inferInstance rfl ?_
  refine TL.pu (.fieldAddr rfl (m := 34) rfl) rfl ?_
  refine TL.store1 rfl rfl hB7.one inferInstance rfl ?_
  refine TL.nil ?_
  refine AQ.then_n ?_
  refine TC.seq ?_
  refine TC.seq ?_
  refine TC.region ?_
  refine TL.pu (.move rfl) rfl ?_
  refine TL.nil ?_
  refine AQ.then_n ?_
  refine TC.block ?_
  refine TC.unroll 2 ?_
  refine TC.seq ?_
  refine TC.region ?_
  refine TL.pu (.int rfl rfl rfl) rfl ?_
  refine TL.say 50 (.bool true) rfl rfl ?_
  refine TL.nil ?_
  refine AQ.then_n ?_
  refine TC.seq ?_
  refine TC.cond_t rfl ?_
  refine TC.skip ?_
  refine AQ.then_n ?_
  refine TC.seq ?_
  refine TC.block ?_
  refine TC.seq ?_
  refine TC.region ?_
  refine TL.pu (.move rfl) rfl ?_
  refine TL.pu (.assign rfl) rfl ?_
  refine TL.nil ?_
  refine AQ.then_n ?_
  refine TC.region ?_
  refine TL.pu (.move rfl) rfl ?_
  refine TL.pu (.move rfl) rfl ?_
  refine TL.callP (rnumber_fn 1 (by decide) b11 71 b c t z u7 rem7 hR7) rfl rfl rfl (.rw inferInstance (.ro inferInstance (.nil _))) rfl ?_ ?_
  · intro hn
    refine AQ.block_p ?_
    refine AQ.then_p ?_
    refine AQ.then_p ?_
    refine AQ.block_p ?_
    refine AQ.then_p ?_
    exact AQ.leave (rs := [.cell 2 41, .cell 3 42]) (.inr (.inr ⟨_, rfl, rfl⟩)) rfl (of1_pan b2 b3 _ rfl _) (.rw inferInstance (.rw inferInstance (.nil _))) Try.results6 (by rintro e' u' js ⟨rfl, hs', rfl⟩; exact ⟨_, _, _, rfl, hs', .cellA rfl inferInstance rfl (.cell1 rfl inferInstance rfl .nil), ⟨none, ofC_no (ofP_no (hq7.no (Fmt.num_n hn))), rfl, rfl⟩, .nil _⟩)
  rintro ⟨x8, rem8, u8⟩ ⟨hp8, hR8⟩
  dsimp only at hp8 hR8
  have hq8 := hq7.step (Fmt.num_p hp8)
  show TL _ _ _ _ _ _ _ ((54, vi x8) :: _) ([⟨b11, cel [u8] 71, true⟩] ++ _) _
  refine TL.pu (.conv rfl) rfl ?_
  refine TL.say 55 (vb x8) rfl (congrArg (Value.int .u8) (IntWalk.u8_in _ (by have := pNum_bound hR7.range hp8; omega))) ?_
  refine TL.pu (.move rfl) rfl ?_
  refine TL.callP (rnumber_fn 1 (by decide) b11 71 b c t z u8 rem8 hR8) rfl rfl rfl (.rw inferInstance (.ro inferInstance (.nil _))) rfl ?_ ?_
  · intro hn
    refine AQ.block_p ?_
    refine AQ.then_p ?_
    refine AQ.then_p ?_
    refine AQ.block_p ?_
    refine AQ.then_p ?_
    exact AQ.leave (rs := [.cell 2 41, .cell 3 42]) (.inr (.inr ⟨_, rfl, rfl⟩)) rfl (of1_pan b2 b3 _ rfl _) (.rw inferInstance (.rw inferInstance (.nil _))) Try.results6 (by rintro e' u' js ⟨rfl, hs', rfl⟩; exact ⟨_, _, _, rfl, hs', .cellA rfl inferInstance rfl (.cell1 rfl inferInstance rfl .nil), ⟨none, ofC_no (ofP_no (hq8.no (Fmt.num_n hn))), rfl, rfl⟩, .nil _⟩)
  rintro ⟨x9, rem9, u9⟩ ⟨hp9, hR9⟩
  dsimp only at hp9 hR9
  have hq9 := hq8.step (Fmt.num_p hp9)
  show TL _ _ _ _ _ _ _ ((57, vi x9) :: _) ([⟨b11, cel [u9] 71, true⟩] ++ _) _
  refine TL.pu (.conv rfl) rfl ?_
  refine TL.say 58 (vb x9) rfl (congrArg (Value.int .u8) (IntWalk.u8_in _ (by have := pNum_bound hR8.range hp9; omega))) ?_
  refine TL.pu (.move rfl) rfl ?_
  refine TL.callP (rbool_fn b11 71 b c t z u9 rem9 hR9) rfl rfl rfl (.rw inferInstance (.ro inferInstance (.nil _))) rfl ?_ ?_
  · intro hn
    refine AQ.block_p ?_
    refine AQ.then_p ?_
    refine AQ.then_p ?_
    refine AQ.block_p ?_
    refine AQ.then_p ?_
    exact AQ.leave (rs := [.cell 2 41, .cell 3 42]) (.inr (.inr ⟨_, rfl, rfl⟩)) rfl (of1_pan b2 b3 _ rfl _) (.rw inferInstance (.rw inferInstance (.nil _))) Try.results6 (by rintro e' u' js ⟨rfl, hs', rfl⟩; exact ⟨_, _, _, rfl, hs', .cellA rfl inferInstance rfl (.cell1 rfl inferInstance rfl .nil), ⟨none, ofC_no (ofP_no (hq9.no (Fmt.bool_n hn))), rfl, rfl⟩, .nil _⟩)
  rintro ⟨x10, rem10, u10⟩ ⟨hp10, hR10⟩
  dsimp only at hp10 hR10
  have hq10 := hq9.step (Fmt.bool_p hp10)
  show TL _ _ _ _ _ _ _ ((60, vt x10) :: _) ([⟨b11, cel [u10] 71, true⟩] ++ _) _
  refine TL.pu (.build rfl rfl) rfl ?_
  refine TL.pu (.fieldAddr rfl (m := 35) rfl) rfl ?_
  refine TL.pu (.indexAddrA rfl rfl (by decide) (by decide) (m := 35) rfl) rfl ?_
  refine TL.storeA rfl rfl rfl rfl inferInstance rfl ?_
  refine TL.nil ?_
  refine AQ.block_n ?_
  refine AQ.then_n ?_
  refine TC.region ?_
  refine TL.pu (.int rfl rfl rfl) rfl ?_
  refine TL.say 64 (.int .i64 1) rfl rfl ?_
  refine TL.pu (.move rfl) rfl ?_
  refine TL.nil ?_
  refine AQ.next ?_
  refine TC.seq ?_
  refine TC.region ?_
  refine TL.pu (.int rfl rfl rfl) rfl ?_
  refine TL.say 50 (.bool true) rfl rfl ?_
  refine TL.nil ?_
  refine AQ.then_n ?_
  refine TC.seq ?_
  refine TC.cond_t rfl ?_
  refine TC.skip ?_
  refine AQ.then_n ?_
  refine TC.seq ?_
  refine TC.block ?_
  refine TC.seq ?_
  refine TC.region ?_
  refine TL.pu (.move rfl) rfl ?_
  refine TL.pu (.assign rfl) rfl ?_
  refine TL.nil ?_
  refine AQ.then_n ?_
  refine TC.region ?_
  refine TL.pu (.move rfl) rfl ?_
  refine TL.pu (.move rfl) rfl ?_
  refine TL.callP (rnumber_fn 1 (by decide) b11 71 b c t z u10 rem10 hR10) rfl rfl rfl (.rw inferInstance (.ro inferInstance (.nil _))) rfl ?_ ?_
  · intro hn
    refine AQ.block_p ?_
    refine AQ.then_p ?_
    refine AQ.then_p ?_
    refine AQ.block_p ?_
    refine AQ.then_p ?_
    exact AQ.leave (rs := [.cell 2 41, .cell 3 42]) (.inr (.inr ⟨_, rfl, rfl⟩)) rfl (of1_pan b2 b3 _ rfl _) (.rw inferInstance (.rw inferInstance (.nil _))) Try.results6 (by rintro e' u' js ⟨rfl, hs', rfl⟩; exact ⟨_, _, _, rfl, hs', .cellA rfl inferInstance rfl (.cell1 rfl inferInstance rfl .nil), ⟨none, ofC_no (ofP_no (hq10.no (Fmt.num_n hn))), rfl, rfl⟩, .nil _⟩)
  rintro ⟨x11, rem11, u11⟩ ⟨hp11, hR11⟩
  dsimp only at hp11 hR11
  have hq11 := hq10.step (Fmt.num_p hp11)
  show TL _ _ _ _ _ _ _ ((54, vi x11) :: _) ([⟨b11, cel [u11] 71, true⟩] ++ _) _
  refine TL.pu (.conv rfl) rfl ?_
  refine TL.say 55 (vb x11) rfl (congrArg (Value.int .u8) (IntWalk.u8_in _ (by have := pNum_bound hR10.range hp11; omega))) ?_
  refine TL.pu (.move rfl) rfl ?_
  refine TL.callP (rnumber_fn 1 (by decide) b11 71 b c t z u11 rem11 hR11) rfl rfl rfl (.rw inferInstance (.ro inferInstance (.nil _))) rfl ?_ ?_
  · intro hn
    refine AQ.block_p ?_
    refine AQ.then_p ?_
    refine AQ.then_p ?_
    refine AQ.block_p ?_
    refine AQ.then_p ?_
    exact AQ.leave (rs := [.cell 2 41, .cell 3 42]) (.inr (.inr ⟨_, rfl, rfl⟩)) rfl (of1_pan b2 b3 _ rfl _) (.rw inferInstance (.rw inferInstance (.nil _))) Try.results6 (by rintro e' u' js ⟨rfl, hs', rfl⟩; exact ⟨_, _, _, rfl, hs', .cellA rfl inferInstance rfl (.cell1 rfl inferInstance rfl .nil), ⟨none, ofC_no (ofP_no (hq11.no (Fmt.num_n hn))), rfl, rfl⟩, .nil _⟩)
  rintro ⟨x12, rem12, u12⟩ ⟨hp12, hR12⟩
  dsimp only at hp12 hR12
  have hq12 := hq11.step (Fmt.num_p hp12)
  show TL _ _ _ _ _ _ _ ((57, vi x12) :: _) ([⟨b11, cel [u12] 71, true⟩] ++ _) _
  refine TL.pu (.conv rfl) rfl ?_
  refine TL.say 58 (vb x12) rfl (congrArg (Value.int .u8) (IntWalk.u8_in _ (by have := pNum_bound hR11.range hp12; omega))) ?_
  refine TL.pu (.move rfl) rfl ?_
  refine TL.callP (rbool_fn b11 71 b c t z u12 rem12 hR12) rfl rfl rfl (.rw inferInstance (.ro inferInstance (.nil _))) rfl ?_ ?_
  · intro hn
    refine AQ.block_p ?_
    refine AQ.then_p ?_
    refine AQ.then_p ?_
    refine AQ.block_p ?_
    refine AQ.then_p ?_
    exact AQ.leave (rs := [.cell 2 41, .cell 3 42]) (.inr (.inr ⟨_, rfl, rfl⟩)) rfl (of1_pan b2 b3 _ rfl _) (.rw inferInstance (.rw inferInstance (.nil _))) Try.results6 (by rintro e' u' js ⟨rfl, hs', rfl⟩; exact ⟨_, _, _, rfl, hs', .cellA rfl inferInstance rfl (.cell1 rfl inferInstance rfl .nil), ⟨none, ofC_no (ofP_no (hq12.no (Fmt.bool_n hn))), rfl, rfl⟩, .nil _⟩)
  rintro ⟨x13, rem13, u13⟩ ⟨hp13, hR13⟩
  dsimp only at hp13 hR13
  have hq13 := hq12.step (Fmt.bool_p hp13)
  show TL _ _ _ _ _ _ _ ((60, vt x13) :: _) ([⟨b11, cel [u13] 71, true⟩] ++ _) _
  refine TL.pu (.build rfl rfl) rfl ?_
  refine TL.pu (.fieldAddr rfl (m := 35) rfl) rfl ?_
  refine TL.pu (.indexAddrA rfl rfl (by decide) (by decide) (m := 38) rfl) rfl ?_
  refine TL.storeA rfl rfl rfl rfl inferInstance rfl ?_
  refine TL.nil ?_
  refine AQ.block_n ?_
  refine AQ.then_n ?_
  refine TC.region ?_
  refine TL.pu (.int rfl rfl rfl) rfl ?_
  refine TL.say 64 (.int .i64 2) rfl rfl ?_
  refine TL.pu (.move rfl) rfl ?_
  refine TL.nil ?_
  refine AQ.next ?_
  refine TC.seq ?_
  refine TC.region ?_
  refine TL.pu (.int rfl rfl rfl) rfl ?_
  refine TL.say 50 (.bool false) rfl rfl ?_
  refine TL.nil ?_
  refine AQ.then_n ?_
  refine TC.seq ?_
  refine TC.cond_f rfl ?_
  refine TC.exit ?_
  refine AQ.then_x ?_
  refine AQ.then_x ?_
  refine AQ.block_x ?_
  refine AQ.then_n ?_
  refine TC.seq ?_
  refine TC.region ?_
  refine TL.pu (.move rfl) rfl ?_
  refine TL.callP (rword_fn b11 71 b c t z u13 rem13 hR13) rfl rfl rfl (.rw inferInstance (.ro inferInstance (.nil _))) rfl ?_ ?_
  · intro hn
    refine AQ.then_p ?_
    exact AQ.leave (rs := [.cell 2 41, .cell 3 42]) (.inr (.inr ⟨_, rfl, rfl⟩)) rfl (of1_pan b2 b3 _ rfl _) (.rw inferInstance (.rw inferInstance (.nil _))) Try.results6 (by rintro e' u' js ⟨rfl, hs', rfl⟩; exact ⟨_, _, _, rfl, hs', .cellA rfl inferInstance rfl (.cell1 rfl inferInstance rfl .nil), ⟨none, ofC_no (ofP_no (hq13.no (Fmt.num_n hn))), rfl, rfl⟩, .nil _⟩)
  rintro ⟨x14, rem14, u14⟩ ⟨hp14, hR14⟩
  dsimp only at hp14 hR14
  have hq14 := hq13.step (Fmt.num_p hp14)
  show TL _ _ _ _ _ _ _ ((66, vw x14) :: _) ([⟨b11, cel [u14] 71, true⟩] ++ _) _
  refine TL.pu (.move rfl) rfl ?_
  refine TL.callP (rword_fn b11 71 b c t z u14 rem14 hR14) rfl rfl rfl (.rw inferInstance (.ro inferInstance (.nil _))) rfl ?_ ?_
  · intro hn
    refine AQ.then_p ?_
    exact AQ.leave (rs := [.cell 2 41, .cell 3 42]) (.inr (.inr ⟨_, rfl, rfl⟩)) rfl (of1_pan b2 b3 _ rfl _) (.rw inferInstance (.rw inferInstance (.nil _))) Try.results6 (by rintro e' u' js ⟨rfl, hs', rfl⟩; exact ⟨_, _, _, rfl, hs', .cellA rfl inferInstance rfl (.cell1 rfl inferInstance rfl .nil), ⟨none, ofC_no (ofP_no (hq14.no (Fmt.num_n hn))), rfl, rfl⟩, .nil _⟩)
  rintro ⟨x15, rem15, u15⟩ ⟨hp15, hR15⟩
  dsimp only at hp15 hR15
  have hq15 := hq14.step (Fmt.num_p hp15)
  show TL _ _ _ _ _ _ _ ((68, vw x15) :: _) ([⟨b11, cel [u15] 71, true⟩] ++ _) _
  refine TL.pu (.move rfl) rfl ?_
  refine TL.callP (rbool_fn b11 71 b c t z u15 rem15 hR15) rfl rfl rfl (.rw inferInstance (.ro inferInstance (.nil _))) rfl ?_ ?_
  · intro hn
    refine AQ.then_p ?_
    exact AQ.leave (rs := [.cell 2 41, .cell 3 42]) (.inr (.inr ⟨_, rfl, rfl⟩)) rfl (of1_pan b2 b3 _ rfl _) (.rw inferInstance (.rw inferInstance (.nil _))) Try.results6 (by rintro e' u' js ⟨rfl, hs', rfl⟩; exact ⟨_, _, _, rfl, hs', .cellA rfl inferInstance rfl (.cell1 rfl inferInstance rfl .nil), ⟨none, ofC_no (ofP_no (hq15.no (Fmt.bool_n hn))), rfl, rfl⟩, .nil _⟩)
  rintro ⟨x16, rem16, u16⟩ ⟨hp16, hR16⟩
  dsimp only at hp16 hR16
  have hq16 := hq15.step (Fmt.bool_p hp16)
  show TL _ _ _ _ _ _ _ ((70, vt x16) :: _) ([⟨b11, cel [u16] 71, true⟩] ++ _) _
  refine TL.pu (.move rfl) rfl ?_
  refine TL.callP (rbool_fn b11 71 b c t z u16 rem16 hR16) rfl rfl rfl (.rw inferInstance (.ro inferInstance (.nil _))) rfl ?_ ?_
  · intro hn
    refine AQ.then_p ?_
    exact AQ.leave (rs := [.cell 2 41, .cell 3 42]) (.inr (.inr ⟨_, rfl, rfl⟩)) rfl (of1_pan b2 b3 _ rfl _) (.rw inferInstance (.rw inferInstance (.nil _))) Try.results6 (by rintro e' u' js ⟨rfl, hs', rfl⟩; exact ⟨_, _, _, rfl, hs', .cellA rfl inferInstance rfl (.cell1 rfl inferInstance rfl .nil), ⟨none, ofC_no (ofP_no (hq16.no (Fmt.bool_n hn))), rfl, rfl⟩, .nil _⟩)
  rintro ⟨x17, rem17, u17⟩ ⟨hp17, hR17⟩
  dsimp only at hp17 hR17
  have hq17 := hq16.step (Fmt.bool_p hp17)
  show TL _ _ _ _ _ _ _ ((72, vt x17) :: _) ([⟨b11, cel [u17] 71, true⟩] ++ _) _
  refine TL.pu (.build rfl rfl) rfl ?_
  refine TL.pu (.fieldAddr rfl (m := 41) rfl) rfl ?_
  refine TL.storeA rfl rfl rfl rfl inferInstance rfl ?_
  refine TL.nil ?_
  refine AQ.then_n ?_
  refine TC.seq ?_
  refine TC.seq ?_
  refine TC.region ?_
  refine TL.pu (.move rfl) rfl ?_
  refine TL.nil ?_
  refine AQ.then_n ?_
  refine TC.block ?_
  refine TC.unroll 3 ?_
  refine TC.seq ?_
  refine TC.region ?_
  refine TL.pu (.int rfl rfl rfl) rfl ?_
  refine TL.say 76 (.bool true) rfl rfl ?_
  refine TL.nil ?_
  refine AQ.then_n ?_
  refine TC.seq ?_
  refine TC.cond_t rfl ?_
  refine TC.skip ?_
  refine AQ.then_n ?_
  refine TC.seq ?_
  refine TC.block ?_
  refine TC.seq ?_
  refine TC.region ?_
  refine TL.pu (.move rfl) rfl ?_
  refine TL.pu (.assign rfl) rfl ?_
  refine TL.nil ?_
  refine AQ.then_n ?_
  refine TC.seq ?_
  refine TC.region ?_
  refine TL.pu (.move rfl) rfl ?_
  refine TL.callP (rword_fn b11 71 b c t z u17 rem17 hR17) rfl rfl rfl (.rw inferInstance (.ro inferInstance (.nil _))) rfl ?_ ?_
  · intro hn
    refine AQ.then_p ?_
    refine AQ.block_p ?_
    refine AQ.then_p ?_
    refine AQ.then_p ?_
    refine AQ.block_p ?_
    refine AQ.then_p ?_
    exact AQ.leave (rs := [.cell 2 41, .cell 3 42]) (.inr (.inr ⟨_, rfl, rfl⟩)) rfl (of1_pan b2 b3 _ rfl _) (.rw inferInstance (.rw inferInstance (.nil _))) Try.results6 (by rintro e' u' js ⟨rfl, hs', rfl⟩; exact ⟨_, _, _, rfl, hs', .cellA rfl inferInstance rfl (.cell1 rfl inferInstance rfl .nil), ⟨none, ofC_no (ofP_no (hq17.no (Fmt.num_n hn))), rfl, rfl⟩, .nil _⟩)
  rintro ⟨x18, rem18, u18⟩ ⟨hp18, hR18⟩
  dsimp only at hp18 hR18
  have hq18 := hq17.step (Fmt.num_p hp18)
  show TL _ _ _ _ _ _ _ ((79, vw x18) :: _) ([⟨b11, cel [u18] 71, true⟩] ++ _) _
  refine TL.pu (.move rfl) rfl ?_
  refine TL.callP (rword_fn b11 71 b c t z u18 rem18 hR18) rfl rfl rfl (.rw inferInstance (.ro inferInstance (.nil _))) rfl ?_ ?_
  · intro hn
    refine AQ.then_p ?_
    refine AQ.block_p ?_
    refine AQ.then_p ?_
    refine AQ.then_p ?_
    refine AQ.block_p ?_
    refine AQ.then_p ?_
    exact AQ.leave (rs := [.cell 2 41, .cell 3 42]) (.inr (.inr ⟨_, rfl, rfl⟩)) rfl (of1_pan b2 b3 _ rfl _) (.rw inferInstance (.rw inferInstance (.nil _))) Try.results6 (by rintro e' u' js ⟨rfl, hs', rfl⟩; exact ⟨_, _, _, rfl, hs', .cellA rfl inferInstance rfl (.cell1 rfl inferInstance rfl .nil), ⟨none, ofC_no (ofP_no (hq18.no (Fmt.num_n hn))), rfl, rfl⟩, .nil _⟩)
  rintro ⟨x19, rem19, u19⟩ ⟨hp19, hR19⟩
  dsimp only at hp19 hR19
  have hq19 := hq18.step (Fmt.num_p hp19)
  show TL _ _ _ _ _ _ _ ((81, vw x19) :: _) ([⟨b11, cel [u19] 71, true⟩] ++ _) _
  refine TL.pu (.move rfl) rfl ?_
  refine TL.callP (rword_fn b11 71 b c t z u19 rem19 hR19) rfl rfl rfl (.rw inferInstance (.ro inferInstance (.nil _))) rfl ?_ ?_
  · intro hn
    refine AQ.then_p ?_
    refine AQ.block_p ?_
    refine AQ.then_p ?_
    refine AQ.then_p ?_
    refine AQ.block_p ?_
    refine AQ.then_p ?_
    exact AQ.leave (rs := [.cell 2 41, .cell 3 42]) (.inr (.inr ⟨_, rfl, rfl⟩)) rfl (of1_pan b2 b3 _ rfl _) (.rw inferInstance (.rw inferInstance (.nil _))) Try.results6 (by rintro e' u' js ⟨rfl, hs', rfl⟩; exact ⟨_, _, _, rfl, hs', .cellA rfl inferInstance rfl (.cell1 rfl inferInstance rfl .nil), ⟨none, ofC_no (ofP_no (hq19.no (Fmt.num_n hn))), rfl, rfl⟩, .nil _⟩)
  rintro ⟨x20, rem20, u20⟩ ⟨hp20, hR20⟩
  dsimp only at hp20 hR20
  have hq20 := hq19.step (Fmt.num_p hp20)
  show TL _ _ _ _ _ _ _ ((83, vw x20) :: _) ([⟨b11, cel [u20] 71, true⟩] ++ _) _
  refine TL.pu (.build rfl rfl) rfl ?_
  refine TL.alloc rfl rfl (fun b7 => ?_)
  refine TL.storeA rfl rfl rfl rfl inferInstance rfl ?_
  refine TL.nil ?_
  refine AQ.then_n ?_
  refine TC.seq ?_
  refine TC.region ?_
  refine TL.pu (.move rfl) rfl ?_
  refine TL.callP (rnumber_fn 1 (by decide) b11 71 b c t z u20 rem20 hR20) rfl rfl rfl (.rw inferInstance (.ro inferInstance (.nil _))) rfl ?_ ?_
  · intro hn
    refine AQ.then_p ?_
    refine AQ.block_p ?_
    refine AQ.then_p ?_
    refine AQ.then_p ?_
    refine AQ.block_p ?_
    refine AQ.then_p ?_
    exact AQ.leave (rs := [.cell 2 41, .cell 3 42]) (.inr (.inr ⟨_, rfl, rfl⟩)) rfl (of1_pan b2 b3 _ rfl _) (.rw inferInstance (.rw inferInstance (.nil _))) Try.results6 (by rintro e' u' js ⟨rfl, hs', rfl⟩; exact ⟨_, _, _, rfl, hs', .cellA rfl inferInstance rfl (.cell1 rfl inferInstance rfl .nil), ⟨none, ofC_no (ofP_no (hq20.no (Fmt.num_n hn))), rfl, rfl⟩, .nil _⟩)
  rintro ⟨x21, rem21, u21⟩ ⟨hp21, hR21⟩
  dsimp only at hp21 hR21
  have hq21 := hq20.step (Fmt.num_p hp21)
  show TL _ _ _ _ _ _ _ ((86, vi x21) :: _) ([⟨b11, cel [u21] 71, true⟩] ++ _) _
  refine TL.pu (.conv rfl) rfl ?_
  refine TL.say 87 (vb x21) rfl (congrArg (Value.int .u8) (IntWalk.u8_in _ (by have := pNum_bound hR20.range hp21; omega))) ?_
  refine TL.pu (.move rfl) rfl ?_
  refine TL.callP (rbool_fn b11 71 b c t z u21 rem21 hR21) rfl rfl rfl (.rw inferInstance (.ro inferInstance (.nil _))) rfl ?_ ?_
  · intro hn
    refine AQ.then_p ?_
    refine AQ.block_p ?_
    refine AQ.then_p ?_
    refine AQ.then_p ?_
    refine AQ.block_p ?_
    refine AQ.then_p ?_
    exact AQ.leave (rs := [.cell 2 41, .cell 3 42]) (.inr (.inr ⟨_, rfl, rfl⟩)) rfl (of1_pan b2 b3 _ rfl _) (.rw inferInstance (.rw inferInstance (.nil _))) Try.results6 (by rintro e' u' js ⟨rfl, hs', rfl⟩; exact ⟨_, _, _, rfl, hs', .cellA rfl inferInstance rfl (.cell1 rfl inferInstance rfl .nil), ⟨none, ofC_no (ofP_no (hq21.no (Fmt.bool_n hn))), rfl, rfl⟩, .nil _⟩)
  rintro ⟨x22, rem22, u22⟩ ⟨hp22, hR22⟩
  dsimp only at hp22 hR22
  have hq22 := hq21.step (Fmt.bool_p hp22)
  show TL _ _ _ _ _ _ _ ((89, vt x22) :: _) ([⟨b11, cel [u22] 71, true⟩] ++ _) _
  refine TL.pu (.fieldAddr rfl (m := 2) rfl) rfl ?_
  refine TL.store1 rfl rfl rfl inferInstance rfl ?_
  refine TL.pu (.fieldAddr rfl (m := 3) rfl) rfl ?_
  refine TL.store1 rfl rfl rfl inferInstance rfl ?_
  refine TL.nil ?_
  refine AQ.then_n ?_
  refine TC.region ?_
  refine TL.pu (.move rfl) rfl ?_
  refine TL.rd (.loadA rfl inferInstance rfl) rfl ?_
  refine TL.pu (.fieldAddr rfl (m := 45) rfl) rfl ?_
  refine TL.pu (.fieldAddr rfl (m := 45) rfl) rfl ?_
  refine TL.pu (.indexAddrA rfl rfl (by decide) (by decide) (m := 45) rfl) rfl ?_
  refine TL.storeA rfl rfl rfl rfl inferInstance rfl ?_
  refine TL.nil ?_
  refine AQ.block_n ?_
  refine AQ.then_n ?_
  refine TC.region ?_
  refine TL.pu (.int rfl rfl rfl) rfl ?_
  refine TL.say 97 (.int .i64 1) rfl rfl ?_
  refine TL.pu (.move rfl) rfl ?_
  refine TL.nil ?_
  refine AQ.next ?_
  refine TC.seq ?_
  refine TC.region ?_
  refine TL.pu (.int rfl rfl rfl) rfl ?_
  refine TL.say 76 (.bool true) rfl rfl ?_
  refine TL.nil ?_
  refine AQ.then_n ?_
  refine TC.seq ?_
  refine TC.cond_t rfl ?_
  refine TC.skip ?_
  refine AQ.then_n ?_
  refine TC.seq ?_
  refine TC.block ?_
  refine TC.seq ?_
  refine TC.region ?_
  refine TL.pu (.move rfl) rfl ?_
  refine TL.pu (.assign rfl) rfl ?_
  refine TL.nil ?_
  refine AQ.then_n ?_
  refine TC.seq ?_
  refine TC.region ?_
  refine TL.pu (.move rfl) rfl ?_
  refine TL.callP (rword_fn b11 71 b c t z u22 rem22 hR22) rfl rfl rfl (.rw inferInstance (.ro inferInstance (.nil _))) rfl ?_ ?_
  · intro hn
    refine AQ.then_p ?_
    refine AQ.block_p ?_
    refine AQ.then_p ?_
    refine AQ.then_p ?_
    refine AQ.block_p ?_
    refine AQ.then_p ?_
    exact AQ.leave (rs := [.cell 2 41, .cell 3 42]) (.inr (.inr ⟨_, rfl, rfl⟩)) rfl (of1_pan b2 b3 _ rfl _) (.rw inferInstance (.rw inferInstance (.nil _))) Try.results6 (by rintro e' u' js ⟨rfl, hs', rfl⟩; exact ⟨_, _, _, rfl, hs', .cellA rfl inferInstance rfl (.cell1 rfl inferInstance rfl .nil), ⟨none, ofC_no (ofP_no (hq22.no (Fmt.num_n hn))), rfl, rfl⟩, .nil _⟩)
  rintro ⟨x23, rem23, u23⟩ ⟨hp23, hR23⟩
  dsimp only at hp23 hR23
  have hq23 := hq22.step (Fmt.num_p hp23)
  show TL _ _ _ _ _ _ _ ((79, vw x23) :: _) ([⟨b11, cel [u23] 71, true⟩] ++ _) _
  refine TL.pu (.move rfl) rfl ?_
  refine TL.callP (rword_fn b11 71 b c t z u23 rem23 hR23) rfl rfl rfl (.rw inferInstance (.ro inferInstance (.nil _))) rfl ?_ ?_
  · intro hn
    refine AQ.then_p ?_
    refine AQ.block_p ?_
    refine AQ.then_p ?_
    refine AQ.then_p ?_
    refine AQ.block_p ?_
    refine AQ.then_p ?_
    exact AQ.leave (rs := [.cell 2 41, .cell 3 42]) (.inr (.inr ⟨_, rfl, rfl⟩)) rfl (of1_pan b2 b3 _ rfl _) (.rw inferInstance (.rw inferInstance (.nil _))) Try.results6 (by rintro e' u' js ⟨rfl, hs', rfl⟩; exact ⟨_, _, _, rfl, hs', .cellA rfl inferInstance rfl (.cell1 rfl inferInstance rfl .nil), ⟨none, ofC_no (ofP_no (hq23.no (Fmt.num_n hn))), rfl, rfl⟩, .nil _⟩)
  rintro ⟨x24, rem24, u24⟩ ⟨hp24, hR24⟩
  dsimp only at hp24 hR24
  have hq24 := hq23.step (Fmt.num_p hp24)
  show TL _ _ _ _ _ _ _ ((81, vw x24) :: _) ([⟨b11, cel [u24] 71, true⟩] ++ _) _
  refine TL.pu (.move rfl) rfl ?_
  refine TL.callP (rword_fn b11 71 b c t z u24 rem24 hR24) rfl rfl rfl (.rw inferInstance (.ro inferInstance (.nil _))) rfl ?_ ?_
  · intro hn
    refine AQ.then_p ?_
    refine AQ.block_p ?_
    refine AQ.then_p ?_
    refine AQ.then_p ?_
    refine AQ.block_p ?_
    refine AQ.then_p ?_
    exact AQ.leave (rs := [.cell 2 41, .cell 3 42]) (.inr (.inr ⟨_, rfl, rfl⟩)) rfl (of1_pan b2 b3 _ rfl _) (.rw inferInstance (.rw inferInstance (.nil _))) Try.results6 (by rintro e' u' js ⟨rfl, hs', rfl⟩; exact ⟨_, _, _, rfl, hs', .cellA rfl inferInstance rfl (.cell1 rfl inferInstance rfl .nil), ⟨none, ofC_no (ofP_no (hq24.no (Fmt.num_n hn))), rfl, rfl⟩, .nil _⟩)
  rintro ⟨x25, rem25, u25⟩ ⟨hp25, hR25⟩
  dsimp only at hp25 hR25
  have hq25 := hq24.step (Fmt.num_p hp25)
  show TL _ _ _ _ _ _ _ ((83, vw x25) :: _) ([⟨b11, cel [u25] 71, true⟩] ++ _) _
  refine TL.pu (.build rfl rfl) rfl ?_
  refine TL.alloc rfl rfl (fun b7 => ?_)
  refine TL.storeA rfl rfl rfl rfl inferInstance rfl ?_
  refine TL.nil ?_
  refine AQ.then_n ?_
  refine TC.seq ?_
  refine TC.region ?_
  refine TL.pu (.move rfl) rfl ?_
  refine TL.callP (rnumber_fn 1 (by decide) b11 71 b c t z u25 rem25 hR25) rfl rfl rfl (.rw inferInstance (.ro inferInstance (.nil _))) rfl ?_ ?_
  · intro hn
    refine AQ.then_p ?_
    refine AQ.block_p ?_
    refine AQ.then_p ?_
    refine AQ.then_p ?_
    refine AQ.block_p ?_
    refine AQ.then_p ?_
    exact AQ.leave (rs := [.cell 2 41, .cell 3 42]) (.inr (.inr ⟨_, rfl, rfl⟩)) rfl (of1_pan b2 b3 _ rfl _) (.rw inferInstance (.rw inferInstance (.nil _))) Try.results6 (by rintro e' u' js ⟨rfl, hs', rfl⟩; exact ⟨_, _, _, rfl, hs', .cellA rfl inferInstance rfl (.cell1 rfl inferInstance rfl .nil), ⟨none, ofC_no (ofP_no (hq25.no (Fmt.num_n hn))), rfl, rfl⟩, .nil _⟩)
  rintro ⟨x26, rem26, u26⟩ ⟨hp26, hR26⟩
  dsimp only at hp26 hR26
  have hq26 := hq25.step (Fmt.num_p hp26)
  show TL _ _ _ _ _ _ _ ((86, vi x26) :: _) ([⟨b11, cel [u26] 71, true⟩] ++ _) _
  refine TL.pu (.conv rfl) rfl ?_
  refine TL.say 87 (vb x26) rfl (congrArg (Value.int .u8) (IntWalk.u8_in _ (by have := pNum_bound hR25.range hp26; omega))) ?_
  refine TL.pu (.move rfl) rfl ?_
  refine TL.callP (rbool_fn b11 71 b c t z u26 rem26 hR26) rfl rfl rfl (.rw inferInstance (.ro inferInstance (.nil _))) rfl ?_ ?_
  · intro hn
    refine AQ.then_p ?_
    refine AQ.block_p ?_
    refine AQ.then_p ?_
    refine AQ.then_p ?_
    refine AQ.block_p ?_
    refine AQ.then_p ?_
    exact AQ.leave (rs := [.cell 2 41, .cell 3 42]) (.inr (.inr ⟨_, rfl, rfl⟩)) rfl (of1_pan b2 b3 _ rfl _) (.rw inferInstance (.rw inferInstance (.nil _))) Try.results6 (by rintro e' u' js ⟨rfl, hs', rfl⟩; exact ⟨_, _, _, rfl, hs', .cellA rfl inferInstance rfl (.cell1 rfl inferInstance rfl .nil), ⟨none, ofC_no (ofP_no (hq26.no (Fmt.bool_n hn))), rfl, rfl⟩, .nil _⟩)
  rintro ⟨x27, rem27, u27⟩ ⟨hp27, hR27⟩
  dsimp only at hp27 hR27
  have hq27 := hq26.step (Fmt.bool_p hp27)
  show TL _ _ _ _ _ _ _ ((89, vt x27) :: _) ([⟨b11, cel [u27] 71, true⟩] ++ _) _
  refine TL.pu (.fieldAddr rfl (m := 2) rfl) rfl ?_
  refine TL.store1 rfl rfl rfl inferInstance rfl ?_
  refine TL.pu (.fieldAddr rfl (m := 3) rfl) rfl ?_
  refine TL.store1 rfl rfl rfl inferInstance rfl ?_
  refine TL.nil ?_
  refine AQ.then_n ?_
  refine TC.region ?_
  refine TL.pu (.move rfl) rfl ?_
  refine TL.rd (.loadA rfl inferInstance rfl) rfl ?_
  refine TL.pu (.fieldAddr rfl (m := 45) rfl) rfl ?_
  refine TL.pu (.fieldAddr rfl (m := 45) rfl) rfl ?_
  refine TL.pu (.indexAddrA rfl rfl (by decide) (by decide) (m := 50) rfl) rfl ?_
  refine TL.storeA rfl rfl rfl rfl inferInstance rfl ?_
  refine TL.nil ?_
  refine AQ.block_n ?_
  refine AQ.then_n ?_
  refine TC.region ?_
  refine TL.pu (.int rfl rfl rfl) rfl ?_
  refine TL.say 97 (.int .i64 2) rfl rfl ?_
  refine TL.pu (.move rfl) rfl ?_
  refine TL.nil ?_
  refine AQ.next ?_
  refine TC.seq ?_
  refine TC.region ?_
  refine TL.pu (.int rfl rfl rfl) rfl ?_
  refine TL.say 76 (.bool true) rfl rfl ?_
  refine TL.nil ?_
  refine AQ.then_n ?_
  refine TC.seq ?_
  refine TC.cond_t rfl ?_
  refine TC.skip ?_
  refine AQ.then_n ?_
  refine TC.seq ?_
  refine TC.block ?_
  refine TC.seq ?_
  refine TC.region ?_
  refine TL.pu (.move rfl) rfl ?_
  refine TL.pu (.assign rfl) rfl ?_
  refine TL.nil ?_
  refine AQ.then_n ?_
  refine TC.seq ?_
  refine TC.region ?_
  refine TL.pu (.move rfl) rfl ?_
  refine TL.callP (rword_fn b11 71 b c t z u27 rem27 hR27) rfl rfl rfl (.rw inferInstance (.ro inferInstance (.nil _))) rfl ?_ ?_
  · intro hn
    refine AQ.then_p ?_
    refine AQ.block_p ?_
    refine AQ.then_p ?_
    refine AQ.then_p ?_
    refine AQ.block_p ?_
    refine AQ.then_p ?_
    exact AQ.leave (rs := [.cell 2 41, .cell 3 42]) (.inr (.inr ⟨_, rfl, rfl⟩)) rfl (of1_pan b2 b3 _ rfl _) (.rw inferInstance (.rw inferInstance (.nil _))) Try.results6 (by rintro e' u' js ⟨rfl, hs', rfl⟩; exact ⟨_, _, _, rfl, hs', .cellA rfl inferInstance rfl (.cell1 rfl inferInstance rfl .nil), ⟨none, ofC_no (ofP_no (hq27.no (Fmt.num_n hn))), rfl, rfl⟩, .nil _⟩)
  rintro ⟨x28, rem28, u28⟩ ⟨hp28, hR28⟩
  dsimp only at hp28 hR28
  have hq28 := hq27.step (Fmt.num_p hp28)
  show TL _ _ _ _ _ _ _ ((79, vw x28) :: _) ([⟨b11, cel [u28] 71, true⟩] ++ _) _
  refine TL.pu (.move rfl) rfl ?_
  refine TL.callP (rword_fn b11 71 b c t z u28 rem28 hR28) rfl rfl rfl (.rw inferInstance (.ro inferInstance (.nil _))) rfl ?_ ?_
  · intro hn
    refine AQ.then_p ?_
    refine AQ.block_p ?_
    refine AQ.then_p ?_
    refine AQ.then_p ?_
    refine AQ.block_p ?_
    refine AQ.then_p ?_
    exact AQ.leave (rs := [.cell 2 41, .cell 3 42]) (.inr (.inr ⟨_, rfl, rfl⟩)) rfl (of1_pan b2 b3 _ rfl _) (.rw inferInstance (.rw inferInstance (.nil _))) Try.results6 (by rintro e' u' js ⟨rfl, hs', rfl⟩; exact ⟨_, _, _, rfl, hs', .cellA rfl inferInstance rfl (.cell1 rfl inferInstance rfl .nil), ⟨none, ofC_no (ofP_no (hq28.no (Fmt.num_n hn))), rfl, rfl⟩, .nil _⟩)
  rintro ⟨x29, rem29, u29⟩ ⟨hp29, hR29⟩
  dsimp only at hp29 hR29
  have hq29 := hq28.step (Fmt.num_p hp29)
  show TL _ _ _ _ _ _ _ ((81, vw x29) :: _) ([⟨b11, cel [u29] 71, true⟩] ++ _) _
  refine TL.pu (.move rfl) rfl ?_
  refine TL.callP (rword_fn b11 71 b c t z u29 rem29 hR29) rfl rfl rfl (.rw inferInstance (.ro inferInstance (.nil _))) rfl ?_ ?_
  · intro hn
    refine AQ.then_p ?_
    refine AQ.block_p ?_
    refine AQ.then_p ?_
    refine AQ.then_p ?_
    refine AQ.block_p ?_
    refine AQ.then_p ?_
    exact AQ.leave (rs := [.cell 2 41, .cell 3 42]) (.inr (.inr ⟨_, rfl, rfl⟩)) rfl (of1_pan b2 b3 _ rfl _) (.rw inferInstance (.rw inferInstance (.nil _))) Try.results6 (by rintro e' u' js ⟨rfl, hs', rfl⟩; exact ⟨_, _, _, rfl, hs', .cellA rfl inferInstance rfl (.cell1 rfl inferInstance rfl .nil), ⟨none, ofC_no (ofP_no (hq29.no (Fmt.num_n hn))), rfl, rfl⟩, .nil _⟩)
  rintro ⟨x30, rem30, u30⟩ ⟨hp30, hR30⟩
  dsimp only at hp30 hR30
  have hq30 := hq29.step (Fmt.num_p hp30)
  show TL _ _ _ _ _ _ _ ((83, vw x30) :: _) ([⟨b11, cel [u30] 71, true⟩] ++ _) _
  refine TL.pu (.build rfl rfl) rfl ?_
  refine TL.alloc rfl rfl (fun b7 => ?_)
  refine TL.storeA rfl rfl rfl rfl inferInstance rfl ?_
  refine TL.nil ?_
  refine AQ.then_n ?_
  refine TC.seq ?_
  refine TC.region ?_
  refine TL.pu (.move rfl) rfl ?_
  refine TL.callP (rnumber_fn 1 (by decide) b11 71 b c t z u30 rem30 hR30) rfl rfl rfl (.rw inferInstance (.ro inferInstance (.nil _))) rfl ?_ ?_
  · intro hn
    refine AQ.then_p ?_
    refine AQ.block_p ?_
    refine AQ.then_p ?_
    refine AQ.then_p ?_
    refine AQ.block_p ?_
    refine AQ.then_p ?_
    exact AQ.leave (rs := [.cell 2 41, .cell 3 42]) (.inr (.inr ⟨_, rfl, rfl⟩)) rfl (of1_pan b2 b3 _ rfl _) (.rw inferInstance (.rw inferInstance (.nil _))) Try.results6 (by rintro e' u' js ⟨rfl, hs', rfl⟩; exact ⟨_, _, _, rfl, hs', .cellA rfl inferInstance rfl (.cell1 rfl inferInstance rfl .nil), ⟨none, ofC_no (ofP_no (hq30.no (Fmt.num_n hn))), rfl, rfl⟩, .nil _⟩)
  rintro ⟨x31, rem31, u31⟩ ⟨hp31, hR31⟩
  dsimp only at hp31 hR31
  have hq31 := hq30.step (Fmt.num_p hp31)
  show TL _ _ _ _ _ _ _ ((86, vi x31) :: _) ([⟨b11, cel [u31] 71, true⟩] ++ _) _
  refine TL.pu (.conv rfl) rfl ?_
  refine TL.say 87 (vb x31) rfl (congrArg (Value.int .u8) (IntWalk.u8_in _ (by have := pNum_bound hR30.range hp31; omega))) ?_
  refine TL.pu (.move rfl) rfl ?_
  refine TL.callP (rbool_fn b11 71 b c t z u31 rem31 hR31) rfl rfl rfl (.rw inferInstance (.ro inferInstance (.nil _))) rfl ?_ ?_
  · intro hn
    refine AQ.then_p ?_
    refine AQ.block_p ?_
    refine AQ.then_p ?_
    refine AQ.then_p ?_
    refine AQ.block_p ?_
    refine AQ.then_p ?_
    exact AQ.leave (rs := [.cell 2 41, .cell 3 42]) (.inr (.inr ⟨_, rfl, rfl⟩)) rfl (of1_pan b2 b3 _ rfl _) (.rw inferInstance (.rw inferInstance (.nil _))) Try.results6 (by rintro e' u' js ⟨rfl, hs', rfl⟩; exact ⟨_, _, _, rfl, hs', .cellA rfl inferInstance rfl (.cell1 rfl inferInstance rfl .nil), ⟨none, ofC_no (ofP_no (hq31.no (Fmt.bool_n hn))), rfl, rfl⟩, .nil _⟩)
  rintro ⟨x32, rem32, u32⟩ ⟨hp32, hR32⟩
  dsimp only at hp32 hR32
  have hq32 := hq31.step (Fmt.bool_p hp32)
  show TL _ _ _ _ _ _ _ ((89, vt x32) :: _) ([⟨b11, cel [u32] 71, true⟩] ++ _) _
  refine TL.pu (.fieldAddr rfl (m := 2) rfl) rfl ?_
  refine TL.store1 rfl rfl rfl inferInstance rfl ?_
  refine TL.pu (.fieldAddr rfl (m := 3) rfl) rfl ?_
  refine TL.store1 rfl rfl rfl inferInstance rfl ?_
  refine TL.nil ?_
  refine AQ.then_n ?_
  refine TC.region ?_
  refine TL.pu (.move rfl) rfl ?_
  refine TL.rd (.loadA rfl inferInstance rfl) rfl ?_
  refine TL.pu (.fieldAddr rfl (m := 45) rfl) rfl ?_
  refine TL.pu (.fieldAddr rfl (m := 45) rfl) rfl ?_
  refine TL.pu (.indexAddrA rfl rfl (by decide) (by decide) (m := 55) rfl) rfl ?_
  refine TL.storeA rfl rfl rfl rfl inferInstance rfl ?_
  refine TL.nil ?_
  refine AQ.block_n ?_
  refine AQ.then_n ?_
  refine TC.region ?_
  refine TL.pu (.int rfl rfl rfl) rfl ?_
  refine TL.say 97 (.int .i64 3) rfl rfl ?_
  refine TL.pu (.move rfl) rfl ?_
  refine TL.nil ?_
  refine AQ.next ?_
  refine TC.seq ?_
  refine TC.region ?_
  refine TL.pu (.int rfl rfl rfl) rfl ?_
  refine TL.say 76 (.bool false) rfl rfl ?_
  refine TL.nil ?_
  refine AQ.then_n ?_
  refine TC.seq ?_
  refine TC.cond_f rfl ?_
  refine TC.exit ?_
  refine AQ.then_x ?_
  refine AQ.then_x ?_
  refine AQ.block_x ?_
  refine AQ.then_n ?_
  refine TC.seq ?_
  refine TC.region ?_
  refine TL.pu (.move rfl) rfl ?_
  refine TL.callP (rnumber_fn 1 (by decide) b11 71 b c t z u32 rem32 hR32) rfl rfl rfl (.rw inferInstance (.ro inferInstance (.nil _))) rfl ?_ ?_
  · intro hn
    refine AQ.then_p ?_
    exact AQ.leave (rs := [.cell 2 41, .cell 3 42]) (.inr (.inr ⟨_, rfl, rfl⟩)) rfl (of1_pan b2 b3 _ rfl _) (.rw inferInstance (.rw inferInstance (.nil _))) Try.results6 (by rintro e' u' js ⟨rfl, hs', rfl⟩; exact ⟨_, _, _, rfl, hs', .cellA rfl inferInstance rfl (.cell1 rfl inferInstance rfl .nil), ⟨none, ofC_no (ofP_no (hq32.no (Fmt.num_n hn))), rfl, rfl⟩, .nil _⟩)
  rintro ⟨x33, rem33, u33⟩ ⟨hp33, hR33⟩
  dsimp only at hp33 hR33
  have hq33 := hq32.step (Fmt.num_p hp33)
  show TL _ _ _ _ _ _ _ ((99, vi x33) :: _) ([⟨b11, cel [u33] 71, true⟩] ++ _) _
  refine TL.pu (.fieldAddr rfl (m := 45) rfl) rfl ?_
  refine TL.pu (.fieldAddr rfl (m := 60) rfl) rfl ?_
  refine TL.store1 rfl rfl rfl inferInstance rfl ?_
  refine TL.nil ?_
  refine AQ.then_n ?_
  refine TC.seq ?_
  refine TC.region ?_
  refine TL.pu (.move rfl) rfl ?_
  refine TL.callP (rnumber_fn 1 (by decide) b11 71 b c t z u33 rem33 hR33) rfl rfl rfl (.rw inferInstance (.ro inferInstance (.nil _))) rfl ?_ ?_
  · intro hn
    refine AQ.then_p ?_
    exact AQ.leave (rs := [.cell 2 41, .cell 3 42]) (.inr (.inr ⟨_, rfl, rfl⟩)) rfl (of1_pan b2 b3 _ rfl _) (.rw inferInstance (.rw inferInstance (.nil _))) Try.results6 (by rintro e' u' js ⟨rfl, hs', rfl⟩; exact ⟨_, _, _, rfl, hs', .cellA rfl inferInstance rfl (.cell1 rfl inferInstance rfl .nil), ⟨none, ofC_no (ofP_no (hq33.no (Fmt.num_n hn))), rfl, rfl⟩, .nil _⟩)
  rintro ⟨x34, rem34, u34⟩ ⟨hp34, hR34⟩
  dsimp only at hp34 hR34
  have hq34 := hq33.step (Fmt.num_p hp34)
  show TL _ _ _ _ _ _ _ ((103, vi x34) :: _) ([⟨b11, cel [u34] 71, true⟩] ++ _) _
  refine TL.pu (.move rfl) rfl ?_
  refine TL.callP (rnumber_fn 1 (by decide) b11 71 b c t z u34 rem34 hR34) rfl rfl rfl (.rw inferInstance (.ro inferInstance (.nil _))) rfl ?_ ?_
  · intro hn
    refine AQ.then_p ?_
    exact AQ.leave (rs := [.cell 2 41, .cell 3 42]) (.inr (.inr ⟨_, rfl, rfl⟩)) rfl (of1_pan b2 b3 _ rfl _) (.rw inferInstance (.rw inferInstance (.nil _))) Try.results6 (by rintro e' u' js ⟨rfl, hs', rfl⟩; exact ⟨_, _, _, rfl, hs', .cellA rfl inferInstance rfl (.cell1 rfl inferInstance rfl .nil), ⟨none, ofC_no (ofP_no (hq34.no (Fmt.num_n hn))), rfl, rfl⟩, .nil _⟩)
  rintro ⟨x35, rem35, u35⟩ ⟨hp35, hR35⟩
  dsimp only at hp35 hR35
  have hq35 := hq34.step (Fmt.num_p hp35)
  show TL _ _ _ _ _ _ _ ((105, vi x35) :: _) ([⟨b11, cel [u35] 71, true⟩] ++ _) _
  refine TL.pu (.move rfl) rfl ?_
  refine TL.callP (rnumber_fn 4 (by decide) b11 71 b c t z u35 rem35 hR35) rfl rfl rfl (.rw inferInstance (.ro inferInstance (.nil _))) rfl ?_ ?_
  · intro hn
    refine AQ.then_p ?_
    exact AQ.leave (rs := [.cell 2 41, .cell 3 42]) (.inr (.inr ⟨_, rfl, rfl⟩)) rfl (of1_pan b2 b3 _ rfl _) (.rw inferInstance (.rw inferInstance (.nil _))) Try.results6 (by rintro e' u' js ⟨rfl, hs', rfl⟩; exact ⟨_, _, _, rfl, hs', .cellA rfl inferInstance rfl (.cell1 rfl inferInstance rfl .nil), ⟨none, ofC_no (ofP_no (hq35.no (Fmt.num_n hn))), rfl, rfl⟩, .nil _⟩)
  rintro ⟨x36, rem36, u36⟩ ⟨hp36, hR36⟩
  dsimp only at hp36 hR36
  have hq36 := hq35.step (Fmt.num_p hp36)
  show TL _ _ _ _ _ _ _ ((107, vi x36) :: _) ([⟨b11, cel [u36] 71, true⟩] ++ _) _
  refine TL.pu (.move rfl) rfl ?_
  refine TL.callP (rbool_fn b11 71 b c t z u36 rem36 hR36) rfl rfl rfl (.rw inferInstance (.ro inferInstance (.nil _))) rfl ?_ ?_
  · intro hn
    refine AQ.then_p ?_
    exact AQ.leave (rs := [.cell 2 41, .cell 3 42]) (.inr (.inr ⟨_, rfl, rfl⟩)) rfl (of1_pan b2 b3 _ rfl _) (.rw inferInstance (.rw inferInstance (.nil _))) Try.results6 (by rintro e' u' js ⟨rfl, hs', rfl⟩; exact ⟨_, _, _, rfl, hs', .cellA rfl inferInstance rfl (.cell1 rfl inferInstance rfl .nil), ⟨none, ofC_no (ofP_no (hq36.no (Fmt.bool_n hn))), rfl, rfl⟩, .nil _⟩)
  rintro ⟨x37, rem37, u37⟩ ⟨hp37, hR37⟩
  dsimp only at hp37 hR37
  have hq37 := hq36.step (Fmt.bool_p hp37)
  show TL _ _ _ _ _ _ _ ((109, vt x37) :: _) ([⟨b11, cel [u37] 71, true⟩] ++ _) _
  refine TL.pu (.build rfl rfl) rfl ?_
  refine TL.pu (.fieldAddr rfl (m := 61) rfl) rfl ?_
  refine TL.storeA rfl rfl rfl rfl inferInstance rfl ?_
  refine TL.nil ?_
  refine AQ.then_n ?_
  refine TC.seq ?_
  refine TC.region ?_
  refine TL.pu (.move rfl) rfl ?_
  refine TL.callP (rword_fn b11 71 b c t z u37 rem37 hR37) rfl rfl rfl (.rw inferInstance (.ro inferInstance (.nil _))) rfl ?_ ?_
  · intro hn
    refine AQ.then_p ?_
    exact AQ.leave (rs := [.cell 2 41, .cell 3 42]) (.inr (.inr ⟨_, rfl, rfl⟩)) rfl (of1_pan b2 b3 _ rfl _) (.rw inferInstance (.rw inferInstance (.nil _))) Try.results6 (by rintro e' u' js ⟨rfl, hs', rfl⟩; exact ⟨_, _, _, rfl, hs', .cellA rfl inferInstance rfl (.cell1 rfl inferInstance rfl .nil), ⟨none, ofC_no (ofP_no (hq37.no (Fmt.num_n hn))), rfl, rfl⟩, .nil _⟩)
  rintro ⟨x38, rem38, u38⟩ ⟨hp38, hR38⟩
  dsimp only at hp38 hR38
  have hq38 := hq37.step (Fmt.num_p hp38)
  show TL _ _ _ _ _ _ _ ((113, vw x38) :: _) ([⟨b11, cel [u38] 71, true⟩] ++ _) _
  refine TL.pu (.move rfl) rfl ?_
  refine TL.callP (rword_fn b11 71 b c t z u38 rem38 hR38) rfl rfl rfl (.rw inferInstance (.ro inferInstance (.nil _))) rfl ?_ ?_
  · intro hn
    refine AQ.then_p ?_
    exact AQ.leave (rs := [.cell 2 41, .cell 3 42]) (.inr (.inr ⟨_, rfl, rfl⟩)) rfl (of1_pan b2 b3 _ rfl _) (.rw inferInstance (.rw inferInstance (.nil _))) Try.results6 (by rintro e' u' js ⟨rfl, hs', rfl⟩; exact ⟨_, _, _, rfl, hs', .cellA rfl inferInstance rfl (.cell1 rfl inferInstance rfl .nil), ⟨none, ofC_no (ofP_no (hq38.no (Fmt.num_n hn))), rfl, rfl⟩, .nil _⟩)
  rintro ⟨x39, rem39, u39⟩ ⟨hp39, hR39⟩
  dsimp only at hp39 hR39
  have hq39 := hq38.step (Fmt.num_p hp39)
  show TL _ _ _ _ _ _ _ ((115, vw x39) :: _) ([⟨b11, cel [u39] 71, true⟩] ++ _) _
  refine TL.pu (.fieldAddr rfl (m := 65) rfl) rfl ?_
  refine TL.store1 rfl rfl rfl inferInstance rfl ?_
  refine TL.pu (.fieldAddr rfl (m := 66) rfl) rfl ?_
  refine TL.store1 rfl rfl rfl inferInstance rfl ?_
  refine TL.nil ?_
  refine AQ.then_n ?_
  refine TC.seq ?_
  refine TC.region ?_
  refine TL.pu (.move rfl) rfl ?_
  refine TL.callP (rbool_fn b11 71 b c t z u39 rem39 hR39) rfl rfl rfl (.rw inferInstance (.ro inferInstance (.nil _))) rfl ?_ ?_
  · intro hn
    refine AQ.then_p ?_
    exact AQ.leave (rs := [.cell 2 41, .cell 3 42]) (.inr (.inr ⟨_, rfl, rfl⟩)) rfl (of1_pan b2 b3 _ rfl _) (.rw inferInstance (.rw inferInstance (.nil _))) Try.results6 (by rintro e' u' js ⟨rfl, hs', rfl⟩; exact ⟨_, _, _, rfl, hs', .cellA rfl inferInstance rfl (.cell1 rfl inferInstance rfl .nil), ⟨none, ofC_no (ofP_no (hq39.no (Fmt.bool_n hn))), rfl, rfl⟩, .nil _⟩)
  rintro ⟨x40, rem40, u40⟩ ⟨hp40, hR40⟩
  dsimp only at hp40 hR40
  have hq40 := hq39.step (Fmt.bool_p hp40)
  show TL _ _ _ _ _ _ _ ((119, vt x40) :: _) ([⟨b11, cel [u40] 71, true⟩] ++ _) _
  refine TL.pu (.move rfl) rfl ?_
  refine TL.callP (rbool_fn b11 71 b c t z u40 rem40 hR40) rfl rfl rfl (.rw inferInstance (.ro inferInstance (.nil _))) rfl ?_ ?_
  · intro hn
    refine AQ.then_p ?_
    exact AQ.leave (rs := [.cell 2 41, .cell 3 42]) (.inr (.inr ⟨_, rfl, rfl⟩)) rfl (of1_pan b2 b3 _ rfl _) (.rw inferInstance (.rw inferInstance (.nil _))) Try.results6 (by rintro e' u' js ⟨rfl, hs', rfl⟩; exact ⟨_, _, _, rfl, hs', .cellA rfl inferInstance rfl (.cell1 rfl inferInstance rfl .nil), ⟨none, ofC_no (ofP_no (hq40.no (Fmt.bool_n hn))), rfl, rfl⟩, .nil _⟩)
  rintro ⟨x41, rem41, u41⟩ ⟨hp41, hR41⟩
  dsimp only at hp41 hR41
  have hq41 := hq40.step (Fmt.bool_p hp41)
  show TL _ _ _ _ _ _ _ ((121, vt x41) :: _) ([⟨b11, cel [u41] 71, true⟩] ++ _) _
  refine TL.pu (.move rfl) rfl ?_
  refine TL.callP (rbool_fn b11 71 b c t z u41 rem41 hR41) rfl rfl rfl (.rw inferInstance (.ro inferInstance (.nil _))) rfl ?_ ?_
  · intro hn
    refine AQ.then_p ?_
    exact AQ.leave (rs := [.cell 2 41, .cell 3 42]) (.inr (.inr ⟨_, rfl, rfl⟩)) rfl (of1_pan b2 b3 _ rfl _) (.rw inferInstance (.rw inferInstance (.nil _))) Try.results6 (by rintro e' u' js ⟨rfl, hs', rfl⟩; exact ⟨_, _, _, rfl, hs', .cellA rfl inferInstance rfl (.cell1 rfl inferInstance rfl .nil), ⟨none, ofC_no (ofP_no (hq41.no (Fmt.bool_n hn))), rfl, rfl⟩, .nil _⟩)
  rintro ⟨x42, rem42, u42⟩ ⟨hp42, hR42⟩
  dsimp only at hp42 hR42
  have hq42 := hq41.step (Fmt.bool_p hp42)
  show TL _ _ _ _ _ _ _ ((123, vt x42) :: _) ([⟨b11, cel [u42] 71, true⟩] ++ _) _
  refine TL.pu (.fieldAddr rfl (m := 67) rfl) rfl ?_
  refine TL.store1 rfl rfl rfl inferInstance rfl ?_
  refine TL.pu (.fieldAddr rfl (m := 68) rfl) rfl ?_
  refine TL.store1 rfl rfl rfl inferInstance rfl ?_
  refine TL.pu (.fieldAddr rfl (m := 71) rfl) rfl ?_
  refine TL.store1 rfl rfl rfl inferInstance rfl ?_
  refine TL.nil ?_
  refine AQ.then_n ?_
  refine TC.seq ?_
  refine TC.region ?_
  refine TL.pu (.move rfl) rfl ?_
  refine TL.callP (rnumber_fn 1 (by decide) b11 71 b c t z u42 rem42 hR42) rfl rfl rfl (.rw inferInstance (.ro inferInstance (.nil _))) rfl ?_ ?_
  · intro hn
    refine AQ.then_p ?_
    exact AQ.leave (rs := [.cell 2 41, .cell 3 42]) (.inr (.inr ⟨_, rfl, rfl⟩)) rfl (of1_pan b2 b3 _ rfl _) (.rw inferInstance (.rw inferInstance (.nil _))) Try.results6 (by rintro e' u' js ⟨rfl, hs', rfl⟩; exact ⟨_, _, _, rfl, hs', .cellA rfl inferInstance rfl (.cell1 rfl inferInstance rfl .nil), ⟨none, ofC_no (ofP_no (hq42.no (Fmt.num_n hn))), rfl, rfl⟩, .nil _⟩)
  rintro ⟨x43, rem43, u43⟩ ⟨hp43, hR43⟩
  dsimp only at hp43 hR43
  have hq43 := hq42.step (Fmt.num_p hp43)
  show TL _ _ _ _ _ _ _ ((128, vi x43) :: _) ([⟨b11, cel [u43] 71, true⟩] ++ _) _
  refine TL.pu (.conv rfl) rfl ?_
  refine TL.say 129 (vb x43) rfl (congrArg (Value.int .u8) (IntWalk.u8_in _ (by have := pNum_bound hR42.range hp43; omega))) ?_
  refine TL.pu (.move rfl) rfl ?_
  refine TL.callP (rnumber_fn 1 (by decide) b11 71 b c t z u43 rem43 hR43) rfl rfl rfl (.rw inferInstance (.ro inferInstance (.nil _))) rfl ?_ ?_
  · intro hn
    refine AQ.then_p ?_
    exact AQ.leave (rs := [.cell 2 41, .cell 3 42]) (.inr (.inr ⟨_, rfl, rfl⟩)) rfl (of1_pan b2 b3 _ rfl _) (.rw inferInstance (.rw inferInstance (.nil _))) Try.results6 (by rintro e' u' js ⟨rfl, hs', rfl⟩; exact ⟨_, _, _, rfl, hs', .cellA rfl inferInstance rfl (.cell1 rfl inferInstance rfl .nil), ⟨none, ofC_no (ofP_no (hq43.no (Fmt.num_n hn))), rfl, rfl⟩, .nil _⟩)
  rintro ⟨x44, rem44, u44⟩ ⟨hp44, hR44⟩
  dsimp only at hp44 hR44
  have hq44 := hq43.step (Fmt.num_p hp44)
  show TL _ _ _ _ _ _ _ ((131, vi x44) :: _) ([⟨b11, cel [u44] 71, true⟩] ++ _) _
  refine TL.pu (.conv rfl) rfl ?_
  refine TL.say 132 (vb x44) rfl (congrArg (Value.int .u8) (IntWalk.u8_in _ (by have := pNum_bound hR43.range hp44; omega))) ?_
  refine TL.pu (.build rfl rfl) rfl ?_
  refine TL.pu (.fieldAddr rfl (m := 69) rfl) rfl ?_
  refine TL.storeA rfl rfl rfl rfl inferInstance rfl ?_
  refine TL.nil ?_
  refine AQ.then_n ?_
  refine TC.seq ?_
  refine TC.region ?_
  refine TL.pu (.move rfl) rfl ?_
  refine TL.callP (rnumber_fn 4 (by decide) b11 71 b c t z u44 rem44 hR44) rfl rfl rfl (.rw inferInstance (.ro inferInstance (.nil _))) rfl ?_ ?_
  · intro hn
    refine AQ.then_p ?_
    exact AQ.leave (rs := [.cell 2 41, .cell 3 42]) (.inr (.inr ⟨_, rfl, rfl⟩)) rfl (of1_pan b2 b3 _ rfl _) (.rw inferInstance (.rw inferInstance (.nil _))) Try.results6 (by rintro e' u' js ⟨rfl, hs', rfl⟩; exact ⟨_, _, _, rfl, hs', .cellA rfl inferInstance rfl (.cell1 rfl inferInstance rfl .nil), ⟨none, ofC_no (ofP_no (hq44.no (Fmt.num_n hn))), rfl, rfl⟩, .nil _⟩)
  rintro ⟨x45, rem45, u45⟩ ⟨hp45, hR45⟩
  dsimp only at hp45 hR45
  have hq45 := hq44.step (Fmt.num_p hp45)
  show TL _ _ _ _ _ _ _ ((136, vi x45) :: _) ([⟨b11, cel [u45] 71, true⟩] ++ _) _
  refine TL.pu (.move rfl) rfl ?_
  refine TL.callP (rnumber_fn 4 (by decide) b11 71 b c t z u45 rem45 hR45) rfl rfl rfl (.rw inferInstance (.ro inferInstance (.nil _))) rfl ?_ ?_
  · intro hn
    refine AQ.then_p ?_
    exact AQ.leave (rs := [.cell 2 41, .cell 3 42]) (.inr (.inr ⟨_, rfl, rfl⟩)) rfl (of1_pan b2 b3 _ rfl _) (.rw inferInstance (.rw inferInstance (.nil _))) Try.results6 (by rintro e' u' js ⟨rfl, hs', rfl⟩; exact ⟨_, _, _, rfl, hs', .cellA rfl inferInstance rfl (.cell1 rfl inferInstance rfl .nil), ⟨none, ofC_no (ofP_no (hq45.no (Fmt.num_n hn))), rfl, rfl⟩, .nil _⟩)
  rintro ⟨x46, rem46, u46⟩ ⟨hp46, hR46⟩
  dsimp only at hp46 hR46
  have hq46 := hq45.step (Fmt.num_p hp46)
  show TL _ _ _ _ _ _ _ ((138, vi x46) :: _) ([⟨b11, cel [u46] 71, true⟩] ++ _) _
  refine TL.pu (.move rfl) rfl ?_
  refine TL.callP (rnumber_fn 4 (by decide) b11 71 b c t z u46 rem46 hR46) rfl rfl rfl (.rw inferInstance (.ro inferInstance (.nil _))) rfl ?_ ?_
  · intro hn
    refine AQ.then_p ?_
    exact AQ.leave (rs := [.cell 2 41, .cell 3 42]) (.inr (.inr ⟨_, rfl, rfl⟩)) rfl (of1_pan b2 b3 _ rfl _) (.rw inferInstance (.rw inferInstance (.nil _))) Try.results6 (by rintro e' u' js ⟨rfl, hs', rfl⟩; exact ⟨_, _, _, rfl, hs', .cellA rfl inferInstance rfl (.cell1 rfl inferInstance rfl .nil), ⟨none, ofC_no (ofP_no (hq46.no (Fmt.num_n hn))), rfl, rfl⟩, .nil _⟩)
  rintro ⟨x47, rem47, u47⟩ ⟨hp47, hR47⟩
  dsimp only at hp47 hR47
  have hq47 := hq46.step (Fmt.num_p hp47)
  show TL _ _ _ _ _ _ _ ((140, vi x47) :: _) ([⟨b11, cel [u47] 71, true⟩] ++ _) _
  refine TL.pu (.fieldAddr rfl (m := 72) rfl) rfl ?_
  refine TL.store1 rfl rfl rfl inferInstance rfl ?_
  refine TL.pu (.fieldAddr rfl (m := 73) rfl) rfl ?_
  refine TL.store1 rfl rfl rfl inferInstance rfl ?_
  refine TL.pu (.fieldAddr rfl (m := 74) rfl) rfl ?_
  refine TL.store1 rfl rfl rfl inferInstance rfl ?_
  refine TL.nil ?_
  refine AQ.then_n ?_
  refine TC.seq ?_
  refine TC.seq ?_
  refine TC.region ?_
  have hend : pMany machF (ys.drop 4) = some (machV ⟨x1, x2, v3, v4, v5, v6, v7, x8, x10, x9, x11, x13, x12, x14, x15, x16, x17, ⟨x18, x19, x21, x22, x20⟩, ⟨x23, x24, x26, x27, x25⟩, ⟨x28, x29, x31, x32, x30⟩, x33, x34, x35, x37, x36, x38, x39, x40, x41, x43, x44, x42, x45, x46, x47⟩ x3 x4 x5 x6 x7, rem47) := hq47.end_
  refine TL.pu (.move rfl) rfl ?_
  refine TL.pu (.nilCheck rfl) rfl ?_
  refine TL.pu (.fieldAddr rfl (m := 0) rfl) rfl ?_
  refine TL.rd (.load1 rfl inferInstance rfl) rfl ?_
  refine TL.pu (.lenSl rfl hR47.isl rfl) rfl ?_
  refine TL.pu (.int rfl rfl rfl) rfl ?_
  refine TL.pu (.move rfl) rfl ?_
  try (have hof : ofP ys = some (machV ⟨x1, x2, v3, v4, v5, v6, v7, x8, x10, x9, x11, x13, x12, x14, x15, x16, x17, ⟨x18, x19, x21, x22, x20⟩, ⟨x23, x24, x26, x27, x25⟩, ⟨x28, x29, x31, x32, x30⟩, x33, x34, x35, x37, x36, x38, x39, x40, x41, x43, x44, x42, x45, x46, x47⟩ x3 x4 x5 x6 x7) := ofP_some hmg (by rw [List.length_eq_zero_iff.1 (show rem47.length = 0 by omega)] at hend; exact hend))
  refine TL.guard_d rfl rfl (fun q3 => ?_) (fun q3 => ?_)
  · skip
    try (have hof : ofP ys = some (machV ⟨x1, x2, v3, v4, v5, v6, v7, x8, x10, x9, x11, x13, x12, x14, x15, x16, x17, ⟨x18, x19, x21, x22, x20⟩, ⟨x23, x24, x26, x27, x25⟩, ⟨x28, x29, x31, x32, x30⟩, x33, x34, x35, x37, x36, x38, x39, x40, x41, x43, x44, x42, x45, x46, x47⟩ x3 x4 x5 x6 x7) := ofP_some hmg (by rw [List.length_eq_zero_iff.1 (show rem47.length = 0 by omega)] at hend; exact hend))
    refine TL.guard_no rfl rfl rfl rfl ?_
    refine TL.guard_no rfl rfl rfl rfl ?_
    refine TL.guard_no rfl rfl rfl rfl ?_
    refine TL.pu (.pick_t rfl rfl) rfl ?_
    refine TL.nil ?_
    refine AQ.then_n ?_
    refine TC.cond_t rfl ?_
    refine TC.region ?_
    refine TL.pu (.build rfl rfl) rfl ?_
    refine TL.pu (.iface rfl rfl) rfl ?_
    have hbad : ofC ys none := by
      first
        | exact ofC_bad (m := ⟨x1, x2, v3, v4, v5, v6, v7, x8, x10, x9, x11, x13, x12, x14, x15, x16, x17, ⟨x18, x19, x21, x22, x20⟩, ⟨x23, x24, x26, x27, x25⟩, ⟨x28, x29, x31, x32, x30⟩, x33, x34, x35, x37, x36, x38, x39, x40, x41, x43, x44, x42, x45, x46, x47⟩) (y0 := x3) (y1 := x4) (y2 := x5) (y3 := x6) (y4 := x7) hof q4
        | exact ofC_left hend q3
    refine TL.panic rfl ?_
    refine AQ.then_p ?_
    exact AQ.leave (rs := [.cell 2 41, .cell 3 42]) (.inr (.inr ⟨_, rfl, rfl⟩)) rfl (of1_pan b2 b3 _ rfl _) (.rw inferInstance (.rw inferInstance (.nil _))) Try.results6 (by rintro e' u' js ⟨rfl, hs', rfl⟩; exact ⟨_, _, _, rfl, hs', .cellA rfl inferInstance rfl (.cell1 rfl inferInstance rfl .nil), ⟨none, hbad, rfl, rfl⟩, .nil _⟩)
  try (have hof : ofP ys = some (machV ⟨x1, x2, v3, v4, v5, v6, v7, x8, x10, x9, x11, x13, x12, x14, x15, x16, x17, ⟨x18, x19, x21, x22, x20⟩, ⟨x23, x24, x26, x27, x25⟩, ⟨x28, x29, x31, x32, x30⟩, x33, x34, x35, x37, x36, x38, x39, x40, x41, x43, x44, x42, x45, x46, x47⟩ x3 x4 x5 x6 x7) := ofP_some hmg (by rw [List.length_eq_zero_iff.1 (show rem47.length = 0 by omega)] at hend; exact hend))
  refine TL.guard_yes rfl rfl ?_
  refine TL.rd (.loadAll rfl inferInstance rfl) rfl ?_
  refine TL.guard_yes rfl rfl ?_
  refine TL.callD (check_fn ⟨x1, x2, v3, v4, v5, v6, v7, x8, x10, x9, x11, x13, x12, x14, x15, x16, x17, ⟨x18, x19, x21, x22, x20⟩, ⟨x23, x24, x26, x27, x25⟩, ⟨x28, x29, x31, x32, x30⟩, x33, x34, x35, x37, x36, x38, x39, x40, x41, x43, x44, x42, x45, x46, x47⟩ x3.length x4.length x5.length x6.length x7.length (hB3.isl (bys_length _)) (hB4.isl (bys_length _)) (hB5.isl (bys_length _)) (hB6.isl (bys_length _)) (hB7.isl (bys_length _))) rfl rfl rfl (.nil _) rfl ?_
  refine TL.guard_yes rfl rfl ?_
  refine TL.pu (.int rfl rfl rfl) rfl ?_
  refine TL.pu (.pick_f rfl rfl) rfl ?_
  refine TL.nil ?_
  refine AQ.then_n ?_
  refine TC.condd rfl (fun q4 => ?_) (fun q4 => ?_)
  · skip
    refine TC.region ?_
    refine TL.pu (.build rfl rfl) rfl ?_
    refine TL.pu (.iface rfl rfl) rfl ?_
    have hbad : ofC ys none := by
      first
        | exact ofC_bad (m := ⟨x1, x2, v3, v4, v5, v6, v7, x8, x10, x9, x11, x13, x12, x14, x15, x16, x17, ⟨x18, x19, x21, x22, x20⟩, ⟨x23, x24, x26, x27, x25⟩, ⟨x28, x29, x31, x32, x30⟩, x33, x34, x35, x37, x36, x38, x39, x40, x41, x43, x44, x42, x45, x46, x47⟩) (y0 := x3) (y1 := x4) (y2 := x5) (y3 := x6) (y4 := x7) hof q4
        | exact ofC_left hend q3
    refine TL.panic rfl ?_
    refine AQ.then_p ?_
    exact AQ.leave (rs := [.cell 2 41, .cell 3 42]) (.inr (.inr ⟨_, rfl, rfl⟩)) rfl (of1_pan b2 b3 _ rfl _) (.rw inferInstance (.rw inferInstance (.nil _))) Try.results6 (by rintro e' u' js ⟨rfl, hs', rfl⟩; exact ⟨_, _, _, rfl, hs', .cellA rfl inferInstance rfl (.cell1 rfl inferInstance rfl .nil), ⟨none, hbad, rfl, rfl⟩, .nil _⟩)
  refine TC.skip ?_
  refine AQ.then_n ?_
  refine TC.seq ?_
  refine TC.region ?_
  have hck := Decidable.not_not.1 q4
  refine TL.rd (.loadAll rfl inferInstance rfl) rfl ?_
  refine TL.storeAll rfl rfl rfl (by simp only [List.all_cons, hB3.one, hB4.one, hB5.one, hB6.one, hB7.one]; rfl) inferInstance rfl ?_
  refine TL.store1 rfl rfl rfl inferInstance rfl ?_
  refine TL.nil ?_
  refine AQ.then_n ?_
  refine TC.ret ?_
  exact AQ.leave (rs := [.cell 2 41, .cell 3 42]) (.inl ⟨rfl, rfl⟩) rfl (of1_ret b2 b3 _ _) (.rw inferInstance (.rw inferInstance (.nil _))) Try.results6 (by rintro e' u' js ⟨rfl, rfl, rfl⟩; exact ⟨_, _, _, rfl, rfl, .cellA rfl inferInstance rfl (.cell1 rfl inferInstance rfl .nil), ⟨some ⟨⟨x1, x2, v3, v4, v5, v6, v7, x8, x10, x9, x11, x13, x12, x14, x15, x16, x17, ⟨x18, x19, x21, x22, x20⟩, ⟨x23, x24, x26, x27, x25⟩, ⟨x28, x29, x31, x32, x30⟩, x33, x34, x35, x37, x36, x38, x39, x40, x41, x43, x44, x42, x45, x46, x47⟩, hb3, hb4, hb5, hb6, hb7, x3, x4, x5, x6, x7⟩, ⟨hof, hck, hB3, hB4, hB5, hB6, hB7⟩, rfl, rfl⟩, .seg inferInstance hB3.own' (.seg inferInstance hB4.own' (.seg inferInstance hB5.own' (.seg inferInstance hB6.own' (.last inferInstance hB7.own'))))⟩)
end Go.Sl