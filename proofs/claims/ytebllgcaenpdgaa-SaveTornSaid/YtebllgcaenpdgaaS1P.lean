/-
  The plain law of saving: what is written of a machine is read as it, and what is read of bytes is written as these. No program in sight.
-/
import Derived.Test.YtebllgcaenpdgaaS1O
set_option linter.all false
namespace Go.Sl
open Go Go.Proofs
def rng (l : List Int) : Prop := ∀ x ∈ l, 0 ≤ x ∧ x < 256
theorem rng_append {a b : List Int} (ha : rng a) (hb : rng b) : rng (a ++ b) := fun x hx => (List.mem_append.1 hx).elim (ha x) (hb x)
theorem rng_left {a b : List Int} (h : rng (a ++ b)) : rng a := fun x hx => h x (List.mem_append_left _ hx)
theorem rng_right {a b : List Int} (h : rng (a ++ b)) : rng b := fun x hx => h x (List.mem_append_right _ hx)
theorem numB_rng (n : Int) : ∀ s, rng (numB n s)
  | 0 => by simp [numB, rng]
  | s + 1 => by
    intro x hx
    simp only [numB, List.mem_cons] at hx
    rcases hx with rfl | hx
    · exact ⟨Int.emod_nonneg _ (by decide), Int.emod_lt_of_pos _ (by decide)⟩
    · exact numB_rng n s x hx
theorem valB_acc : ∀ (l : List Int) (a : Int), valB l a = a * 256 ^ l.length + valB l 0
  | [], a => by simp [valB]
  | x :: l, a => by
    simp only [valB, List.length_cons]
    rw [valB_acc l (a * 256 + x), valB_acc l (0 * 256 + x), Int.pow_succ]
    have : (a * 256 + x) * 256 ^ l.length = a * (256 ^ l.length * 256) + (0 * 256 + x) * 256 ^ l.length := by
      rw [Int.add_mul, Int.mul_assoc, Int.mul_comm 256]; simp
    rw [this]; omega
theorem pow256 (s : Nat) : (2 : Int) ^ (8 * s) = 256 ^ s := by
  rw [Int.pow_mul]; rfl
theorem pow256_pos (s : Nat) : (0 : Int) < 256 ^ s := Int.pow_pos (by decide)
theorem emod_split (n p : Int) (hp : 0 < p) : n % (p * 256) = n % p + p * (n / p % 256) := by
  have h1 := Int.emod_add_mul_ediv n p
  have h2 := Int.emod_add_mul_ediv (n / p) 256
  have h3 : n = (n % p + p * (n / p % 256)) + (p * 256) * (n / p / 256) := by
    have : p * (n / p) = p * (n / p % 256) + p * 256 * (n / p / 256) := by
      rw [Int.mul_assoc, ← Int.mul_add, h2]
    omega
  have b1 := Int.emod_nonneg n (Int.ne_of_gt hp)
  have b2 := Int.emod_lt_of_pos n hp
  have b3 := Int.emod_nonneg (n / p) (show (256 : Int) ≠ 0 by decide)
  have b4 := Int.emod_lt_of_pos (n / p) (show (0 : Int) < 256 by decide)
  have b5 : p * (n / p % 256) ≤ p * 255 := Int.mul_le_mul_of_nonneg_left (by omega) (by omega)
  have b6 : 0 ≤ p * (n / p % 256) := Int.mul_nonneg (by omega) b3
  rw [show n % (p * 256) = ((n % p + p * (n / p % 256)) + (p * 256) * (n / p / 256)) % (p * 256) from by rw [← h3]]
  rw [Int.add_mul_emod_self_left, Int.emod_eq_of_lt (by omega) (by omega)]
theorem valB_numB (n : Int) : ∀ s, valB (numB n s) 0 = n % 256 ^ s
  | 0 => by simp [numB, valB, Int.emod_one]
  | s + 1 => by
    have hp := pow256_pos s
    simp only [numB, valB]
    rw [valB_acc, valB_numB n s, numB_length, pow256, Int.pow_succ, emod_split n _ hp, Int.zero_mul, Int.zero_add, Int.mul_comm]
    omega
theorem valB_numB' {n : Int} {s : Nat} (h0 : 0 ≤ n) (h1 : n < 256 ^ s) : valB (numB n s) 0 = n := by rw [valB_numB, Int.emod_eq_of_lt h0 h1]
theorem valB_lt {l : List Int} (h : rng l) : 0 ≤ valB l 0 ∧ valB l 0 < 256 ^ l.length := by
  have := valB_bound l 0 0 h (by decide) (by decide)
  simpa using this
theorem numB_add (a n : Int) (k : Nat) : ∀ s, s ≤ k → numB (a * 256 ^ k + n) s = numB n s
  | 0, _ => rfl
  | s + 1, h => by
    simp only [numB]
    rw [numB_add a n k s (by omega), pow256]
    congr 1
    have hp := pow256_pos s
    obtain ⟨j, rfl⟩ : ∃ j, k = s + (j + 1) := ⟨k - s - 1, by omega⟩
    have e : a * 256 ^ (s + (j + 1)) + n = n + a * 256 ^ j * 256 * 256 ^ s := by
      rw [Int.pow_add, Int.pow_succ, Int.add_comm]
      congr 1
      rw [Int.mul_comm (256 ^ s), ← Int.mul_assoc, ← Int.mul_assoc]
    rw [e, Int.add_mul_ediv_right _ _ (Int.ne_of_gt hp), Int.add_mul_emod_self_right]
theorem numB_valB : ∀ {l : List Int}, rng l → numB (valB l 0) l.length = l
  | [], _ => rfl
  | x :: l, h => by
    have hl : rng l := fun y hy => h y (List.mem_cons_of_mem _ hy)
    have hx := h x List.mem_cons_self
    have hb := valB_lt hl
    have hp := pow256_pos l.length
    simp only [valB, List.length_cons, numB]
    rw [valB_acc, Int.zero_mul, Int.zero_add, numB_add _ _ _ _ (Nat.le_refl _), numB_valB hl, pow256]
    congr 1
    rw [Int.add_comm, Int.add_mul_ediv_right _ _ (Int.ne_of_gt hp), Int.ediv_eq_zero_of_lt hb.1 hb.2]
    omega

/-! ### fields -/
theorem pNum_w {n : Int} {s : Nat} (h0 : 0 ≤ n) (h1 : n < 256 ^ s) (r : List Int) : pNum s (numB n s ++ r) = some (n, r) := by
  have hl := numB_length n s
  unfold pNum
  rw [if_neg (by rw [List.length_append, hl]; omega), List.take_left' hl, List.drop_left' hl, valB_numB' h0 h1]
theorem pNum_r {n : Int} {s : Nat} {l r : List Int} (hl : rng l) (h : pNum s l = some (n, r)) : l = numB n s ++ r := by
  obtain ⟨h1, rfl, rfl⟩ := pNum_some h
  have h2 : rng (l.take s) := fun x hx => hl x (List.mem_of_mem_take hx)
  have h3 : (l.take s).length = s := by rw [List.length_take]; omega
  have h4 := numB_valB h2
  rw [h3] at h4
  rw [h4, List.take_append_drop]
theorem pBool_w (b : Bool) (r : List Int) : pBool (boolsB [b] ++ r) = some (b, r) := by
  unfold pBool
  simp only [boolsB, List.append_nil]
  rw [pNum_w (by cases b <;> simp [boolN]) (by cases b <;> simp [boolN])]
  cases b <;> simp [boolN]
theorem pBool_r {b : Bool} {l r : List Int} (hl : rng l) (h : pBool l = some (b, r)) : l = boolsB [b] ++ r := by
  unfold pBool at h
  cases hp : pNum 1 l with
  | none => simp [hp] at h
  | some x =>
    obtain ⟨n, r'⟩ := x
    simp only [hp] at h
    have hb := pNum_bound hl hp
    split at h
    · cases h
    · rename_i hn
      simp only [Option.some.injEq, Prod.mk.injEq] at h
      obtain ⟨h1, rfl⟩ := h
      have := pNum_r hl hp
      rw [this]
      simp only [boolsB, List.append_nil]
      congr 2
      subst h1
      by_cases h2 : n = 1
      · subst h2; rfl
      · have : n = 0 := by omega
        subst this; rfl
theorem pBytes_w {y : List Int} {m : Int} (hm : m < 65536) (h : (y.length : Int) ≤ m) (r : List Int) : pBytes m (rowB y.length y ++ r) = some (y, r) := by
  unfold pBytes rowB
  rw [List.append_assoc, pNum_w (by omega) (by show (y.length : Int) < 65536; omega)]
  simp only
  rw [if_neg (by rw [List.length_append]; omega)]
  simp
theorem pBytes_r {y : List Int} {m : Int} {l r : List Int} (hl : rng l) (h : pBytes m l = some (y, r)) : l = rowB y.length y ++ r ∧ (y.length : Int) ≤ m := by
  unfold pBytes at h
  cases hp : pNum 2 l with
  | none => simp [hp] at h
  | some x =>
    obtain ⟨n, r'⟩ := x
    simp only [hp] at h
    have hb := pNum_bound hl hp
    split at h
    · cases h
    · rename_i hn
      simp only [Option.some.injEq, Prod.mk.injEq] at h
      obtain ⟨h1, h2⟩ := h
      have h3 := pNum_r hl hp
      have h4 : (y.length : Int) = n := by rw [← h1, List.length_take]; omega
      refine ⟨?_, by omega⟩
      unfold rowB
      rw [h4, h3, ← h1, ← h2, List.append_assoc, List.take_append_drop]
theorem bits_of : ∀ a b c d e : Bool, (bitAt ((bitsN [a, b, c, d, e] : Nat) : Int) 0 = a ∧ bitAt ((bitsN [a, b, c, d, e] : Nat) : Int) 1 = b ∧ bitAt ((bitsN [a, b, c, d, e] : Nat) : Int) 2 = c ∧ bitAt ((bitsN [a, b, c, d, e] : Nat) : Int) 3 = d ∧ bitAt ((bitsN [a, b, c, d, e] : Nat) : Int) 4 = e) ∧ bitsN [a, b, c, d, e] ≤ 31 := by decide
theorem bits_back : ∀ n : Nat, n < 32 → bitsN [bitAt (n : Int) 0, bitAt (n : Int) 1, bitAt (n : Int) 2, bitAt (n : Int) 3, bitAt (n : Int) 4] = n := by decide
theorem pW {n : Int} (h : u16 n) (r : List Int) : pNum 2 (numB n 2 ++ r) = some (n, r) := pNum_w h.1 h.2 r
theorem pCpu_w {c : Cpu} (h : c.Ok) (r : List Int) : pCpu (cpuB c ++ r) = some (c, r) := by
  obtain ⟨h0, h1, h2, h3, h4, h5, h6, h7, hp⟩ := h
  have hs := signs_u16 c
  have hb := bits_of c.z c.n c.c c.v c.may
  have hw := pBool_w c.waits r
  have e : cpuB c ++ r = numB c.r0 2 ++ (numB c.r1 2 ++ (numB c.r2 2 ++ (numB c.r3 2 ++ (numB c.r4 2 ++ (numB c.r5 2 ++ (numB c.r6 2 ++ (numB c.r7 2 ++ (numB c.pc 2 ++ (numB ((bitsN c.bits : Nat) : Int) 2 ++ (boolsB [c.waits] ++ r)))))))))) := by
    simp only [cpuB, wordsB, Cpu.regs, List.append_assoc, List.nil_append, List.append_nil]
  rw [e]
  simp only [pCpu, pW h0, pW h1, pW h2, pW h3, pW h4, pW h5, pW h6, pW h7, pW hp, pW hs, bind, Option.bind, hw]
  have hn : ¬ ((bitsN c.bits : Nat) : Int) > 31 := by have := hb.2; simp only [Cpu.bits]; omega
  simp only [if_neg hn]
  simp only [Cpu.bits]
  rw [hb.1.1, hb.1.2.1, hb.1.2.2.1, hb.1.2.2.2.1, hb.1.2.2.2.2]
theorem pW_r {n : Int} {l r : List Int} (hl : rng l) (h : pNum 2 l = some (n, r)) : u16 n ∧ l = numB n 2 ++ r ∧ rng r := by
  have h1 := pNum_bound hl h
  have h2 := pNum_r hl h
  exact ⟨h1, h2, rng_right (h2 ▸ hl)⟩
theorem pCpu_r {c : Cpu} {l r : List Int} (hl : rng l) (h : pCpu l = some (c, r)) : c.Ok ∧ l = cpuB c ++ r ∧ rng r := by
  simp only [pCpu, bind, Option.bind_eq_some_iff, Prod.exists] at h
  obtain ⟨r0, l0, h0, r1, l1, h1, r2, l2, h2, r3, l3, h3, r4, l4, h4, r5, l5, h5, r6, l6, h6, r7, l7, h7, pc, l8, h8, n, l9, h9, h⟩ := h
  obtain ⟨u0, e0, g0⟩ := pW_r hl h0
  obtain ⟨u1, e1, g1⟩ := pW_r g0 h1
  obtain ⟨u2, e2, g2⟩ := pW_r g1 h2
  obtain ⟨u3, e3, g3⟩ := pW_r g2 h3
  obtain ⟨u4, e4, g4⟩ := pW_r g3 h4
  obtain ⟨u5, e5, g5⟩ := pW_r g4 h5
  obtain ⟨u6, e6, g6⟩ := pW_r g5 h6
  obtain ⟨u7, e7, g7⟩ := pW_r g6 h7
  obtain ⟨u8, e8, g8⟩ := pW_r g7 h8
  obtain ⟨u9, e9, g9⟩ := pW_r g8 h9
  split at h
  · simp at h
  · rename_i hn
    simp only [Option.bind_some, Option.bind_eq_some_iff, Prod.exists, pure] at h
    obtain ⟨w, l10, h10, h⟩ := h
    have e10 := pBool_r g9 h10
    simp only [Option.some.injEq, Prod.mk.injEq] at h
    obtain ⟨rfl, rfl⟩ := h
    obtain ⟨k, rfl⟩ := Int.eq_ofNat_of_zero_le u9.1
    have hk := bits_back k (by omega)
    refine ⟨⟨u0, u1, u2, u3, u4, u5, u6, u7, u8⟩, ?_, rng_right (e10 ▸ g9)⟩
    simp only [cpuB, wordsB, Cpu.regs, Cpu.bits, List.append_assoc, List.nil_append, List.append_nil, hk]
    rw [e0, e1, e2, e3, e4, e5, e6, e7, e8, e9, e10]

/-! ### many fields -/
def Fmt.w : Fmt → Fv → List Int
  | .cpu, .cpu c => cpuB c
  | .bytes _, .bytes y => rowB y.length y
  | .num s, .num n => numB n s
  | .bool, .bool b => boolsB [b]
  | _, _ => []
def Fmt.ok : Fmt → Fv → Prop
  | .cpu, .cpu c => c.Ok
  | .bytes m, .bytes y => m < 65536 ∧ (y.length : Int) ≤ m
  | .num s, .num n => 0 ≤ n ∧ n < 256 ^ s
  | .bool, .bool _ => True
  | _, _ => False
theorem Fmt.p_w {f : Fmt} {v : Fv} (h : f.ok v) (r : List Int) : f.p (f.w v ++ r) = some (v, r) := by
  cases f <;> cases v <;> simp only [Fmt.ok] at h <;> simp only [Fmt.p, Fmt.w]
  · rw [pCpu_w h]; rfl
  · rw [pBytes_w h.1 h.2]; rfl
  · rw [pNum_w h.1 h.2]; rfl
  · rw [pBool_w]; rfl
/-- What a field that is read is, but for how long a row may be. -/
def Fmt.ok' : Fmt → Fv → Prop
  | .cpu, .cpu c => c.Ok
  | .bytes m, .bytes y => rng y ∧ (y.length : Int) ≤ m
  | .num s, .num n => 0 ≤ n ∧ n < 256 ^ s
  | .bool, .bool _ => True
  | _, _ => False
theorem Fmt.p_r {f : Fmt} {v : Fv} {l r : List Int} (hl : rng l) (h : f.p l = some (v, r)) : f.ok' v ∧ l = f.w v ++ r ∧ rng r := by
  cases f <;> simp only [Fmt.p, Option.map_eq_some_iff, Prod.mk.injEq, Prod.exists] at h <;> obtain ⟨a, r', h, rfl, rfl⟩ := h <;> simp only [Fmt.ok', Fmt.w]
  · exact pCpu_r hl h
  · have := pBytes_r hl h
    have h2 := this.1 ▸ hl
    exact ⟨⟨rng_right (rng_left h2), this.2⟩, this.1, rng_right h2⟩
  · have h2 := pNum_r hl h
    exact ⟨pNum_bound hl h, h2, rng_right (h2 ▸ hl)⟩
  · have h2 := pBool_r hl h
    exact ⟨trivial, h2, rng_right (h2 ▸ hl)⟩
def wMany : List Fmt → List Fv → List Int
  | f :: fs, v :: vs => f.w v ++ wMany fs vs
  | _, _ => []
def okMany (ok : Fmt → Fv → Prop) : List Fmt → List Fv → Prop
  | [], [] => True
  | f :: fs, v :: vs => ok f v ∧ okMany ok fs vs
  | _, _ => False
theorem pMany_w : ∀ {fs : List Fmt} {vs : List Fv}, okMany Fmt.ok fs vs → ∀ r, pMany fs (wMany fs vs ++ r) = some (vs, r)
  | [], [], _, r => rfl
  | f :: fs, v :: vs, h, r => by
    simp only [wMany, pMany, List.append_assoc, Fmt.p_w h.1, pMany_w h.2, Option.map_some]
  | [], _ :: _, h, _ => h.elim
  | _ :: _, [], h, _ => h.elim
theorem pMany_r : ∀ {fs : List Fmt} {vs : List Fv} {l r : List Int}, rng l → pMany fs l = some (vs, r) → okMany Fmt.ok' fs vs ∧ l = wMany fs vs ++ r ∧ rng r
  | [], vs, l, r, hl, h => by
    simp only [pMany, Option.some.injEq, Prod.mk.injEq] at h
    obtain ⟨rfl, rfl⟩ := h
    exact ⟨trivial, rfl, hl⟩
  | f :: fs, vs, l, r, hl, h => by
    simp only [pMany] at h
    cases hp : f.p l with
    | none => simp [hp] at h
    | some x =>
      obtain ⟨v, l'⟩ := x
      simp only [hp, Option.map_eq_some_iff, Prod.mk.injEq, Prod.exists] at h
      obtain ⟨vs', r', h, rfl, rfl⟩ := h
      obtain ⟨h1, h2, h3⟩ := Fmt.p_r hl hp
      obtain ⟨i1, i2, i3⟩ := pMany_r h3 h
      exact ⟨⟨h1, i1⟩, by rw [h2, i2]; simp [wMany], i3⟩

/-! ### a machine -/
theorem machB_eq (m : Mach) (y0 y1 y2 y3 y4 : List Int) : machB m y0.length y1.length y2.length y3.length y4.length y0 y1 y2 y3 y4 = [77, 65, 82, 81] ++ wMany machF (machV m y0 y1 y2 y3 y4) := by
  simp only [machB, machF, machV, wMany, Fmt.w, padB, voiceB, wordsB, boolsB, List.append_assoc, List.append_nil, List.nil_append]
theorem machOk {m : Mach} {y0 y1 y2 y3 y4 : List Int} (hm : m.Ok) (hc : checkN m y0.length y1.length y2.length y3.length y4.length = 0) : okMany Fmt.ok machF (machV m y0 y1 y2 y3 y4) := by
  obtain ⟨k0, k1, k2, k3, k4, k5, k6, k7, k8, k9, k10⟩ := checkN_ok hc
  obtain ⟨a1, a2, a3, a4, a5, a6, a7, a8, ⟨b1, b2, b3, b4⟩, ⟨c1, c2, c3, c4⟩, ⟨d1, d2, d3, d4⟩, a9, a10, a11, a12⟩ := hm
  unfold waitBad at k5; unfold beamBad at k6; unfold soon at k9 k10
  simp only [machF, machV, okMany, Fmt.ok, true_and, and_true]
  refine ⟨a1, a2, ?_⟩
  omega
theorem ofP_machB {m : Mach} {y0 y1 y2 y3 y4 : List Int} (hm : m.Ok) (hc : checkN m y0.length y1.length y2.length y3.length y4.length = 0) :
    ofP (machB m y0.length y1.length y2.length y3.length y4.length y0 y1 y2 y3 y4) = some (machV m y0 y1 y2 y3 y4) := by
  rw [machB_eq]
  refine ofP_some rfl ?_
  have := pMany_w (machOk hm hc) []
  simpa using this
theorem ofP_back {m : Mach} {l y0 y1 y2 y3 y4 : List Int} (hl : rng l) (h : ofP l = some (machV m y0 y1 y2 y3 y4)) :
    m.Ok ∧ l = machB m y0.length y1.length y2.length y3.length y4.length y0 y1 y2 y3 y4 ∧ rng y0 ∧ rng y1 ∧ rng y2 ∧ rng y3 ∧ rng y4 := by
  unfold ofP at h
  split at h
  · cases h
  · rename_i hmg
    split at h
    · rename_i vs hp
      simp only [Option.some.injEq] at h
      subst h
      obtain ⟨h1, h2, h3⟩ := pMany_r (fun x hx => hl x (List.mem_of_mem_drop hx)) hp
      simp only [machF, machV, okMany, Fmt.ok', true_and, and_true] at h1
      obtain ⟨o1, o2, ⟨o3, _⟩, ⟨o4, _⟩, ⟨o5, _⟩, ⟨o6, _⟩, ⟨o7, _⟩, h1⟩ := h1
      refine ⟨⟨o1, o2, ?_, ?_, ?_, ?_, ?_, ?_, ⟨?_, ?_, ?_, ?_⟩, ⟨?_, ?_, ?_, ?_⟩, ⟨?_, ?_, ?_, ?_⟩, ?_, ?_, ?_, ?_⟩, ?_, o3, o4, o5, o6, o7⟩ <;> first | omega | skip
      rw [machB_eq]
      have hmg' : l.take 4 = [77, 65, 82, 81] := by simpa using hmg
      rw [← hmg', ← List.append_nil (wMany _ _), ← h2, List.take_append_drop]
    · cases h
theorem machV_inj {m k : Mach} {y0 y1 y2 y3 y4 z0 z1 z2 z3 z4 : List Int} : machV m y0 y1 y2 y3 y4 = machV k z0 z1 z2 z3 z4 ↔ sameB m k y0 y1 y2 y3 y4 z0 z1 z2 z3 z4 = true := by
  rw [sameB_iff]
  obtain ⟨m1, m2, s0, s1, s2, s3, s4, c1, c2, c3, c4, c5, c6, c7, c8, c9, c10, ⟨v1, v2, v3, v4, v5⟩, ⟨v6, v7, v8, v9, v10⟩, ⟨v11, v12, v13, v14, v15⟩, d1, d2, d3, d4, d5, e1, e2, e3, e4, e5, e6, e7, e8, e9, e10⟩ := m
  obtain ⟨m1', m2', s0', s1', s2', s3', s4', c1', c2', c3', c4', c5', c6', c7', c8', c9', c10', ⟨v1', v2', v3', v4', v5'⟩, ⟨v6', v7', v8', v9', v10'⟩, ⟨v11', v12', v13', v14', v15'⟩, d1', d2', d3', d4', d5', e1', e2', e3', e4', e5', e6', e7', e8', e9', e10'⟩ := k
  simp only [machV, Mach.as, List.cons.injEq, Fv.cpu.injEq, Fv.bytes.injEq, Fv.num.injEq, Fv.bool.injEq, Mach.mk.injEq, Voice.mk.injEq, and_true, true_and]
  constructor
  · intro h; grind
  · intro h; grind
end Go.Sl
