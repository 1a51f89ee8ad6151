/-
  Walks of this claim's functions, printed by a program of ours off the loaded program. Holds under no condition.
-/
import Derived.Test.YtebllgcaenpdgaaS1B
set_option linter.all false
namespace Go.Sl
open Go Go.Proofs

/-! ### a processor -/
structure Cpu where
  (r0 r1 r2 r3 r4 r5 r6 r7 pc : Int)
  (z n c v may waits : Bool)
abbrev cpuL (c : Cpu) : List Value := [vw c.r0, vw c.r1, vw c.r2, vw c.r3, vw c.r4, vw c.r5, vw c.r6, vw c.r7, vw c.pc, vt c.z, vt c.n, vt c.c, vt c.v, vt c.may, vt c.waits]
def Cpu.bits (c : Cpu) : List Bool := [c.z, c.n, c.c, c.v, c.may]
def Cpu.regs (c : Cpu) : List Int := [c.r0, c.r1, c.r2, c.r3, c.r4, c.r5, c.r6, c.r7]
def u16 (n : Int) : Prop := 0 ≤ n ∧ n < 65536
def u8 (n : Int) : Prop := 0 ≤ n ∧ n < 256
structure Cpu.Ok (c : Cpu) : Prop where
  (r0 : u16 c.r0) (r1 : u16 c.r1) (r2 : u16 c.r2) (r3 : u16 c.r3) (r4 : u16 c.r4) (r5 : u16 c.r5) (r6 : u16 c.r6) (r7 : u16 c.r7) (pc : u16 c.pc)

def bitsN : List Bool → Nat
  | [] => 0
  | b :: r => (if b then 1 else 0) + 2 * bitsN r
theorem bitsN_lt : ∀ l : List Bool, bitsN l < 2 ^ l.length
  | [] => by simp [bitsN]
  | b :: r => by
    have := bitsN_lt r
    simp only [bitsN, List.length_cons, Nat.pow_succ]
    split <;> omega
theorem bitsN_snoc : ∀ (l : List Bool) (b : Bool), bitsN (l ++ [b]) = bitsN l + (if b then 2 ^ l.length else 0)
  | [], b => by cases b <;> simp [bitsN]
  | x :: r, b => by
    simp only [List.cons_append, bitsN, bitsN_snoc r b, List.length_cons, Nat.pow_succ]
    split <;> split <;> omega

theorem or_bit (a k : Nat) (h : a < 2 ^ k) (hk : k < 16) : IntKind.u16.wrap ((BitVec.ofInt 16 (a : Int) ||| BitVec.ofInt 16 (IntKind.u16.wrap (1 * 2 ^ (min ((k : Int)).toNat 16)))).toNat) = ((a + 2 ^ k : Nat) : Int) := by
  have hp : 2 ^ k < 65536 := Nat.pow_lt_pow_right (n := 16) (a := 2) (by decide) hk
  have h1 : min ((k : Int)).toNat 16 = k := by rw [Int.toNat_natCast]; omega
  have h2 : IntKind.u16.wrap (1 * 2 ^ k) = ((2 ^ k : Nat) : Int) := by
    rw [IntWalk.u16_in]
    · rw [Int.natCast_pow, Int.one_mul]; rfl
    · have : ((2 ^ k : Nat) : Int) < 65536 := Int.ofNat_lt.2 hp
      have h0 : (1 * 2 ^ k : Int) = ((2 ^ k : Nat) : Int) := by rw [Int.natCast_pow, Int.one_mul]; rfl
      rw [h0]; omega
  rw [h1, h2]
  have h3 : (BitVec.ofInt 16 (a : Int) ||| BitVec.ofInt 16 ((2 ^ k : Nat) : Int)).toNat = a + 2 ^ k := by
    have e1 : (BitVec.ofInt 16 (a : Int)).toNat = a := by
      rw [BitVec.ofInt_natCast, BitVec.toNat_ofNat]; exact Nat.mod_eq_of_lt (by show a < 65536; omega)
    have e2 : (BitVec.ofInt 16 ((2 ^ k : Nat) : Int)).toNat = 2 ^ k := by
      rw [BitVec.ofInt_natCast, BitVec.toNat_ofNat]; exact Nat.mod_eq_of_lt hp
    rw [BitVec.toNat_or, e1, e2, Nat.or_comm]
    have := Nat.two_pow_add_eq_or_of_lt h 1
    rw [Nat.mul_one] at this
    rw [← this]; omega
  rw [h3]
  have h4 : a + 2 ^ k < 65536 := by
    have : 2 ^ k + 2 ^ k ≤ 2 ^ 16 := by
      have := Nat.pow_le_pow_right (n := 2) (by decide) (show k + 1 ≤ 16 by omega)
      rw [Nat.pow_succ] at this; omega
    omega
  rw [IntWalk.u16_in _ (by omega)]


theorem sign_fn (c : Cpu) : FnD Try.prog 29 [.agg (cpuL c).toArray] [] (vw ((bitsN c.bits : Nat) : Int)) [] := by
  refine FnE.enter Try.func29 rfl Try.ntmps29 rfl (fun w => ?_)
  refine TC.seq ?_
  refine TC.region ?_
  refine TL.box rfl rfl rfl (fun b1 => ?_)
  refine TL.pu (.assign rfl) rfl ?_
  refine TL.nil ?_
  refine AQ.then_n ?_
  refine TC.seq ?_
  refine TC.region ?_
  refine TL.pu (.assign rfl) rfl ?_
  refine TL.nil ?_
  refine AQ.then_n ?_
  refine TC.seq ?_
  refine TC.seq ?_
  refine TC.region ?_
  refine TL.pu (.fieldAddr rfl (m := 9) rfl) rfl ?_
  refine TL.rd (.load1 rfl inferInstance rfl) rfl ?_
  refine TL.pu (.fieldAddr rfl (m := 10) rfl) rfl ?_
  refine TL.rd (.load1 rfl inferInstance rfl) rfl ?_
  refine TL.pu (.fieldAddr rfl (m := 11) rfl) rfl ?_
  refine TL.rd (.load1 rfl inferInstance rfl) rfl ?_
  refine TL.pu (.fieldAddr rfl (m := 12) rfl) rfl ?_
  refine TL.rd (.load1 rfl inferInstance rfl) rfl ?_
  refine TL.pu (.fieldAddr rfl (m := 13) rfl) rfl ?_
  refine TL.rd (.load1 rfl inferInstance rfl) rfl ?_
  refine TL.pu (.build rfl rfl) rfl ?_
  refine TL.pu (.move rfl) rfl ?_
  refine TL.nil ?_
  refine AQ.then_n ?_
  refine TC.block ?_
  refine TC.loop (X := Nat) (fun (k : Nat) => 5 - k) (fun (k : Nat) => k ≤ 5) (fun (k : Nat) => [(16, .agg (bos c.bits).toArray), (17, vi (k : Int)), (3, vw ((bitsN (c.bits.take k) : Nat) : Int))]) (fun (k : Nat) => []) 0 (by decide) ⟨rfl, rfl, rfl, trivial⟩ (.nil _) (fun k hk => ?_)
  show TC _ _ _ _ _ _ [(16, .agg (bos c.bits).toArray), (17, vi (k : Int)), (3, vw ((bitsN (c.bits.take k) : Nat) : Int))] ([]) _
  refine TC.seq ?_
  refine TC.region ?_
  refine TL.pu (.int rfl rfl rfl) rfl ?_
  refine TL.nil ?_
  refine AQ.then_n ?_
  refine TC.seq ?_
  refine TC.condd rfl (fun h1 => ?_) (fun h1 => ?_)
  · skip
    refine TC.skip ?_
    refine AQ.then_n ?_
    refine TC.seq ?_
    refine TC.block ?_
    refine TC.seq ?_
    refine TC.region ?_
    have hk5 : k < 5 := by omega
    have hlen : k < c.bits.length := hk5
    refine TL.pu (.move rfl) rfl ?_
    refine TL.pu (.index1 rfl rfl (by omega) (by omega) (show (bos c.bits)[(k : Int).toNat]? = some (vt c.bits[k]) by simp [bos, hlen])) rfl ?_
    refine TL.pu (.assign rfl) rfl ?_
    refine TL.pu (.assign rfl) rfl ?_
    refine TL.nil ?_
    refine AQ.then_n ?_
    refine TC.seq ?_
    refine TC.region ?_
    refine TL.pu (.move rfl) rfl ?_
    refine TL.nil ?_
    refine AQ.then_n ?_
    refine TC.cond rfl (fun h2 => ?_) (fun h2 => ?_)
    · skip
      refine TC.region ?_
      refine TL.pu (.move rfl) rfl ?_
      refine TL.pu (.move rfl) rfl ?_
      refine TL.pu (.shl rfl rfl (by omega)) rfl ?_
      refine TL.pu (.int rfl rfl rfl) rfl ?_
      refine TL.pu (.assign rfl) rfl ?_
      refine TL.nil ?_
      refine AQ.block_n ?_
      refine AQ.then_n ?_
      refine TC.region ?_
      refine TL.pu (.int rfl rfl rfl) rfl ?_
      refine TL.say 26 (vi ((k + 1 : Nat) : Int)) rfl (congrArg (Value.int .i64) (IntWalk.i64_in _ (by omega))) ?_
      refine TL.pu (.move rfl) rfl ?_
      refine TL.nil ?_
      refine AQ.again (k + 1) ⟨hk5, by show 5 - (k + 1) < 5 - k; omega⟩ ⟨rfl, rfl, ?_, trivial⟩ (.nil _)
      have hs := bitsN_snoc (c.bits.take k) c.bits[k]
      rw [← take_snoc c.bits k hlen, h2, List.length_take, Nat.min_eq_left (by omega)] at hs
      rw [hs]
      first
        | exact congrArg some (congrArg vw (or_bit _ k (by have := bitsN_lt (c.bits.take k); rwa [List.length_take, Nat.min_eq_left (by omega)] at this) (by omega)))
        | rfl
    refine TC.skip ?_
    refine AQ.block_n ?_
    refine AQ.then_n ?_
    refine TC.region ?_
    refine TL.pu (.int rfl rfl rfl) rfl ?_
    refine TL.say 26 (vi ((k + 1 : Nat) : Int)) rfl (congrArg (Value.int .i64) (IntWalk.i64_in _ (by omega))) ?_
    refine TL.pu (.move rfl) rfl ?_
    refine TL.nil ?_
    refine AQ.again (k + 1) ⟨hk5, by show 5 - (k + 1) < 5 - k; omega⟩ ⟨rfl, rfl, ?_, trivial⟩ (.nil _)
    have hs := bitsN_snoc (c.bits.take k) c.bits[k]
    rw [← take_snoc c.bits k hlen, h2, List.length_take, Nat.min_eq_left (by omega)] at hs
    rw [hs]
    first
      | exact congrArg some (congrArg vw (or_bit _ k (by have := bitsN_lt (c.bits.take k); rwa [List.length_take, Nat.min_eq_left (by omega)] at this) (by omega)))
      | rfl
  refine TC.exit ?_
  refine AQ.then_x ?_
  refine AQ.then_x ?_
  refine AQ.block_x ?_
  refine AQ.then_n ?_
  refine TC.seq ?_
  refine TC.region ?_
  refine TL.pu (.move rfl) rfl ?_
  refine TL.pu (.assign rfl) rfl ?_
  refine TL.nil ?_
  refine AQ.then_n ?_
  refine TC.ret ?_
  have hk0 : k = 5 := by omega
  subst hk0
  refine AQ.ret Try.results29 rfl ⟨rfl, rfl⟩ (.nil _)

def cpuB (c : Cpu) : List Int := wordsB c.regs ++ wordsB [c.pc, ((bitsN c.bits : Nat) : Int)] ++ boolsB [c.waits]
theorem cpuB_length (c : Cpu) : (cpuB c).length = 21 := by simp [cpuB, wordsB_length, boolsB_length, Cpu.regs]
theorem signs_u16 (c : Cpu) : u16 ((bitsN c.bits : Nat) : Int) := by
  have := bitsN_lt c.bits
  simp only [Cpu.bits, List.length_cons, List.length_nil] at this
  unfold u16; simp only [Cpu.bits]; omega
theorem wcpu_fn (r : Nat) (e : TypeId) (v : Value) (bs : List Int) (hb : HS) (c : Cpu) (hB : Buf 5 1 v (bys bs) hb) (hbig : bs.length ≤ 800000) (hc : c.Ok) :
    FnX Try.prog 14 [ptr r, .agg (cpuL c).toArray] (⟨r, cel [v] e, true⟩ :: hb) (Value × HS) (fun p => Buf 5 1 p.1 (bys (bs ++ cpuB c)) p.2) (fun _ => nov) (fun p => ⟨r, cel [p.1] e, true⟩ :: p.2) := by
  refine FnE.enter Try.func14 rfl Try.ntmps14 rfl (fun w => ?_)
  refine TC.seq ?_
  refine TC.region ?_
  refine TL.box rfl rfl rfl (fun b3 => ?_)
  refine TL.nil ?_
  refine AQ.then_n ?_
  refine TC.seq ?_
  refine TC.region ?_
  refine TL.pu (.move rfl) rfl ?_
  refine TL.pu (.fieldAddr rfl (m := 0) rfl) rfl ?_
  refine TL.pu (.slice_arr rfl) rfl ?_
  refine TL.callX (words_fn r e v bs hb _ 8 c.regs [⟨b3, cel (cpuL c) 25, false⟩] hB (.row rfl (Nat.le_of_ble_eq_true rfl) rfl (Nat.le_refl _)) (by omega) (by simp only [Cpu.regs]; intro x hx; simp only [List.mem_cons, List.not_mem_nil, or_false] at hx; rcases hx with rfl | rfl | rfl | rfl | rfl | rfl | rfl | rfl <;> first | exact hc.r0 | exact hc.r1 | exact hc.r2 | exact hc.r3 | exact hc.r4 | exact hc.r5 | exact hc.r6 | exact hc.r7)) rfl rfl rfl (.rw inferInstance (.seg inferInstance hB.own' (.ro inferInstance (.nil _)))) rfl (fun ⟨v1, hb1⟩ hB1 => ?_)
  show TL _ _ _ _ _ _ _ _ ((⟨r, cel [v1] e, true⟩ :: hb1) ++ [⟨b3, cel (cpuL c) 25, true⟩]) _
  refine TL.nil ?_
  refine AQ.then_n ?_
  refine TC.seq ?_
  refine TC.draws [⟨b3, cel (cpuL c) 25, true⟩] (fun i => false) (.cons inferInstance rfl (.nil _)) ?_
  refine AL.pu 0 rfl (.move rfl) rfl (by decide +kernel) (by decide +kernel) (by decide +kernel) (by decide +kernel) rfl ?_
  refine AL.pu 1 rfl (.fieldAddr rfl (m := 8) rfl) rfl (by decide +kernel) (by decide +kernel) (by decide +kernel) (by decide +kernel) rfl ?_
  refine AL.rd 2 rfl (.load1 rfl inferInstance rfl) rfl (by decide +kernel) (by decide +kernel) (by decide +kernel) (by decide +kernel) rfl ?_
  refine AL.rd 3 rfl (.loadA rfl inferInstance rfl) rfl (by decide +kernel) (by decide +kernel) (by decide +kernel) (by decide +kernel) rfl ?_
  refine AL.one 4 rfl (by decide +kernel) ?_
  refine TL.callD (sign_fn c) rfl rfl rfl (.nil _) rfl ?_
  refine TL.nil ?_
  refine AQ.al (.cons inferInstance rfl (.nil _)) ?_
  refine AL.one 5 rfl (by decide +kernel) ?_
  refine TL.buildSlice rfl rfl rfl rfl rfl (fun b13 => ?_)
  refine TL.nil ?_
  refine AQ.al (.cons inferInstance rfl (.nil _)) ?_
  refine AL.one 6 rfl (by decide +kernel) ?_
  refine TL.callX (words_fn r e v1 _ hb1 _ 2 [c.pc, ((bitsN c.bits : Nat) : Int)] [⟨b13, cel _ 22, false⟩] hB1 (.row rfl (Nat.le_refl _) rfl (Nat.le_refl _)) (by simp only [List.length_append, wordsB_length, Cpu.regs, List.length_cons, List.length_nil]; omega) (by intro x hx; simp only [List.mem_cons, List.not_mem_nil, or_false] at hx; rcases hx with rfl | rfl; exact hc.pc; exact signs_u16 c)) rfl rfl rfl (.rw inferInstance (.seg inferInstance hB1.own' (.ro inferInstance (.nil _)))) rfl (fun ⟨v2, hb2⟩ hB2 => ?_)
  refine TL.nil ?_
  refine AQ.al (.cons inferInstance rfl (.nil _)) ?_
  refine AL.fin (by decide +kernel) ?_
  refine AQ.then_n ?_
  refine TC.region ?_
  refine TL.pu (.move rfl) rfl ?_
  refine TL.pu (.fieldAddr rfl (m := 14) rfl) rfl ?_
  refine TL.rd (.load1 rfl inferInstance rfl) rfl ?_
  refine TL.buildSlice rfl rfl rfl rfl rfl (fun b18 => ?_)
  refine TL.callX (bools_fn r e v2 _ hb2 _ 1 [c.waits] [⟨b18, cel _ 4, false⟩] hB2 (.row rfl (Nat.le_refl _) rfl (Nat.le_refl _)) (by simp only [List.length_append, wordsB_length, Cpu.regs, List.length_cons, List.length_nil]; omega)) rfl rfl rfl (.rw inferInstance (.seg inferInstance hB2.own' (.ro inferInstance (.nil _)))) rfl (fun ⟨v3, hb3⟩ hB3 => ?_)
  refine TL.nil ?_
  refine AQ.end_ Try.results14 rfl ⟨(v3, hb3), ?_, rfl, rfl⟩ (.cons inferInstance rfl (.last inferInstance hB3.own'))
  simpa only [cpuB, List.append_assoc] using hB3
end Go.Sl