/-
  Walks of this claim's functions, printed by a program of ours off the loaded program. Holds under no condition.
-/
import Derived.Test.YtebllgcaenpdgaaS1Facts
set_option linter.all false
namespace Go.Sl
open Go Go.Proofs
abbrev vi (n : Int) : Value := .int .i64 n
abbrev vw (n : Int) : Value := .int .u16 n
abbrev vb (n : Int) : Value := .int .u8 n
abbrev vt (b : Bool) : Value := .bool b
abbrev ptr (b : Nat) : Value := .pointer (some ⟨b, 0, none⟩)
abbrev nov : Value := .tuple #[]
def bys (l : List Int) : List Value := l.map vb
theorem bys_append (a b : List Int) : bys (a ++ b) = bys a ++ bys b := by simp [bys]
theorem bys_one (l : List Int) : (bys l).all one = true := by simp [bys, one]
theorem bys_length (l : List Int) : (bys l).length = l.length := by simp [bys]

/-- A number's bytes, the highest first. -/
def numB (n : Int) : Nat → List Int
  | 0 => []
  | s + 1 => (n / 2 ^ (8 * s)) % 256 :: numB n s
theorem numB_length (n : Int) : ∀ s, (numB n s).length = s
  | 0 => rfl
  | s + 1 => by simp [numB, numB_length n s]

theorem number_byte (n : Int) (k : Nat) (hk : k < 8) : IntKind.u8.wrap (n.fdiv (2 ^ min (IntKind.i64.wrap (8 * (k : Int))).toNat IntKind.i64.bits)) = (n / 2 ^ (8 * k)) % 256 := by
  have h1 : IntKind.i64.wrap (8 * (k : Int)) = 8 * k := by
    simp [IntKind.wrap, IntKind.signed, IntKind.bits]; omega
  rw [h1]
  have h2 : min (8 * (k : Int)).toNat IntKind.i64.bits = 8 * k := by simp [IntKind.bits]; omega
  rw [h2, Int.fdiv_eq_ediv_of_nonneg _ (by exact Int.le_of_lt (Int.pow_pos (by decide)))]
  simp [IntKind.wrap, IntKind.signed, IntKind.bits]


theorem number_fn (r : Nat) (e : TypeId) (v : Value) (bs : List Int) (hb : HS) (n : Int) (s : Nat) (hB : Buf 5 1 v (bys bs) hb) (hs : s ≤ 8) (hbig : bs.length ≤ 1000000) :
    FnX Try.prog 16 [ptr r, vi n, vi s] (⟨r, cel [v] e, true⟩ :: hb) (Value × HS) (fun p => Buf 5 1 p.1 (bys (bs ++ numB n s)) p.2) (fun _ => nov) (fun p => ⟨r, cel [p.1] e, true⟩ :: p.2) := by
  refine FnE.enter Try.func16 rfl Try.ntmps16 rfl (fun w => ?_)
  refine TC.seq ?_
  refine TC.region ?_
  refine TL.pu (.move rfl) rfl ?_
  refine TL.pu (.int rfl rfl rfl) rfl ?_
  refine TL.say 8 (vi ((s : Int) - 1)) rfl (congrArg (Value.int .i64) (IntWalk.i64_in _ (by omega))) ?_
  refine TL.pu (.assign rfl) rfl ?_
  refine TL.nil ?_
  refine AQ.then_n ?_
  refine TC.block ?_
  refine TC.loop (X := Nat × List Int × Value × HS) (fun ((j, cur, v', hb') : Nat × List Int × Value × HS) => j) (fun ((j, cur, v', hb') : Nat × List Int × Value × HS) => Buf 5 1 v' (bys cur) hb' ∧ cur ++ numB n j = bs ++ numB n s ∧ j ≤ s) (fun ((j, cur, v', hb') : Nat × List Int × Value × HS) => [(0, ptr r), (1, vi n), (6, vi ((j : Int) - 1))]) (fun ((j, cur, v', hb') : Nat × List Int × Value × HS) => ⟨r, cel [v'] e, true⟩ :: hb') (s, bs, v, hb) ⟨hB, rfl, Nat.le_refl _⟩ ⟨rfl, rfl, rfl, trivial⟩ (.cons inferInstance rfl (.last inferInstance)) (fun ⟨j, cur, v', hb'⟩ ⟨hB', hcat, hj⟩ => ?_)
  show TC _ _ _ _ _ _ [(0, ptr r), (1, vi n), (6, vi ((j : Int) - 1))] (⟨r, cel [v'] e, true⟩ :: hb') _
  refine TC.seq ?_
  refine TC.seq ?_
  refine TC.region ?_
  refine TL.pu (.move rfl) rfl ?_
  refine TL.pu (.int rfl rfl rfl) rfl ?_
  refine TL.nil ?_
  refine AQ.then_n ?_
  refine TC.condd rfl (fun h1 => ?_) (fun h1 => ?_)
  · skip
    refine TC.skip ?_
    refine AQ.then_n ?_
    refine TC.seq ?_
    refine TC.block ?_
    refine TC.draws [⟨r, cel [v'] e, true⟩] (fun i => Nat.beq i 14) (.cons inferInstance rfl (.nil _)) ?_
    refine AL.pu 0 rfl (.move rfl) rfl (by decide +kernel) (by decide +kernel) (by decide +kernel) (by decide +kernel) rfl ?_
    refine AL.pu 1 rfl (.move rfl) rfl (by decide +kernel) (by decide +kernel) (by decide +kernel) (by decide +kernel) rfl ?_
    refine AL.pu 2 rfl (.nilCheck rfl) rfl (by decide +kernel) (by decide +kernel) (by decide +kernel) (by decide +kernel) rfl ?_
    refine AL.pu 3 rfl (.fieldAddr rfl rfl) rfl (by decide +kernel) (by decide +kernel) (by decide +kernel) (by decide +kernel) rfl ?_
    refine AL.rd 4 rfl (.load1 rfl inferInstance rfl) rfl (by decide +kernel) (by decide +kernel) (by decide +kernel) (by decide +kernel) rfl ?_
    refine AL.pu 5 rfl (.move rfl) rfl (by decide +kernel) (by decide +kernel) (by decide +kernel) (by decide +kernel) rfl ?_
    refine AL.pu 6 rfl (.move rfl) rfl (by decide +kernel) (by decide +kernel) (by decide +kernel) (by decide +kernel) rfl ?_
    refine AL.pu 7 rfl (.int rfl rfl rfl) rfl (by decide +kernel) (by decide +kernel) (by decide +kernel) (by decide +kernel) rfl ?_
    refine AL.pu 8 rfl (.shr rfl rfl (by rw [IntWalk.i64_in _ (by omega)]; omega)) rfl (by decide +kernel) (by decide +kernel) (by decide +kernel) (by decide +kernel) rfl ?_
    refine AL.pu 9 rfl (.conv rfl) rfl (by decide +kernel) (by decide +kernel) (by decide +kernel) (by decide +kernel) rfl ?_
    refine AL.one 10 rfl (by decide +kernel) ?_
    refine TL.buildSlice rfl rfl rfl rfl rfl (fun b23 => ?_)
    refine TL.nil ?_
    refine AQ.al (.cons inferInstance rfl (.nil _)) ?_
    refine AL.one 11 rfl (by decide +kernel) ?_
    refine TL.append rfl rfl hB' inferInstance (.row rfl inferInstance (Nat.le_refl _) rfl) rfl rfl (by decide) (by decide) rfl (by have := congrArg List.length hcat; simp only [List.length_append, numB_length, bys_length, flat, Value.cells, cut, List.length_take, List.length_drop] at this ⊢; omega) rfl (fun v2 hb2 hB2 => ?_)
    refine TL.nil ?_
    refine AQ.al (.cons inferInstance rfl (.nil _)) ?_
    refine AL.one 12 rfl (by decide +kernel) ?_
    refine TL.pu (.nilCheck rfl) rfl ?_
    refine TL.nil ?_
    refine AQ.al (.cons inferInstance rfl (.nil _)) ?_
    refine AL.pu 13 rfl (.fieldAddr rfl rfl) rfl (by decide +kernel) (by decide +kernel) (by decide +kernel) (by decide +kernel) rfl ?_
    refine AL.one 14 rfl (by decide +kernel) ?_
    refine TL.store1 rfl rfl hB2.one inferInstance rfl ?_
    refine TL.nil ?_
    refine AQ.alB rfl ?_
    refine AL.fin (by decide +kernel) ?_
    refine AQ.block_n ?_
    refine AQ.then_n ?_
    refine TC.region ?_
    refine TL.pu (.move rfl) rfl ?_
    refine TL.pu (.int rfl rfl rfl) rfl ?_
    refine TL.say 12 (vi ((j : Int) - 1 - 1)) rfl (congrArg (Value.int .i64) (IntWalk.i64_in _ (by omega))) ?_
    refine TL.pu (.assign rfl) rfl ?_
    refine TL.nil ?_
    obtain ⟨k, rfl⟩ : ∃ k, j = k + 1 := ⟨j - 1, by omega⟩
    refine AQ.again (k, cur ++ [(n / 2 ^ (8 * k)) % 256], v2, hb2) ⟨⟨?_, ?_, by omega⟩, Nat.lt_succ_self k⟩ ⟨rfl, rfl, ?_, trivial⟩ (.cons inferInstance rfl (.last inferInstance))
    · rw [bys_append]
      have hn := number_byte n k (by omega)
      rw [show ((k + 1 : Nat) : Int) - 1 = k by omega] at hB2
      simpa [flat, Value.cells, cut, bys, hn] using hB2
    · rw [← hcat]; simp [numB]
    · exact congrArg some (congrArg vi (by omega))
  refine TC.exit ?_
  refine AQ.then_x ?_
  refine AQ.then_x ?_
  refine AQ.block_x ?_
  have hj0 : j = 0 := by omega
  subst hj0
  refine AQ.end_ Try.results16 rfl ⟨(v', hb'), ?_, rfl, rfl⟩ (.cons inferInstance rfl (.last inferInstance hB'.own'))
  simpa [← hcat, numB] using (hB')
end Go.Sl