/-
  Walks of this claim's functions, printed by a program of ours off the loaded program. Holds under no condition.
-/
import Derived.Test.YtebllgcaenpdgaaS1A
set_option linter.all false
namespace Go.Sl
open Go Go.Proofs
def W (r : Nat) (e : TypeId) (v : Value) (hb : HS) : HS := ⟨r, cel [v] e, true⟩ :: hb
def wos (l : List Int) : List Value := l.map vw
def bos (l : List Bool) : List Value := l.map vt
theorem wos_length (l : List Int) : (wos l).length = l.length := by simp [wos]
theorem bos_length (l : List Bool) : (bos l).length = l.length := by simp [bos]
def wordsB : List Int → List Int
  | [] => []
  | n :: r => numB n 2 ++ wordsB r
def boolN (b : Bool) : Int := if b then 1 else 0
def boolsB : List Bool → List Int
  | [] => []
  | b :: r => numB (boolN b) 1 ++ boolsB r
theorem wordsB_append (a b : List Int) : wordsB (a ++ b) = wordsB a ++ wordsB b := by
  induction a with
  | nil => rfl
  | cons x a ih => simp [wordsB, ih]
theorem boolsB_append (a b : List Bool) : boolsB (a ++ b) = boolsB a ++ boolsB b := by
  induction a with
  | nil => rfl
  | cons x a ih => simp [boolsB, ih]
theorem wordsB_length (a : List Int) : (wordsB a).length = 2 * a.length := by
  induction a with
  | nil => rfl
  | cons x a ih => simp [wordsB, ih, numB_length]; omega
theorem boolsB_length (a : List Bool) : (boolsB a).length = a.length := by
  induction a with
  | nil => rfl
  | cons x a ih => simp [boolsB, ih, numB_length]; omega
theorem take_snoc {α : Type} (l : List α) (k : Nat) (h : k < l.length) : l.take (k + 1) = l.take k ++ [l[k]] := by
  rw [List.take_succ_eq_append_getElem h]


theorem bytes_fn (r : Nat) (e : TypeId) (v : Value) (bs : List Int) (hb : HS) (u : Value) (m : Nat) (ys : List Int) (sg : HS) (hB : Buf 5 1 v (bys bs) hb) (hR : Ro 1 u m (bys ys) sg) (hbig : bs.length + m ≤ 900000) :
    FnX Try.prog 15 [ptr r, u] (⟨r, cel [v] e, true⟩ :: (hb ++ sg)) (Value × HS) (fun p => Buf 5 1 p.1 (bys (bs ++ numB m 2 ++ ys)) p.2) (fun _ => nov) (fun p => ⟨r, cel [p.1] e, true⟩ :: p.2) := by
  have hm : ys.length = m := by simpa [bys_length] using hR.length
  refine FnE.enter Try.func15 rfl Try.ntmps15 rfl (fun w => ?_)
  refine TC.seq ?_
  refine TC.region ?_
  refine TL.pu (.move rfl) rfl ?_
  refine TL.pu (.move rfl) rfl ?_
  refine TL.pu (.lenSl rfl hR.isl rfl) rfl ?_
  refine TL.callX (number_fn r e v bs hb m 2 hB (by omega) (by omega)) rfl rfl rfl (.rw inferInstance (.last inferInstance hB.own')) rfl (fun ⟨v1, hb1⟩ hB1 => ?_)
  show TL _ _ _ _ _ _ _ _ ((⟨r, cel [v1] e, true⟩ :: hb1) ++ sg) _
  refine TL.nil ?_
  refine AQ.then_n ?_
  refine TC.region ?_
  refine TL.pu (.move rfl) rfl ?_
  refine TL.pu (.move rfl) rfl ?_
  refine TL.pu (.nilCheck rfl) rfl ?_
  refine TL.pu (.fieldAddr rfl rfl) rfl ?_
  refine TL.rd (.load1 rfl inferInstance rfl) rfl ?_
  refine TL.pu (.move rfl) rfl ?_
  refine TL.append rfl rfl hB1 inferInstance (hR.src inferInstance) rfl rfl (by decide) (by decide) (bys_one _) (by simp only [bys_length, List.length_append, numB_length]; omega) rfl (fun v2 hb2 hB2 => ?_)
  refine TL.pu (.nilCheck rfl) rfl ?_
  refine TL.pu (.fieldAddr rfl rfl) rfl ?_
  refine TL.store1 rfl rfl hB2.one inferInstance rfl ?_
  refine TL.nil ?_
  refine AQ.end_ Try.results15 rfl ⟨(v2, hb2), ?_, rfl, rfl⟩ (.cons inferInstance rfl (.last inferInstance hB2.own'))
  rw [← bys_append] at hB2; exact hB2

theorem words_fn (r : Nat) (e : TypeId) (v : Value) (bs : List Int) (hb : HS) (u : Value) (m : Nat) (ys : List Int) (sg : HS) (hB : Buf 5 1 v (bys bs) hb) (hR : Ro 1 u m (wos ys) sg) (hbig : bs.length + 2 * m ≤ 900000) (hw : ∀ x ∈ ys, 0 ≤ x ∧ x < 65536) :
    FnX Try.prog 18 [ptr r, u] (⟨r, cel [v] e, true⟩ :: (hb ++ sg)) (Value × HS) (fun p => Buf 5 1 p.1 (bys (bs ++ wordsB ys)) p.2) (fun _ => nov) (fun p => ⟨r, cel [p.1] e, true⟩ :: p.2) := by
  have hm : ys.length = m := by simpa [wos_length] using hR.length
  refine FnE.enter Try.func18 rfl Try.ntmps18 rfl (fun w => ?_)
  refine TC.seq ?_
  refine TC.region ?_
  refine TL.pu (.move rfl) rfl ?_
  refine TL.pu (.lenSl rfl hR.isl rfl) rfl ?_
  refine TL.pu (.move rfl) rfl ?_
  refine TL.nil ?_
  refine AQ.then_n ?_
  refine TC.block ?_
  refine TC.loop (X := Nat × Value × HS) (fun ((k, v', hb') : Nat × Value × HS) => m - k) (fun ((k, v', hb') : Nat × Value × HS) => Buf 5 1 v' (bys (bs ++ wordsB (ys.take k))) hb' ∧ k ≤ m) (fun ((k, v', hb') : Nat × Value × HS) => [(0, ptr r), (6, u), (7, vi m), (8, vi (k : Int))]) (fun ((k, v', hb') : Nat × Value × HS) => (⟨r, cel [v'] e, true⟩ :: (hb' ++ sg))) (0, v, hb) ⟨by simpa [wordsB] using hB, Nat.zero_le _⟩ ⟨rfl, rfl, rfl, rfl, trivial⟩ (.cons inferInstance rfl (.seg inferInstance (.last inferInstance))) (fun ⟨k, v', hb'⟩ ⟨hB', hk⟩ => ?_)
  show TC _ _ _ _ _ _ [(0, ptr r), (6, u), (7, vi m), (8, vi (k : Int))] ((⟨r, cel [v'] e, true⟩ :: (hb' ++ sg))) _
  refine TC.seq ?_
  refine TC.region ?_
  refine TL.pu (.int rfl rfl rfl) rfl ?_
  refine TL.nil ?_
  refine AQ.then_n ?_
  refine TC.seq ?_
  refine TC.condd rfl (fun h1 => ?_) (fun h1 => ?_)
  · skip
    refine TC.skip ?_
    refine AQ.then_n ?_
    refine TC.seq ?_
    refine TC.block ?_
    refine TC.seq ?_
    refine TC.region ?_
    have hkm : k < m := by omega
    obtain ⟨b, off, cap, c, t, z, rfl, rfl, hin, hcut⟩ := hR.at_ (by omega)
    have hky : k < ys.length := by omega
    have hnth : nth c (off + (k : Int).toNat * 1) = some (vw ys[k]) := by
      rw [Int.toNat_natCast, Nat.mul_one]
      exact nth_cut hcut (by omega) (by simp [wos, hky])
    refine TL.pu (.indexAddr rfl rfl (by omega) (by omega) rfl) rfl ?_
    refine TL.rd (.load1 rfl inferInstance hnth) rfl ?_
    refine TL.pu (.assign rfl) rfl ?_
    refine TL.nil ?_
    refine AQ.then_n ?_
    refine TC.region ?_
    refine TL.pu (.move rfl) rfl ?_
    refine TL.pu (.move rfl) rfl ?_
    refine TL.pu (.conv rfl) rfl ?_
    refine TL.say 14 (vi ys[k]) rfl (congrArg (Value.int .i64) (IntWalk.i64_in _ (by have := hw ys[k] (List.getElem_mem hky); omega))) ?_
    refine TL.callX (number_fn r e v' _ hb' ys[k] 2 hB' (by omega) (by have := wordsB_length (ys.take k); simp only [List.length_append, List.length_take, this]; omega)) rfl rfl rfl (.rw inferInstance (.last inferInstance hB'.own')) rfl (fun ⟨v1, hb1⟩ hB1 => ?_)
    show TL _ _ _ _ _ _ _ _ ((⟨r, cel [v1] e, true⟩ :: hb1) ++ _) _
    refine TL.nil ?_
    refine AQ.block_n ?_
    refine AQ.then_n ?_
    refine TC.region ?_
    refine TL.pu (.int rfl rfl rfl) rfl ?_
    refine TL.say 16 (vi ((k + 1 : Nat) : Int)) rfl (congrArg (Value.int .i64) (IntWalk.i64_in _ (by omega))) ?_
    refine TL.pu (.move rfl) rfl ?_
    refine TL.nil ?_
    refine AQ.again (k + 1, v1, hb1) ⟨⟨?_, hkm⟩, by show m - (k + 1) < m - k; omega⟩ ⟨rfl, rfl, rfl, rfl, trivial⟩ (.cons inferInstance rfl (.seg inferInstance (.last inferInstance)))
    rw [take_snoc ys k hky, wordsB_append, ← List.append_assoc]
    simpa [wordsB] using hB1
  refine TC.exit ?_
  refine AQ.then_x ?_
  refine AQ.then_x ?_
  refine AQ.block_x ?_
  have hk0 : k = m := by omega
  subst hk0
  refine AQ.end_ Try.results18 rfl ⟨(v', hb'), ?_, rfl, rfl⟩ (.cons inferInstance rfl (.last inferInstance hB'.own'))
  simpa [List.take_of_length_le (Nat.le_of_eq hm)] using (hB')

theorem bools_fn (r : Nat) (e : TypeId) (v : Value) (bs : List Int) (hb : HS) (u : Value) (m : Nat) (ys : List Bool) (sg : HS) (hB : Buf 5 1 v (bys bs) hb) (hR : Ro 1 u m (bos ys) sg) (hbig : bs.length + m ≤ 900000) :
    FnX Try.prog 17 [ptr r, u] (⟨r, cel [v] e, true⟩ :: (hb ++ sg)) (Value × HS) (fun p => Buf 5 1 p.1 (bys (bs ++ boolsB ys)) p.2) (fun _ => nov) (fun p => ⟨r, cel [p.1] e, true⟩ :: p.2) := by
  have hm : ys.length = m := by simpa [bos_length] using hR.length
  refine FnE.enter Try.func17 rfl Try.ntmps17 rfl (fun w => ?_)
  refine TC.seq ?_
  refine TC.region ?_
  refine TL.pu (.move rfl) rfl ?_
  refine TL.pu (.lenSl rfl hR.isl rfl) rfl ?_
  refine TL.pu (.move rfl) rfl ?_
  refine TL.nil ?_
  refine AQ.then_n ?_
  refine TC.block ?_
  refine TC.loop (X := Nat × Value × HS) (fun ((k, v', hb') : Nat × Value × HS) => m - k) (fun ((k, v', hb') : Nat × Value × HS) => Buf 5 1 v' (bys (bs ++ boolsB (ys.take k))) hb' ∧ k ≤ m) (fun ((k, v', hb') : Nat × Value × HS) => [(0, ptr r), (7, u), (8, vi m), (9, vi (k : Int))]) (fun ((k, v', hb') : Nat × Value × HS) => (⟨r, cel [v'] e, true⟩ :: (hb' ++ sg))) (0, v, hb) ⟨by simpa [boolsB] using hB, Nat.zero_le _⟩ ⟨rfl, rfl, rfl, rfl, trivial⟩ (.cons inferInstance rfl (.seg inferInstance (.last inferInstance))) (fun ⟨k, v', hb'⟩ ⟨hB', hk⟩ => ?_)
  show TC _ _ _ _ _ _ [(0, ptr r), (7, u), (8, vi m), (9, vi (k : Int))] ((⟨r, cel [v'] e, true⟩ :: (hb' ++ sg))) _
  refine TC.seq ?_
  refine TC.region ?_
  refine TL.pu (.int rfl rfl rfl) rfl ?_
  refine TL.nil ?_
  refine AQ.then_n ?_
  refine TC.seq ?_
  refine TC.condd rfl (fun h1 => ?_) (fun h1 => ?_)
  · skip
    refine TC.skip ?_
    refine AQ.then_n ?_
    refine TC.seq ?_
    refine TC.block ?_
    refine TC.seq ?_
    refine TC.region ?_
    have hkm : k < m := by omega
    obtain ⟨b, off, cap, c, t, z, rfl, rfl, hin, hcut⟩ := hR.at_ (by omega)
    have hky : k < ys.length := by omega
    have hnth : nth c (off + (k : Int).toNat * 1) = some (vt ys[k]) := by
      rw [Int.toNat_natCast, Nat.mul_one]
      exact nth_cut hcut (by omega) (by simp [bos, hky])
    refine TL.pu (.indexAddr rfl rfl (by omega) (by omega) rfl) rfl ?_
    refine TL.rd (.load1 rfl inferInstance hnth) rfl ?_
    refine TL.pu (.assign rfl) rfl ?_
    refine TL.nil ?_
    refine AQ.then_n ?_
    refine TC.seq ?_
    refine TC.region ?_
    refine TL.pu (.assign rfl) rfl ?_
    refine TL.nil ?_
    refine AQ.then_n ?_
    refine TC.seq ?_
    refine TC.seq ?_
    refine TC.region ?_
    refine TL.pu (.move rfl) rfl ?_
    refine TL.nil ?_
    refine AQ.then_n ?_
    refine TC.cond rfl (fun h2 => ?_) (fun h2 => ?_)
    · skip
      refine TC.region ?_
      refine TL.pu (.assign rfl) rfl ?_
      refine TL.nil ?_
      refine AQ.then_n ?_
      refine TC.region ?_
      refine TL.pu (.move rfl) rfl ?_
      refine TL.pu (.move rfl) rfl ?_
      refine TL.callX (number_fn r e v' _ hb' _ 1 hB' (by omega) (by have := boolsB_length (ys.take k); simp only [List.length_append, List.length_take, this]; omega)) rfl rfl rfl (.rw inferInstance (.last inferInstance hB'.own')) rfl (fun ⟨v1, hb1⟩ hB1 => ?_)
      show TL _ _ _ _ _ _ _ _ ((⟨r, cel [v1] e, true⟩ :: hb1) ++ _) _
      refine TL.nil ?_
      refine AQ.block_n ?_
      refine AQ.then_n ?_
      refine TC.region ?_
      refine TL.pu (.int rfl rfl rfl) rfl ?_
      refine TL.say 17 (vi ((k + 1 : Nat) : Int)) rfl (congrArg (Value.int .i64) (IntWalk.i64_in _ (by omega))) ?_
      refine TL.pu (.move rfl) rfl ?_
      refine TL.nil ?_
      refine AQ.again (k + 1, v1, hb1) ⟨⟨?_, hkm⟩, by show m - (k + 1) < m - k; omega⟩ ⟨rfl, rfl, rfl, rfl, trivial⟩ (.cons inferInstance rfl (.seg inferInstance (.last inferInstance)))
      rw [take_snoc ys k hky, boolsB_append, ← List.append_assoc]
      simpa [boolsB, boolN, h2] using hB1
    refine TC.skip ?_
    refine AQ.then_n ?_
    refine TC.region ?_
    refine TL.pu (.move rfl) rfl ?_
    refine TL.pu (.move rfl) rfl ?_
    refine TL.callX (number_fn r e v' _ hb' _ 1 hB' (by omega) (by have := boolsB_length (ys.take k); simp only [List.length_append, List.length_take, this]; omega)) rfl rfl rfl (.rw inferInstance (.last inferInstance hB'.own')) rfl (fun ⟨v1, hb1⟩ hB1 => ?_)
    show TL _ _ _ _ _ _ _ _ ((⟨r, cel [v1] e, true⟩ :: hb1) ++ _) _
    refine TL.nil ?_
    refine AQ.block_n ?_
    refine AQ.then_n ?_
    refine TC.region ?_
    refine TL.pu (.int rfl rfl rfl) rfl ?_
    refine TL.say 17 (vi ((k + 1 : Nat) : Int)) rfl (congrArg (Value.int .i64) (IntWalk.i64_in _ (by omega))) ?_
    refine TL.pu (.move rfl) rfl ?_
    refine TL.nil ?_
    refine AQ.again (k + 1, v1, hb1) ⟨⟨?_, hkm⟩, by show m - (k + 1) < m - k; omega⟩ ⟨rfl, rfl, rfl, rfl, trivial⟩ (.cons inferInstance rfl (.seg inferInstance (.last inferInstance)))
    rw [take_snoc ys k hky, boolsB_append, ← List.append_assoc]
    simpa [boolsB, boolN, h2] using hB1
  refine TC.exit ?_
  refine AQ.then_x ?_
  refine AQ.then_x ?_
  refine AQ.block_x ?_
  have hk0 : k = m := by omega
  subst hk0
  refine AQ.end_ Try.results17 rfl ⟨(v', hb'), ?_, rfl, rfl⟩ (.cons inferInstance rfl (.last inferInstance hB'.own'))
  simpa [List.take_of_length_le (Nat.le_of_eq hm)] using (hB')
end Go.Sl