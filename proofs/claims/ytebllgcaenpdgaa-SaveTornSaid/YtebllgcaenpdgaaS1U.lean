/-
  Proved: the law SaveBytes answers true for every machine and every row of bytes, and the law SaveTorn for any two machines, every place to cut and every byte behind; no argument is changed. Under no condition.
-/
import Derived.Test.YtebllgcaenpdgaaS1T
import Derived.Test.YtebllgcaenpdgaaSlOpen
import Derived.Test.YtebllgcaenpdgaaRows
set_option linter.all false

namespace Go.Sl
open Go Go.Proofs Go.Proofs.Ytebllgcaenpdgaa Go.ChangeShapes Go.WideShapes Go.RowKit
def machTs : List TypeId := 22 :: 22 :: 22 :: 22 :: 22 :: 22 :: 22 :: 22 :: 22 :: 4 :: 4 :: 4 :: 4 :: 4 :: 4 :: 22 :: 22 :: 22 :: 22 :: 22 :: 22 :: 22 :: 22 :: 22 :: 4 :: 4 :: 4 :: 4 :: 4 :: 4 :: 26 :: 26 :: 26 :: 26 :: 26 :: 5 :: 4 :: 5 :: 5 :: 4 :: 5 :: 22 :: 22 :: 4 :: 4 :: 22 :: 22 :: 5 :: 4 :: 22 :: 22 :: 22 :: 5 :: 4 :: 22 :: 22 :: 22 :: 5 :: 4 :: 22 :: 3 :: 3 :: 3 :: 4 :: 3 :: 22 :: 22 :: 4 :: 4 :: 5 :: 5 :: 4 :: 3 :: 3 :: 3 :: []
def machLks : List LK := .i .u16 :: .i .u16 :: .i .u16 :: .i .u16 :: .i .u16 :: .i .u16 :: .i .u16 :: .i .u16 :: .i .u16 :: .b :: .b :: .b :: .b :: .b :: .b :: .i .u16 :: .i .u16 :: .i .u16 :: .i .u16 :: .i .u16 :: .i .u16 :: .i .u16 :: .i .u16 :: .i .u16 :: .b :: .b :: .b :: .b :: .b :: .b :: .s 5 :: .s 5 :: .s 5 :: .s 5 :: .s 5 :: .i .u8 :: .b :: .i .u8 :: .i .u8 :: .b :: .i .u8 :: .i .u16 :: .i .u16 :: .b :: .b :: .i .u16 :: .i .u16 :: .i .u8 :: .b :: .i .u16 :: .i .u16 :: .i .u16 :: .i .u8 :: .b :: .i .u16 :: .i .u16 :: .i .u16 :: .i .u8 :: .b :: .i .u16 :: .i .i64 :: .i .i64 :: .i .i64 :: .b :: .i .i64 :: .i .u16 :: .i .u16 :: .b :: .b :: .i .u8 :: .i .u8 :: .b :: .i .i64 :: .i .i64 :: .i .i64 :: []
theorem machTs_is : Try.prog.cellTypes Try.prog.depth 41 = some machTs := by kernel_rfl
theorem machTs_len : Try.prog.cellsOf 41 = machTs.length := by kernel_rfl
theorem machTy : AllTy Try.prog machTs machLks := ⟨Try.underlying22, Try.underlying22, Try.underlying22, Try.underlying22, Try.underlying22, Try.underlying22, Try.underlying22, Try.underlying22, Try.underlying22, Try.underlying4, Try.underlying4, Try.underlying4, Try.underlying4, Try.underlying4, Try.underlying4, Try.underlying22, Try.underlying22, Try.underlying22, Try.underlying22, Try.underlying22, Try.underlying22, Try.underlying22, Try.underlying22, Try.underlying22, Try.underlying4, Try.underlying4, Try.underlying4, Try.underlying4, Try.underlying4, Try.underlying4, Try.underlying26, Try.underlying26, Try.underlying26, Try.underlying26, Try.underlying26, Try.underlying5, Try.underlying4, Try.underlying5, Try.underlying5, Try.underlying4, Try.underlying5, Try.underlying22, Try.underlying22, Try.underlying4, Try.underlying4, Try.underlying22, Try.underlying22, Try.underlying5, Try.underlying4, Try.underlying22, Try.underlying22, Try.underlying22, Try.underlying5, Try.underlying4, Try.underlying22, Try.underlying22, Try.underlying22, Try.underlying5, Try.underlying4, Try.underlying22, Try.underlying3, Try.underlying3, Try.underlying3, Try.underlying4, Try.underlying3, Try.underlying22, Try.underlying22, Try.underlying4, Try.underlying4, Try.underlying5, Try.underlying5, Try.underlying4, Try.underlying3, Try.underlying3, Try.underlying3, trivial⟩
theorem has16 {n : Int} (h : IntKind.u16.has n) : u16 n := by
  obtain ⟨h1, h2⟩ := h
  simp [IntKind.min, IntKind.max, IntKind.signed, IntKind.bits] at h1 h2
  exact ⟨h1, by omega⟩
theorem has8 {n : Int} (h : IntKind.u8.has n) : 0 ≤ n ∧ n < 256 := by
  obtain ⟨h1, h2⟩ := h
  simp [IntKind.min, IntKind.max, IntKind.signed, IntKind.bits] at h1 h2
  exact ⟨h1, by omega⟩
theorem wf8 {n : Int} (h : (Lit.int .u8 n).wf = true) : 0 ≤ n ∧ n < 256 := by
  simp [Lit.wf, IntKind.min, IntKind.max, IntKind.signed, IntKind.bits] at h
  omega
theorem open_row {H : Type} {enc : TypeId × Value → H} {W : World} {c : Value} (h : ∃ n x, DataW.trod enc Try.prog W 0 (fun _ => true) true n 26 [c] = some x) : ∃ (ys : List Int) (sg : HS), Ro 1 c ys.length (bys ys) sg ∧ rng ys ∧ Held sg W := by
  obtain ⟨n, x, h⟩ := h
  obtain ⟨ys, sg, h1, h2, h3, _⟩ := open_nums (k := .u8) Try.underlying26 Try.underlying5 (by kernel_rfl) h
  exact ⟨ys, sg, h1, fun x hx => wf8 (h2 x hx), h3⟩
set_option maxRecDepth 20000 in
theorem open_machine {H : Type} {enc : TypeId × Value → H} {W : World} {base : Nat} {v : Value} {d : DataW H} {p : List MemPlace} (hv : Value.okWide Try.prog W .any base 41 v) (hd : DataW.Trod enc Try.prog W 0 (fun _ => true) true 41 v d p) :
    ∃ (m : Mach) (y : Rw) (s : Sg), v = .agg (machL m).toArray ∧ Rows m y s ∧ m.Ok ∧ y.rng ∧ Held s.hs W := by
  obtain ⟨cs, rfl, z0⟩ := open_leaves Try.underlying41 machTs_is machTs_len machTy hv
  unfold machLks at z0
  obtain ⟨c0, _, rfl, w0, z1⟩ := z0.i
  obtain ⟨c1, _, rfl, w1, z2⟩ := z1.i
  obtain ⟨c2, _, rfl, w2, z3⟩ := z2.i
  obtain ⟨c3, _, rfl, w3, z4⟩ := z3.i
  obtain ⟨c4, _, rfl, w4, z5⟩ := z4.i
  obtain ⟨c5, _, rfl, w5, z6⟩ := z5.i
  obtain ⟨c6, _, rfl, w6, z7⟩ := z6.i
  obtain ⟨c7, _, rfl, w7, z8⟩ := z7.i
  obtain ⟨c8, _, rfl, w8, z9⟩ := z8.i
  obtain ⟨c9, _, rfl, z10⟩ := z9.b
  obtain ⟨c10, _, rfl, z11⟩ := z10.b
  obtain ⟨c11, _, rfl, z12⟩ := z11.b
  obtain ⟨c12, _, rfl, z13⟩ := z12.b
  obtain ⟨c13, _, rfl, z14⟩ := z13.b
  obtain ⟨c14, _, rfl, z15⟩ := z14.b
  obtain ⟨c15, _, rfl, w15, z16⟩ := z15.i
  obtain ⟨c16, _, rfl, w16, z17⟩ := z16.i
  obtain ⟨c17, _, rfl, w17, z18⟩ := z17.i
  obtain ⟨c18, _, rfl, w18, z19⟩ := z18.i
  obtain ⟨c19, _, rfl, w19, z20⟩ := z19.i
  obtain ⟨c20, _, rfl, w20, z21⟩ := z20.i
  obtain ⟨c21, _, rfl, w21, z22⟩ := z21.i
  obtain ⟨c22, _, rfl, w22, z23⟩ := z22.i
  obtain ⟨c23, _, rfl, w23, z24⟩ := z23.i
  obtain ⟨c24, _, rfl, z25⟩ := z24.b
  obtain ⟨c25, _, rfl, z26⟩ := z25.b
  obtain ⟨c26, _, rfl, z27⟩ := z26.b
  obtain ⟨c27, _, rfl, z28⟩ := z27.b
  obtain ⟨c28, _, rfl, z29⟩ := z28.b
  obtain ⟨c29, _, rfl, z30⟩ := z29.b
  obtain ⟨c30, _, rfl, _, z31⟩ := z30.s
  obtain ⟨c31, _, rfl, _, z32⟩ := z31.s
  obtain ⟨c32, _, rfl, _, z33⟩ := z32.s
  obtain ⟨c33, _, rfl, _, z34⟩ := z33.s
  obtain ⟨c34, _, rfl, _, z35⟩ := z34.s
  obtain ⟨c35, _, rfl, w35, z36⟩ := z35.i
  obtain ⟨c36, _, rfl, z37⟩ := z36.b
  obtain ⟨c37, _, rfl, w37, z38⟩ := z37.i
  obtain ⟨c38, _, rfl, w38, z39⟩ := z38.i
  obtain ⟨c39, _, rfl, z40⟩ := z39.b
  obtain ⟨c40, _, rfl, w40, z41⟩ := z40.i
  obtain ⟨c41, _, rfl, w41, z42⟩ := z41.i
  obtain ⟨c42, _, rfl, w42, z43⟩ := z42.i
  obtain ⟨c43, _, rfl, z44⟩ := z43.b
  obtain ⟨c44, _, rfl, z45⟩ := z44.b
  obtain ⟨c45, _, rfl, w45, z46⟩ := z45.i
  obtain ⟨c46, _, rfl, w46, z47⟩ := z46.i
  obtain ⟨c47, _, rfl, w47, z48⟩ := z47.i
  obtain ⟨c48, _, rfl, z49⟩ := z48.b
  obtain ⟨c49, _, rfl, w49, z50⟩ := z49.i
  obtain ⟨c50, _, rfl, w50, z51⟩ := z50.i
  obtain ⟨c51, _, rfl, w51, z52⟩ := z51.i
  obtain ⟨c52, _, rfl, w52, z53⟩ := z52.i
  obtain ⟨c53, _, rfl, z54⟩ := z53.b
  obtain ⟨c54, _, rfl, w54, z55⟩ := z54.i
  obtain ⟨c55, _, rfl, w55, z56⟩ := z55.i
  obtain ⟨c56, _, rfl, w56, z57⟩ := z56.i
  obtain ⟨c57, _, rfl, w57, z58⟩ := z57.i
  obtain ⟨c58, _, rfl, z59⟩ := z58.b
  obtain ⟨c59, _, rfl, w59, z60⟩ := z59.i
  obtain ⟨c60, _, rfl, w60, z61⟩ := z60.i
  obtain ⟨c61, _, rfl, w61, z62⟩ := z61.i
  obtain ⟨c62, _, rfl, w62, z63⟩ := z62.i
  obtain ⟨c63, _, rfl, z64⟩ := z63.b
  obtain ⟨c64, _, rfl, w64, z65⟩ := z64.i
  obtain ⟨c65, _, rfl, w65, z66⟩ := z65.i
  obtain ⟨c66, _, rfl, w66, z67⟩ := z66.i
  obtain ⟨c67, _, rfl, z68⟩ := z67.b
  obtain ⟨c68, _, rfl, z69⟩ := z68.b
  obtain ⟨c69, _, rfl, w69, z70⟩ := z69.i
  obtain ⟨c70, _, rfl, w70, z71⟩ := z70.i
  obtain ⟨c71, _, rfl, z72⟩ := z71.b
  obtain ⟨c72, _, rfl, w72, z73⟩ := z72.i
  obtain ⟨c73, _, rfl, w73, z74⟩ := z73.i
  obtain ⟨c74, _, rfl, w74, z75⟩ := z74.i
  obtain rfl := z75.nil
  obtain ⟨y0, g0, r0, n0, q0⟩ := open_row (open_field (c := c30) 2 Try.underlying41 hd rfl (by kernel_rfl) rfl)
  obtain ⟨y1, g1, r1, n1, q1⟩ := open_row (open_field (c := c31) 3 Try.underlying41 hd rfl (by kernel_rfl) rfl)
  obtain ⟨y2, g2, r2, n2, q2⟩ := open_row (open_field (c := c32) 4 Try.underlying41 hd rfl (by kernel_rfl) rfl)
  obtain ⟨y3, g3, r3, n3, q3⟩ := open_row (open_field (c := c33) 5 Try.underlying41 hd rfl (by kernel_rfl) rfl)
  obtain ⟨y4, g4, r4, n4, q4⟩ := open_row (open_field (c := c34) 6 Try.underlying41 hd rfl (by kernel_rfl) rfl)
  refine ⟨(⟨⟨c0, c1, c2, c3, c4, c5, c6, c7, c8, c9, c10, c11, c12, c13, c14⟩, ⟨c15, c16, c17, c18, c19, c20, c21, c22, c23, c24, c25, c26, c27, c28, c29⟩, c30, c31, c32, c33, c34, c35, c36, c37, c38, c39, c40, c41, c42, c43, c44, ⟨c45, c46, c47, c48, c49⟩, ⟨c50, c51, c52, c53, c54⟩, ⟨c55, c56, c57, c58, c59⟩, c60, c61, c62, c63, c64, c65, c66, c67, c68, c69, c70, c71, c72, c73, c74⟩ : Mach), ⟨y0, y1, y2, y3, y4⟩, ⟨g0, g1, g2, g3, g4⟩, rfl, ⟨r0, r1, r2, r3, r4⟩, ⟨⟨has16 w0, has16 w1, has16 w2, has16 w3, has16 w4, has16 w5, has16 w6, has16 w7, has16 w8⟩, ⟨has16 w15, has16 w16, has16 w17, has16 w18, has16 w19, has16 w20, has16 w21, has16 w22, has16 w23⟩, has8 w35, has8 w37, has8 w38, has8 w40, has16 w41, has16 w42, ⟨has16 w45, has16 w46, has8 w47, has16 w49⟩, ⟨has16 w50, has16 w51, has8 w52, has16 w54⟩, ⟨has16 w55, has16 w56, has8 w57, has16 w59⟩, has16 w65, has16 w66, has8 w69, has8 w70⟩, ⟨n0, n1, n2, n3, n4⟩, ?_⟩
  have a4 := q4
  have a3 := q3.app a4 r3.ro r4.ro
  have o3 : ∀ e ∈ g3 ++ g4, e.rw = false := fun e he => (List.mem_append.1 he).elim (r3.ro e) (r4.ro e)
  have a2 := q2.app a3 r2.ro o3
  have o2 : ∀ e ∈ g2 ++ (g3 ++ g4), e.rw = false := fun e he => (List.mem_append.1 he).elim (r2.ro e) (o3 e)
  have a1 := q1.app a2 r1.ro o2
  have o1 : ∀ e ∈ g1 ++ (g2 ++ (g3 ++ g4)), e.rw = false := fun e he => (List.mem_append.1 he).elim (r1.ro e) (o2 e)
  exact q0.app a1 r0.ro o1
end Go.Sl
namespace Go.Proofs.Ytebllgcaenpdgaa
open Go.ChangeShapes Go.WideShapes Go.ChangeAt Go.RowKit Go.Sl
theorem Try.own : ownKnob Try.prog.godebug = none := by kernel_rfl
theorem Try.laidOut : laidOutB Try.prog = true := by kernel_rfl
set_option maxRecDepth 100000 in
theorem saveBytes_lifted (os : Os) (started : os.Started) (H : Type) (enc : TypeId × Value → H) :
    ReturnsInHanded {} Try.checked os 3 .any (Rows.saveBytesSpec.pre6 enc Try.prog Try.f3 Rows.saveBytesRow.domain false) (Rows.saveBytesSpec.post enc Try.prog Try.f3 false true false false) := by
  refine law_lifted (C := Try.checked) Try.own started (by kernel_rfl) Try.func3 (ChangeSpec.witness6 (enc := enc) (C := Try.checked) false ⟨#[], #[.agg (machL machZ).toArray, .slice none 0 0], []⟩ 8 (by kernel_rfl) (by kernel_rfl) (by kernel_rfl) (by kernel_rfl)) rfl Try.laidOut (by kernel_rfl) rfl Try.underlying4 ?_
  intro W base args ds p hval0 hA0
  have hval : ∀ (j : Nat) t v, Try.f3.params[j]? = some t → args[j]? = some v → Value.okWide Try.prog W .any base t v := hval0
  have hA : DataW.TrodAll enc Try.prog W 0 (fun _ => true) true Try.f3.params.toList args.toList ds p := hA0
  rw [Try.params3] at hA hval
  obtain ⟨v0, v1, d0, d1, p0, p1, rfl, rfl, rfl, h0, h1⟩ := trodAll_two hA
  obtain ⟨m, y, s, rfl, R, hm, hy, q0⟩ := open_machine (hval 0 41 v0 rfl rfl) h0
  obtain ⟨a1, l1, c1, rfl⟩ := okWide_slice Try.underlying26 (hval 1 26 v1 rfl rfl)
  obtain ⟨n1, hf1⟩ := h1
  obtain ⟨ys, sg, Rb, hr, q1⟩ := Sl.open_row ⟨n1, _, hf1⟩
  exact ⟨rfl, s.hs ++ sg, fun e he => (List.mem_append.1 he).elim (R.ro e) (Rb.ro e), q0.app q1 R.ro Rb.ro, SaveBytes_fn R hm hy Rb hr⟩
theorem saveBytes_holds : Rows.SaveBytesSaid :=
  OpenClaim.holds_of_wide 3 Try.f3 rfl rfl rfl rfl rfl rfl rfl ⟨rfl, rfl, rfl, rfl, rfl⟩ rfl rfl rfl rfl rfl (by kernel_rfl) Try.func3 (by kernel_rfl)
    (of_decide_eq_true (by kernel_rfl)) (by unfold Func.isWrapper; rw [if_neg (of_decide_eq_false (by kernel_rfl))]; exact ⟨rfl, rfl⟩)
    (fun os started H enc _ => saveBytes_lifted os started H enc)
set_option maxRecDepth 100000 in
theorem saveTorn_lifted (os : Os) (started : os.Started) (H : Type) (enc : TypeId × Value → H) :
    ReturnsInHanded {} Try.checked os 4 .any (Rows.saveTornSpec.pre6 enc Try.prog Try.f4 Rows.saveTornRow.domain false) (Rows.saveTornSpec.post enc Try.prog Try.f4 false true false false) := by
  refine law_lifted (C := Try.checked) Try.own started (by kernel_rfl) Try.func4 (ChangeSpec.witness6 (enc := enc) (C := Try.checked) false ⟨#[], #[.agg (machL machZ).toArray, .agg (machL machZ).toArray, .int .i64 0, .int .u8 0], []⟩ 8 (by kernel_rfl) (by kernel_rfl) (by kernel_rfl) (by kernel_rfl)) rfl Try.laidOut (by kernel_rfl) rfl Try.underlying4 ?_
  intro W base args ds p hval0 hA0
  have hval : ∀ (j : Nat) t v, Try.f4.params[j]? = some t → args[j]? = some v → Value.okWide Try.prog W .any base t v := hval0
  have hA : DataW.TrodAll enc Try.prog W 0 (fun _ => true) true Try.f4.params.toList args.toList ds p := hA0
  rw [Try.params4] at hA hval
  obtain ⟨v0, v1, v2, v3, d0, d1, d2, d3, p0, p1, p2, p3, rfl, rfl, rfl, h0, h1, h2, h3⟩ := trodAll_four hA
  obtain ⟨m, y, s, rfl, R, hm, hy, q0⟩ := open_machine (hval 0 41 v0 rfl rfl) h0
  obtain ⟨k, z, t, rfl, R', hk, hz, q1⟩ := open_machine (hval 1 41 v1 rfl rfl) h1
  obtain ⟨c, rfl, rfl, rfl, wc⟩ := open_int Try.underlying3 (hval 2 3 v2 rfl rfl) h2
  obtain ⟨q, rfl, rfl, rfl, wq⟩ := open_int Try.underlying5 (hval 3 5 v3 rfl rfl) h3
  have hc : -9223372036854775808 ≤ c ∧ c < 9223372036854775808 := by
    simp [Lit.wf, IntKind.min, IntKind.max, IntKind.signed, IntKind.bits] at wc
    omega
  exact ⟨rfl, s.hs ++ t.hs, fun e he => (List.mem_append.1 he).elim (R.ro e) (R'.ro e), q0.app q1 R.ro R'.ro, SaveTorn_fn R R' hm hk hy hz hc (wf8 wq)⟩
theorem saveTorn_holds : Rows.SaveTornSaid :=
  OpenClaim.holds_of_wide 4 Try.f4 rfl rfl rfl rfl rfl rfl rfl ⟨rfl, rfl, rfl, rfl, rfl⟩ rfl rfl rfl rfl rfl (by kernel_rfl) Try.func4 (by kernel_rfl)
    (of_decide_eq_true (by kernel_rfl)) (by unfold Func.isWrapper; rw [if_neg (of_decide_eq_false (by kernel_rfl))]; exact ⟨rfl, rfl⟩)
    (fun os started H enc _ => saveTorn_lifted os started H enc)
end Go.Proofs.Ytebllgcaenpdgaa
