/-
  The facts on types and functions of this program that the small logic finds by instances; printed by a program off the loaded program's own lemmas. Holds under no condition.
-/
import Derived.Test.YtebllgcaenpdgaaProg
import Derived.Test.YtebllgcaenpdgaaSlDefer
set_option linter.all false
namespace Go.Sl
open Go

instance i1 : IsAgg Go.Proofs.Try.prog 1 false := ⟨Go.Proofs.Try.isAgg1⟩
instance i2 : Siz Go.Proofs.Try.prog 1 1 := ⟨Go.Proofs.Try.sizeOf1⟩
instance i3 : Zero Go.Proofs.Try.prog 1 Go.Value.nilFunc := ⟨Go.Proofs.Try.zeroValue1⟩
instance i4 : Und Go.Proofs.Try.prog 1 (Go.TypeDesc.func #[] #[] false) := ⟨Go.Proofs.Try.runUnderlying1⟩
instance i5 : IsAgg Go.Proofs.Try.prog 3 false := ⟨Go.Proofs.Try.isAgg3⟩
instance i6 : Siz Go.Proofs.Try.prog 3 1 := ⟨Go.Proofs.Try.sizeOf3⟩
instance i7 : Zero Go.Proofs.Try.prog 3 (Go.Value.int Go.IntKind.i64 0) := ⟨Go.Proofs.Try.zeroValue3⟩
instance i8 : Und Go.Proofs.Try.prog 3 (Go.TypeDesc.int Go.IntKind.i64) := ⟨Go.Proofs.Try.runUnderlying3⟩
instance i9 : IsAgg Go.Proofs.Try.prog 4 false := ⟨Go.Proofs.Try.isAgg4⟩
instance i10 : Siz Go.Proofs.Try.prog 4 1 := ⟨Go.Proofs.Try.sizeOf4⟩
instance i11 : Zero Go.Proofs.Try.prog 4 (Go.Value.bool false) := ⟨Go.Proofs.Try.zeroValue4⟩
instance i12 : Und Go.Proofs.Try.prog 4 Go.TypeDesc.bool := ⟨Go.Proofs.Try.runUnderlying4⟩
instance i13 : IsAgg Go.Proofs.Try.prog 5 false := ⟨Go.Proofs.Try.isAgg5⟩
instance i14 : Siz Go.Proofs.Try.prog 5 1 := ⟨Go.Proofs.Try.sizeOf5⟩
instance i15 : Zero Go.Proofs.Try.prog 5 (Go.Value.int Go.IntKind.u8 0) := ⟨Go.Proofs.Try.zeroValue5⟩
instance i16 : Und Go.Proofs.Try.prog 5 (Go.TypeDesc.int Go.IntKind.u8) := ⟨Go.Proofs.Try.runUnderlying5⟩
instance i17 : IsAgg Go.Proofs.Try.prog 9 false := ⟨Go.Proofs.Try.isAgg9⟩
instance i18 : Siz Go.Proofs.Try.prog 9 1 := ⟨Go.Proofs.Try.sizeOf9⟩
instance i19 : Zero Go.Proofs.Try.prog 9 (Go.Value.string { data := #[] }) := ⟨Go.Proofs.Try.zeroValue9⟩
instance i20 : Und Go.Proofs.Try.prog 9 Go.TypeDesc.string := ⟨Go.Proofs.Try.runUnderlying9⟩
instance i21 : IsAgg Go.Proofs.Try.prog 20 false := ⟨Go.Proofs.Try.isAgg20⟩
instance i22 : Siz Go.Proofs.Try.prog 20 1 := ⟨Go.Proofs.Try.sizeOf20⟩
instance i23 : Zero Go.Proofs.Try.prog 20 Go.Value.nilIface := ⟨Go.Proofs.Try.zeroValue20⟩
instance i24 : Und Go.Proofs.Try.prog 20 (Go.TypeDesc.interface #[]) := ⟨Go.Proofs.Try.runUnderlying20⟩
instance i25 : IsAgg Go.Proofs.Try.prog 22 false := ⟨Go.Proofs.Try.isAgg22⟩
instance i26 : Siz Go.Proofs.Try.prog 22 1 := ⟨Go.Proofs.Try.sizeOf22⟩
instance i27 : Zero Go.Proofs.Try.prog 22 (Go.Value.int Go.IntKind.u16 0) := ⟨Go.Proofs.Try.zeroValue22⟩
instance i28 : Und Go.Proofs.Try.prog 22 (Go.TypeDesc.int Go.IntKind.u16) := ⟨Go.Proofs.Try.runUnderlying22⟩
instance i29 : IsAgg Go.Proofs.Try.prog 23 true := ⟨Go.Proofs.Try.isAgg23⟩
instance i30 : Siz Go.Proofs.Try.prog 23 8 := ⟨Go.Proofs.Try.sizeOf23⟩
instance i31 : Zero Go.Proofs.Try.prog 23 (Go.Value.agg #[Go.Value.int Go.IntKind.u16 0, Go.Value.int Go.IntKind.u16 0, Go.Value.int Go.IntKind.u16 0, Go.Value.int Go.IntKind.u16 0, Go.Value.int Go.IntKind.u16 0, Go.Value.int Go.IntKind.u16 0, Go.Value.int Go.IntKind.u16 0, Go.Value.int Go.IntKind.u16 0]) := ⟨Go.Proofs.Try.zeroValue23⟩
instance i32 : Und Go.Proofs.Try.prog 23 (Go.TypeDesc.array 8 22) := ⟨Go.Proofs.Try.runUnderlying23⟩
instance i33 : IsAgg Go.Proofs.Try.prog 25 true := ⟨Go.Proofs.Try.isAgg25⟩
instance i34 : Siz Go.Proofs.Try.prog 25 15 := ⟨Go.Proofs.Try.sizeOf25⟩
instance i35 : Zero Go.Proofs.Try.prog 25 (Go.Value.agg #[Go.Value.int Go.IntKind.u16 0, Go.Value.int Go.IntKind.u16 0, Go.Value.int Go.IntKind.u16 0, Go.Value.int Go.IntKind.u16 0, Go.Value.int Go.IntKind.u16 0, Go.Value.int Go.IntKind.u16 0, Go.Value.int Go.IntKind.u16 0, Go.Value.int Go.IntKind.u16 0, Go.Value.int Go.IntKind.u16 0, Go.Value.bool false, Go.Value.bool false, Go.Value.bool false, Go.Value.bool false, Go.Value.bool false, Go.Value.bool false]) := ⟨Go.Proofs.Try.zeroValue25⟩
instance i36 : Und Go.Proofs.Try.prog 25 (Go.TypeDesc.struct #[{ name := "R", type := 23, offset := 0, embedded := false, tag := "", pkgPath := "", byteOffset := 0 }, { name := "PC", type := 22, offset := 8, embedded := false, tag := "", pkgPath := "", byteOffset := 16 }, { name := "Z", type := 4, offset := 9, embedded := false, tag := "", pkgPath := "", byteOffset := 18 }, { name := "N", type := 4, offset := 10, embedded := false, tag := "", pkgPath := "", byteOffset := 19 }, { name := "C", type := 4, offset := 11, embedded := false, tag := "", pkgPath := "", byteOffset := 20 }, { name := "V", type := 4, offset := 12, embedded := false, tag := "", pkgPath := "", byteOffset := 21 }, { name := "May", type := 4, offset := 13, embedded := false, tag := "", pkgPath := "", byteOffset := 22 }, { name := "Waits", type := 4, offset := 14, embedded := false, tag := "", pkgPath := "", byteOffset := 23 }]) := ⟨Go.Proofs.Try.runUnderlying25⟩
instance i37 : IsAgg Go.Proofs.Try.prog 26 false := ⟨Go.Proofs.Try.isAgg26⟩
instance i38 : Siz Go.Proofs.Try.prog 26 1 := ⟨Go.Proofs.Try.sizeOf26⟩
instance i39 : Zero Go.Proofs.Try.prog 26 (Go.Value.slice none 0 0) := ⟨Go.Proofs.Try.zeroValue26⟩
instance i40 : Und Go.Proofs.Try.prog 26 (Go.TypeDesc.slice 5) := ⟨Go.Proofs.Try.runUnderlying26⟩
instance i41 : IsAgg Go.Proofs.Try.prog 28 true := ⟨Go.Proofs.Try.isAgg28⟩
instance i42 : Siz Go.Proofs.Try.prog 28 3 := ⟨Go.Proofs.Try.sizeOf28⟩
instance i43 : Zero Go.Proofs.Try.prog 28 (Go.Value.agg #[Go.Value.int Go.IntKind.u8 0, Go.Value.bool false, Go.Value.int Go.IntKind.u8 0]) := ⟨Go.Proofs.Try.zeroValue28⟩
instance i44 : Und Go.Proofs.Try.prog 28 (Go.TypeDesc.struct #[{ name := "Down", type := 5, offset := 0, embedded := false, tag := "", pkgPath := "", byteOffset := 0 }, { name := "Latch", type := 4, offset := 1, embedded := false, tag := "", pkgPath := "", byteOffset := 1 }, { name := "Shift", type := 5, offset := 2, embedded := false, tag := "", pkgPath := "", byteOffset := 2 }]) := ⟨Go.Proofs.Try.runUnderlying28⟩
instance i45 : IsAgg Go.Proofs.Try.prog 29 true := ⟨Go.Proofs.Try.isAgg29⟩
instance i46 : Siz Go.Proofs.Try.prog 29 6 := ⟨Go.Proofs.Try.sizeOf29⟩
instance i47 : Zero Go.Proofs.Try.prog 29 (Go.Value.agg #[Go.Value.int Go.IntKind.u8 0, Go.Value.bool false, Go.Value.int Go.IntKind.u8 0, Go.Value.int Go.IntKind.u8 0, Go.Value.bool false, Go.Value.int Go.IntKind.u8 0]) := ⟨Go.Proofs.Try.zeroValue29⟩
instance i48 : Und Go.Proofs.Try.prog 29 (Go.TypeDesc.array 2 28) := ⟨Go.Proofs.Try.runUnderlying29⟩
instance i49 : IsAgg Go.Proofs.Try.prog 31 true := ⟨Go.Proofs.Try.isAgg31⟩
instance i50 : Siz Go.Proofs.Try.prog 31 4 := ⟨Go.Proofs.Try.sizeOf31⟩
instance i51 : Zero Go.Proofs.Try.prog 31 (Go.Value.agg #[Go.Value.int Go.IntKind.u16 0, Go.Value.int Go.IntKind.u16 0, Go.Value.bool false, Go.Value.bool false]) := ⟨Go.Proofs.Try.zeroValue31⟩
instance i52 : Und Go.Proofs.Try.prog 31 (Go.TypeDesc.struct #[{ name := "Reload", type := 22, offset := 0, embedded := false, tag := "", pkgPath := "", byteOffset := 0 }, { name := "Count", type := 22, offset := 1, embedded := false, tag := "", pkgPath := "", byteOffset := 2 }, { name := "On", type := 4, offset := 2, embedded := false, tag := "", pkgPath := "", byteOffset := 4 }, { name := "Rings", type := 4, offset := 3, embedded := false, tag := "", pkgPath := "", byteOffset := 5 }]) := ⟨Go.Proofs.Try.runUnderlying31⟩
instance i53 : IsAgg Go.Proofs.Try.prog 33 true := ⟨Go.Proofs.Try.isAgg33⟩
instance i54 : Siz Go.Proofs.Try.prog 33 5 := ⟨Go.Proofs.Try.sizeOf33⟩
instance i55 : Zero Go.Proofs.Try.prog 33 (Go.Value.agg #[Go.Value.int Go.IntKind.u16 0, Go.Value.int Go.IntKind.u16 0, Go.Value.int Go.IntKind.u8 0, Go.Value.bool false, Go.Value.int Go.IntKind.u16 0]) := ⟨Go.Proofs.Try.zeroValue33⟩
instance i56 : Und Go.Proofs.Try.prog 33 (Go.TypeDesc.struct #[{ name := "Period", type := 22, offset := 0, embedded := false, tag := "", pkgPath := "", byteOffset := 0 }, { name := "Count", type := 22, offset := 1, embedded := false, tag := "", pkgPath := "", byteOffset := 2 }, { name := "Loud", type := 5, offset := 2, embedded := false, tag := "", pkgPath := "", byteOffset := 4 }, { name := "High", type := 4, offset := 3, embedded := false, tag := "", pkgPath := "", byteOffset := 5 }, { name := "Noise", type := 22, offset := 4, embedded := false, tag := "", pkgPath := "", byteOffset := 6 }]) := ⟨Go.Proofs.Try.runUnderlying33⟩
instance i57 : IsAgg Go.Proofs.Try.prog 34 true := ⟨Go.Proofs.Try.isAgg34⟩
instance i58 : Siz Go.Proofs.Try.prog 34 15 := ⟨Go.Proofs.Try.sizeOf34⟩
instance i59 : Zero Go.Proofs.Try.prog 34 (Go.Value.agg #[Go.Value.int Go.IntKind.u16 0, Go.Value.int Go.IntKind.u16 0, Go.Value.int Go.IntKind.u8 0, Go.Value.bool false, Go.Value.int Go.IntKind.u16 0, Go.Value.int Go.IntKind.u16 0, Go.Value.int Go.IntKind.u16 0, Go.Value.int Go.IntKind.u8 0, Go.Value.bool false, Go.Value.int Go.IntKind.u16 0, Go.Value.int Go.IntKind.u16 0, Go.Value.int Go.IntKind.u16 0, Go.Value.int Go.IntKind.u8 0, Go.Value.bool false, Go.Value.int Go.IntKind.u16 0]) := ⟨Go.Proofs.Try.zeroValue34⟩
instance i60 : Und Go.Proofs.Try.prog 34 (Go.TypeDesc.array 3 33) := ⟨Go.Proofs.Try.runUnderlying34⟩
instance i61 : IsAgg Go.Proofs.Try.prog 36 true := ⟨Go.Proofs.Try.isAgg36⟩
instance i62 : Siz Go.Proofs.Try.prog 36 16 := ⟨Go.Proofs.Try.sizeOf36⟩
instance i63 : Zero Go.Proofs.Try.prog 36 (Go.Value.agg #[Go.Value.int Go.IntKind.u16 0, Go.Value.int Go.IntKind.u16 0, Go.Value.int Go.IntKind.u8 0, Go.Value.bool false, Go.Value.int Go.IntKind.u16 0, Go.Value.int Go.IntKind.u16 0, Go.Value.int Go.IntKind.u16 0, Go.Value.int Go.IntKind.u8 0, Go.Value.bool false, Go.Value.int Go.IntKind.u16 0, Go.Value.int Go.IntKind.u16 0, Go.Value.int Go.IntKind.u16 0, Go.Value.int Go.IntKind.u8 0, Go.Value.bool false, Go.Value.int Go.IntKind.u16 0, Go.Value.int Go.IntKind.i64 0]) := ⟨Go.Proofs.Try.zeroValue36⟩
instance i64 : Und Go.Proofs.Try.prog 36 (Go.TypeDesc.struct #[{ name := "V", type := 34, offset := 0, embedded := false, tag := "", pkgPath := "", byteOffset := 0 }, { name := "Wait", type := 3, offset := 15, embedded := false, tag := "", pkgPath := "", byteOffset := 24 }]) := ⟨Go.Proofs.Try.runUnderlying36⟩
instance i65 : IsAgg Go.Proofs.Try.prog 38 true := ⟨Go.Proofs.Try.isAgg38⟩
instance i66 : Siz Go.Proofs.Try.prog 38 4 := ⟨Go.Proofs.Try.sizeOf38⟩
instance i67 : Zero Go.Proofs.Try.prog 38 (Go.Value.agg #[Go.Value.int Go.IntKind.i64 0, Go.Value.int Go.IntKind.i64 0, Go.Value.bool false, Go.Value.int Go.IntKind.i64 0]) := ⟨Go.Proofs.Try.zeroValue38⟩
instance i68 : Und Go.Proofs.Try.prog 38 (Go.TypeDesc.struct #[{ name := "Line", type := 3, offset := 0, embedded := false, tag := "", pkgPath := "", byteOffset := 0 }, { name := "At", type := 3, offset := 1, embedded := false, tag := "", pkgPath := "", byteOffset := 8 }, { name := "Rings", type := 4, offset := 2, embedded := false, tag := "", pkgPath := "", byteOffset := 16 }, { name := "Frame", type := 3, offset := 3, embedded := false, tag := "", pkgPath := "", byteOffset := 24 }]) := ⟨Go.Proofs.Try.runUnderlying38⟩
instance i69 : IsAgg Go.Proofs.Try.prog 39 true := ⟨Go.Proofs.Try.isAgg39⟩
instance i70 : Siz Go.Proofs.Try.prog 39 2 := ⟨Go.Proofs.Try.sizeOf39⟩
instance i71 : Zero Go.Proofs.Try.prog 39 (Go.Value.agg #[Go.Value.int Go.IntKind.u8 0, Go.Value.int Go.IntKind.u8 0]) := ⟨Go.Proofs.Try.zeroValue39⟩
instance i72 : Und Go.Proofs.Try.prog 39 (Go.TypeDesc.array 2 5) := ⟨Go.Proofs.Try.runUnderlying39⟩
instance i73 : IsAgg Go.Proofs.Try.prog 41 true := ⟨Go.Proofs.Try.isAgg41⟩
instance i74 : Siz Go.Proofs.Try.prog 41 75 := ⟨Go.Proofs.Try.sizeOf41⟩
set_option maxRecDepth 20000 in
theorem zeroV41 : ∀ w, (zeroValue 41).run Go.Proofs.Try.prog w = .ok (Go.Value.agg (Go.Value.int Go.IntKind.u16 0 :: Go.Value.int Go.IntKind.u16 0 :: Go.Value.int Go.IntKind.u16 0 :: Go.Value.int Go.IntKind.u16 0 :: Go.Value.int Go.IntKind.u16 0 :: Go.Value.int Go.IntKind.u16 0 :: Go.Value.int Go.IntKind.u16 0 :: Go.Value.int Go.IntKind.u16 0 :: Go.Value.int Go.IntKind.u16 0 :: Go.Value.bool false :: Go.Value.bool false :: Go.Value.bool false :: Go.Value.bool false :: Go.Value.bool false :: Go.Value.bool false :: Go.Value.int Go.IntKind.u16 0 :: Go.Value.int Go.IntKind.u16 0 :: Go.Value.int Go.IntKind.u16 0 :: Go.Value.int Go.IntKind.u16 0 :: Go.Value.int Go.IntKind.u16 0 :: Go.Value.int Go.IntKind.u16 0 :: Go.Value.int Go.IntKind.u16 0 :: Go.Value.int Go.IntKind.u16 0 :: Go.Value.int Go.IntKind.u16 0 :: Go.Value.bool false :: Go.Value.bool false :: Go.Value.bool false :: Go.Value.bool false :: Go.Value.bool false :: Go.Value.bool false :: Go.Value.slice none 0 0 :: Go.Value.slice none 0 0 :: Go.Value.slice none 0 0 :: Go.Value.slice none 0 0 :: Go.Value.slice none 0 0 :: Go.Value.int Go.IntKind.u8 0 :: Go.Value.bool false :: Go.Value.int Go.IntKind.u8 0 :: Go.Value.int Go.IntKind.u8 0 :: Go.Value.bool false :: Go.Value.int Go.IntKind.u8 0 :: Go.Value.int Go.IntKind.u16 0 :: Go.Value.int Go.IntKind.u16 0 :: Go.Value.bool false :: Go.Value.bool false :: Go.Value.int Go.IntKind.u16 0 :: Go.Value.int Go.IntKind.u16 0 :: Go.Value.int Go.IntKind.u8 0 :: Go.Value.bool false :: Go.Value.int Go.IntKind.u16 0 :: Go.Value.int Go.IntKind.u16 0 :: Go.Value.int Go.IntKind.u16 0 :: Go.Value.int Go.IntKind.u8 0 :: Go.Value.bool false :: Go.Value.int Go.IntKind.u16 0 :: Go.Value.int Go.IntKind.u16 0 :: Go.Value.int Go.IntKind.u16 0 :: Go.Value.int Go.IntKind.u8 0 :: Go.Value.bool false :: Go.Value.int Go.IntKind.u16 0 :: Go.Value.int Go.IntKind.i64 0 :: Go.Value.int Go.IntKind.i64 0 :: Go.Value.int Go.IntKind.i64 0 :: Go.Value.bool false :: Go.Value.int Go.IntKind.i64 0 :: Go.Value.int Go.IntKind.u16 0 :: Go.Value.int Go.IntKind.u16 0 :: Go.Value.bool false :: Go.Value.bool false :: Go.Value.int Go.IntKind.u8 0 :: Go.Value.int Go.IntKind.u8 0 :: Go.Value.bool false :: Go.Value.int Go.IntKind.i64 0 :: Go.Value.int Go.IntKind.i64 0 :: Go.Value.int Go.IntKind.i64 0 :: []).toArray) w := fun w => by
  simp only [zeroValue, Sem.run_bind, Go.Proofs.Try.typeInfo41, Result.andThen_ok]
  exact rfl
instance i75 : Zero Go.Proofs.Try.prog 41 (Go.Value.agg (Go.Value.int Go.IntKind.u16 0 :: Go.Value.int Go.IntKind.u16 0 :: Go.Value.int Go.IntKind.u16 0 :: Go.Value.int Go.IntKind.u16 0 :: Go.Value.int Go.IntKind.u16 0 :: Go.Value.int Go.IntKind.u16 0 :: Go.Value.int Go.IntKind.u16 0 :: Go.Value.int Go.IntKind.u16 0 :: Go.Value.int Go.IntKind.u16 0 :: Go.Value.bool false :: Go.Value.bool false :: Go.Value.bool false :: Go.Value.bool false :: Go.Value.bool false :: Go.Value.bool false :: Go.Value.int Go.IntKind.u16 0 :: Go.Value.int Go.IntKind.u16 0 :: Go.Value.int Go.IntKind.u16 0 :: Go.Value.int Go.IntKind.u16 0 :: Go.Value.int Go.IntKind.u16 0 :: Go.Value.int Go.IntKind.u16 0 :: Go.Value.int Go.IntKind.u16 0 :: Go.Value.int Go.IntKind.u16 0 :: Go.Value.int Go.IntKind.u16 0 :: Go.Value.bool false :: Go.Value.bool false :: Go.Value.bool false :: Go.Value.bool false :: Go.Value.bool false :: Go.Value.bool false :: Go.Value.slice none 0 0 :: Go.Value.slice none 0 0 :: Go.Value.slice none 0 0 :: Go.Value.slice none 0 0 :: Go.Value.slice none 0 0 :: Go.Value.int Go.IntKind.u8 0 :: Go.Value.bool false :: Go.Value.int Go.IntKind.u8 0 :: Go.Value.int Go.IntKind.u8 0 :: Go.Value.bool false :: Go.Value.int Go.IntKind.u8 0 :: Go.Value.int Go.IntKind.u16 0 :: Go.Value.int Go.IntKind.u16 0 :: Go.Value.bool false :: Go.Value.bool false :: Go.Value.int Go.IntKind.u16 0 :: Go.Value.int Go.IntKind.u16 0 :: Go.Value.int Go.IntKind.u8 0 :: Go.Value.bool false :: Go.Value.int Go.IntKind.u16 0 :: Go.Value.int Go.IntKind.u16 0 :: Go.Value.int Go.IntKind.u16 0 :: Go.Value.int Go.IntKind.u8 0 :: Go.Value.bool false :: Go.Value.int Go.IntKind.u16 0 :: Go.Value.int Go.IntKind.u16 0 :: Go.Value.int Go.IntKind.u16 0 :: Go.Value.int Go.IntKind.u8 0 :: Go.Value.bool false :: Go.Value.int Go.IntKind.u16 0 :: Go.Value.int Go.IntKind.i64 0 :: Go.Value.int Go.IntKind.i64 0 :: Go.Value.int Go.IntKind.i64 0 :: Go.Value.bool false :: Go.Value.int Go.IntKind.i64 0 :: Go.Value.int Go.IntKind.u16 0 :: Go.Value.int Go.IntKind.u16 0 :: Go.Value.bool false :: Go.Value.bool false :: Go.Value.int Go.IntKind.u8 0 :: Go.Value.int Go.IntKind.u8 0 :: Go.Value.bool false :: Go.Value.int Go.IntKind.i64 0 :: Go.Value.int Go.IntKind.i64 0 :: Go.Value.int Go.IntKind.i64 0 :: []).toArray) := ⟨zeroV41⟩
instance i76 : Und Go.Proofs.Try.prog 41 (Go.TypeDesc.struct #[{ name := "Main", type := 25, offset := 0, embedded := false, tag := "", pkgPath := "", byteOffset := 0 }, { name := "Aux", type := 25, offset := 15, embedded := false, tag := "", pkgPath := "", byteOffset := 24 }, { name := "MainRom", type := 26, offset := 30, embedded := false, tag := "", pkgPath := "", byteOffset := 48 }, { name := "AuxRom", type := 26, offset := 31, embedded := false, tag := "", pkgPath := "", byteOffset := 72 }, { name := "Ram", type := 26, offset := 32, embedded := false, tag := "", pkgPath := "", byteOffset := 96 }, { name := "Own", type := 26, offset := 33, embedded := false, tag := "", pkgPath := "", byteOffset := 120 }, { name := "Video", type := 26, offset := 34, embedded := false, tag := "", pkgPath := "", byteOffset := 144 }, { name := "Pads", type := 29, offset := 35, embedded := false, tag := "", pkgPath := "", byteOffset := 168 }, { name := "T", type := 31, offset := 41, embedded := false, tag := "", pkgPath := "", byteOffset := 174 }, { name := "S", type := 36, offset := 45, embedded := false, tag := "", pkgPath := "", byteOffset := 184 }, { name := "B", type := 38, offset := 61, embedded := false, tag := "", pkgPath := "", byteOffset := 216 }, { name := "From", type := 22, offset := 65, embedded := false, tag := "", pkgPath := "", byteOffset := 248 }, { name := "To", type := 22, offset := 66, embedded := false, tag := "", pkgPath := "", byteOffset := 250 }, { name := "Granted", type := 4, offset := 67, embedded := false, tag := "", pkgPath := "", byteOffset := 252 }, { name := "Held", type := 4, offset := 68, embedded := false, tag := "", pkgPath := "", byteOffset := 253 }, { name := "Mail", type := 39, offset := 69, embedded := false, tag := "", pkgPath := "", byteOffset := 254 }, { name := "Rung", type := 4, offset := 71, embedded := false, tag := "", pkgPath := "", byteOffset := 256 }, { name := "Clock", type := 3, offset := 72, embedded := false, tag := "", pkgPath := "", byteOffset := 264 }, { name := "MainReady", type := 3, offset := 73, embedded := false, tag := "", pkgPath := "", byteOffset := 272 }, { name := "AuxReady", type := 3, offset := 74, embedded := false, tag := "", pkgPath := "", byteOffset := 280 }]) := ⟨Go.Proofs.Try.runUnderlying41⟩
instance i77 : IsAgg Go.Proofs.Try.prog 42 false := ⟨Go.Proofs.Try.isAgg42⟩
instance i78 : Siz Go.Proofs.Try.prog 42 1 := ⟨Go.Proofs.Try.sizeOf42⟩
instance i79 : Zero Go.Proofs.Try.prog 42 (Go.Value.int Go.IntKind.i64 0) := ⟨Go.Proofs.Try.zeroValue42⟩
instance i80 : Und Go.Proofs.Try.prog 42 (Go.TypeDesc.int Go.IntKind.i64) := ⟨Go.Proofs.Try.runUnderlying42⟩
instance i81 : IsAgg Go.Proofs.Try.prog 55 false := ⟨Go.Proofs.Try.isAgg55⟩
instance i82 : Siz Go.Proofs.Try.prog 55 1 := ⟨Go.Proofs.Try.sizeOf55⟩
instance i83 : Zero Go.Proofs.Try.prog 55 (Go.Value.slice none 0 0) := ⟨Go.Proofs.Try.zeroValue55⟩
instance i84 : Und Go.Proofs.Try.prog 55 (Go.TypeDesc.slice 26) := ⟨Go.Proofs.Try.runUnderlying55⟩
instance i85 : IsAgg Go.Proofs.Try.prog 57 false := ⟨Go.Proofs.Try.isAgg57⟩
instance i86 : Siz Go.Proofs.Try.prog 57 1 := ⟨Go.Proofs.Try.sizeOf57⟩
instance i87 : Zero Go.Proofs.Try.prog 57 (Go.Value.pointer none) := ⟨Go.Proofs.Try.zeroValue57⟩
instance i88 : Und Go.Proofs.Try.prog 57 (Go.TypeDesc.pointer 59) := ⟨Go.Proofs.Try.runUnderlying57⟩
instance i89 : IsAgg Go.Proofs.Try.prog 59 true := ⟨Go.Proofs.Try.isAgg59⟩
instance i90 : Siz Go.Proofs.Try.prog 59 1 := ⟨Go.Proofs.Try.sizeOf59⟩
instance i91 : Zero Go.Proofs.Try.prog 59 (Go.Value.agg #[Go.Value.slice none 0 0]) := ⟨Go.Proofs.Try.zeroValue59⟩
instance i92 : Und Go.Proofs.Try.prog 59 (Go.TypeDesc.struct #[{ name := "b", type := 26, offset := 0, embedded := false, tag := "", pkgPath := "marquee/save", byteOffset := 0 }]) := ⟨Go.Proofs.Try.runUnderlying59⟩
instance i93 : IsAgg Go.Proofs.Try.prog 61 true := ⟨Go.Proofs.Try.isAgg61⟩
instance i94 : Siz Go.Proofs.Try.prog 61 5 := ⟨Go.Proofs.Try.sizeOf61⟩
instance i95 : Zero Go.Proofs.Try.prog 61 (Go.Value.agg #[Go.Value.slice none 0 0, Go.Value.slice none 0 0, Go.Value.slice none 0 0, Go.Value.slice none 0 0, Go.Value.slice none 0 0]) := ⟨Go.Proofs.Try.zeroValue61⟩
instance i96 : Und Go.Proofs.Try.prog 61 (Go.TypeDesc.array 5 26) := ⟨Go.Proofs.Try.runUnderlying61⟩
instance i97 : IsAgg Go.Proofs.Try.prog 66 true := ⟨Go.Proofs.Try.isAgg66⟩
instance i98 : Siz Go.Proofs.Try.prog 66 3 := ⟨Go.Proofs.Try.sizeOf66⟩
instance i99 : Zero Go.Proofs.Try.prog 66 (Go.Value.agg #[Go.Value.int Go.IntKind.i64 0, Go.Value.int Go.IntKind.i64 0, Go.Value.int Go.IntKind.i64 0]) := ⟨Go.Proofs.Try.zeroValue66⟩
instance i100 : Und Go.Proofs.Try.prog 66 (Go.TypeDesc.array 3 3) := ⟨Go.Proofs.Try.runUnderlying66⟩
instance i101 : IsAgg Go.Proofs.Try.prog 68 true := ⟨Go.Proofs.Try.isAgg68⟩
instance i102 : Siz Go.Proofs.Try.prog 68 0 := ⟨Go.Proofs.Try.sizeOf68⟩
instance i103 : Zero Go.Proofs.Try.prog 68 (Go.Value.agg #[]) := ⟨Go.Proofs.Try.zeroValue68⟩
instance i104 : Und Go.Proofs.Try.prog 68 (Go.TypeDesc.struct #[]) := ⟨Go.Proofs.Try.runUnderlying68⟩
instance i105 : IsAgg Go.Proofs.Try.prog 70 false := ⟨Go.Proofs.Try.isAgg70⟩
instance i106 : Siz Go.Proofs.Try.prog 70 1 := ⟨Go.Proofs.Try.sizeOf70⟩
instance i107 : Zero Go.Proofs.Try.prog 70 (Go.Value.pointer none) := ⟨Go.Proofs.Try.zeroValue70⟩
instance i108 : Und Go.Proofs.Try.prog 70 (Go.TypeDesc.pointer 71) := ⟨Go.Proofs.Try.runUnderlying70⟩
instance i109 : IsAgg Go.Proofs.Try.prog 71 true := ⟨Go.Proofs.Try.isAgg71⟩
instance i110 : Siz Go.Proofs.Try.prog 71 1 := ⟨Go.Proofs.Try.sizeOf71⟩
instance i111 : Zero Go.Proofs.Try.prog 71 (Go.Value.agg #[Go.Value.slice none 0 0]) := ⟨Go.Proofs.Try.zeroValue71⟩
instance i112 : Und Go.Proofs.Try.prog 71 (Go.TypeDesc.struct #[{ name := "b", type := 26, offset := 0, embedded := false, tag := "", pkgPath := "marquee/save", byteOffset := 0 }]) := ⟨Go.Proofs.Try.runUnderlying71⟩
instance i113 : IsAgg Go.Proofs.Try.prog 80 true := ⟨Go.Proofs.Try.isAgg80⟩
instance i114 : Siz Go.Proofs.Try.prog 80 2 := ⟨Go.Proofs.Try.sizeOf80⟩
instance i115 : Zero Go.Proofs.Try.prog 80 (Go.Value.agg #[Go.Value.slice none 0 0, Go.Value.slice none 0 0]) := ⟨Go.Proofs.Try.zeroValue80⟩
instance i116 : Und Go.Proofs.Try.prog 80 (Go.TypeDesc.array 2 26) := ⟨Go.Proofs.Try.runUnderlying80⟩
instance i117 : IsAgg Go.Proofs.Try.prog 81 false := ⟨Go.Proofs.Try.isAgg81⟩
instance i118 : Siz Go.Proofs.Try.prog 81 1 := ⟨Go.Proofs.Try.sizeOf81⟩
instance i119 : Zero Go.Proofs.Try.prog 81 (Go.Value.slice none 0 0) := ⟨Go.Proofs.Try.zeroValue81⟩
instance i120 : Und Go.Proofs.Try.prog 81 (Go.TypeDesc.slice 80) := ⟨Go.Proofs.Try.runUnderlying81⟩
instance i121 : IsAgg Go.Proofs.Try.prog 82 false := ⟨Go.Proofs.Try.isAgg82⟩
instance i122 : Siz Go.Proofs.Try.prog 82 1 := ⟨Go.Proofs.Try.sizeOf82⟩
instance i123 : Zero Go.Proofs.Try.prog 82 (Go.Value.slice none 0 0) := ⟨Go.Proofs.Try.zeroValue82⟩
instance i124 : Und Go.Proofs.Try.prog 82 (Go.TypeDesc.slice 22) := ⟨Go.Proofs.Try.runUnderlying82⟩
instance i125 : IsAgg Go.Proofs.Try.prog 84 false := ⟨Go.Proofs.Try.isAgg84⟩
instance i126 : Siz Go.Proofs.Try.prog 84 1 := ⟨Go.Proofs.Try.sizeOf84⟩
instance i127 : Zero Go.Proofs.Try.prog 84 (Go.Value.slice none 0 0) := ⟨Go.Proofs.Try.zeroValue84⟩
instance i128 : Und Go.Proofs.Try.prog 84 (Go.TypeDesc.slice 4) := ⟨Go.Proofs.Try.runUnderlying84⟩
instance i129 : IsAgg Go.Proofs.Try.prog 86 false := ⟨Go.Proofs.Try.isAgg86⟩
instance i130 : Siz Go.Proofs.Try.prog 86 1 := ⟨Go.Proofs.Try.sizeOf86⟩
instance i131 : Zero Go.Proofs.Try.prog 86 (Go.Value.pointer none) := ⟨Go.Proofs.Try.zeroValue86⟩
instance i132 : Und Go.Proofs.Try.prog 86 (Go.TypeDesc.pointer 89) := ⟨Go.Proofs.Try.runUnderlying86⟩
instance i133 : IsAgg Go.Proofs.Try.prog 87 false := ⟨Go.Proofs.Try.isAgg87⟩
instance i134 : Siz Go.Proofs.Try.prog 87 1 := ⟨Go.Proofs.Try.sizeOf87⟩
instance i135 : Zero Go.Proofs.Try.prog 87 (Go.Value.slice none 0 0) := ⟨Go.Proofs.Try.zeroValue87⟩
instance i136 : Und Go.Proofs.Try.prog 87 (Go.TypeDesc.slice 112) := ⟨Go.Proofs.Try.runUnderlying87⟩
instance i137 : IsAgg Go.Proofs.Try.prog 89 true := ⟨Go.Proofs.Try.isAgg89⟩
instance i138 : Siz Go.Proofs.Try.prog 89 77 := ⟨Go.Proofs.Try.sizeOf89⟩
set_option maxRecDepth 20000 in
theorem zeroV89 : ∀ w, (zeroValue 89).run Go.Proofs.Try.prog w = .ok (Go.Value.agg (Go.Value.int Go.IntKind.u16 0 :: Go.Value.int Go.IntKind.u16 0 :: Go.Value.int Go.IntKind.u16 0 :: Go.Value.int Go.IntKind.u16 0 :: Go.Value.int Go.IntKind.u16 0 :: Go.Value.int Go.IntKind.u16 0 :: Go.Value.int Go.IntKind.u16 0 :: Go.Value.int Go.IntKind.u16 0 :: Go.Value.int Go.IntKind.u16 0 :: Go.Value.bool false :: Go.Value.bool false :: Go.Value.bool false :: Go.Value.bool false :: Go.Value.bool false :: Go.Value.bool false :: Go.Value.int Go.IntKind.u16 0 :: Go.Value.int Go.IntKind.u16 0 :: Go.Value.int Go.IntKind.u16 0 :: Go.Value.int Go.IntKind.u16 0 :: Go.Value.int Go.IntKind.u16 0 :: Go.Value.int Go.IntKind.u16 0 :: Go.Value.int Go.IntKind.u16 0 :: Go.Value.int Go.IntKind.u16 0 :: Go.Value.int Go.IntKind.u16 0 :: Go.Value.bool false :: Go.Value.bool false :: Go.Value.bool false :: Go.Value.bool false :: Go.Value.bool false :: Go.Value.bool false :: Go.Value.slice none 0 0 :: Go.Value.slice none 0 0 :: Go.Value.slice none 0 0 :: Go.Value.slice none 0 0 :: Go.Value.slice none 0 0 :: Go.Value.int Go.IntKind.u8 0 :: Go.Value.bool false :: Go.Value.int Go.IntKind.u8 0 :: Go.Value.int Go.IntKind.u8 0 :: Go.Value.bool false :: Go.Value.int Go.IntKind.u8 0 :: Go.Value.int Go.IntKind.u16 0 :: Go.Value.int Go.IntKind.u16 0 :: Go.Value.bool false :: Go.Value.bool false :: Go.Value.int Go.IntKind.u16 0 :: Go.Value.int Go.IntKind.u16 0 :: Go.Value.int Go.IntKind.u8 0 :: Go.Value.bool false :: Go.Value.int Go.IntKind.u16 0 :: Go.Value.int Go.IntKind.u16 0 :: Go.Value.int Go.IntKind.u16 0 :: Go.Value.int Go.IntKind.u8 0 :: Go.Value.bool false :: Go.Value.int Go.IntKind.u16 0 :: Go.Value.int Go.IntKind.u16 0 :: Go.Value.int Go.IntKind.u16 0 :: Go.Value.int Go.IntKind.u8 0 :: Go.Value.bool false :: Go.Value.int Go.IntKind.u16 0 :: Go.Value.int Go.IntKind.i64 0 :: Go.Value.int Go.IntKind.i64 0 :: Go.Value.int Go.IntKind.i64 0 :: Go.Value.bool false :: Go.Value.int Go.IntKind.i64 0 :: Go.Value.int Go.IntKind.u16 0 :: Go.Value.int Go.IntKind.u16 0 :: Go.Value.bool false :: Go.Value.bool false :: Go.Value.int Go.IntKind.u8 0 :: Go.Value.int Go.IntKind.u8 0 :: Go.Value.bool false :: Go.Value.int Go.IntKind.i64 0 :: Go.Value.int Go.IntKind.i64 0 :: Go.Value.int Go.IntKind.i64 0 :: Go.Value.slice none 0 0 :: Go.Value.int Go.IntKind.i64 0 :: []).toArray) w := fun w => by
  simp only [zeroValue, Sem.run_bind, Go.Proofs.Try.typeInfo89, Result.andThen_ok]
  exact rfl
instance i139 : Zero Go.Proofs.Try.prog 89 (Go.Value.agg (Go.Value.int Go.IntKind.u16 0 :: Go.Value.int Go.IntKind.u16 0 :: Go.Value.int Go.IntKind.u16 0 :: Go.Value.int Go.IntKind.u16 0 :: Go.Value.int Go.IntKind.u16 0 :: Go.Value.int Go.IntKind.u16 0 :: Go.Value.int Go.IntKind.u16 0 :: Go.Value.int Go.IntKind.u16 0 :: Go.Value.int Go.IntKind.u16 0 :: Go.Value.bool false :: Go.Value.bool false :: Go.Value.bool false :: Go.Value.bool false :: Go.Value.bool false :: Go.Value.bool false :: Go.Value.int Go.IntKind.u16 0 :: Go.Value.int Go.IntKind.u16 0 :: Go.Value.int Go.IntKind.u16 0 :: Go.Value.int Go.IntKind.u16 0 :: Go.Value.int Go.IntKind.u16 0 :: Go.Value.int Go.IntKind.u16 0 :: Go.Value.int Go.IntKind.u16 0 :: Go.Value.int Go.IntKind.u16 0 :: Go.Value.int Go.IntKind.u16 0 :: Go.Value.bool false :: Go.Value.bool false :: Go.Value.bool false :: Go.Value.bool false :: Go.Value.bool false :: Go.Value.bool false :: Go.Value.slice none 0 0 :: Go.Value.slice none 0 0 :: Go.Value.slice none 0 0 :: Go.Value.slice none 0 0 :: Go.Value.slice none 0 0 :: Go.Value.int Go.IntKind.u8 0 :: Go.Value.bool false :: Go.Value.int Go.IntKind.u8 0 :: Go.Value.int Go.IntKind.u8 0 :: Go.Value.bool false :: Go.Value.int Go.IntKind.u8 0 :: Go.Value.int Go.IntKind.u16 0 :: Go.Value.int Go.IntKind.u16 0 :: Go.Value.bool false :: Go.Value.bool false :: Go.Value.int Go.IntKind.u16 0 :: Go.Value.int Go.IntKind.u16 0 :: Go.Value.int Go.IntKind.u8 0 :: Go.Value.bool false :: Go.Value.int Go.IntKind.u16 0 :: Go.Value.int Go.IntKind.u16 0 :: Go.Value.int Go.IntKind.u16 0 :: Go.Value.int Go.IntKind.u8 0 :: Go.Value.bool false :: Go.Value.int Go.IntKind.u16 0 :: Go.Value.int Go.IntKind.u16 0 :: Go.Value.int Go.IntKind.u16 0 :: Go.Value.int Go.IntKind.u8 0 :: Go.Value.bool false :: Go.Value.int Go.IntKind.u16 0 :: Go.Value.int Go.IntKind.i64 0 :: Go.Value.int Go.IntKind.i64 0 :: Go.Value.int Go.IntKind.i64 0 :: Go.Value.bool false :: Go.Value.int Go.IntKind.i64 0 :: Go.Value.int Go.IntKind.u16 0 :: Go.Value.int Go.IntKind.u16 0 :: Go.Value.bool false :: Go.Value.bool false :: Go.Value.int Go.IntKind.u8 0 :: Go.Value.int Go.IntKind.u8 0 :: Go.Value.bool false :: Go.Value.int Go.IntKind.i64 0 :: Go.Value.int Go.IntKind.i64 0 :: Go.Value.int Go.IntKind.i64 0 :: Go.Value.slice none 0 0 :: Go.Value.int Go.IntKind.i64 0 :: []).toArray) := ⟨zeroV89⟩
instance i140 : Und Go.Proofs.Try.prog 89 (Go.TypeDesc.struct #[{ name := "M", type := 41, offset := 0, embedded := false, tag := "", pkgPath := "", byteOffset := 0 }, { name := "Writes", type := 87, offset := 75, embedded := false, tag := "", pkgPath := "", byteOffset := 288 }, { name := "Delay", type := 3, offset := 76, embedded := false, tag := "", pkgPath := "", byteOffset := 312 }]) := ⟨Go.Proofs.Try.runUnderlying89⟩
instance i141 : IsAgg Go.Proofs.Try.prog 91 false := ⟨Go.Proofs.Try.isAgg91⟩
instance i142 : Siz Go.Proofs.Try.prog 91 1 := ⟨Go.Proofs.Try.sizeOf91⟩
instance i143 : Zero Go.Proofs.Try.prog 91 Go.Value.nilFunc := ⟨Go.Proofs.Try.zeroValue91⟩
instance i144 : Und Go.Proofs.Try.prog 91 (Go.TypeDesc.func #[22] #[5] false) := ⟨Go.Proofs.Try.runUnderlying91⟩
instance i145 : IsAgg Go.Proofs.Try.prog 92 false := ⟨Go.Proofs.Try.isAgg92⟩
instance i146 : Siz Go.Proofs.Try.prog 92 1 := ⟨Go.Proofs.Try.sizeOf92⟩
instance i147 : Zero Go.Proofs.Try.prog 92 Go.Value.nilFunc := ⟨Go.Proofs.Try.zeroValue92⟩
instance i148 : Und Go.Proofs.Try.prog 92 (Go.TypeDesc.func #[22, 5] #[] false) := ⟨Go.Proofs.Try.runUnderlying92⟩
instance i149 : IsAgg Go.Proofs.Try.prog 94 true := ⟨Go.Proofs.Try.isAgg94⟩
instance i150 : Siz Go.Proofs.Try.prog 94 2 := ⟨Go.Proofs.Try.sizeOf94⟩
instance i151 : Zero Go.Proofs.Try.prog 94 (Go.Value.agg #[Go.Value.nilFunc, Go.Value.nilFunc]) := ⟨Go.Proofs.Try.zeroValue94⟩
instance i152 : Und Go.Proofs.Try.prog 94 (Go.TypeDesc.struct #[{ name := "Get", type := 91, offset := 0, embedded := false, tag := "", pkgPath := "", byteOffset := 0 }, { name := "Put", type := 92, offset := 1, embedded := false, tag := "", pkgPath := "", byteOffset := 8 }]) := ⟨Go.Proofs.Try.runUnderlying94⟩
instance i153 : IsAgg Go.Proofs.Try.prog 96 true := ⟨Go.Proofs.Try.isAgg96⟩
instance i154 : Siz Go.Proofs.Try.prog 96 5 := ⟨Go.Proofs.Try.sizeOf96⟩
instance i155 : Zero Go.Proofs.Try.prog 96 (Go.Value.agg #[Go.Value.bool false, Go.Value.bool false, Go.Value.bool false, Go.Value.bool false, Go.Value.bool false]) := ⟨Go.Proofs.Try.zeroValue96⟩
instance i156 : Und Go.Proofs.Try.prog 96 (Go.TypeDesc.array 5 4) := ⟨Go.Proofs.Try.runUnderlying96⟩
instance i157 : IsAgg Go.Proofs.Try.prog 106 false := ⟨Go.Proofs.Try.isAgg106⟩
instance i158 : Siz Go.Proofs.Try.prog 106 1 := ⟨Go.Proofs.Try.sizeOf106⟩
instance i159 : Zero Go.Proofs.Try.prog 106 (Go.Value.pointer none) := ⟨Go.Proofs.Try.zeroValue106⟩
instance i160 : Und Go.Proofs.Try.prog 106 (Go.TypeDesc.pointer 22) := ⟨Go.Proofs.Try.runUnderlying106⟩
instance i161 : IsAgg Go.Proofs.Try.prog 112 true := ⟨Go.Proofs.Try.isAgg112⟩
instance i162 : Siz Go.Proofs.Try.prog 112 3 := ⟨Go.Proofs.Try.sizeOf112⟩
instance i163 : Zero Go.Proofs.Try.prog 112 (Go.Value.agg #[Go.Value.int Go.IntKind.i64 0, Go.Value.int Go.IntKind.i64 0, Go.Value.int Go.IntKind.u8 0]) := ⟨Go.Proofs.Try.zeroValue112⟩
instance i164 : Und Go.Proofs.Try.prog 112 (Go.TypeDesc.struct #[{ name := "Clock", type := 3, offset := 0, embedded := false, tag := "", pkgPath := "", byteOffset := 0 }, { name := "At", type := 3, offset := 1, embedded := false, tag := "", pkgPath := "", byteOffset := 8 }, { name := "Value", type := 5, offset := 2, embedded := false, tag := "", pkgPath := "", byteOffset := 16 }]) := ⟨Go.Proofs.Try.runUnderlying112⟩
instance i165 : IsAgg Go.Proofs.Try.prog 113 false := ⟨Go.Proofs.Try.isAgg113⟩
instance i166 : Siz Go.Proofs.Try.prog 113 1 := ⟨Go.Proofs.Try.sizeOf113⟩
instance i167 : Zero Go.Proofs.Try.prog 113 (Go.Value.pointer none) := ⟨Go.Proofs.Try.zeroValue113⟩
instance i168 : Und Go.Proofs.Try.prog 113 (Go.TypeDesc.pointer 33) := ⟨Go.Proofs.Try.runUnderlying113⟩
instance i169 : IsAgg Go.Proofs.Try.prog 114 true := ⟨Go.Proofs.Try.isAgg114⟩
instance i170 : Siz Go.Proofs.Try.prog 114 5 := ⟨Go.Proofs.Try.sizeOf114⟩
instance i171 : Zero Go.Proofs.Try.prog 114 (Go.Value.agg #[Go.Value.nilFunc, Go.Value.nilFunc, Go.Value.nilFunc, Go.Value.nilFunc, Go.Value.nilFunc]) := ⟨Go.Proofs.Try.zeroValue114⟩
instance i172 : Und Go.Proofs.Try.prog 114 (Go.TypeDesc.array 5 1) := ⟨Go.Proofs.Try.runUnderlying114⟩
instance i173 : Byt Go.Proofs.Try.prog 1 8 := ⟨_, Go.Proofs.Try.typeInfo1, rfl⟩
instance i174 : Byt Go.Proofs.Try.prog 3 8 := ⟨_, Go.Proofs.Try.typeInfo3, rfl⟩
instance i175 : Byt Go.Proofs.Try.prog 4 1 := ⟨_, Go.Proofs.Try.typeInfo4, rfl⟩
instance i176 : Byt Go.Proofs.Try.prog 5 1 := ⟨_, Go.Proofs.Try.typeInfo5, rfl⟩
instance i177 : Byt Go.Proofs.Try.prog 9 16 := ⟨_, Go.Proofs.Try.typeInfo9, rfl⟩
instance i178 : Byt Go.Proofs.Try.prog 20 16 := ⟨_, Go.Proofs.Try.typeInfo20, rfl⟩
instance i179 : Byt Go.Proofs.Try.prog 22 2 := ⟨_, Go.Proofs.Try.typeInfo22, rfl⟩
instance i180 : Byt Go.Proofs.Try.prog 23 16 := ⟨_, Go.Proofs.Try.typeInfo23, rfl⟩
instance i181 : Byt Go.Proofs.Try.prog 25 24 := ⟨_, Go.Proofs.Try.typeInfo25, rfl⟩
instance i182 : Byt Go.Proofs.Try.prog 26 24 := ⟨_, Go.Proofs.Try.typeInfo26, rfl⟩
instance i183 : Byt Go.Proofs.Try.prog 28 3 := ⟨_, Go.Proofs.Try.typeInfo28, rfl⟩
instance i184 : Byt Go.Proofs.Try.prog 29 6 := ⟨_, Go.Proofs.Try.typeInfo29, rfl⟩
instance i185 : Byt Go.Proofs.Try.prog 31 6 := ⟨_, Go.Proofs.Try.typeInfo31, rfl⟩
instance i186 : Byt Go.Proofs.Try.prog 33 8 := ⟨_, Go.Proofs.Try.typeInfo33, rfl⟩
instance i187 : Byt Go.Proofs.Try.prog 34 24 := ⟨_, Go.Proofs.Try.typeInfo34, rfl⟩
instance i188 : Byt Go.Proofs.Try.prog 36 32 := ⟨_, Go.Proofs.Try.typeInfo36, rfl⟩
instance i189 : Byt Go.Proofs.Try.prog 38 32 := ⟨_, Go.Proofs.Try.typeInfo38, rfl⟩
instance i190 : Byt Go.Proofs.Try.prog 39 2 := ⟨_, Go.Proofs.Try.typeInfo39, rfl⟩
instance i191 : Byt Go.Proofs.Try.prog 41 288 := ⟨_, Go.Proofs.Try.typeInfo41, rfl⟩
instance i192 : Byt Go.Proofs.Try.prog 42 8 := ⟨_, Go.Proofs.Try.typeInfo42, rfl⟩
instance i193 : Byt Go.Proofs.Try.prog 55 24 := ⟨_, Go.Proofs.Try.typeInfo55, rfl⟩
instance i194 : Byt Go.Proofs.Try.prog 57 8 := ⟨_, Go.Proofs.Try.typeInfo57, rfl⟩
instance i195 : Byt Go.Proofs.Try.prog 59 24 := ⟨_, Go.Proofs.Try.typeInfo59, rfl⟩
instance i196 : Byt Go.Proofs.Try.prog 61 120 := ⟨_, Go.Proofs.Try.typeInfo61, rfl⟩
instance i197 : Byt Go.Proofs.Try.prog 66 24 := ⟨_, Go.Proofs.Try.typeInfo66, rfl⟩
instance i198 : Byt Go.Proofs.Try.prog 68 0 := ⟨_, Go.Proofs.Try.typeInfo68, rfl⟩
instance i199 : Byt Go.Proofs.Try.prog 70 8 := ⟨_, Go.Proofs.Try.typeInfo70, rfl⟩
instance i200 : Byt Go.Proofs.Try.prog 71 24 := ⟨_, Go.Proofs.Try.typeInfo71, rfl⟩
instance i201 : Byt Go.Proofs.Try.prog 80 48 := ⟨_, Go.Proofs.Try.typeInfo80, rfl⟩
instance i202 : Byt Go.Proofs.Try.prog 81 24 := ⟨_, Go.Proofs.Try.typeInfo81, rfl⟩
instance i203 : Byt Go.Proofs.Try.prog 82 24 := ⟨_, Go.Proofs.Try.typeInfo82, rfl⟩
instance i204 : Byt Go.Proofs.Try.prog 84 24 := ⟨_, Go.Proofs.Try.typeInfo84, rfl⟩
instance i205 : Byt Go.Proofs.Try.prog 86 8 := ⟨_, Go.Proofs.Try.typeInfo86, rfl⟩
instance i206 : Byt Go.Proofs.Try.prog 87 24 := ⟨_, Go.Proofs.Try.typeInfo87, rfl⟩
instance i207 : Byt Go.Proofs.Try.prog 89 320 := ⟨_, Go.Proofs.Try.typeInfo89, rfl⟩
instance i208 : Byt Go.Proofs.Try.prog 91 8 := ⟨_, Go.Proofs.Try.typeInfo91, rfl⟩
instance i209 : Byt Go.Proofs.Try.prog 92 8 := ⟨_, Go.Proofs.Try.typeInfo92, rfl⟩
instance i210 : Byt Go.Proofs.Try.prog 94 16 := ⟨_, Go.Proofs.Try.typeInfo94, rfl⟩
instance i211 : Byt Go.Proofs.Try.prog 96 5 := ⟨_, Go.Proofs.Try.typeInfo96, rfl⟩
instance i212 : Byt Go.Proofs.Try.prog 106 8 := ⟨_, Go.Proofs.Try.typeInfo106, rfl⟩
instance i213 : Byt Go.Proofs.Try.prog 112 24 := ⟨_, Go.Proofs.Try.typeInfo112, rfl⟩
instance i214 : Byt Go.Proofs.Try.prog 113 8 := ⟨_, Go.Proofs.Try.typeInfo113, rfl⟩
instance i215 : Byt Go.Proofs.Try.prog 114 40 := ⟨_, Go.Proofs.Try.typeInfo114, rfl⟩
instance i216 : Bld Go.Proofs.Try.prog 25 (Go.Value.int Go.IntKind.u16 0 :: Go.Value.int Go.IntKind.u16 0 :: Go.Value.int Go.IntKind.u16 0 :: Go.Value.int Go.IntKind.u16 0 :: Go.Value.int Go.IntKind.u16 0 :: Go.Value.int Go.IntKind.u16 0 :: Go.Value.int Go.IntKind.u16 0 :: Go.Value.int Go.IntKind.u16 0 :: Go.Value.int Go.IntKind.u16 0 :: Go.Value.bool false :: Go.Value.bool false :: Go.Value.bool false :: Go.Value.bool false :: Go.Value.bool false :: Go.Value.bool false :: []) [(0, 8), (8, 1), (9, 1), (10, 1), (11, 1), (12, 1), (13, 1), (14, 1)] := .struct (fs := _) Go.Proofs.Try.runUnderlying25 Go.Proofs.Try.zeroValue25 (.cons Go.Proofs.Try.sizeOf23 (.cons Go.Proofs.Try.sizeOf22 (.cons Go.Proofs.Try.sizeOf4 (.cons Go.Proofs.Try.sizeOf4 (.cons Go.Proofs.Try.sizeOf4 (.cons Go.Proofs.Try.sizeOf4 (.cons Go.Proofs.Try.sizeOf4 (.cons Go.Proofs.Try.sizeOf4 .nil))))))))
instance i217 : Bld Go.Proofs.Try.prog 28 (Go.Value.int Go.IntKind.u8 0 :: Go.Value.bool false :: Go.Value.int Go.IntKind.u8 0 :: []) [(0, 1), (1, 1), (2, 1)] := .struct (fs := _) Go.Proofs.Try.runUnderlying28 Go.Proofs.Try.zeroValue28 (.cons Go.Proofs.Try.sizeOf5 (.cons Go.Proofs.Try.sizeOf4 (.cons Go.Proofs.Try.sizeOf5 .nil)))
instance i218 : Bld Go.Proofs.Try.prog 31 (Go.Value.int Go.IntKind.u16 0 :: Go.Value.int Go.IntKind.u16 0 :: Go.Value.bool false :: Go.Value.bool false :: []) [(0, 1), (1, 1), (2, 1), (3, 1)] := .struct (fs := _) Go.Proofs.Try.runUnderlying31 Go.Proofs.Try.zeroValue31 (.cons Go.Proofs.Try.sizeOf22 (.cons Go.Proofs.Try.sizeOf22 (.cons Go.Proofs.Try.sizeOf4 (.cons Go.Proofs.Try.sizeOf4 .nil))))
instance i219 : Bld Go.Proofs.Try.prog 33 (Go.Value.int Go.IntKind.u16 0 :: Go.Value.int Go.IntKind.u16 0 :: Go.Value.int Go.IntKind.u8 0 :: Go.Value.bool false :: Go.Value.int Go.IntKind.u16 0 :: []) [(0, 1), (1, 1), (2, 1), (3, 1), (4, 1)] := .struct (fs := _) Go.Proofs.Try.runUnderlying33 Go.Proofs.Try.zeroValue33 (.cons Go.Proofs.Try.sizeOf22 (.cons Go.Proofs.Try.sizeOf22 (.cons Go.Proofs.Try.sizeOf5 (.cons Go.Proofs.Try.sizeOf4 (.cons Go.Proofs.Try.sizeOf22 .nil)))))
instance i220 : Bld Go.Proofs.Try.prog 36 (Go.Value.int Go.IntKind.u16 0 :: Go.Value.int Go.IntKind.u16 0 :: Go.Value.int Go.IntKind.u8 0 :: Go.Value.bool false :: Go.Value.int Go.IntKind.u16 0 :: Go.Value.int Go.IntKind.u16 0 :: Go.Value.int Go.IntKind.u16 0 :: Go.Value.int Go.IntKind.u8 0 :: Go.Value.bool false :: Go.Value.int Go.IntKind.u16 0 :: Go.Value.int Go.IntKind.u16 0 :: Go.Value.int Go.IntKind.u16 0 :: Go.Value.int Go.IntKind.u8 0 :: Go.Value.bool false :: Go.Value.int Go.IntKind.u16 0 :: Go.Value.int Go.IntKind.i64 0 :: []) [(0, 15), (15, 1)] := .struct (fs := _) Go.Proofs.Try.runUnderlying36 Go.Proofs.Try.zeroValue36 (.cons Go.Proofs.Try.sizeOf34 (.cons Go.Proofs.Try.sizeOf3 .nil))
instance i221 : Bld Go.Proofs.Try.prog 38 (Go.Value.int Go.IntKind.i64 0 :: Go.Value.int Go.IntKind.i64 0 :: Go.Value.bool false :: Go.Value.int Go.IntKind.i64 0 :: []) [(0, 1), (1, 1), (2, 1), (3, 1)] := .struct (fs := _) Go.Proofs.Try.runUnderlying38 Go.Proofs.Try.zeroValue38 (.cons Go.Proofs.Try.sizeOf3 (.cons Go.Proofs.Try.sizeOf3 (.cons Go.Proofs.Try.sizeOf4 (.cons Go.Proofs.Try.sizeOf3 .nil))))
instance i222 : Bld Go.Proofs.Try.prog 39 (Go.Value.int Go.IntKind.u8 0 :: Go.Value.int Go.IntKind.u8 0 :: []) [(0, 1), (1, 1)] := .array Go.Proofs.Try.runUnderlying39 Go.Proofs.Try.zeroValue39 Go.Proofs.Try.sizeOf5 rfl
instance i223 : Bld Go.Proofs.Try.prog 41 (Go.Value.int Go.IntKind.u16 0 :: Go.Value.int Go.IntKind.u16 0 :: Go.Value.int Go.IntKind.u16 0 :: Go.Value.int Go.IntKind.u16 0 :: Go.Value.int Go.IntKind.u16 0 :: Go.Value.int Go.IntKind.u16 0 :: Go.Value.int Go.IntKind.u16 0 :: Go.Value.int Go.IntKind.u16 0 :: Go.Value.int Go.IntKind.u16 0 :: Go.Value.bool false :: Go.Value.bool false :: Go.Value.bool false :: Go.Value.bool false :: Go.Value.bool false :: Go.Value.bool false :: Go.Value.int Go.IntKind.u16 0 :: Go.Value.int Go.IntKind.u16 0 :: Go.Value.int Go.IntKind.u16 0 :: Go.Value.int Go.IntKind.u16 0 :: Go.Value.int Go.IntKind.u16 0 :: Go.Value.int Go.IntKind.u16 0 :: Go.Value.int Go.IntKind.u16 0 :: Go.Value.int Go.IntKind.u16 0 :: Go.Value.int Go.IntKind.u16 0 :: Go.Value.bool false :: Go.Value.bool false :: Go.Value.bool false :: Go.Value.bool false :: Go.Value.bool false :: Go.Value.bool false :: Go.Value.slice none 0 0 :: Go.Value.slice none 0 0 :: Go.Value.slice none 0 0 :: Go.Value.slice none 0 0 :: Go.Value.slice none 0 0 :: Go.Value.int Go.IntKind.u8 0 :: Go.Value.bool false :: Go.Value.int Go.IntKind.u8 0 :: Go.Value.int Go.IntKind.u8 0 :: Go.Value.bool false :: Go.Value.int Go.IntKind.u8 0 :: Go.Value.int Go.IntKind.u16 0 :: Go.Value.int Go.IntKind.u16 0 :: Go.Value.bool false :: Go.Value.bool false :: Go.Value.int Go.IntKind.u16 0 :: Go.Value.int Go.IntKind.u16 0 :: Go.Value.int Go.IntKind.u8 0 :: Go.Value.bool false :: Go.Value.int Go.IntKind.u16 0 :: Go.Value.int Go.IntKind.u16 0 :: Go.Value.int Go.IntKind.u16 0 :: Go.Value.int Go.IntKind.u8 0 :: Go.Value.bool false :: Go.Value.int Go.IntKind.u16 0 :: Go.Value.int Go.IntKind.u16 0 :: Go.Value.int Go.IntKind.u16 0 :: Go.Value.int Go.IntKind.u8 0 :: Go.Value.bool false :: Go.Value.int Go.IntKind.u16 0 :: Go.Value.int Go.IntKind.i64 0 :: Go.Value.int Go.IntKind.i64 0 :: Go.Value.int Go.IntKind.i64 0 :: Go.Value.bool false :: Go.Value.int Go.IntKind.i64 0 :: Go.Value.int Go.IntKind.u16 0 :: Go.Value.int Go.IntKind.u16 0 :: Go.Value.bool false :: Go.Value.bool false :: Go.Value.int Go.IntKind.u8 0 :: Go.Value.int Go.IntKind.u8 0 :: Go.Value.bool false :: Go.Value.int Go.IntKind.i64 0 :: Go.Value.int Go.IntKind.i64 0 :: Go.Value.int Go.IntKind.i64 0 :: []) [(0, 15), (15, 15), (30, 1), (31, 1), (32, 1), (33, 1), (34, 1), (35, 6), (41, 4), (45, 16), (61, 4), (65, 1), (66, 1), (67, 1), (68, 1), (69, 2), (71, 1), (72, 1), (73, 1), (74, 1)] := .struct (fs := _) Go.Proofs.Try.runUnderlying41 zeroV41 (.cons Go.Proofs.Try.sizeOf25 (.cons Go.Proofs.Try.sizeOf25 (.cons Go.Proofs.Try.sizeOf26 (.cons Go.Proofs.Try.sizeOf26 (.cons Go.Proofs.Try.sizeOf26 (.cons Go.Proofs.Try.sizeOf26 (.cons Go.Proofs.Try.sizeOf26 (.cons Go.Proofs.Try.sizeOf29 (.cons Go.Proofs.Try.sizeOf31 (.cons Go.Proofs.Try.sizeOf36 (.cons Go.Proofs.Try.sizeOf38 (.cons Go.Proofs.Try.sizeOf22 (.cons Go.Proofs.Try.sizeOf22 (.cons Go.Proofs.Try.sizeOf4 (.cons Go.Proofs.Try.sizeOf4 (.cons Go.Proofs.Try.sizeOf39 (.cons Go.Proofs.Try.sizeOf4 (.cons Go.Proofs.Try.sizeOf3 (.cons Go.Proofs.Try.sizeOf3 (.cons Go.Proofs.Try.sizeOf3 .nil))))))))))))))))))))
instance i224 : Bld Go.Proofs.Try.prog 59 (Go.Value.slice none 0 0 :: []) [(0, 1)] := .struct (fs := _) Go.Proofs.Try.runUnderlying59 Go.Proofs.Try.zeroValue59 (.cons Go.Proofs.Try.sizeOf26 .nil)
instance i225 : Bld Go.Proofs.Try.prog 61 (Go.Value.slice none 0 0 :: Go.Value.slice none 0 0 :: Go.Value.slice none 0 0 :: Go.Value.slice none 0 0 :: Go.Value.slice none 0 0 :: []) [(0, 1), (1, 1), (2, 1), (3, 1), (4, 1)] := .array Go.Proofs.Try.runUnderlying61 Go.Proofs.Try.zeroValue61 Go.Proofs.Try.sizeOf26 rfl
instance i226 : Bld Go.Proofs.Try.prog 66 (Go.Value.int Go.IntKind.i64 0 :: Go.Value.int Go.IntKind.i64 0 :: Go.Value.int Go.IntKind.i64 0 :: []) [(0, 1), (1, 1), (2, 1)] := .array Go.Proofs.Try.runUnderlying66 Go.Proofs.Try.zeroValue66 Go.Proofs.Try.sizeOf3 rfl
instance i227 : Bld Go.Proofs.Try.prog 68 ([]) [] := .struct (fs := _) Go.Proofs.Try.runUnderlying68 Go.Proofs.Try.zeroValue68 .nil
instance i228 : Bld Go.Proofs.Try.prog 71 (Go.Value.slice none 0 0 :: []) [(0, 1)] := .struct (fs := _) Go.Proofs.Try.runUnderlying71 Go.Proofs.Try.zeroValue71 (.cons Go.Proofs.Try.sizeOf26 .nil)
instance i229 : Bld Go.Proofs.Try.prog 80 (Go.Value.slice none 0 0 :: Go.Value.slice none 0 0 :: []) [(0, 1), (1, 1)] := .array Go.Proofs.Try.runUnderlying80 Go.Proofs.Try.zeroValue80 Go.Proofs.Try.sizeOf26 rfl
instance i230 : Bld Go.Proofs.Try.prog 89 (Go.Value.int Go.IntKind.u16 0 :: Go.Value.int Go.IntKind.u16 0 :: Go.Value.int Go.IntKind.u16 0 :: Go.Value.int Go.IntKind.u16 0 :: Go.Value.int Go.IntKind.u16 0 :: Go.Value.int Go.IntKind.u16 0 :: Go.Value.int Go.IntKind.u16 0 :: Go.Value.int Go.IntKind.u16 0 :: Go.Value.int Go.IntKind.u16 0 :: Go.Value.bool false :: Go.Value.bool false :: Go.Value.bool false :: Go.Value.bool false :: Go.Value.bool false :: Go.Value.bool false :: Go.Value.int Go.IntKind.u16 0 :: Go.Value.int Go.IntKind.u16 0 :: Go.Value.int Go.IntKind.u16 0 :: Go.Value.int Go.IntKind.u16 0 :: Go.Value.int Go.IntKind.u16 0 :: Go.Value.int Go.IntKind.u16 0 :: Go.Value.int Go.IntKind.u16 0 :: Go.Value.int Go.IntKind.u16 0 :: Go.Value.int Go.IntKind.u16 0 :: Go.Value.bool false :: Go.Value.bool false :: Go.Value.bool false :: Go.Value.bool false :: Go.Value.bool false :: Go.Value.bool false :: Go.Value.slice none 0 0 :: Go.Value.slice none 0 0 :: Go.Value.slice none 0 0 :: Go.Value.slice none 0 0 :: Go.Value.slice none 0 0 :: Go.Value.int Go.IntKind.u8 0 :: Go.Value.bool false :: Go.Value.int Go.IntKind.u8 0 :: Go.Value.int Go.IntKind.u8 0 :: Go.Value.bool false :: Go.Value.int Go.IntKind.u8 0 :: Go.Value.int Go.IntKind.u16 0 :: Go.Value.int Go.IntKind.u16 0 :: Go.Value.bool false :: Go.Value.bool false :: Go.Value.int Go.IntKind.u16 0 :: Go.Value.int Go.IntKind.u16 0 :: Go.Value.int Go.IntKind.u8 0 :: Go.Value.bool false :: Go.Value.int Go.IntKind.u16 0 :: Go.Value.int Go.IntKind.u16 0 :: Go.Value.int Go.IntKind.u16 0 :: Go.Value.int Go.IntKind.u8 0 :: Go.Value.bool false :: Go.Value.int Go.IntKind.u16 0 :: Go.Value.int Go.IntKind.u16 0 :: Go.Value.int Go.IntKind.u16 0 :: Go.Value.int Go.IntKind.u8 0 :: Go.Value.bool false :: Go.Value.int Go.IntKind.u16 0 :: Go.Value.int Go.IntKind.i64 0 :: Go.Value.int Go.IntKind.i64 0 :: Go.Value.int Go.IntKind.i64 0 :: Go.Value.bool false :: Go.Value.int Go.IntKind.i64 0 :: Go.Value.int Go.IntKind.u16 0 :: Go.Value.int Go.IntKind.u16 0 :: Go.Value.bool false :: Go.Value.bool false :: Go.Value.int Go.IntKind.u8 0 :: Go.Value.int Go.IntKind.u8 0 :: Go.Value.bool false :: Go.Value.int Go.IntKind.i64 0 :: Go.Value.int Go.IntKind.i64 0 :: Go.Value.int Go.IntKind.i64 0 :: Go.Value.slice none 0 0 :: Go.Value.int Go.IntKind.i64 0 :: []) [(0, 75), (75, 1), (76, 1)] := .struct (fs := _) Go.Proofs.Try.runUnderlying89 zeroV89 (.cons Go.Proofs.Try.sizeOf41 (.cons Go.Proofs.Try.sizeOf87 (.cons Go.Proofs.Try.sizeOf3 .nil)))
instance i231 : Bld Go.Proofs.Try.prog 94 (Go.Value.nilFunc :: Go.Value.nilFunc :: []) [(0, 1), (1, 1)] := .struct (fs := _) Go.Proofs.Try.runUnderlying94 Go.Proofs.Try.zeroValue94 (.cons Go.Proofs.Try.sizeOf91 (.cons Go.Proofs.Try.sizeOf92 .nil))
instance i232 : Bld Go.Proofs.Try.prog 96 (Go.Value.bool false :: Go.Value.bool false :: Go.Value.bool false :: Go.Value.bool false :: Go.Value.bool false :: []) [(0, 1), (1, 1), (2, 1), (3, 1), (4, 1)] := .array Go.Proofs.Try.runUnderlying96 Go.Proofs.Try.zeroValue96 Go.Proofs.Try.sizeOf4 rfl
instance i233 : Bld Go.Proofs.Try.prog 112 (Go.Value.int Go.IntKind.i64 0 :: Go.Value.int Go.IntKind.i64 0 :: Go.Value.int Go.IntKind.u8 0 :: []) [(0, 1), (1, 1), (2, 1)] := .struct (fs := _) Go.Proofs.Try.runUnderlying112 Go.Proofs.Try.zeroValue112 (.cons Go.Proofs.Try.sizeOf3 (.cons Go.Proofs.Try.sizeOf3 (.cons Go.Proofs.Try.sizeOf5 .nil)))
instance i234 : Bld Go.Proofs.Try.prog 114 (Go.Value.nilFunc :: Go.Value.nilFunc :: Go.Value.nilFunc :: Go.Value.nilFunc :: Go.Value.nilFunc :: []) [(0, 1), (1, 1), (2, 1), (3, 1), (4, 1)] := .array Go.Proofs.Try.runUnderlying114 Go.Proofs.Try.zeroValue114 Go.Proofs.Try.sizeOf1 rfl
instance i235 : EqT Go.Proofs.Try.prog 25 ((rep [.i .u16] 8) ++ ([.i .u16] ++ ([.b] ++ ([.b] ++ ([.b] ++ ([.b] ++ ([.b] ++ ([.b] ++ [])))))))) := .mk' (EqRun.struct Go.Proofs.Try.underlying25 Go.Proofs.Try.stoodInHeld25 Go.Proofs.Try.isAgg25 Go.Proofs.Try.sizeOf25 (by decide) (.cons rfl (by decide) (EqRun.array (n := 8) Go.Proofs.Try.runUnderlying23 Go.Proofs.Try.isAgg23 Go.Proofs.Try.sizeOf23 (by decide) (EqRun.int Go.Proofs.Try.runUnderlying22 Go.Proofs.Try.isAgg22 Go.Proofs.Try.sizeOf22)) (.cons rfl (by decide) (EqRun.up (EqRun.int Go.Proofs.Try.runUnderlying22 Go.Proofs.Try.isAgg22 Go.Proofs.Try.sizeOf22)) (.cons rfl (by decide) (EqRun.up (EqRun.bool Go.Proofs.Try.runUnderlying4 Go.Proofs.Try.isAgg4 Go.Proofs.Try.sizeOf4)) (.cons rfl (by decide) (EqRun.up (EqRun.bool Go.Proofs.Try.runUnderlying4 Go.Proofs.Try.isAgg4 Go.Proofs.Try.sizeOf4)) (.cons rfl (by decide) (EqRun.up (EqRun.bool Go.Proofs.Try.runUnderlying4 Go.Proofs.Try.isAgg4 Go.Proofs.Try.sizeOf4)) (.cons rfl (by decide) (EqRun.up (EqRun.bool Go.Proofs.Try.runUnderlying4 Go.Proofs.Try.isAgg4 Go.Proofs.Try.sizeOf4)) (.cons rfl (by decide) (EqRun.up (EqRun.bool Go.Proofs.Try.runUnderlying4 Go.Proofs.Try.isAgg4 Go.Proofs.Try.sizeOf4)) (.cons rfl (by decide) (EqRun.up (EqRun.bool Go.Proofs.Try.runUnderlying4 Go.Proofs.Try.isAgg4 Go.Proofs.Try.sizeOf4)) (.nil _)))))))))) rfl Go.Proofs.Try.eqGuardType25
instance i236 : EqT Go.Proofs.Try.prog 29 (rep ([.i .u8] ++ ([.b] ++ ([.i .u8] ++ []))) 2) := .mk' (EqRun.array (n := 2) Go.Proofs.Try.runUnderlying29 Go.Proofs.Try.isAgg29 Go.Proofs.Try.sizeOf29 (by decide) (EqRun.struct Go.Proofs.Try.underlying28 Go.Proofs.Try.stoodInHeld28 Go.Proofs.Try.isAgg28 Go.Proofs.Try.sizeOf28 (by decide) (.cons rfl (by decide) (EqRun.int Go.Proofs.Try.runUnderlying5 Go.Proofs.Try.isAgg5 Go.Proofs.Try.sizeOf5) (.cons rfl (by decide) (EqRun.bool Go.Proofs.Try.runUnderlying4 Go.Proofs.Try.isAgg4 Go.Proofs.Try.sizeOf4) (.cons rfl (by decide) (EqRun.int Go.Proofs.Try.runUnderlying5 Go.Proofs.Try.isAgg5 Go.Proofs.Try.sizeOf5) (.nil _)))))) rfl Go.Proofs.Try.eqGuardType29
instance i237 : EqT Go.Proofs.Try.prog 31 ([.i .u16] ++ ([.i .u16] ++ ([.b] ++ ([.b] ++ [])))) := .mk' (EqRun.struct Go.Proofs.Try.underlying31 Go.Proofs.Try.stoodInHeld31 Go.Proofs.Try.isAgg31 Go.Proofs.Try.sizeOf31 (by decide) (.cons rfl (by decide) (EqRun.int Go.Proofs.Try.runUnderlying22 Go.Proofs.Try.isAgg22 Go.Proofs.Try.sizeOf22) (.cons rfl (by decide) (EqRun.int Go.Proofs.Try.runUnderlying22 Go.Proofs.Try.isAgg22 Go.Proofs.Try.sizeOf22) (.cons rfl (by decide) (EqRun.bool Go.Proofs.Try.runUnderlying4 Go.Proofs.Try.isAgg4 Go.Proofs.Try.sizeOf4) (.cons rfl (by decide) (EqRun.bool Go.Proofs.Try.runUnderlying4 Go.Proofs.Try.isAgg4 Go.Proofs.Try.sizeOf4) (.nil _)))))) rfl Go.Proofs.Try.eqGuardType31
instance i238 : EqT Go.Proofs.Try.prog 36 ((rep ([.i .u16] ++ ([.i .u16] ++ ([.i .u8] ++ ([.b] ++ ([.i .u16] ++ []))))) 3) ++ ([.i .i64] ++ [])) := .mk' (EqRun.struct Go.Proofs.Try.underlying36 Go.Proofs.Try.stoodInHeld36 Go.Proofs.Try.isAgg36 Go.Proofs.Try.sizeOf36 (by decide) (.cons rfl (by decide) (EqRun.array (n := 3) Go.Proofs.Try.runUnderlying34 Go.Proofs.Try.isAgg34 Go.Proofs.Try.sizeOf34 (by decide) (EqRun.struct Go.Proofs.Try.underlying33 Go.Proofs.Try.stoodInHeld33 Go.Proofs.Try.isAgg33 Go.Proofs.Try.sizeOf33 (by decide) (.cons rfl (by decide) (EqRun.int Go.Proofs.Try.runUnderlying22 Go.Proofs.Try.isAgg22 Go.Proofs.Try.sizeOf22) (.cons rfl (by decide) (EqRun.int Go.Proofs.Try.runUnderlying22 Go.Proofs.Try.isAgg22 Go.Proofs.Try.sizeOf22) (.cons rfl (by decide) (EqRun.int Go.Proofs.Try.runUnderlying5 Go.Proofs.Try.isAgg5 Go.Proofs.Try.sizeOf5) (.cons rfl (by decide) (EqRun.bool Go.Proofs.Try.runUnderlying4 Go.Proofs.Try.isAgg4 Go.Proofs.Try.sizeOf4) (.cons rfl (by decide) (EqRun.int Go.Proofs.Try.runUnderlying22 Go.Proofs.Try.isAgg22 Go.Proofs.Try.sizeOf22) (.nil _)))))))) (.cons rfl (by decide) (EqRun.up (EqRun.up (EqRun.int Go.Proofs.Try.runUnderlying3 Go.Proofs.Try.isAgg3 Go.Proofs.Try.sizeOf3))) (.nil _)))) rfl Go.Proofs.Try.eqGuardType36
instance i239 : EqT Go.Proofs.Try.prog 38 ([.i .i64] ++ ([.i .i64] ++ ([.b] ++ ([.i .i64] ++ [])))) := .mk' (EqRun.struct Go.Proofs.Try.underlying38 Go.Proofs.Try.stoodInHeld38 Go.Proofs.Try.isAgg38 Go.Proofs.Try.sizeOf38 (by decide) (.cons rfl (by decide) (EqRun.int Go.Proofs.Try.runUnderlying3 Go.Proofs.Try.isAgg3 Go.Proofs.Try.sizeOf3) (.cons rfl (by decide) (EqRun.int Go.Proofs.Try.runUnderlying3 Go.Proofs.Try.isAgg3 Go.Proofs.Try.sizeOf3) (.cons rfl (by decide) (EqRun.bool Go.Proofs.Try.runUnderlying4 Go.Proofs.Try.isAgg4 Go.Proofs.Try.sizeOf4) (.cons rfl (by decide) (EqRun.int Go.Proofs.Try.runUnderlying3 Go.Proofs.Try.isAgg3 Go.Proofs.Try.sizeOf3) (.nil _)))))) rfl Go.Proofs.Try.eqGuardType38
instance i240 : EqT Go.Proofs.Try.prog 39 (rep [.i .u8] 2) := .mk' (EqRun.array (n := 2) Go.Proofs.Try.runUnderlying39 Go.Proofs.Try.isAgg39 Go.Proofs.Try.sizeOf39 (by decide) (EqRun.int Go.Proofs.Try.runUnderlying5 Go.Proofs.Try.isAgg5 Go.Proofs.Try.sizeOf5)) rfl Go.Proofs.Try.eqGuardType39
instance : Mixed Go.Proofs.Try.prog := ⟨by decide +kernel⟩
instance i241 : Fld Go.Proofs.Try.prog 25 0 0 := Fld.mk' Go.Proofs.Try.runUnderlying25 rfl rfl Go.Proofs.Try.sizeOf23 (by decide)
instance i242 : Fld Go.Proofs.Try.prog 25 1 8 := Fld.mk' Go.Proofs.Try.runUnderlying25 rfl rfl Go.Proofs.Try.sizeOf22 (by decide)
instance i243 : Fld Go.Proofs.Try.prog 25 2 9 := Fld.mk' Go.Proofs.Try.runUnderlying25 rfl rfl Go.Proofs.Try.sizeOf4 (by decide)
instance i244 : Fld Go.Proofs.Try.prog 25 3 10 := Fld.mk' Go.Proofs.Try.runUnderlying25 rfl rfl Go.Proofs.Try.sizeOf4 (by decide)
instance i245 : Fld Go.Proofs.Try.prog 25 4 11 := Fld.mk' Go.Proofs.Try.runUnderlying25 rfl rfl Go.Proofs.Try.sizeOf4 (by decide)
instance i246 : Fld Go.Proofs.Try.prog 25 5 12 := Fld.mk' Go.Proofs.Try.runUnderlying25 rfl rfl Go.Proofs.Try.sizeOf4 (by decide)
instance i247 : Fld Go.Proofs.Try.prog 25 6 13 := Fld.mk' Go.Proofs.Try.runUnderlying25 rfl rfl Go.Proofs.Try.sizeOf4 (by decide)
instance i248 : Fld Go.Proofs.Try.prog 25 7 14 := Fld.mk' Go.Proofs.Try.runUnderlying25 rfl rfl Go.Proofs.Try.sizeOf4 (by decide)
instance i249 : Fld Go.Proofs.Try.prog 28 0 0 := Fld.mk' Go.Proofs.Try.runUnderlying28 rfl rfl Go.Proofs.Try.sizeOf5 (by decide)
instance i250 : Fld Go.Proofs.Try.prog 28 1 1 := Fld.mk' Go.Proofs.Try.runUnderlying28 rfl rfl Go.Proofs.Try.sizeOf4 (by decide)
instance i251 : Fld Go.Proofs.Try.prog 28 2 2 := Fld.mk' Go.Proofs.Try.runUnderlying28 rfl rfl Go.Proofs.Try.sizeOf5 (by decide)
instance i252 : Fld Go.Proofs.Try.prog 31 0 0 := Fld.mk' Go.Proofs.Try.runUnderlying31 rfl rfl Go.Proofs.Try.sizeOf22 (by decide)
instance i253 : Fld Go.Proofs.Try.prog 31 1 1 := Fld.mk' Go.Proofs.Try.runUnderlying31 rfl rfl Go.Proofs.Try.sizeOf22 (by decide)
instance i254 : Fld Go.Proofs.Try.prog 31 2 2 := Fld.mk' Go.Proofs.Try.runUnderlying31 rfl rfl Go.Proofs.Try.sizeOf4 (by decide)
instance i255 : Fld Go.Proofs.Try.prog 31 3 3 := Fld.mk' Go.Proofs.Try.runUnderlying31 rfl rfl Go.Proofs.Try.sizeOf4 (by decide)
instance i256 : Fld Go.Proofs.Try.prog 33 0 0 := Fld.mk' Go.Proofs.Try.runUnderlying33 rfl rfl Go.Proofs.Try.sizeOf22 (by decide)
instance i257 : Fld Go.Proofs.Try.prog 33 1 1 := Fld.mk' Go.Proofs.Try.runUnderlying33 rfl rfl Go.Proofs.Try.sizeOf22 (by decide)
instance i258 : Fld Go.Proofs.Try.prog 33 2 2 := Fld.mk' Go.Proofs.Try.runUnderlying33 rfl rfl Go.Proofs.Try.sizeOf5 (by decide)
instance i259 : Fld Go.Proofs.Try.prog 33 3 3 := Fld.mk' Go.Proofs.Try.runUnderlying33 rfl rfl Go.Proofs.Try.sizeOf4 (by decide)
instance i260 : Fld Go.Proofs.Try.prog 33 4 4 := Fld.mk' Go.Proofs.Try.runUnderlying33 rfl rfl Go.Proofs.Try.sizeOf22 (by decide)
instance i261 : Fld Go.Proofs.Try.prog 36 0 0 := Fld.mk' Go.Proofs.Try.runUnderlying36 rfl rfl Go.Proofs.Try.sizeOf34 (by decide)
instance i262 : Fld Go.Proofs.Try.prog 36 1 15 := Fld.mk' Go.Proofs.Try.runUnderlying36 rfl rfl Go.Proofs.Try.sizeOf3 (by decide)
instance i263 : Fld Go.Proofs.Try.prog 38 0 0 := Fld.mk' Go.Proofs.Try.runUnderlying38 rfl rfl Go.Proofs.Try.sizeOf3 (by decide)
instance i264 : Fld Go.Proofs.Try.prog 38 1 1 := Fld.mk' Go.Proofs.Try.runUnderlying38 rfl rfl Go.Proofs.Try.sizeOf3 (by decide)
instance i265 : Fld Go.Proofs.Try.prog 38 2 2 := Fld.mk' Go.Proofs.Try.runUnderlying38 rfl rfl Go.Proofs.Try.sizeOf4 (by decide)
instance i266 : Fld Go.Proofs.Try.prog 38 3 3 := Fld.mk' Go.Proofs.Try.runUnderlying38 rfl rfl Go.Proofs.Try.sizeOf3 (by decide)
instance i267 : Fld Go.Proofs.Try.prog 41 0 0 := Fld.mk' Go.Proofs.Try.runUnderlying41 rfl rfl Go.Proofs.Try.sizeOf25 (by decide)
instance i268 : Fld Go.Proofs.Try.prog 41 1 15 := Fld.mk' Go.Proofs.Try.runUnderlying41 rfl rfl Go.Proofs.Try.sizeOf25 (by decide)
instance i269 : Fld Go.Proofs.Try.prog 41 2 30 := Fld.mk' Go.Proofs.Try.runUnderlying41 rfl rfl Go.Proofs.Try.sizeOf26 (by decide)
instance i270 : Fld Go.Proofs.Try.prog 41 3 31 := Fld.mk' Go.Proofs.Try.runUnderlying41 rfl rfl Go.Proofs.Try.sizeOf26 (by decide)
instance i271 : Fld Go.Proofs.Try.prog 41 4 32 := Fld.mk' Go.Proofs.Try.runUnderlying41 rfl rfl Go.Proofs.Try.sizeOf26 (by decide)
instance i272 : Fld Go.Proofs.Try.prog 41 5 33 := Fld.mk' Go.Proofs.Try.runUnderlying41 rfl rfl Go.Proofs.Try.sizeOf26 (by decide)
instance i273 : Fld Go.Proofs.Try.prog 41 6 34 := Fld.mk' Go.Proofs.Try.runUnderlying41 rfl rfl Go.Proofs.Try.sizeOf26 (by decide)
instance i274 : Fld Go.Proofs.Try.prog 41 7 35 := Fld.mk' Go.Proofs.Try.runUnderlying41 rfl rfl Go.Proofs.Try.sizeOf29 (by decide)
instance i275 : Fld Go.Proofs.Try.prog 41 8 41 := Fld.mk' Go.Proofs.Try.runUnderlying41 rfl rfl Go.Proofs.Try.sizeOf31 (by decide)
instance i276 : Fld Go.Proofs.Try.prog 41 9 45 := Fld.mk' Go.Proofs.Try.runUnderlying41 rfl rfl Go.Proofs.Try.sizeOf36 (by decide)
instance i277 : Fld Go.Proofs.Try.prog 41 10 61 := Fld.mk' Go.Proofs.Try.runUnderlying41 rfl rfl Go.Proofs.Try.sizeOf38 (by decide)
instance i278 : Fld Go.Proofs.Try.prog 41 11 65 := Fld.mk' Go.Proofs.Try.runUnderlying41 rfl rfl Go.Proofs.Try.sizeOf22 (by decide)
instance i279 : Fld Go.Proofs.Try.prog 41 12 66 := Fld.mk' Go.Proofs.Try.runUnderlying41 rfl rfl Go.Proofs.Try.sizeOf22 (by decide)
instance i280 : Fld Go.Proofs.Try.prog 41 13 67 := Fld.mk' Go.Proofs.Try.runUnderlying41 rfl rfl Go.Proofs.Try.sizeOf4 (by decide)
instance i281 : Fld Go.Proofs.Try.prog 41 14 68 := Fld.mk' Go.Proofs.Try.runUnderlying41 rfl rfl Go.Proofs.Try.sizeOf4 (by decide)
instance i282 : Fld Go.Proofs.Try.prog 41 15 69 := Fld.mk' Go.Proofs.Try.runUnderlying41 rfl rfl Go.Proofs.Try.sizeOf39 (by decide)
instance i283 : Fld Go.Proofs.Try.prog 41 16 71 := Fld.mk' Go.Proofs.Try.runUnderlying41 rfl rfl Go.Proofs.Try.sizeOf4 (by decide)
instance i284 : Fld Go.Proofs.Try.prog 41 17 72 := Fld.mk' Go.Proofs.Try.runUnderlying41 rfl rfl Go.Proofs.Try.sizeOf3 (by decide)
instance i285 : Fld Go.Proofs.Try.prog 41 18 73 := Fld.mk' Go.Proofs.Try.runUnderlying41 rfl rfl Go.Proofs.Try.sizeOf3 (by decide)
instance i286 : Fld Go.Proofs.Try.prog 41 19 74 := Fld.mk' Go.Proofs.Try.runUnderlying41 rfl rfl Go.Proofs.Try.sizeOf3 (by decide)
instance i287 : Fld Go.Proofs.Try.prog 59 0 0 := Fld.mk' Go.Proofs.Try.runUnderlying59 rfl rfl Go.Proofs.Try.sizeOf26 (by decide)
instance i288 : Fld Go.Proofs.Try.prog 71 0 0 := Fld.mk' Go.Proofs.Try.runUnderlying71 rfl rfl Go.Proofs.Try.sizeOf26 (by decide)
instance i289 : Fld Go.Proofs.Try.prog 89 0 0 := Fld.mk' Go.Proofs.Try.runUnderlying89 rfl rfl Go.Proofs.Try.sizeOf41 (by decide)
instance i290 : Fld Go.Proofs.Try.prog 89 1 75 := Fld.mk' Go.Proofs.Try.runUnderlying89 rfl rfl Go.Proofs.Try.sizeOf87 (by decide)
instance i291 : Fld Go.Proofs.Try.prog 89 2 76 := Fld.mk' Go.Proofs.Try.runUnderlying89 rfl rfl Go.Proofs.Try.sizeOf3 (by decide)
instance i292 : Fld Go.Proofs.Try.prog 94 0 0 := Fld.mk' Go.Proofs.Try.runUnderlying94 rfl rfl Go.Proofs.Try.sizeOf91 (by decide)
instance i293 : Fun Go.Proofs.Try.prog 5 := ⟨Go.Proofs.Try.call5⟩
instance i294 : Fun Go.Proofs.Try.prog 6 := ⟨Go.Proofs.Try.call6⟩
instance i295 : Fun Go.Proofs.Try.prog 7 := ⟨Go.Proofs.Try.call7⟩
instance i296 : Fun Go.Proofs.Try.prog 8 := ⟨Go.Proofs.Try.call8⟩
instance i297 : Fun Go.Proofs.Try.prog 9 := ⟨Go.Proofs.Try.call9⟩
instance i298 : Fun Go.Proofs.Try.prog 10 := ⟨Go.Proofs.Try.call10⟩
instance i299 : Fun Go.Proofs.Try.prog 11 := ⟨Go.Proofs.Try.call11⟩
instance i300 : Fun Go.Proofs.Try.prog 12 := ⟨Go.Proofs.Try.call12⟩
instance i301 : Fun Go.Proofs.Try.prog 13 := ⟨Go.Proofs.Try.call13⟩
instance i302 : Fun Go.Proofs.Try.prog 14 := ⟨Go.Proofs.Try.call14⟩
instance i303 : Fun Go.Proofs.Try.prog 15 := ⟨Go.Proofs.Try.call15⟩
instance i304 : Fun Go.Proofs.Try.prog 16 := ⟨Go.Proofs.Try.call16⟩
instance i305 : Fun Go.Proofs.Try.prog 17 := ⟨Go.Proofs.Try.call17⟩
instance i306 : Fun Go.Proofs.Try.prog 18 := ⟨Go.Proofs.Try.call18⟩
instance i307 : Fun Go.Proofs.Try.prog 19 := ⟨Go.Proofs.Try.call19⟩
instance i308 : Fun Go.Proofs.Try.prog 20 := ⟨Go.Proofs.Try.call20⟩
instance i309 : Fun Go.Proofs.Try.prog 21 := ⟨Go.Proofs.Try.call21⟩
instance i310 : Fun Go.Proofs.Try.prog 22 := ⟨Go.Proofs.Try.call22⟩
instance i311 : Fun Go.Proofs.Try.prog 23 := ⟨Go.Proofs.Try.call23⟩
instance i312 : Fun Go.Proofs.Try.prog 24 := ⟨Go.Proofs.Try.call24⟩
instance i313 : Fun Go.Proofs.Try.prog 25 := ⟨Go.Proofs.Try.call25⟩
instance i314 : Fun Go.Proofs.Try.prog 26 := ⟨Go.Proofs.Try.call26⟩
instance i315 : Fun Go.Proofs.Try.prog 27 := ⟨Go.Proofs.Try.call27⟩
instance i316 : Fun Go.Proofs.Try.prog 28 := ⟨Go.Proofs.Try.call28⟩
instance i317 : Fun Go.Proofs.Try.prog 29 := ⟨Go.Proofs.Try.call29⟩
instance i318 : Fun Go.Proofs.Try.prog 30 := ⟨Go.Proofs.Try.call30⟩
instance i319 : Fun Go.Proofs.Try.prog 31 := ⟨Go.Proofs.Try.call31⟩
instance i320 : Fun Go.Proofs.Try.prog 32 := ⟨Go.Proofs.Try.call32⟩
instance i321 : Fun Go.Proofs.Try.prog 33 := ⟨Go.Proofs.Try.call33⟩
instance i322 : Fun Go.Proofs.Try.prog 34 := ⟨Go.Proofs.Try.call34⟩
instance i323 : Fun Go.Proofs.Try.prog 35 := ⟨Go.Proofs.Try.call35⟩
instance i324 : Fun Go.Proofs.Try.prog 36 := ⟨Go.Proofs.Try.call36⟩
instance i325 : Fun Go.Proofs.Try.prog 37 := ⟨Go.Proofs.Try.call37⟩
instance i326 : Fun Go.Proofs.Try.prog 38 := ⟨Go.Proofs.Try.call38⟩
instance i327 : Fun Go.Proofs.Try.prog 39 := ⟨Go.Proofs.Try.call39⟩
instance i328 : Fun Go.Proofs.Try.prog 40 := ⟨Go.Proofs.Try.call40⟩
instance i329 : Fun Go.Proofs.Try.prog 41 := ⟨Go.Proofs.Try.call41⟩
instance i330 : Fun Go.Proofs.Try.prog 42 := ⟨Go.Proofs.Try.call42⟩
instance i331 : Fun Go.Proofs.Try.prog 43 := ⟨Go.Proofs.Try.call43⟩
instance i332 : Fun Go.Proofs.Try.prog 44 := ⟨Go.Proofs.Try.call44⟩
instance i333 : Fun Go.Proofs.Try.prog 45 := ⟨Go.Proofs.Try.call45⟩
instance i334 : Fun Go.Proofs.Try.prog 46 := ⟨Go.Proofs.Try.call46⟩
instance i335 : Fun Go.Proofs.Try.prog 47 := ⟨Go.Proofs.Try.call47⟩
instance i336 : Fun Go.Proofs.Try.prog 48 := ⟨Go.Proofs.Try.call48⟩
instance i337 : Fun Go.Proofs.Try.prog 49 := ⟨Go.Proofs.Try.call49⟩
instance i338 : Fun Go.Proofs.Try.prog 50 := ⟨Go.Proofs.Try.call50⟩
instance i339 : Fun Go.Proofs.Try.prog 51 := ⟨Go.Proofs.Try.call51⟩
end Go.Sl
