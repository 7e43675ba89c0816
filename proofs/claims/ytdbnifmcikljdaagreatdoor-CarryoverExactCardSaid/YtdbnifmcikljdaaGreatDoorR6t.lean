/-
  A part of a proof: see the last text of this claim for what is proved.
-/
import Derived.Test.YtdbnifmcikljdaaGreatDoorBM
import Derived.Test.YtdbnifmcikljdaaGreatDoorProg
import Derived.KernelRfl
namespace Go.AM
open Go Go.Proofs
theorem sz1 : szOf Tryz.prog 1 = some 1 := by kernel_rfl
theorem by1 : bytesT Tryz.prog 1 = some 8 := by kernel_rfl
theorem ze1 : zeroT Tryz.prog 1 = some Value.nilFunc := by kernel_rfl
theorem sz2 : szOf Tryz.prog 2 = some 1 := by kernel_rfl
theorem by2 : bytesT Tryz.prog 2 = some 8 := by kernel_rfl
theorem ze2 : zeroT Tryz.prog 2 = some (Value.int IntKind.i64 0) := by kernel_rfl
theorem sz3 : szOf Tryz.prog 3 = some 1 := by kernel_rfl
theorem by3 : bytesT Tryz.prog 3 = some 8 := by kernel_rfl
theorem ze3 : zeroT Tryz.prog 3 = some (Value.int IntKind.i64 0) := by kernel_rfl
theorem sz4 : szOf Tryz.prog 4 = some 1 := by kernel_rfl
theorem by4 : bytesT Tryz.prog 4 = some 1 := by kernel_rfl
theorem ze4 : zeroT Tryz.prog 4 = some (Value.bool false) := by kernel_rfl
theorem sz5 : szOf Tryz.prog 5 = some 1 := by kernel_rfl
theorem by5 : bytesT Tryz.prog 5 = some 1 := by kernel_rfl
theorem ze5 : zeroT Tryz.prog 5 = some (Value.int IntKind.u8 0) := by kernel_rfl
theorem sz6 : szOf Tryz.prog 6 = some 1 := by kernel_rfl
theorem by6 : bytesT Tryz.prog 6 = some 1 := by kernel_rfl
theorem ze6 : zeroT Tryz.prog 6 = some (Value.int IntKind.u8 0) := by kernel_rfl
theorem sz7 : szOf Tryz.prog 7 = some 4 := by kernel_rfl
theorem by7 : bytesT Tryz.prog 7 = some 24 := by kernel_rfl
theorem ze7 : zeroT Tryz.prog 7 = some (Value.agg #[Value.int IntKind.i64 0, Value.int IntKind.i64 0, Value.bool false, Value.int IntKind.u8 0]) := by kernel_rfl
theorem fa7_0 : fieldAt Tryz.prog 7 0 = some (0, 2) := by kernel_rfl
theorem fa7_1 : fieldAt Tryz.prog 7 1 = some (1, 3) := by kernel_rfl
theorem fa7_2 : fieldAt Tryz.prog 7 2 = some (2, 4) := by kernel_rfl
theorem fa7_3 : fieldAt Tryz.prog 7 3 = some (3, 6) := by kernel_rfl
theorem sz9 : szOf Tryz.prog 9 = some 1 := by kernel_rfl
theorem by9 : bytesT Tryz.prog 9 = some 16 := by kernel_rfl
theorem ze9 : zeroT Tryz.prog 9 = some (Value.string { data := #[] }) := by kernel_rfl
theorem sz22 : szOf Tryz.prog 22 = some 1 := by kernel_rfl
theorem by22 : bytesT Tryz.prog 22 = some 24 := by kernel_rfl
theorem ze22 : zeroT Tryz.prog 22 = some (Value.slice none 0 0) := by kernel_rfl
theorem sz23 : szOf Tryz.prog 23 = some 1 := by kernel_rfl
theorem by23 : bytesT Tryz.prog 23 = some 24 := by kernel_rfl
theorem ze23 : zeroT Tryz.prog 23 = some (Value.slice none 0 0) := by kernel_rfl
theorem sz24 : szOf Tryz.prog 24 = some 1 := by kernel_rfl
theorem by24 : bytesT Tryz.prog 24 = some 24 := by kernel_rfl
theorem ze24 : zeroT Tryz.prog 24 = some (Value.slice none 0 0) := by kernel_rfl
theorem sz26 : szOf Tryz.prog 26 = some 3 := by kernel_rfl
theorem by26 : bytesT Tryz.prog 26 = some 72 := by kernel_rfl
theorem ze26 : zeroT Tryz.prog 26 = some (Value.agg #[Value.slice none 0 0, Value.slice none 0 0, Value.slice none 0 0]) := by kernel_rfl
theorem fa26_0 : fieldAt Tryz.prog 26 0 = some (0, 23) := by kernel_rfl
theorem fa26_1 : fieldAt Tryz.prog 26 1 = some (1, 23) := by kernel_rfl
theorem fa26_2 : fieldAt Tryz.prog 26 2 = some (2, 24) := by kernel_rfl
theorem sz29 : szOf Tryz.prog 29 = some 1 := by kernel_rfl
theorem by29 : bytesT Tryz.prog 29 = some 8 := by kernel_rfl
theorem ze29 : zeroT Tryz.prog 29 = some (Value.pointer none) := by kernel_rfl
theorem sz37 : szOf Tryz.prog 37 = some 5 := by kernel_rfl
theorem by37 : bytesT Tryz.prog 37 = some 48 := by kernel_rfl
theorem ze37 : zeroT Tryz.prog 37 = some (Value.agg #[Value.int IntKind.i64 0, Value.int IntKind.i64 0, Value.string { data := #[] }, Value.int IntKind.i64 0, Value.int IntKind.i64 0]) := by kernel_rfl
theorem fa37_0 : fieldAt Tryz.prog 37 0 = some (0, 3) := by kernel_rfl
theorem fa37_1 : fieldAt Tryz.prog 37 1 = some (1, 3) := by kernel_rfl
theorem fa37_2 : fieldAt Tryz.prog 37 2 = some (2, 9) := by kernel_rfl
theorem fa37_3 : fieldAt Tryz.prog 37 3 = some (3, 3) := by kernel_rfl
theorem fa37_4 : fieldAt Tryz.prog 37 4 = some (4, 3) := by kernel_rfl
theorem sz38 : szOf Tryz.prog 38 = some 3 := by kernel_rfl
theorem by38 : bytesT Tryz.prog 38 = some 72 := by kernel_rfl
theorem ze38 : zeroT Tryz.prog 38 = some (Value.agg #[Value.slice none 0 0, Value.slice none 0 0, Value.slice none 0 0]) := by kernel_rfl
theorem sz40 : szOf Tryz.prog 40 = some 2 := by kernel_rfl
theorem by40 : bytesT Tryz.prog 40 = some 24 := by kernel_rfl
theorem ze40 : zeroT Tryz.prog 40 = some (Value.agg #[Value.string { data := #[] }, Value.int IntKind.i64 0]) := by kernel_rfl
theorem fa40_0 : fieldAt Tryz.prog 40 0 = some (0, 9) := by kernel_rfl
theorem fa40_1 : fieldAt Tryz.prog 40 1 = some (1, 3) := by kernel_rfl
theorem sz41 : szOf Tryz.prog 41 = some 3 := by kernel_rfl
theorem by41 : bytesT Tryz.prog 41 = some 72 := by kernel_rfl
theorem ze41 : zeroT Tryz.prog 41 = some (Value.agg #[Value.slice none 0 0, Value.slice none 0 0, Value.slice none 0 0]) := by kernel_rfl
theorem sz42 : szOf Tryz.prog 42 = some 1 := by kernel_rfl
theorem by42 : bytesT Tryz.prog 42 = some 8 := by kernel_rfl
theorem ze42 : zeroT Tryz.prog 42 = some (Value.int IntKind.i64 0) := by kernel_rfl
theorem sz43 : szOf Tryz.prog 43 = some 1 := by kernel_rfl
theorem by43 : bytesT Tryz.prog 43 = some 0 := by kernel_rfl
theorem ze43 : zeroT Tryz.prog 43 = some (Value.tuple #[Value.agg #[Value.slice none 0 0, Value.slice none 0 0, Value.slice none 0 0], Value.int IntKind.i64 0]) := by kernel_rfl
theorem sz47 : szOf Tryz.prog 47 = some 9 := by kernel_rfl
theorem by47 : bytesT Tryz.prog 47 = some 216 := by kernel_rfl
theorem ze47 : zeroT Tryz.prog 47 = some (Value.agg #[Value.slice none 0 0, Value.slice none 0 0, Value.slice none 0 0, Value.slice none 0 0, Value.slice none 0 0, Value.slice none 0 0, Value.slice none 0 0, Value.slice none 0 0, Value.slice none 0 0]) := by kernel_rfl
theorem sz49 : szOf Tryz.prog 49 = some 2 := by kernel_rfl
theorem by49 : bytesT Tryz.prog 49 = some 16 := by kernel_rfl
theorem ze49 : zeroT Tryz.prog 49 = some (Value.agg #[Value.int IntKind.i64 0, Value.int IntKind.i64 0]) := by kernel_rfl
theorem sz50 : szOf Tryz.prog 50 = some 1 := by kernel_rfl
theorem by50 : bytesT Tryz.prog 50 = some 24 := by kernel_rfl
theorem ze50 : zeroT Tryz.prog 50 = some (Value.slice none 0 0) := by kernel_rfl
theorem sz51 : szOf Tryz.prog 51 = some 1 := by kernel_rfl
theorem by51 : bytesT Tryz.prog 51 = some 0 := by kernel_rfl
theorem ze51 : zeroT Tryz.prog 51 = some (Value.tuple #[Value.slice none 0 0, Value.int IntKind.i64 0]) := by kernel_rfl
theorem sz55 : szOf Tryz.prog 55 = some 3 := by kernel_rfl
theorem by55 : bytesT Tryz.prog 55 = some 48 := by kernel_rfl
theorem ze55 : zeroT Tryz.prog 55 = some (Value.agg #[Value.string { data := #[] }, Value.string { data := #[] }, Value.string { data := #[] }]) := by kernel_rfl
theorem sz59 : szOf Tryz.prog 59 = some 2 := by kernel_rfl
theorem by59 : bytesT Tryz.prog 59 = some 32 := by kernel_rfl
theorem ze59 : zeroT Tryz.prog 59 = some (Value.agg #[Value.slice none 0 0, Value.int IntKind.i64 0]) := by kernel_rfl
theorem fa59_0 : fieldAt Tryz.prog 59 0 = some (0, 22) := by kernel_rfl
theorem fa59_1 : fieldAt Tryz.prog 59 1 = some (1, 3) := by kernel_rfl
theorem sz61 : szOf Tryz.prog 61 = some 4 := by kernel_rfl
theorem by61 : bytesT Tryz.prog 61 = some 64 := by kernel_rfl
theorem ze61 : zeroT Tryz.prog 61 = some (Value.agg #[Value.string { data := #[] }, Value.string { data := #[] }, Value.string { data := #[] }, Value.string { data := #[] }]) := by kernel_rfl
theorem sz62 : szOf Tryz.prog 62 = some 1 := by kernel_rfl
theorem by62 : bytesT Tryz.prog 62 = some 24 := by kernel_rfl
theorem ze62 : zeroT Tryz.prog 62 = some (Value.slice none 0 0) := by kernel_rfl
theorem sz63 : szOf Tryz.prog 63 = some 1 := by kernel_rfl
theorem by63 : bytesT Tryz.prog 63 = some 8 := by kernel_rfl
theorem ze63 : zeroT Tryz.prog 63 = some (Value.map none) := by kernel_rfl
theorem sz66 : szOf Tryz.prog 66 = some 1 := by kernel_rfl
theorem by66 : bytesT Tryz.prog 66 = some 8 := by kernel_rfl
theorem ze66 : zeroT Tryz.prog 66 = some Value.nilFunc := by kernel_rfl
theorem sz68 : szOf Tryz.prog 68 = some 1 := by kernel_rfl
theorem by68 : bytesT Tryz.prog 68 = some 8 := by kernel_rfl
theorem ze68 : zeroT Tryz.prog 68 = some (Value.map none) := by kernel_rfl
theorem sz70 : szOf Tryz.prog 70 = some 2 := by kernel_rfl
theorem by70 : bytesT Tryz.prog 70 = some 16 := by kernel_rfl
theorem ze70 : zeroT Tryz.prog 70 = some (Value.agg #[Value.int IntKind.i64 0, Value.int IntKind.i64 0]) := by kernel_rfl
theorem fa70_0 : fieldAt Tryz.prog 70 0 = some (0, 3) := by kernel_rfl
theorem fa70_1 : fieldAt Tryz.prog 70 1 = some (1, 3) := by kernel_rfl
theorem sz71 : szOf Tryz.prog 71 = some 1 := by kernel_rfl
theorem by71 : bytesT Tryz.prog 71 = some 8 := by kernel_rfl
theorem ze71 : zeroT Tryz.prog 71 = some Value.nilFunc := by kernel_rfl
theorem sz80 : szOf Tryz.prog 80 = some 5 := by kernel_rfl
theorem by80 : bytesT Tryz.prog 80 = some 48 := by kernel_rfl
theorem ze80 : zeroT Tryz.prog 80 = some (Value.agg #[Value.int IntKind.i64 0, Value.int IntKind.i64 0, Value.string { data := #[] }, Value.int IntKind.i64 0, Value.int IntKind.i64 0]) := by kernel_rfl
theorem fa80_0 : fieldAt Tryz.prog 80 0 = some (0, 3) := by kernel_rfl
theorem fa80_1 : fieldAt Tryz.prog 80 1 = some (1, 3) := by kernel_rfl
theorem fa80_2 : fieldAt Tryz.prog 80 2 = some (2, 9) := by kernel_rfl
theorem fa80_3 : fieldAt Tryz.prog 80 3 = some (3, 3) := by kernel_rfl
theorem fa80_4 : fieldAt Tryz.prog 80 4 = some (4, 3) := by kernel_rfl
theorem sz83 : szOf Tryz.prog 83 = some 1 := by kernel_rfl
theorem by83 : bytesT Tryz.prog 83 = some 8 := by kernel_rfl
theorem ze83 : zeroT Tryz.prog 83 = some Value.nilFunc := by kernel_rfl
theorem sz87 : szOf Tryz.prog 87 = some 1 := by kernel_rfl
theorem by87 : bytesT Tryz.prog 87 = some 8 := by kernel_rfl
theorem ze87 : zeroT Tryz.prog 87 = some (Value.int IntKind.u64 0) := by kernel_rfl
theorem sz94 : szOf Tryz.prog 94 = some 1 := by kernel_rfl
theorem by94 : bytesT Tryz.prog 94 = some 8 := by kernel_rfl
theorem ze94 : zeroT Tryz.prog 94 = some (Value.int IntKind.i64 0) := by kernel_rfl
theorem sz95 : szOf Tryz.prog 95 = some 1 := by kernel_rfl
theorem by95 : bytesT Tryz.prog 95 = some 0 := by kernel_rfl
theorem ze95 : zeroT Tryz.prog 95 = some (Value.tuple #[Value.int IntKind.i64 0, Value.int IntKind.i64 0]) := by kernel_rfl
theorem sz99 : szOf Tryz.prog 99 = some 1 := by kernel_rfl
theorem by99 : bytesT Tryz.prog 99 = some 0 := by kernel_rfl
theorem ze99 : zeroT Tryz.prog 99 = some (Value.tuple #[Value.int IntKind.i64 0, Value.bool false]) := by kernel_rfl
end Go.AM
