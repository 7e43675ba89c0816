/-
  A part of a proof: see the last text of this claim for what is proved.
-/
import Derived.Test.YtolbfgiflhpjpaaDoorBMc
import Derived.Test.YtolbfgiflhpjpaaDoorProg
import Derived.KernelRfl
namespace Go.AM
open Go Go.Proofs
theorem sz0 : szOf Tryd.prog 0 = some 1 := by kernel_rfl
theorem by0 : bytesT Tryd.prog 0 = some 0 := by kernel_rfl
theorem ze0 : zeroT Tryd.prog 0 = some (Value.tuple #[]) := by kernel_rfl
theorem sz1 : szOf Tryd.prog 1 = some 1 := by kernel_rfl
theorem by1 : bytesT Tryd.prog 1 = some 8 := by kernel_rfl
theorem ze1 : zeroT Tryd.prog 1 = some Value.nilFunc := by kernel_rfl
theorem sz2 : szOf Tryd.prog 2 = some 1 := by kernel_rfl
theorem by2 : bytesT Tryd.prog 2 = some 8 := by kernel_rfl
theorem ze2 : zeroT Tryd.prog 2 = some (Value.int IntKind.i64 0) := by kernel_rfl
theorem sz3 : szOf Tryd.prog 3 = some 1 := by kernel_rfl
theorem by3 : bytesT Tryd.prog 3 = some 8 := by kernel_rfl
theorem ze3 : zeroT Tryd.prog 3 = some (Value.int IntKind.i64 0) := by kernel_rfl
theorem sz4 : szOf Tryd.prog 4 = some 1 := by kernel_rfl
theorem by4 : bytesT Tryd.prog 4 = some 1 := by kernel_rfl
theorem ze4 : zeroT Tryd.prog 4 = some (Value.bool false) := by kernel_rfl
theorem sz5 : szOf Tryd.prog 5 = some 1 := by kernel_rfl
theorem by5 : bytesT Tryd.prog 5 = some 1 := by kernel_rfl
theorem ze5 : zeroT Tryd.prog 5 = some (Value.int IntKind.u8 0) := by kernel_rfl
theorem sz6 : szOf Tryd.prog 6 = some 1 := by kernel_rfl
theorem by6 : bytesT Tryd.prog 6 = some 1 := by kernel_rfl
theorem ze6 : zeroT Tryd.prog 6 = some (Value.int IntKind.u8 0) := by kernel_rfl
theorem sz7 : szOf Tryd.prog 7 = some 4 := by kernel_rfl
theorem by7 : bytesT Tryd.prog 7 = some 24 := by kernel_rfl
theorem ze7 : zeroT Tryd.prog 7 = some (Value.agg #[Value.int IntKind.i64 0, Value.int IntKind.i64 0, Value.bool false, Value.int IntKind.u8 0]) := by kernel_rfl
theorem fa7_0 : fieldAt Tryd.prog 7 0 = some (0, 2) := by kernel_rfl
theorem fa7_1 : fieldAt Tryd.prog 7 1 = some (1, 3) := by kernel_rfl
theorem fa7_2 : fieldAt Tryd.prog 7 2 = some (2, 4) := by kernel_rfl
theorem fa7_3 : fieldAt Tryd.prog 7 3 = some (3, 6) := by kernel_rfl
theorem sz8 : szOf Tryd.prog 8 = some 4 := by kernel_rfl
theorem by8 : bytesT Tryd.prog 8 = some 24 := by kernel_rfl
theorem ze8 : zeroT Tryd.prog 8 = some (Value.agg #[Value.int IntKind.i64 0, Value.int IntKind.i64 0, Value.bool false, Value.int IntKind.u8 0]) := by kernel_rfl
theorem fa8_0 : fieldAt Tryd.prog 8 0 = some (0, 2) := by kernel_rfl
theorem fa8_1 : fieldAt Tryd.prog 8 1 = some (1, 3) := by kernel_rfl
theorem fa8_2 : fieldAt Tryd.prog 8 2 = some (2, 4) := by kernel_rfl
theorem fa8_3 : fieldAt Tryd.prog 8 3 = some (3, 6) := by kernel_rfl
theorem sz9 : szOf Tryd.prog 9 = some 1 := by kernel_rfl
theorem by9 : bytesT Tryd.prog 9 = some 16 := by kernel_rfl
theorem ze9 : zeroT Tryd.prog 9 = some (Value.string { data := #[] }) := by kernel_rfl
theorem sz10 : szOf Tryd.prog 10 = some 1 := by kernel_rfl
theorem by10 : bytesT Tryd.prog 10 = some 16 := by kernel_rfl
theorem ze10 : zeroT Tryd.prog 10 = some (Value.string { data := #[] }) := by kernel_rfl
theorem sz11 : szOf Tryd.prog 11 = some 1 := by kernel_rfl
theorem by11 : bytesT Tryd.prog 11 = some 16 := by kernel_rfl
theorem ze11 : zeroT Tryd.prog 11 = some (Value.string { data := #[] }) := by kernel_rfl
theorem sz12 : szOf Tryd.prog 12 = some 1 := by kernel_rfl
theorem by12 : bytesT Tryd.prog 12 = some 8 := by kernel_rfl
theorem ze12 : zeroT Tryd.prog 12 = some (Value.int IntKind.u64 0) := by kernel_rfl
theorem sz13 : szOf Tryd.prog 13 = some 2 := by kernel_rfl
theorem by13 : bytesT Tryd.prog 13 = some 24 := by kernel_rfl
theorem ze13 : zeroT Tryd.prog 13 = some (Value.agg #[Value.string { data := #[] }, Value.int IntKind.u64 0]) := by kernel_rfl
theorem fa13_0 : fieldAt Tryd.prog 13 0 = some (0, 9) := by kernel_rfl
theorem fa13_1 : fieldAt Tryd.prog 13 1 = some (1, 12) := by kernel_rfl
theorem sz14 : szOf Tryd.prog 14 = some 2 := by kernel_rfl
theorem by14 : bytesT Tryd.prog 14 = some 24 := by kernel_rfl
theorem ze14 : zeroT Tryd.prog 14 = some (Value.agg #[Value.string { data := #[] }, Value.int IntKind.u64 0]) := by kernel_rfl
theorem fa14_0 : fieldAt Tryd.prog 14 0 = some (0, 9) := by kernel_rfl
theorem fa14_1 : fieldAt Tryd.prog 14 1 = some (1, 12) := by kernel_rfl
theorem sz15 : szOf Tryd.prog 15 = some 1 := by kernel_rfl
theorem by15 : bytesT Tryd.prog 15 = some 8 := by kernel_rfl
theorem ze15 : zeroT Tryd.prog 15 = some (Value.pointer none) := by kernel_rfl
theorem sz16 : szOf Tryd.prog 16 = some 1 := by kernel_rfl
theorem by16 : bytesT Tryd.prog 16 = some 8 := by kernel_rfl
theorem ze16 : zeroT Tryd.prog 16 = some (Value.pointer none) := by kernel_rfl
theorem sz17 : szOf Tryd.prog 17 = some 1 := by kernel_rfl
theorem by17 : bytesT Tryd.prog 17 = some 8 := by kernel_rfl
theorem ze17 : zeroT Tryd.prog 17 = some (Value.pointer none) := by kernel_rfl
theorem sz18 : szOf Tryd.prog 18 = some 1 := by kernel_rfl
theorem by18 : bytesT Tryd.prog 18 = some 8 := by kernel_rfl
theorem ze18 : zeroT Tryd.prog 18 = some (Value.agg #[Value.pointer none]) := by kernel_rfl
theorem fa18_0 : fieldAt Tryd.prog 18 0 = some (0, 17) := by kernel_rfl
theorem sz19 : szOf Tryd.prog 19 = some 1 := by kernel_rfl
theorem by19 : bytesT Tryd.prog 19 = some 8 := by kernel_rfl
theorem ze19 : zeroT Tryd.prog 19 = some (Value.agg #[Value.pointer none]) := by kernel_rfl
theorem fa19_0 : fieldAt Tryd.prog 19 0 = some (0, 17) := by kernel_rfl
theorem sz20 : szOf Tryd.prog 20 = some 1 := by kernel_rfl
theorem by20 : bytesT Tryd.prog 20 = some 16 := by kernel_rfl
theorem ze20 : zeroT Tryd.prog 20 = some Value.nilIface := by kernel_rfl
theorem sz21 : szOf Tryd.prog 21 = some 1 := by kernel_rfl
theorem by21 : bytesT Tryd.prog 21 = some 4 := by kernel_rfl
theorem ze21 : zeroT Tryd.prog 21 = some (Value.int IntKind.i32 0) := by kernel_rfl
theorem sz22 : szOf Tryd.prog 22 = some 1 := by kernel_rfl
theorem by22 : bytesT Tryd.prog 22 = some 24 := by kernel_rfl
theorem ze22 : zeroT Tryd.prog 22 = some (Value.slice none 0 0) := by kernel_rfl
theorem sz23 : szOf Tryd.prog 23 = some 1 := by kernel_rfl
theorem by23 : bytesT Tryd.prog 23 = some 8 := by kernel_rfl
theorem ze23 : zeroT Tryd.prog 23 = some (Value.pointer none) := by kernel_rfl
theorem sz24 : szOf Tryd.prog 24 = some 1 := by kernel_rfl
theorem by24 : bytesT Tryd.prog 24 = some 8 := by kernel_rfl
theorem ze24 : zeroT Tryd.prog 24 = some Value.nilFunc := by kernel_rfl
theorem sz25 : szOf Tryd.prog 25 = some 1 := by kernel_rfl
theorem by25 : bytesT Tryd.prog 25 = some 24 := by kernel_rfl
theorem ze25 : zeroT Tryd.prog 25 = some (Value.slice none 0 0) := by kernel_rfl
theorem sz26 : szOf Tryd.prog 26 = some 1 := by kernel_rfl
theorem by26 : bytesT Tryd.prog 26 = some 24 := by kernel_rfl
theorem ze26 : zeroT Tryd.prog 26 = some (Value.slice none 0 0) := by kernel_rfl
theorem sz27 : szOf Tryd.prog 27 = some 1 := by kernel_rfl
theorem by27 : bytesT Tryd.prog 27 = some 24 := by kernel_rfl
theorem ze27 : zeroT Tryd.prog 27 = some (Value.slice none 0 0) := by kernel_rfl
theorem sz28 : szOf Tryd.prog 28 = some 1 := by kernel_rfl
theorem by28 : bytesT Tryd.prog 28 = some 24 := by kernel_rfl
theorem ze28 : zeroT Tryd.prog 28 = some (Value.slice none 0 0) := by kernel_rfl
theorem sz29 : szOf Tryd.prog 29 = some 1 := by kernel_rfl
theorem by29 : bytesT Tryd.prog 29 = some 24 := by kernel_rfl
theorem ze29 : zeroT Tryd.prog 29 = some (Value.slice none 0 0) := by kernel_rfl
theorem sz30 : szOf Tryd.prog 30 = some 1 := by kernel_rfl
theorem by30 : bytesT Tryd.prog 30 = some 24 := by kernel_rfl
theorem ze30 : zeroT Tryd.prog 30 = some (Value.slice none 0 0) := by kernel_rfl
theorem sz31 : szOf Tryd.prog 31 = some 1 := by kernel_rfl
theorem by31 : bytesT Tryd.prog 31 = some 24 := by kernel_rfl
theorem ze31 : zeroT Tryd.prog 31 = some (Value.slice none 0 0) := by kernel_rfl
theorem sz32 : szOf Tryd.prog 32 = some 10 := by kernel_rfl
theorem by32 : bytesT Tryd.prog 32 = some 208 := by kernel_rfl
theorem ze32 : zeroT Tryd.prog 32 = some (Value.agg #[Value.int IntKind.i64 0, Value.int IntKind.i64 0, Value.slice none 0 0, Value.slice none 0 0, Value.slice none 0 0, Value.slice none 0 0, Value.slice none 0 0, Value.slice none 0 0, Value.slice none 0 0, Value.slice none 0 0]) := by kernel_rfl
theorem fa32_0 : fieldAt Tryd.prog 32 0 = some (0, 3) := by kernel_rfl
theorem fa32_1 : fieldAt Tryd.prog 32 1 = some (1, 3) := by kernel_rfl
theorem fa32_2 : fieldAt Tryd.prog 32 2 = some (2, 25) := by kernel_rfl
theorem fa32_3 : fieldAt Tryd.prog 32 3 = some (3, 26) := by kernel_rfl
theorem fa32_4 : fieldAt Tryd.prog 32 4 = some (4, 27) := by kernel_rfl
theorem fa32_5 : fieldAt Tryd.prog 32 5 = some (5, 27) := by kernel_rfl
theorem fa32_6 : fieldAt Tryd.prog 32 6 = some (6, 28) := by kernel_rfl
theorem fa32_7 : fieldAt Tryd.prog 32 7 = some (7, 29) := by kernel_rfl
theorem fa32_8 : fieldAt Tryd.prog 32 8 = some (8, 30) := by kernel_rfl
theorem fa32_9 : fieldAt Tryd.prog 32 9 = some (9, 31) := by kernel_rfl
theorem sz33 : szOf Tryd.prog 33 = some 10 := by kernel_rfl
theorem by33 : bytesT Tryd.prog 33 = some 208 := by kernel_rfl
theorem ze33 : zeroT Tryd.prog 33 = some (Value.agg #[Value.int IntKind.i64 0, Value.int IntKind.i64 0, Value.slice none 0 0, Value.slice none 0 0, Value.slice none 0 0, Value.slice none 0 0, Value.slice none 0 0, Value.slice none 0 0, Value.slice none 0 0, Value.slice none 0 0]) := by kernel_rfl
theorem fa33_0 : fieldAt Tryd.prog 33 0 = some (0, 3) := by kernel_rfl
theorem fa33_1 : fieldAt Tryd.prog 33 1 = some (1, 3) := by kernel_rfl
theorem fa33_2 : fieldAt Tryd.prog 33 2 = some (2, 25) := by kernel_rfl
theorem fa33_3 : fieldAt Tryd.prog 33 3 = some (3, 26) := by kernel_rfl
theorem fa33_4 : fieldAt Tryd.prog 33 4 = some (4, 27) := by kernel_rfl
theorem fa33_5 : fieldAt Tryd.prog 33 5 = some (5, 27) := by kernel_rfl
theorem fa33_6 : fieldAt Tryd.prog 33 6 = some (6, 28) := by kernel_rfl
theorem fa33_7 : fieldAt Tryd.prog 33 7 = some (7, 29) := by kernel_rfl
theorem fa33_8 : fieldAt Tryd.prog 33 8 = some (8, 30) := by kernel_rfl
theorem fa33_9 : fieldAt Tryd.prog 33 9 = some (9, 31) := by kernel_rfl
theorem sz34 : szOf Tryd.prog 34 = some 1 := by kernel_rfl
theorem by34 : bytesT Tryd.prog 34 = some 24 := by kernel_rfl
theorem ze34 : zeroT Tryd.prog 34 = some (Value.slice none 0 0) := by kernel_rfl
theorem sz35 : szOf Tryd.prog 35 = some 1 := by kernel_rfl
theorem by35 : bytesT Tryd.prog 35 = some 24 := by kernel_rfl
theorem ze35 : zeroT Tryd.prog 35 = some (Value.slice none 0 0) := by kernel_rfl
theorem sz36 : szOf Tryd.prog 36 = some 1 := by kernel_rfl
theorem by36 : bytesT Tryd.prog 36 = some 24 := by kernel_rfl
theorem ze36 : zeroT Tryd.prog 36 = some (Value.slice none 0 0) := by kernel_rfl
theorem sz37 : szOf Tryd.prog 37 = some 13 := by kernel_rfl
theorem by37 : bytesT Tryd.prog 37 = some 280 := by kernel_rfl
theorem ze37 : zeroT Tryd.prog 37 = some (Value.agg #[Value.int IntKind.i64 0, Value.int IntKind.i64 0, Value.slice none 0 0, Value.slice none 0 0, Value.slice none 0 0, Value.slice none 0 0, Value.slice none 0 0, Value.slice none 0 0, Value.slice none 0 0, Value.slice none 0 0, Value.slice none 0 0, Value.slice none 0 0, Value.slice none 0 0]) := by kernel_rfl
theorem fa37_0 : fieldAt Tryd.prog 37 0 = some (0, 33) := by kernel_rfl
theorem fa37_1 : fieldAt Tryd.prog 37 1 = some (10, 34) := by kernel_rfl
theorem fa37_2 : fieldAt Tryd.prog 37 2 = some (11, 35) := by kernel_rfl
theorem fa37_3 : fieldAt Tryd.prog 37 3 = some (12, 36) := by kernel_rfl
theorem sz38 : szOf Tryd.prog 38 = some 13 := by kernel_rfl
theorem by38 : bytesT Tryd.prog 38 = some 280 := by kernel_rfl
theorem ze38 : zeroT Tryd.prog 38 = some (Value.agg #[Value.int IntKind.i64 0, Value.int IntKind.i64 0, Value.slice none 0 0, Value.slice none 0 0, Value.slice none 0 0, Value.slice none 0 0, Value.slice none 0 0, Value.slice none 0 0, Value.slice none 0 0, Value.slice none 0 0, Value.slice none 0 0, Value.slice none 0 0, Value.slice none 0 0]) := by kernel_rfl
theorem fa38_0 : fieldAt Tryd.prog 38 0 = some (0, 33) := by kernel_rfl
theorem fa38_1 : fieldAt Tryd.prog 38 1 = some (10, 34) := by kernel_rfl
theorem fa38_2 : fieldAt Tryd.prog 38 2 = some (11, 35) := by kernel_rfl
theorem fa38_3 : fieldAt Tryd.prog 38 3 = some (12, 36) := by kernel_rfl
theorem sz39 : szOf Tryd.prog 39 = some 1 := by kernel_rfl
theorem by39 : bytesT Tryd.prog 39 = some 8 := by kernel_rfl
theorem ze39 : zeroT Tryd.prog 39 = some Value.nilFunc := by kernel_rfl
theorem sz40 : szOf Tryd.prog 40 = some 1 := by kernel_rfl
theorem by40 : bytesT Tryd.prog 40 = some 24 := by kernel_rfl
theorem ze40 : zeroT Tryd.prog 40 = some (Value.slice none 0 0) := by kernel_rfl
theorem sz41 : szOf Tryd.prog 41 = some 1 := by kernel_rfl
theorem by41 : bytesT Tryd.prog 41 = some 8 := by kernel_rfl
theorem ze41 : zeroT Tryd.prog 41 = some Value.nilFunc := by kernel_rfl
theorem sz42 : szOf Tryd.prog 42 = some 1 := by kernel_rfl
theorem by42 : bytesT Tryd.prog 42 = some 8 := by kernel_rfl
theorem ze42 : zeroT Tryd.prog 42 = some Value.nilFunc := by kernel_rfl
theorem sz43 : szOf Tryd.prog 43 = some 1 := by kernel_rfl
theorem by43 : bytesT Tryd.prog 43 = some 8 := by kernel_rfl
theorem ze43 : zeroT Tryd.prog 43 = some Value.nilFunc := by kernel_rfl
theorem sz44 : szOf Tryd.prog 44 = some 4 := by kernel_rfl
theorem by44 : bytesT Tryd.prog 44 = some 40 := by kernel_rfl
theorem ze44 : zeroT Tryd.prog 44 = some (Value.agg #[Value.int IntKind.i64 0, Value.int IntKind.i64 0, Value.string { data := #[] }, Value.int IntKind.i64 0]) := by kernel_rfl
theorem fa44_0 : fieldAt Tryd.prog 44 0 = some (0, 3) := by kernel_rfl
theorem fa44_1 : fieldAt Tryd.prog 44 1 = some (1, 3) := by kernel_rfl
theorem fa44_2 : fieldAt Tryd.prog 44 2 = some (2, 9) := by kernel_rfl
theorem fa44_3 : fieldAt Tryd.prog 44 3 = some (3, 3) := by kernel_rfl
theorem sz45 : szOf Tryd.prog 45 = some 4 := by kernel_rfl
theorem by45 : bytesT Tryd.prog 45 = some 40 := by kernel_rfl
theorem ze45 : zeroT Tryd.prog 45 = some (Value.agg #[Value.int IntKind.i64 0, Value.int IntKind.i64 0, Value.string { data := #[] }, Value.int IntKind.i64 0]) := by kernel_rfl
theorem fa45_0 : fieldAt Tryd.prog 45 0 = some (0, 3) := by kernel_rfl
theorem fa45_1 : fieldAt Tryd.prog 45 1 = some (1, 3) := by kernel_rfl
theorem fa45_2 : fieldAt Tryd.prog 45 2 = some (2, 9) := by kernel_rfl
theorem fa45_3 : fieldAt Tryd.prog 45 3 = some (3, 3) := by kernel_rfl
theorem sz46 : szOf Tryd.prog 46 = some 3 := by kernel_rfl
theorem by46 : bytesT Tryd.prog 46 = some 40 := by kernel_rfl
theorem ze46 : zeroT Tryd.prog 46 = some (Value.agg #[Value.string { data := #[] }, Value.string { data := #[] }, Value.int IntKind.i64 0]) := by kernel_rfl
theorem fa46_0 : fieldAt Tryd.prog 46 0 = some (0, 9) := by kernel_rfl
theorem fa46_1 : fieldAt Tryd.prog 46 1 = some (1, 9) := by kernel_rfl
theorem fa46_2 : fieldAt Tryd.prog 46 2 = some (2, 3) := by kernel_rfl
theorem sz47 : szOf Tryd.prog 47 = some 3 := by kernel_rfl
theorem by47 : bytesT Tryd.prog 47 = some 40 := by kernel_rfl
theorem ze47 : zeroT Tryd.prog 47 = some (Value.agg #[Value.string { data := #[] }, Value.string { data := #[] }, Value.int IntKind.i64 0]) := by kernel_rfl
theorem fa47_0 : fieldAt Tryd.prog 47 0 = some (0, 9) := by kernel_rfl
theorem fa47_1 : fieldAt Tryd.prog 47 1 = some (1, 9) := by kernel_rfl
theorem fa47_2 : fieldAt Tryd.prog 47 2 = some (2, 3) := by kernel_rfl
theorem sz48 : szOf Tryd.prog 48 = some 1 := by kernel_rfl
theorem by48 : bytesT Tryd.prog 48 = some 8 := by kernel_rfl
theorem ze48 : zeroT Tryd.prog 48 = some (Value.int IntKind.i64 0) := by kernel_rfl
theorem sz49 : szOf Tryd.prog 49 = some 1 := by kernel_rfl
theorem by49 : bytesT Tryd.prog 49 = some 0 := by kernel_rfl
theorem ze49 : zeroT Tryd.prog 49 = some (Value.tuple #[Value.int IntKind.i64 0, Value.int IntKind.i64 0]) := by kernel_rfl
theorem sz50 : szOf Tryd.prog 50 = some 1 := by kernel_rfl
theorem by50 : bytesT Tryd.prog 50 = some 8 := by kernel_rfl
theorem ze50 : zeroT Tryd.prog 50 = some Value.nilFunc := by kernel_rfl
theorem sz51 : szOf Tryd.prog 51 = some 1 := by kernel_rfl
theorem by51 : bytesT Tryd.prog 51 = some 8 := by kernel_rfl
theorem ze51 : zeroT Tryd.prog 51 = some Value.nilFunc := by kernel_rfl
theorem sz52 : szOf Tryd.prog 52 = some 1 := by kernel_rfl
theorem by52 : bytesT Tryd.prog 52 = some 8 := by kernel_rfl
theorem ze52 : zeroT Tryd.prog 52 = some Value.nilFunc := by kernel_rfl
theorem sz53 : szOf Tryd.prog 53 = some 1 := by kernel_rfl
theorem by53 : bytesT Tryd.prog 53 = some 8 := by kernel_rfl
theorem ze53 : zeroT Tryd.prog 53 = some Value.nilFunc := by kernel_rfl
theorem sz54 : szOf Tryd.prog 54 = some 2 := by kernel_rfl
theorem by54 : bytesT Tryd.prog 54 = some 32 := by kernel_rfl
theorem ze54 : zeroT Tryd.prog 54 = some (Value.agg #[Value.string { data := #[] }, Value.string { data := #[] }]) := by kernel_rfl
theorem fa54_0 : fieldAt Tryd.prog 54 0 = some (0, 9) := by kernel_rfl
theorem fa54_1 : fieldAt Tryd.prog 54 1 = some (1, 9) := by kernel_rfl
theorem sz55 : szOf Tryd.prog 55 = some 2 := by kernel_rfl
theorem by55 : bytesT Tryd.prog 55 = some 32 := by kernel_rfl
theorem ze55 : zeroT Tryd.prog 55 = some (Value.agg #[Value.string { data := #[] }, Value.string { data := #[] }]) := by kernel_rfl
theorem fa55_0 : fieldAt Tryd.prog 55 0 = some (0, 9) := by kernel_rfl
theorem fa55_1 : fieldAt Tryd.prog 55 1 = some (1, 9) := by kernel_rfl
theorem sz56 : szOf Tryd.prog 56 = some 1 := by kernel_rfl
theorem by56 : bytesT Tryd.prog 56 = some 8 := by kernel_rfl
theorem ze56 : zeroT Tryd.prog 56 = some Value.nilFunc := by kernel_rfl
theorem sz57 : szOf Tryd.prog 57 = some 2 := by kernel_rfl
theorem by57 : bytesT Tryd.prog 57 = some 32 := by kernel_rfl
theorem ze57 : zeroT Tryd.prog 57 = some (Value.agg #[Value.slice none 0 0, Value.int IntKind.i64 0]) := by kernel_rfl
theorem fa57_0 : fieldAt Tryd.prog 57 0 = some (0, 22) := by kernel_rfl
theorem fa57_1 : fieldAt Tryd.prog 57 1 = some (1, 3) := by kernel_rfl
theorem sz58 : szOf Tryd.prog 58 = some 2 := by kernel_rfl
theorem by58 : bytesT Tryd.prog 58 = some 32 := by kernel_rfl
theorem ze58 : zeroT Tryd.prog 58 = some (Value.agg #[Value.slice none 0 0, Value.int IntKind.i64 0]) := by kernel_rfl
theorem fa58_0 : fieldAt Tryd.prog 58 0 = some (0, 22) := by kernel_rfl
theorem fa58_1 : fieldAt Tryd.prog 58 1 = some (1, 3) := by kernel_rfl
theorem sz59 : szOf Tryd.prog 59 = some 1 := by kernel_rfl
theorem by59 : bytesT Tryd.prog 59 = some 8 := by kernel_rfl
theorem ze59 : zeroT Tryd.prog 59 = some Value.nilFunc := by kernel_rfl
theorem sz60 : szOf Tryd.prog 60 = some 1 := by kernel_rfl
theorem by60 : bytesT Tryd.prog 60 = some 8 := by kernel_rfl
theorem ze60 : zeroT Tryd.prog 60 = some Value.nilFunc := by kernel_rfl
theorem sz61 : szOf Tryd.prog 61 = some 1 := by kernel_rfl
theorem by61 : bytesT Tryd.prog 61 = some 8 := by kernel_rfl
theorem ze61 : zeroT Tryd.prog 61 = some Value.nilFunc := by kernel_rfl
theorem sz62 : szOf Tryd.prog 62 = some 1 := by kernel_rfl
theorem by62 : bytesT Tryd.prog 62 = some 8 := by kernel_rfl
theorem ze62 : zeroT Tryd.prog 62 = some Value.nilFunc := by kernel_rfl
theorem sz63 : szOf Tryd.prog 63 = some 1 := by kernel_rfl
theorem by63 : bytesT Tryd.prog 63 = some 8 := by kernel_rfl
theorem ze63 : zeroT Tryd.prog 63 = some Value.nilFunc := by kernel_rfl
theorem sz64 : szOf Tryd.prog 64 = some 1 := by kernel_rfl
theorem by64 : bytesT Tryd.prog 64 = some 8 := by kernel_rfl
theorem ze64 : zeroT Tryd.prog 64 = some Value.nilFunc := by kernel_rfl
theorem sz65 : szOf Tryd.prog 65 = some 1 := by kernel_rfl
theorem by65 : bytesT Tryd.prog 65 = some 8 := by kernel_rfl
theorem ze65 : zeroT Tryd.prog 65 = some Value.nilFunc := by kernel_rfl
theorem sz66 : szOf Tryd.prog 66 = some 1 := by kernel_rfl
theorem by66 : bytesT Tryd.prog 66 = some 8 := by kernel_rfl
theorem ze66 : zeroT Tryd.prog 66 = some Value.nilFunc := by kernel_rfl
theorem sz67 : szOf Tryd.prog 67 = some 7 := by kernel_rfl
theorem by67 : bytesT Tryd.prog 67 = some 72 := by kernel_rfl
theorem ze67 : zeroT Tryd.prog 67 = some (Value.agg #[Value.string { data := #[] }, Value.int IntKind.i64 0, Value.int IntKind.i64 0, Value.int IntKind.i64 0, Value.int IntKind.i64 0, Value.string { data := #[] }, Value.int IntKind.i64 0]) := by kernel_rfl
theorem fa67_0 : fieldAt Tryd.prog 67 0 = some (0, 9) := by kernel_rfl
theorem fa67_1 : fieldAt Tryd.prog 67 1 = some (1, 3) := by kernel_rfl
theorem fa67_2 : fieldAt Tryd.prog 67 2 = some (2, 3) := by kernel_rfl
theorem fa67_3 : fieldAt Tryd.prog 67 3 = some (3, 3) := by kernel_rfl
theorem fa67_4 : fieldAt Tryd.prog 67 4 = some (4, 3) := by kernel_rfl
theorem fa67_5 : fieldAt Tryd.prog 67 5 = some (5, 9) := by kernel_rfl
theorem fa67_6 : fieldAt Tryd.prog 67 6 = some (6, 3) := by kernel_rfl
theorem sz68 : szOf Tryd.prog 68 = some 7 := by kernel_rfl
theorem by68 : bytesT Tryd.prog 68 = some 72 := by kernel_rfl
theorem ze68 : zeroT Tryd.prog 68 = some (Value.agg #[Value.string { data := #[] }, Value.int IntKind.i64 0, Value.int IntKind.i64 0, Value.int IntKind.i64 0, Value.int IntKind.i64 0, Value.string { data := #[] }, Value.int IntKind.i64 0]) := by kernel_rfl
theorem fa68_0 : fieldAt Tryd.prog 68 0 = some (0, 9) := by kernel_rfl
theorem fa68_1 : fieldAt Tryd.prog 68 1 = some (1, 3) := by kernel_rfl
theorem fa68_2 : fieldAt Tryd.prog 68 2 = some (2, 3) := by kernel_rfl
theorem fa68_3 : fieldAt Tryd.prog 68 3 = some (3, 3) := by kernel_rfl
theorem fa68_4 : fieldAt Tryd.prog 68 4 = some (4, 3) := by kernel_rfl
theorem fa68_5 : fieldAt Tryd.prog 68 5 = some (5, 9) := by kernel_rfl
theorem fa68_6 : fieldAt Tryd.prog 68 6 = some (6, 3) := by kernel_rfl
theorem sz69 : szOf Tryd.prog 69 = some 1 := by kernel_rfl
theorem by69 : bytesT Tryd.prog 69 = some 0 := by kernel_rfl
theorem ze69 : zeroT Tryd.prog 69 = some (Value.tuple #[Value.int IntKind.i64 0, Value.bool false]) := by kernel_rfl
theorem sz70 : szOf Tryd.prog 70 = some 1 := by kernel_rfl
theorem by70 : bytesT Tryd.prog 70 = some 8 := by kernel_rfl
theorem ze70 : zeroT Tryd.prog 70 = some Value.nilFunc := by kernel_rfl
theorem sz71 : szOf Tryd.prog 71 = some 1 := by kernel_rfl
theorem by71 : bytesT Tryd.prog 71 = some 8 := by kernel_rfl
theorem ze71 : zeroT Tryd.prog 71 = some Value.nilFunc := by kernel_rfl
theorem sz72 : szOf Tryd.prog 72 = some 1 := by kernel_rfl
theorem by72 : bytesT Tryd.prog 72 = some 8 := by kernel_rfl
theorem ze72 : zeroT Tryd.prog 72 = some Value.nilFunc := by kernel_rfl
theorem sz73 : szOf Tryd.prog 73 = some 3 := by kernel_rfl
theorem by73 : bytesT Tryd.prog 73 = some 32 := by kernel_rfl
theorem ze73 : zeroT Tryd.prog 73 = some (Value.agg #[Value.string { data := #[] }, Value.int IntKind.i64 0, Value.int IntKind.i64 0]) := by kernel_rfl
theorem fa73_0 : fieldAt Tryd.prog 73 0 = some (0, 9) := by kernel_rfl
theorem fa73_1 : fieldAt Tryd.prog 73 1 = some (1, 3) := by kernel_rfl
theorem fa73_2 : fieldAt Tryd.prog 73 2 = some (2, 3) := by kernel_rfl
theorem sz74 : szOf Tryd.prog 74 = some 3 := by kernel_rfl
theorem by74 : bytesT Tryd.prog 74 = some 32 := by kernel_rfl
theorem ze74 : zeroT Tryd.prog 74 = some (Value.agg #[Value.string { data := #[] }, Value.int IntKind.i64 0, Value.int IntKind.i64 0]) := by kernel_rfl
theorem fa74_0 : fieldAt Tryd.prog 74 0 = some (0, 9) := by kernel_rfl
theorem fa74_1 : fieldAt Tryd.prog 74 1 = some (1, 3) := by kernel_rfl
theorem fa74_2 : fieldAt Tryd.prog 74 2 = some (2, 3) := by kernel_rfl
theorem sz75 : szOf Tryd.prog 75 = some 4 := by kernel_rfl
theorem by75 : bytesT Tryd.prog 75 = some 48 := by kernel_rfl
theorem ze75 : zeroT Tryd.prog 75 = some (Value.agg #[Value.int IntKind.i64 0, Value.string { data := #[] }, Value.string { data := #[] }, Value.int IntKind.i64 0]) := by kernel_rfl
theorem fa75_0 : fieldAt Tryd.prog 75 0 = some (0, 3) := by kernel_rfl
theorem fa75_1 : fieldAt Tryd.prog 75 1 = some (1, 9) := by kernel_rfl
theorem fa75_2 : fieldAt Tryd.prog 75 2 = some (2, 9) := by kernel_rfl
theorem fa75_3 : fieldAt Tryd.prog 75 3 = some (3, 3) := by kernel_rfl
theorem sz76 : szOf Tryd.prog 76 = some 4 := by kernel_rfl
theorem by76 : bytesT Tryd.prog 76 = some 48 := by kernel_rfl
theorem ze76 : zeroT Tryd.prog 76 = some (Value.agg #[Value.int IntKind.i64 0, Value.string { data := #[] }, Value.string { data := #[] }, Value.int IntKind.i64 0]) := by kernel_rfl
theorem fa76_0 : fieldAt Tryd.prog 76 0 = some (0, 3) := by kernel_rfl
theorem fa76_1 : fieldAt Tryd.prog 76 1 = some (1, 9) := by kernel_rfl
theorem fa76_2 : fieldAt Tryd.prog 76 2 = some (2, 9) := by kernel_rfl
theorem fa76_3 : fieldAt Tryd.prog 76 3 = some (3, 3) := by kernel_rfl
theorem sz77 : szOf Tryd.prog 77 = some 3 := by kernel_rfl
theorem by77 : bytesT Tryd.prog 77 = some 32 := by kernel_rfl
theorem ze77 : zeroT Tryd.prog 77 = some (Value.agg #[Value.string { data := #[] }, Value.int IntKind.i64 0, Value.int IntKind.i64 0]) := by kernel_rfl
theorem fa77_0 : fieldAt Tryd.prog 77 0 = some (0, 9) := by kernel_rfl
theorem fa77_1 : fieldAt Tryd.prog 77 1 = some (1, 3) := by kernel_rfl
theorem fa77_2 : fieldAt Tryd.prog 77 2 = some (2, 3) := by kernel_rfl
theorem sz78 : szOf Tryd.prog 78 = some 1 := by kernel_rfl
theorem by78 : bytesT Tryd.prog 78 = some 8 := by kernel_rfl
theorem ze78 : zeroT Tryd.prog 78 = some Value.nilFunc := by kernel_rfl
theorem sz79 : szOf Tryd.prog 79 = some 4 := by kernel_rfl
theorem by79 : bytesT Tryd.prog 79 = some 40 := by kernel_rfl
theorem ze79 : zeroT Tryd.prog 79 = some (Value.agg #[Value.int IntKind.i64 0, Value.string { data := #[] }, Value.int IntKind.i64 0, Value.int IntKind.i64 0]) := by kernel_rfl
theorem fa79_0 : fieldAt Tryd.prog 79 0 = some (0, 3) := by kernel_rfl
theorem fa79_1 : fieldAt Tryd.prog 79 1 = some (1, 9) := by kernel_rfl
theorem fa79_2 : fieldAt Tryd.prog 79 2 = some (2, 3) := by kernel_rfl
theorem fa79_3 : fieldAt Tryd.prog 79 3 = some (3, 3) := by kernel_rfl
theorem sz80 : szOf Tryd.prog 80 = some 4 := by kernel_rfl
theorem by80 : bytesT Tryd.prog 80 = some 40 := by kernel_rfl
theorem ze80 : zeroT Tryd.prog 80 = some (Value.agg #[Value.int IntKind.i64 0, Value.string { data := #[] }, Value.int IntKind.i64 0, Value.int IntKind.i64 0]) := by kernel_rfl
theorem fa80_0 : fieldAt Tryd.prog 80 0 = some (0, 3) := by kernel_rfl
theorem fa80_1 : fieldAt Tryd.prog 80 1 = some (1, 9) := by kernel_rfl
theorem fa80_2 : fieldAt Tryd.prog 80 2 = some (2, 3) := by kernel_rfl
theorem fa80_3 : fieldAt Tryd.prog 80 3 = some (3, 3) := by kernel_rfl
theorem sz81 : szOf Tryd.prog 81 = some 1 := by kernel_rfl
theorem by81 : bytesT Tryd.prog 81 = some 24 := by kernel_rfl
theorem ze81 : zeroT Tryd.prog 81 = some (Value.slice none 0 0) := by kernel_rfl
theorem sz82 : szOf Tryd.prog 82 = some 3 := by kernel_rfl
theorem by82 : bytesT Tryd.prog 82 = some 40 := by kernel_rfl
theorem ze82 : zeroT Tryd.prog 82 = some (Value.agg #[Value.int IntKind.i64 0, Value.int IntKind.i64 0, Value.slice none 0 0]) := by kernel_rfl
theorem fa82_0 : fieldAt Tryd.prog 82 0 = some (0, 3) := by kernel_rfl
theorem fa82_1 : fieldAt Tryd.prog 82 1 = some (1, 3) := by kernel_rfl
theorem fa82_2 : fieldAt Tryd.prog 82 2 = some (2, 81) := by kernel_rfl
theorem sz83 : szOf Tryd.prog 83 = some 3 := by kernel_rfl
theorem by83 : bytesT Tryd.prog 83 = some 40 := by kernel_rfl
theorem ze83 : zeroT Tryd.prog 83 = some (Value.agg #[Value.int IntKind.i64 0, Value.int IntKind.i64 0, Value.slice none 0 0]) := by kernel_rfl
theorem fa83_0 : fieldAt Tryd.prog 83 0 = some (0, 3) := by kernel_rfl
theorem fa83_1 : fieldAt Tryd.prog 83 1 = some (1, 3) := by kernel_rfl
theorem fa83_2 : fieldAt Tryd.prog 83 2 = some (2, 81) := by kernel_rfl
theorem sz84 : szOf Tryd.prog 84 = some 7 := by kernel_rfl
theorem by84 : bytesT Tryd.prog 84 = some 72 := by kernel_rfl
theorem ze84 : zeroT Tryd.prog 84 = some (Value.agg #[Value.int IntKind.i64 0, Value.int IntKind.i64 0, Value.int IntKind.i64 0, Value.int IntKind.i64 0, Value.string { data := #[] }, Value.string { data := #[] }, Value.int IntKind.i64 0]) := by kernel_rfl
theorem fa84_0 : fieldAt Tryd.prog 84 0 = some (0, 3) := by kernel_rfl
theorem fa84_1 : fieldAt Tryd.prog 84 1 = some (1, 3) := by kernel_rfl
theorem fa84_2 : fieldAt Tryd.prog 84 2 = some (2, 3) := by kernel_rfl
theorem fa84_3 : fieldAt Tryd.prog 84 3 = some (3, 3) := by kernel_rfl
theorem fa84_4 : fieldAt Tryd.prog 84 4 = some (4, 9) := by kernel_rfl
theorem fa84_5 : fieldAt Tryd.prog 84 5 = some (5, 9) := by kernel_rfl
theorem fa84_6 : fieldAt Tryd.prog 84 6 = some (6, 3) := by kernel_rfl
theorem sz85 : szOf Tryd.prog 85 = some 7 := by kernel_rfl
theorem by85 : bytesT Tryd.prog 85 = some 72 := by kernel_rfl
theorem ze85 : zeroT Tryd.prog 85 = some (Value.agg #[Value.int IntKind.i64 0, Value.int IntKind.i64 0, Value.int IntKind.i64 0, Value.int IntKind.i64 0, Value.string { data := #[] }, Value.string { data := #[] }, Value.int IntKind.i64 0]) := by kernel_rfl
theorem fa85_0 : fieldAt Tryd.prog 85 0 = some (0, 3) := by kernel_rfl
theorem fa85_1 : fieldAt Tryd.prog 85 1 = some (1, 3) := by kernel_rfl
theorem fa85_2 : fieldAt Tryd.prog 85 2 = some (2, 3) := by kernel_rfl
theorem fa85_3 : fieldAt Tryd.prog 85 3 = some (3, 3) := by kernel_rfl
theorem fa85_4 : fieldAt Tryd.prog 85 4 = some (4, 9) := by kernel_rfl
theorem fa85_5 : fieldAt Tryd.prog 85 5 = some (5, 9) := by kernel_rfl
theorem fa85_6 : fieldAt Tryd.prog 85 6 = some (6, 3) := by kernel_rfl
theorem sz86 : szOf Tryd.prog 86 = some 5 := by kernel_rfl
theorem by86 : bytesT Tryd.prog 86 = some 48 := by kernel_rfl
theorem ze86 : zeroT Tryd.prog 86 = some (Value.agg #[Value.int IntKind.i64 0, Value.int IntKind.i64 0, Value.string { data := #[] }, Value.int IntKind.i64 0, Value.int IntKind.i64 0]) := by kernel_rfl
theorem fa86_0 : fieldAt Tryd.prog 86 0 = some (0, 3) := by kernel_rfl
theorem fa86_1 : fieldAt Tryd.prog 86 1 = some (1, 3) := by kernel_rfl
theorem fa86_2 : fieldAt Tryd.prog 86 2 = some (2, 9) := by kernel_rfl
theorem fa86_3 : fieldAt Tryd.prog 86 3 = some (3, 3) := by kernel_rfl
theorem fa86_4 : fieldAt Tryd.prog 86 4 = some (4, 3) := by kernel_rfl
theorem sz87 : szOf Tryd.prog 87 = some 5 := by kernel_rfl
theorem by87 : bytesT Tryd.prog 87 = some 48 := by kernel_rfl
theorem ze87 : zeroT Tryd.prog 87 = some (Value.agg #[Value.int IntKind.i64 0, Value.int IntKind.i64 0, Value.string { data := #[] }, Value.int IntKind.i64 0, Value.int IntKind.i64 0]) := by kernel_rfl
theorem fa87_0 : fieldAt Tryd.prog 87 0 = some (0, 3) := by kernel_rfl
theorem fa87_1 : fieldAt Tryd.prog 87 1 = some (1, 3) := by kernel_rfl
theorem fa87_2 : fieldAt Tryd.prog 87 2 = some (2, 9) := by kernel_rfl
theorem fa87_3 : fieldAt Tryd.prog 87 3 = some (3, 3) := by kernel_rfl
theorem fa87_4 : fieldAt Tryd.prog 87 4 = some (4, 3) := by kernel_rfl
theorem sz88 : szOf Tryd.prog 88 = some 1 := by kernel_rfl
theorem by88 : bytesT Tryd.prog 88 = some 8 := by kernel_rfl
theorem ze88 : zeroT Tryd.prog 88 = some Value.nilFunc := by kernel_rfl
theorem sz89 : szOf Tryd.prog 89 = some 1 := by kernel_rfl
theorem by89 : bytesT Tryd.prog 89 = some 8 := by kernel_rfl
theorem ze89 : zeroT Tryd.prog 89 = some Value.nilFunc := by kernel_rfl
theorem sz90 : szOf Tryd.prog 90 = some 1 := by kernel_rfl
theorem by90 : bytesT Tryd.prog 90 = some 8 := by kernel_rfl
theorem ze90 : zeroT Tryd.prog 90 = some Value.nilFunc := by kernel_rfl
theorem sz91 : szOf Tryd.prog 91 = some 1 := by kernel_rfl
theorem by91 : bytesT Tryd.prog 91 = some 8 := by kernel_rfl
theorem ze91 : zeroT Tryd.prog 91 = some Value.nilFunc := by kernel_rfl
theorem sz92 : szOf Tryd.prog 92 = some 1 := by kernel_rfl
theorem by92 : bytesT Tryd.prog 92 = some 8 := by kernel_rfl
theorem ze92 : zeroT Tryd.prog 92 = some Value.nilFunc := by kernel_rfl
theorem sz93 : szOf Tryd.prog 93 = some 1 := by kernel_rfl
theorem by93 : bytesT Tryd.prog 93 = some 8 := by kernel_rfl
theorem ze93 : zeroT Tryd.prog 93 = some Value.nilFunc := by kernel_rfl
theorem sz94 : szOf Tryd.prog 94 = some 1 := by kernel_rfl
theorem by94 : bytesT Tryd.prog 94 = some 8 := by kernel_rfl
theorem ze94 : zeroT Tryd.prog 94 = some Value.nilFunc := by kernel_rfl
theorem sz95 : szOf Tryd.prog 95 = some 1 := by kernel_rfl
theorem by95 : bytesT Tryd.prog 95 = some 16 := by kernel_rfl
theorem ze95 : zeroT Tryd.prog 95 = some Value.nilIface := by kernel_rfl
theorem sz96 : szOf Tryd.prog 96 = some 1 := by kernel_rfl
theorem by96 : bytesT Tryd.prog 96 = some 16 := by kernel_rfl
theorem ze96 : zeroT Tryd.prog 96 = some Value.nilIface := by kernel_rfl
theorem sz97 : szOf Tryd.prog 97 = some 1 := by kernel_rfl
theorem by97 : bytesT Tryd.prog 97 = some 0 := by kernel_rfl
theorem ze97 : zeroT Tryd.prog 97 = some (Value.tuple #[Value.int IntKind.i64 0, Value.nilIface]) := by kernel_rfl
theorem sz98 : szOf Tryd.prog 98 = some 1 := by kernel_rfl
theorem by98 : bytesT Tryd.prog 98 = some 8 := by kernel_rfl
theorem ze98 : zeroT Tryd.prog 98 = some Value.nilFunc := by kernel_rfl
theorem sz99 : szOf Tryd.prog 99 = some 1 := by kernel_rfl
theorem by99 : bytesT Tryd.prog 99 = some 8 := by kernel_rfl
theorem ze99 : zeroT Tryd.prog 99 = some Value.nilFunc := by kernel_rfl
theorem sz100 : szOf Tryd.prog 100 = some 1 := by kernel_rfl
theorem by100 : bytesT Tryd.prog 100 = some 8 := by kernel_rfl
theorem ze100 : zeroT Tryd.prog 100 = some Value.nilFunc := by kernel_rfl
theorem sz101 : szOf Tryd.prog 101 = some 1 := by kernel_rfl
theorem by101 : bytesT Tryd.prog 101 = some 8 := by kernel_rfl
theorem ze101 : zeroT Tryd.prog 101 = some Value.nilFunc := by kernel_rfl
theorem sz102 : szOf Tryd.prog 102 = some 1 := by kernel_rfl
theorem by102 : bytesT Tryd.prog 102 = some 8 := by kernel_rfl
theorem ze102 : zeroT Tryd.prog 102 = some Value.nilFunc := by kernel_rfl
theorem sz103 : szOf Tryd.prog 103 = some 1 := by kernel_rfl
theorem by103 : bytesT Tryd.prog 103 = some 8 := by kernel_rfl
theorem ze103 : zeroT Tryd.prog 103 = some Value.nilFunc := by kernel_rfl
theorem sz104 : szOf Tryd.prog 104 = some 1 := by kernel_rfl
theorem by104 : bytesT Tryd.prog 104 = some 8 := by kernel_rfl
theorem ze104 : zeroT Tryd.prog 104 = some Value.nilFunc := by kernel_rfl
theorem sz105 : szOf Tryd.prog 105 = some 1 := by kernel_rfl
theorem by105 : bytesT Tryd.prog 105 = some 8 := by kernel_rfl
theorem ze105 : zeroT Tryd.prog 105 = some Value.nilFunc := by kernel_rfl
theorem sz106 : szOf Tryd.prog 106 = some 1 := by kernel_rfl
theorem by106 : bytesT Tryd.prog 106 = some 0 := by kernel_rfl
theorem ze106 : zeroT Tryd.prog 106 = some (Value.tuple #[Value.int IntKind.i32 0, Value.int IntKind.i64 0]) := by kernel_rfl
theorem sz107 : szOf Tryd.prog 107 = some 1 := by kernel_rfl
theorem by107 : bytesT Tryd.prog 107 = some 8 := by kernel_rfl
theorem ze107 : zeroT Tryd.prog 107 = some Value.nilFunc := by kernel_rfl
theorem sz108 : szOf Tryd.prog 108 = some 1 := by kernel_rfl
theorem by108 : bytesT Tryd.prog 108 = some 8 := by kernel_rfl
theorem ze108 : zeroT Tryd.prog 108 = some (Value.int IntKind.i64 0) := by kernel_rfl
theorem sz109 : szOf Tryd.prog 109 = some 1 := by kernel_rfl
theorem by109 : bytesT Tryd.prog 109 = some 24 := by kernel_rfl
theorem ze109 : zeroT Tryd.prog 109 = some (Value.slice none 0 0) := by kernel_rfl
theorem sz110 : szOf Tryd.prog 110 = some 1 := by kernel_rfl
theorem by110 : bytesT Tryd.prog 110 = some 0 := by kernel_rfl
theorem ze110 : zeroT Tryd.prog 110 = some (Value.tuple #[Value.int IntKind.i64 0, Value.nilIface]) := by kernel_rfl
theorem sz111 : szOf Tryd.prog 111 = some 1 := by kernel_rfl
theorem by111 : bytesT Tryd.prog 111 = some 8 := by kernel_rfl
theorem ze111 : zeroT Tryd.prog 111 = some Value.nilFunc := by kernel_rfl
theorem sz112 : szOf Tryd.prog 112 = some 1 := by kernel_rfl
theorem by112 : bytesT Tryd.prog 112 = some 8 := by kernel_rfl
theorem ze112 : zeroT Tryd.prog 112 = some (Value.pointer none) := by kernel_rfl
theorem sz113 : szOf Tryd.prog 113 = some 1 := by kernel_rfl
theorem by113 : bytesT Tryd.prog 113 = some 8 := by kernel_rfl
theorem ze113 : zeroT Tryd.prog 113 = some Value.nilFunc := by kernel_rfl
theorem sz114 : szOf Tryd.prog 114 = some 1 := by kernel_rfl
theorem by114 : bytesT Tryd.prog 114 = some 8 := by kernel_rfl
theorem ze114 : zeroT Tryd.prog 114 = some Value.nilFunc := by kernel_rfl
theorem sz115 : szOf Tryd.prog 115 = some 1 := by kernel_rfl
theorem by115 : bytesT Tryd.prog 115 = some 8 := by kernel_rfl
theorem ze115 : zeroT Tryd.prog 115 = some Value.nilFunc := by kernel_rfl
theorem sz116 : szOf Tryd.prog 116 = some 1 := by kernel_rfl
theorem by116 : bytesT Tryd.prog 116 = some 8 := by kernel_rfl
theorem ze116 : zeroT Tryd.prog 116 = some (Value.int IntKind.u64 0) := by kernel_rfl
theorem sz117 : szOf Tryd.prog 117 = some 1 := by kernel_rfl
theorem by117 : bytesT Tryd.prog 117 = some 0 := by kernel_rfl
theorem ze117 : zeroT Tryd.prog 117 = some (Value.tuple #[Value.int IntKind.u64 0, Value.nilIface]) := by kernel_rfl
theorem sz118 : szOf Tryd.prog 118 = some 1 := by kernel_rfl
theorem by118 : bytesT Tryd.prog 118 = some 8 := by kernel_rfl
theorem ze118 : zeroT Tryd.prog 118 = some Value.nilFunc := by kernel_rfl
theorem sz119 : szOf Tryd.prog 119 = some 1 := by kernel_rfl
theorem by119 : bytesT Tryd.prog 119 = some 8 := by kernel_rfl
theorem ze119 : zeroT Tryd.prog 119 = some (Value.int IntKind.u64 0) := by kernel_rfl
theorem sz120 : szOf Tryd.prog 120 = some 3 := by kernel_rfl
theorem by120 : bytesT Tryd.prog 120 = some 48 := by kernel_rfl
theorem ze120 : zeroT Tryd.prog 120 = some (Value.agg #[Value.string { data := #[] }, Value.string { data := #[] }, Value.nilIface]) := by kernel_rfl
theorem fa120_0 : fieldAt Tryd.prog 120 0 = some (0, 9) := by kernel_rfl
theorem fa120_1 : fieldAt Tryd.prog 120 1 = some (1, 9) := by kernel_rfl
theorem fa120_2 : fieldAt Tryd.prog 120 2 = some (2, 96) := by kernel_rfl
theorem sz121 : szOf Tryd.prog 121 = some 3 := by kernel_rfl
theorem by121 : bytesT Tryd.prog 121 = some 48 := by kernel_rfl
theorem ze121 : zeroT Tryd.prog 121 = some (Value.agg #[Value.string { data := #[] }, Value.string { data := #[] }, Value.nilIface]) := by kernel_rfl
theorem fa121_0 : fieldAt Tryd.prog 121 0 = some (0, 9) := by kernel_rfl
theorem fa121_1 : fieldAt Tryd.prog 121 1 = some (1, 9) := by kernel_rfl
theorem fa121_2 : fieldAt Tryd.prog 121 2 = some (2, 96) := by kernel_rfl
theorem sz122 : szOf Tryd.prog 122 = some 1 := by kernel_rfl
theorem by122 : bytesT Tryd.prog 122 = some 8 := by kernel_rfl
theorem ze122 : zeroT Tryd.prog 122 = some Value.nilFunc := by kernel_rfl
theorem sz123 : szOf Tryd.prog 123 = some 24 := by kernel_rfl
theorem by123 : bytesT Tryd.prog 123 = some 24 := by kernel_rfl
theorem ze123 : zeroT Tryd.prog 123 = some (Value.agg #[Value.int IntKind.u8 0, Value.int IntKind.u8 0, Value.int IntKind.u8 0, Value.int IntKind.u8 0, Value.int IntKind.u8 0, Value.int IntKind.u8 0, Value.int IntKind.u8 0, Value.int IntKind.u8 0, Value.int IntKind.u8 0, Value.int IntKind.u8 0, Value.int IntKind.u8 0, Value.int IntKind.u8 0, Value.int IntKind.u8 0, Value.int IntKind.u8 0, Value.int IntKind.u8 0, Value.int IntKind.u8 0, Value.int IntKind.u8 0, Value.int IntKind.u8 0, Value.int IntKind.u8 0, Value.int IntKind.u8 0, Value.int IntKind.u8 0, Value.int IntKind.u8 0, Value.int IntKind.u8 0, Value.int IntKind.u8 0]) := by kernel_rfl
theorem sz124 : szOf Tryd.prog 124 = some 1 := by kernel_rfl
theorem by124 : bytesT Tryd.prog 124 = some 8 := by kernel_rfl
theorem ze124 : zeroT Tryd.prog 124 = some Value.nilFunc := by kernel_rfl
theorem sz125 : szOf Tryd.prog 125 = some 1 := by kernel_rfl
theorem by125 : bytesT Tryd.prog 125 = some 8 := by kernel_rfl
theorem ze125 : zeroT Tryd.prog 125 = some Value.nilFunc := by kernel_rfl
theorem sz126 : szOf Tryd.prog 126 = some 1 := by kernel_rfl
theorem by126 : bytesT Tryd.prog 126 = some 0 := by kernel_rfl
theorem ze126 : zeroT Tryd.prog 126 = some (Value.tuple #[Value.slice none 0 0, Value.string { data := #[] }]) := by kernel_rfl
theorem sz127 : szOf Tryd.prog 127 = some 1 := by kernel_rfl
theorem by127 : bytesT Tryd.prog 127 = some 8 := by kernel_rfl
theorem ze127 : zeroT Tryd.prog 127 = some Value.nilFunc := by kernel_rfl
theorem sz128 : szOf Tryd.prog 128 = some 256 := by kernel_rfl
theorem by128 : bytesT Tryd.prog 128 = some 256 := by kernel_rfl
theorem sz129 : szOf Tryd.prog 129 = some 2 := by kernel_rfl
theorem by129 : bytesT Tryd.prog 129 = some 2 := by kernel_rfl
theorem ze129 : zeroT Tryd.prog 129 = some (Value.agg #[Value.int IntKind.u8 0, Value.int IntKind.u8 0]) := by kernel_rfl
theorem fa129_0 : fieldAt Tryd.prog 129 0 = some (0, 5) := by kernel_rfl
theorem fa129_1 : fieldAt Tryd.prog 129 1 = some (1, 5) := by kernel_rfl
theorem sz130 : szOf Tryd.prog 130 = some 2 := by kernel_rfl
theorem by130 : bytesT Tryd.prog 130 = some 2 := by kernel_rfl
theorem ze130 : zeroT Tryd.prog 130 = some (Value.agg #[Value.int IntKind.u8 0, Value.int IntKind.u8 0]) := by kernel_rfl
theorem fa130_0 : fieldAt Tryd.prog 130 0 = some (0, 5) := by kernel_rfl
theorem fa130_1 : fieldAt Tryd.prog 130 1 = some (1, 5) := by kernel_rfl
theorem sz131 : szOf Tryd.prog 131 = some 32 := by kernel_rfl
theorem by131 : bytesT Tryd.prog 131 = some 32 := by kernel_rfl
theorem ze131 : zeroT Tryd.prog 131 = some (Value.agg #[Value.int IntKind.u8 0, Value.int IntKind.u8 0, Value.int IntKind.u8 0, Value.int IntKind.u8 0, Value.int IntKind.u8 0, Value.int IntKind.u8 0, Value.int IntKind.u8 0, Value.int IntKind.u8 0, Value.int IntKind.u8 0, Value.int IntKind.u8 0, Value.int IntKind.u8 0, Value.int IntKind.u8 0, Value.int IntKind.u8 0, Value.int IntKind.u8 0, Value.int IntKind.u8 0, Value.int IntKind.u8 0, Value.int IntKind.u8 0, Value.int IntKind.u8 0, Value.int IntKind.u8 0, Value.int IntKind.u8 0, Value.int IntKind.u8 0, Value.int IntKind.u8 0, Value.int IntKind.u8 0, Value.int IntKind.u8 0, Value.int IntKind.u8 0, Value.int IntKind.u8 0, Value.int IntKind.u8 0, Value.int IntKind.u8 0, Value.int IntKind.u8 0, Value.int IntKind.u8 0, Value.int IntKind.u8 0, Value.int IntKind.u8 0]) := by kernel_rfl
theorem sz132 : szOf Tryd.prog 132 = some 1 := by kernel_rfl
theorem by132 : bytesT Tryd.prog 132 = some 8 := by kernel_rfl
theorem ze132 : zeroT Tryd.prog 132 = some Value.nilFunc := by kernel_rfl
theorem sz133 : szOf Tryd.prog 133 = some 1 := by kernel_rfl
theorem by133 : bytesT Tryd.prog 133 = some 8 := by kernel_rfl
theorem ze133 : zeroT Tryd.prog 133 = some Value.nilFunc := by kernel_rfl
theorem sz134 : szOf Tryd.prog 134 = some 1 := by kernel_rfl
theorem by134 : bytesT Tryd.prog 134 = some 8 := by kernel_rfl
theorem ze134 : zeroT Tryd.prog 134 = some (Value.pointer none) := by kernel_rfl
theorem sz135 : szOf Tryd.prog 135 = some 1 := by kernel_rfl
theorem by135 : bytesT Tryd.prog 135 = some 8 := by kernel_rfl
theorem ze135 : zeroT Tryd.prog 135 = some (Value.pointer none) := by kernel_rfl
theorem sz136 : szOf Tryd.prog 136 = some 1 := by kernel_rfl
theorem by136 : bytesT Tryd.prog 136 = some 16 := by kernel_rfl
theorem ze136 : zeroT Tryd.prog 136 = some (Value.agg #[Value.string { data := #[] }]) := by kernel_rfl
theorem fa136_0 : fieldAt Tryd.prog 136 0 = some (0, 9) := by kernel_rfl
theorem sz137 : szOf Tryd.prog 137 = some 1 := by kernel_rfl
theorem by137 : bytesT Tryd.prog 137 = some 16 := by kernel_rfl
theorem ze137 : zeroT Tryd.prog 137 = some (Value.agg #[Value.string { data := #[] }]) := by kernel_rfl
theorem fa137_0 : fieldAt Tryd.prog 137 0 = some (0, 9) := by kernel_rfl
theorem sz138 : szOf Tryd.prog 138 = some 1 := by kernel_rfl
theorem by138 : bytesT Tryd.prog 138 = some 8 := by kernel_rfl
theorem ze138 : zeroT Tryd.prog 138 = some Value.nilFunc := by kernel_rfl
theorem sz139 : szOf Tryd.prog 139 = some 20 := by kernel_rfl
theorem by139 : bytesT Tryd.prog 139 = some 160 := by kernel_rfl
theorem ze139 : zeroT Tryd.prog 139 = some (Value.agg #[Value.int IntKind.u64 0, Value.int IntKind.u64 0, Value.int IntKind.u64 0, Value.int IntKind.u64 0, Value.int IntKind.u64 0, Value.int IntKind.u64 0, Value.int IntKind.u64 0, Value.int IntKind.u64 0, Value.int IntKind.u64 0, Value.int IntKind.u64 0, Value.int IntKind.u64 0, Value.int IntKind.u64 0, Value.int IntKind.u64 0, Value.int IntKind.u64 0, Value.int IntKind.u64 0, Value.int IntKind.u64 0, Value.int IntKind.u64 0, Value.int IntKind.u64 0, Value.int IntKind.u64 0, Value.int IntKind.u64 0]) := by kernel_rfl
theorem sz140 : szOf Tryd.prog 140 = some 1 := by kernel_rfl
theorem by140 : bytesT Tryd.prog 140 = some 4 := by kernel_rfl
theorem ze140 : zeroT Tryd.prog 140 = some (Value.int IntKind.u32 0) := by kernel_rfl
theorem sz141 : szOf Tryd.prog 141 = some 65 := by kernel_rfl
theorem by141 : bytesT Tryd.prog 141 = some 65 := by kernel_rfl
theorem ze141 : zeroT Tryd.prog 141 = some (Value.agg ([Value.int IntKind.u8 0, Value.int IntKind.u8 0, Value.int IntKind.u8 0, Value.int IntKind.u8 0, Value.int IntKind.u8 0, Value.int IntKind.u8 0, Value.int IntKind.u8 0, Value.int IntKind.u8 0, Value.int IntKind.u8 0, Value.int IntKind.u8 0, Value.int IntKind.u8 0, Value.int IntKind.u8 0, Value.int IntKind.u8 0, Value.int IntKind.u8 0, Value.int IntKind.u8 0, Value.int IntKind.u8 0, Value.int IntKind.u8 0, Value.int IntKind.u8 0, Value.int IntKind.u8 0, Value.int IntKind.u8 0, Value.int IntKind.u8 0, Value.int IntKind.u8 0, Value.int IntKind.u8 0, Value.int IntKind.u8 0, Value.int IntKind.u8 0, Value.int IntKind.u8 0, Value.int IntKind.u8 0, Value.int IntKind.u8 0, Value.int IntKind.u8 0, Value.int IntKind.u8 0, Value.int IntKind.u8 0, Value.int IntKind.u8 0].append [Value.int IntKind.u8 0, Value.int IntKind.u8 0, Value.int IntKind.u8 0, Value.int IntKind.u8 0, Value.int IntKind.u8 0, Value.int IntKind.u8 0, Value.int IntKind.u8 0, Value.int IntKind.u8 0, Value.int IntKind.u8 0, Value.int IntKind.u8 0, Value.int IntKind.u8 0, Value.int IntKind.u8 0, Value.int IntKind.u8 0, Value.int IntKind.u8 0, Value.int IntKind.u8 0, Value.int IntKind.u8 0, Value.int IntKind.u8 0, Value.int IntKind.u8 0, Value.int IntKind.u8 0, Value.int IntKind.u8 0, Value.int IntKind.u8 0, Value.int IntKind.u8 0, Value.int IntKind.u8 0, Value.int IntKind.u8 0, Value.int IntKind.u8 0, Value.int IntKind.u8 0, Value.int IntKind.u8 0, Value.int IntKind.u8 0, Value.int IntKind.u8 0, Value.int IntKind.u8 0, Value.int IntKind.u8 0, Value.int IntKind.u8 0, Value.int IntKind.u8 0]).toArray) := by kernel_rfl
theorem sz142 : szOf Tryd.prog 142 = some 1 := by kernel_rfl
theorem by142 : bytesT Tryd.prog 142 = some 8 := by kernel_rfl
theorem ze142 : zeroT Tryd.prog 142 = some Value.nilFunc := by kernel_rfl
theorem sz143 : szOf Tryd.prog 143 = some 1 := by kernel_rfl
theorem by143 : bytesT Tryd.prog 143 = some 0 := by kernel_rfl
theorem ze143 : zeroT Tryd.prog 143 = some (Value.tuple #[Value.int IntKind.u32 0, Value.int IntKind.u32 0]) := by kernel_rfl
theorem sz144 : szOf Tryd.prog 144 = some 1 := by kernel_rfl
theorem by144 : bytesT Tryd.prog 144 = some 8 := by kernel_rfl
theorem ze144 : zeroT Tryd.prog 144 = some Value.nilFunc := by kernel_rfl
theorem sz145 : szOf Tryd.prog 145 = some 1 := by kernel_rfl
theorem by145 : bytesT Tryd.prog 145 = some 8 := by kernel_rfl
theorem ze145 : zeroT Tryd.prog 145 = some Value.nilFunc := by kernel_rfl
theorem sz146 : szOf Tryd.prog 146 = some 32 := by kernel_rfl
theorem by146 : bytesT Tryd.prog 146 = some 32 := by kernel_rfl
theorem ze146 : zeroT Tryd.prog 146 = some (Value.agg #[Value.int IntKind.u8 0, Value.int IntKind.u8 0, Value.int IntKind.u8 0, Value.int IntKind.u8 0, Value.int IntKind.u8 0, Value.int IntKind.u8 0, Value.int IntKind.u8 0, Value.int IntKind.u8 0, Value.int IntKind.u8 0, Value.int IntKind.u8 0, Value.int IntKind.u8 0, Value.int IntKind.u8 0, Value.int IntKind.u8 0, Value.int IntKind.u8 0, Value.int IntKind.u8 0, Value.int IntKind.u8 0, Value.int IntKind.u8 0, Value.int IntKind.u8 0, Value.int IntKind.u8 0, Value.int IntKind.u8 0, Value.int IntKind.u8 0, Value.int IntKind.u8 0, Value.int IntKind.u8 0, Value.int IntKind.u8 0, Value.int IntKind.u8 0, Value.int IntKind.u8 0, Value.int IntKind.u8 0, Value.int IntKind.u8 0, Value.int IntKind.u8 0, Value.int IntKind.u8 0, Value.int IntKind.u8 0, Value.int IntKind.u8 0]) := by kernel_rfl
theorem sz147 : szOf Tryd.prog 147 = some 64 := by kernel_rfl
theorem by147 : bytesT Tryd.prog 147 = some 64 := by kernel_rfl
theorem ze147 : zeroT Tryd.prog 147 = some (Value.agg #[Value.int IntKind.u8 0, Value.int IntKind.u8 0, Value.int IntKind.u8 0, Value.int IntKind.u8 0, Value.int IntKind.u8 0, Value.int IntKind.u8 0, Value.int IntKind.u8 0, Value.int IntKind.u8 0, Value.int IntKind.u8 0, Value.int IntKind.u8 0, Value.int IntKind.u8 0, Value.int IntKind.u8 0, Value.int IntKind.u8 0, Value.int IntKind.u8 0, Value.int IntKind.u8 0, Value.int IntKind.u8 0, Value.int IntKind.u8 0, Value.int IntKind.u8 0, Value.int IntKind.u8 0, Value.int IntKind.u8 0, Value.int IntKind.u8 0, Value.int IntKind.u8 0, Value.int IntKind.u8 0, Value.int IntKind.u8 0, Value.int IntKind.u8 0, Value.int IntKind.u8 0, Value.int IntKind.u8 0, Value.int IntKind.u8 0, Value.int IntKind.u8 0, Value.int IntKind.u8 0, Value.int IntKind.u8 0, Value.int IntKind.u8 0, Value.int IntKind.u8 0, Value.int IntKind.u8 0, Value.int IntKind.u8 0, Value.int IntKind.u8 0, Value.int IntKind.u8 0, Value.int IntKind.u8 0, Value.int IntKind.u8 0, Value.int IntKind.u8 0, Value.int IntKind.u8 0, Value.int IntKind.u8 0, Value.int IntKind.u8 0, Value.int IntKind.u8 0, Value.int IntKind.u8 0, Value.int IntKind.u8 0, Value.int IntKind.u8 0, Value.int IntKind.u8 0, Value.int IntKind.u8 0, Value.int IntKind.u8 0, Value.int IntKind.u8 0, Value.int IntKind.u8 0, Value.int IntKind.u8 0, Value.int IntKind.u8 0, Value.int IntKind.u8 0, Value.int IntKind.u8 0, Value.int IntKind.u8 0, Value.int IntKind.u8 0, Value.int IntKind.u8 0, Value.int IntKind.u8 0, Value.int IntKind.u8 0, Value.int IntKind.u8 0, Value.int IntKind.u8 0, Value.int IntKind.u8 0]) := by kernel_rfl
theorem sz148 : szOf Tryd.prog 148 = some 1 := by kernel_rfl
theorem by148 : bytesT Tryd.prog 148 = some 8 := by kernel_rfl
theorem ze148 : zeroT Tryd.prog 148 = some Value.nilFunc := by kernel_rfl
theorem sz149 : szOf Tryd.prog 149 = some 4 := by kernel_rfl
theorem by149 : bytesT Tryd.prog 149 = some 40 := by kernel_rfl
theorem ze149 : zeroT Tryd.prog 149 = some (Value.agg #[Value.pointer none, Value.pointer none, Value.pointer none, Value.string { data := #[] }]) := by kernel_rfl
theorem fa149_0 : fieldAt Tryd.prog 149 0 = some (0, 17) := by kernel_rfl
theorem fa149_1 : fieldAt Tryd.prog 149 1 = some (1, 17) := by kernel_rfl
theorem fa149_2 : fieldAt Tryd.prog 149 2 = some (2, 17) := by kernel_rfl
theorem fa149_3 : fieldAt Tryd.prog 149 3 = some (3, 9) := by kernel_rfl
theorem sz150 : szOf Tryd.prog 150 = some 4 := by kernel_rfl
theorem by150 : bytesT Tryd.prog 150 = some 40 := by kernel_rfl
theorem ze150 : zeroT Tryd.prog 150 = some (Value.agg #[Value.pointer none, Value.pointer none, Value.pointer none, Value.string { data := #[] }]) := by kernel_rfl
theorem fa150_0 : fieldAt Tryd.prog 150 0 = some (0, 17) := by kernel_rfl
theorem fa150_1 : fieldAt Tryd.prog 150 1 = some (1, 17) := by kernel_rfl
theorem fa150_2 : fieldAt Tryd.prog 150 2 = some (2, 17) := by kernel_rfl
theorem fa150_3 : fieldAt Tryd.prog 150 3 = some (3, 9) := by kernel_rfl
theorem sz151 : szOf Tryd.prog 151 = some 0 := by kernel_rfl
theorem by151 : bytesT Tryd.prog 151 = some 0 := by kernel_rfl
theorem ze151 : zeroT Tryd.prog 151 = some (Value.agg #[]) := by kernel_rfl
theorem sz152 : szOf Tryd.prog 152 = some 0 := by kernel_rfl
theorem by152 : bytesT Tryd.prog 152 = some 0 := by kernel_rfl
theorem ze152 : zeroT Tryd.prog 152 = some (Value.agg #[]) := by kernel_rfl
theorem fa152_0 : fieldAt Tryd.prog 152 0 = some (0, 151) := by kernel_rfl
theorem sz153 : szOf Tryd.prog 153 = some 0 := by kernel_rfl
theorem by153 : bytesT Tryd.prog 153 = some 0 := by kernel_rfl
theorem ze153 : zeroT Tryd.prog 153 = some (Value.agg #[]) := by kernel_rfl
theorem fa153_0 : fieldAt Tryd.prog 153 0 = some (0, 151) := by kernel_rfl
theorem sz154 : szOf Tryd.prog 154 = some 1 := by kernel_rfl
theorem by154 : bytesT Tryd.prog 154 = some 8 := by kernel_rfl
theorem ze154 : zeroT Tryd.prog 154 = some Value.nilFunc := by kernel_rfl
theorem sz155 : szOf Tryd.prog 155 = some 1 := by kernel_rfl
theorem by155 : bytesT Tryd.prog 155 = some 1 := by kernel_rfl
theorem ze155 : zeroT Tryd.prog 155 = some (Value.int IntKind.u8 0) := by kernel_rfl
theorem sz156 : szOf Tryd.prog 156 = some 1 := by kernel_rfl
theorem by156 : bytesT Tryd.prog 156 = some 1 := by kernel_rfl
theorem ze156 : zeroT Tryd.prog 156 = some (Value.int IntKind.u8 0) := by kernel_rfl
theorem sz157 : szOf Tryd.prog 157 = some 1 := by kernel_rfl
theorem by157 : bytesT Tryd.prog 157 = some 8 := by kernel_rfl
theorem ze157 : zeroT Tryd.prog 157 = some Value.nilFunc := by kernel_rfl
theorem sz158 : szOf Tryd.prog 158 = some 1 := by kernel_rfl
theorem by158 : bytesT Tryd.prog 158 = some 4 := by kernel_rfl
theorem ze158 : zeroT Tryd.prog 158 = some (Value.int IntKind.i32 0) := by kernel_rfl
theorem sz159 : szOf Tryd.prog 159 = some 1 := by kernel_rfl
theorem by159 : bytesT Tryd.prog 159 = some 4 := by kernel_rfl
theorem ze159 : zeroT Tryd.prog 159 = some (Value.int IntKind.i32 0) := by kernel_rfl
theorem sz160 : szOf Tryd.prog 160 = some 11 := by kernel_rfl
theorem by160 : bytesT Tryd.prog 160 = some 48 := by kernel_rfl
theorem ze160 : zeroT Tryd.prog 160 = some (Value.agg #[Value.int IntKind.u64 0, Value.int IntKind.u64 0, Value.int IntKind.u32 0, Value.int IntKind.u8 0, Value.int IntKind.u8 0, Value.int IntKind.u8 0, Value.int IntKind.u8 0, Value.nilFunc, Value.pointer none, Value.int IntKind.i32 0, Value.int IntKind.i32 0]) := by kernel_rfl
theorem fa160_0 : fieldAt Tryd.prog 160 0 = some (0, 12) := by kernel_rfl
theorem fa160_1 : fieldAt Tryd.prog 160 1 = some (1, 12) := by kernel_rfl
theorem fa160_2 : fieldAt Tryd.prog 160 2 = some (2, 140) := by kernel_rfl
theorem fa160_3 : fieldAt Tryd.prog 160 3 = some (3, 155) := by kernel_rfl
theorem fa160_4 : fieldAt Tryd.prog 160 4 = some (4, 5) := by kernel_rfl
theorem fa160_5 : fieldAt Tryd.prog 160 5 = some (5, 5) := by kernel_rfl
theorem fa160_6 : fieldAt Tryd.prog 160 6 = some (6, 156) := by kernel_rfl
theorem fa160_7 : fieldAt Tryd.prog 160 7 = some (7, 157) := by kernel_rfl
theorem fa160_8 : fieldAt Tryd.prog 160 8 = some (8, 134) := by kernel_rfl
theorem fa160_9 : fieldAt Tryd.prog 160 9 = some (9, 158) := by kernel_rfl
theorem fa160_10 : fieldAt Tryd.prog 160 10 = some (10, 159) := by kernel_rfl
theorem sz161 : szOf Tryd.prog 161 = some 11 := by kernel_rfl
theorem by161 : bytesT Tryd.prog 161 = some 48 := by kernel_rfl
theorem ze161 : zeroT Tryd.prog 161 = some (Value.agg #[Value.int IntKind.u64 0, Value.int IntKind.u64 0, Value.int IntKind.u32 0, Value.int IntKind.u8 0, Value.int IntKind.u8 0, Value.int IntKind.u8 0, Value.int IntKind.u8 0, Value.nilFunc, Value.pointer none, Value.int IntKind.i32 0, Value.int IntKind.i32 0]) := by kernel_rfl
theorem fa161_0 : fieldAt Tryd.prog 161 0 = some (0, 12) := by kernel_rfl
theorem fa161_1 : fieldAt Tryd.prog 161 1 = some (1, 12) := by kernel_rfl
theorem fa161_2 : fieldAt Tryd.prog 161 2 = some (2, 140) := by kernel_rfl
theorem fa161_3 : fieldAt Tryd.prog 161 3 = some (3, 155) := by kernel_rfl
theorem fa161_4 : fieldAt Tryd.prog 161 4 = some (4, 5) := by kernel_rfl
theorem fa161_5 : fieldAt Tryd.prog 161 5 = some (5, 5) := by kernel_rfl
theorem fa161_6 : fieldAt Tryd.prog 161 6 = some (6, 156) := by kernel_rfl
theorem fa161_7 : fieldAt Tryd.prog 161 7 = some (7, 157) := by kernel_rfl
theorem fa161_8 : fieldAt Tryd.prog 161 8 = some (8, 134) := by kernel_rfl
theorem fa161_9 : fieldAt Tryd.prog 161 9 = some (9, 158) := by kernel_rfl
theorem fa161_10 : fieldAt Tryd.prog 161 10 = some (10, 159) := by kernel_rfl
theorem sz162 : szOf Tryd.prog 162 = some 1 := by kernel_rfl
theorem by162 : bytesT Tryd.prog 162 = some 8 := by kernel_rfl
theorem ze162 : zeroT Tryd.prog 162 = some (Value.pointer none) := by kernel_rfl
end Go.AM
