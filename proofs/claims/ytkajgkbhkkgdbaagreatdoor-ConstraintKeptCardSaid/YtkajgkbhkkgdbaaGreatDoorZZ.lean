/-
  A part of a proof.
-/
import Derived.Test.YtkajgkbhkkgdbaaGreatDoorProg
import Derived.KernelRfl
import Derived.Test.YtkajgkbhkkgdbaaGreatDoorCD
import Derived.Test.YtkajgkbhkkgdbaaGreatDoorDM
set_option linter.unusedSimpArgs false
set_option linter.unusedVariables false
namespace Go.AM
open Go Go.Proofs
theorem sz1:szOf Tryz.prog 1=some 1:=by kernel_rfl
theorem by1:bytesT Tryz.prog 1=some 8:=by kernel_rfl
theorem ze1:zeroT Tryz.prog 1=some Value.nilFunc:=by kernel_rfl
theorem sz2:szOf Tryz.prog 2=some 1:=by kernel_rfl
theorem by2:bytesT Tryz.prog 2=some 8:=by kernel_rfl
theorem ze2:zeroT Tryz.prog 2=some (Value.int IntKind.i64 0):=by kernel_rfl
theorem sz3:szOf Tryz.prog 3=some 1:=by kernel_rfl
theorem by3:bytesT Tryz.prog 3=some 8:=by kernel_rfl
theorem ze3:zeroT Tryz.prog 3=some (Value.int IntKind.i64 0):=by kernel_rfl
theorem ty4:szOf Tryz.prog 4=some 1/\bytesT Tryz.prog 4=some 1/\zeroT Tryz.prog 4=some (Value.bool false):=by and_intros <;> kernel_rfl
theorem ty5:szOf Tryz.prog 5=some 1/\bytesT Tryz.prog 5=some 1/\zeroT Tryz.prog 5=some (Value.int IntKind.u8 0):=by and_intros <;> kernel_rfl
theorem ty6:szOf Tryz.prog 6=some 1/\bytesT Tryz.prog 6=some 1/\zeroT Tryz.prog 6=some (Value.int IntKind.u8 0):=by and_intros <;> kernel_rfl
theorem ty7:szOf Tryz.prog 7=some 4/\bytesT Tryz.prog 7=some 24/\zeroT Tryz.prog 7=some (Value.agg #[Value.int IntKind.i64 0,Value.int IntKind.i64 0,Value.bool false,Value.int IntKind.u8 0]):=by and_intros <;> kernel_rfl
theorem fa7_0:fieldAt Tryz.prog 7 0=some (0,2):=by kernel_rfl
theorem fa7_1:fieldAt Tryz.prog 7 1=some (1,3):=by kernel_rfl
theorem fa7_2:fieldAt Tryz.prog 7 2=some (2,4):=by kernel_rfl
theorem fa7_3:fieldAt Tryz.prog 7 3=some (3,6):=by kernel_rfl
theorem ty8:szOf Tryz.prog 8=some 4/\bytesT Tryz.prog 8=some 24/\zeroT Tryz.prog 8=some (Value.agg #[Value.int IntKind.i64 0,Value.int IntKind.i64 0,Value.bool false,Value.int IntKind.u8 0]):=by and_intros <;> kernel_rfl
theorem fa8_0:fieldAt Tryz.prog 8 0=some (0,2):=by kernel_rfl
theorem fa8_1:fieldAt Tryz.prog 8 1=some (1,3):=by kernel_rfl
theorem fa8_2:fieldAt Tryz.prog 8 2=some (2,4):=by kernel_rfl
theorem fa8_3:fieldAt Tryz.prog 8 3=some (3,6):=by kernel_rfl
theorem ty9:szOf Tryz.prog 9=some 1/\bytesT Tryz.prog 9=some 16/\zeroT Tryz.prog 9=some (Value.string { data:=#[] }):=by and_intros <;> kernel_rfl
theorem ty12:szOf Tryz.prog 12=some 1/\bytesT Tryz.prog 12=some 8/\zeroT Tryz.prog 12=some (Value.int IntKind.u64 0):=by and_intros <;> kernel_rfl
theorem ty21:szOf Tryz.prog 21=some 1/\bytesT Tryz.prog 21=some 4/\zeroT Tryz.prog 21=some (Value.int IntKind.i32 0):=by and_intros <;> kernel_rfl
theorem ty22:szOf Tryz.prog 22=some 1/\bytesT Tryz.prog 22=some 24/\zeroT Tryz.prog 22=some (Value.slice none 0 0):=by and_intros <;> kernel_rfl
theorem ty23:szOf Tryz.prog 23=some 1/\bytesT Tryz.prog 23=some 8/\zeroT Tryz.prog 23=some (Value.pointer none):=by and_intros <;> kernel_rfl
theorem ty25:szOf Tryz.prog 25=some 1/\bytesT Tryz.prog 25=some 24/\zeroT Tryz.prog 25=some (Value.slice none 0 0):=by and_intros <;> kernel_rfl
theorem ty26:szOf Tryz.prog 26=some 1/\bytesT Tryz.prog 26=some 24/\zeroT Tryz.prog 26=some (Value.slice none 0 0):=by and_intros <;> kernel_rfl
theorem ty27:szOf Tryz.prog 27=some 1/\bytesT Tryz.prog 27=some 24/\zeroT Tryz.prog 27=some (Value.slice none 0 0):=by and_intros <;> kernel_rfl
theorem ty28:szOf Tryz.prog 28=some 1/\bytesT Tryz.prog 28=some 24/\zeroT Tryz.prog 28=some (Value.slice none 0 0):=by and_intros <;> kernel_rfl
theorem ty29:szOf Tryz.prog 29=some 1/\bytesT Tryz.prog 29=some 24/\zeroT Tryz.prog 29=some (Value.slice none 0 0):=by and_intros <;> kernel_rfl
theorem ty30:szOf Tryz.prog 30=some 1/\bytesT Tryz.prog 30=some 24/\zeroT Tryz.prog 30=some (Value.slice none 0 0):=by and_intros <;> kernel_rfl
theorem ty31:szOf Tryz.prog 31=some 1/\bytesT Tryz.prog 31=some 24/\zeroT Tryz.prog 31=some (Value.slice none 0 0):=by and_intros <;> kernel_rfl
theorem ty33:szOf Tryz.prog 33=some 10/\bytesT Tryz.prog 33=some 208/\zeroT Tryz.prog 33=some (Value.agg #[Value.int IntKind.i64 0,Value.int IntKind.i64 0,Value.slice none 0 0,Value.slice none 0 0,Value.slice none 0 0,Value.slice none 0 0,Value.slice none 0 0,Value.slice none 0 0,Value.slice none 0 0,Value.slice none 0 0]):=by and_intros <;> kernel_rfl
theorem fa33_0:fieldAt Tryz.prog 33 0=some (0,3):=by kernel_rfl
theorem fa33_1:fieldAt Tryz.prog 33 1=some (1,3):=by kernel_rfl
theorem fa33_2:fieldAt Tryz.prog 33 2=some (2,25):=by kernel_rfl
theorem fa33_3:fieldAt Tryz.prog 33 3=some (3,26):=by kernel_rfl
theorem fa33_4:fieldAt Tryz.prog 33 4=some (4,27):=by kernel_rfl
theorem fa33_5:fieldAt Tryz.prog 33 5=some (5,27):=by kernel_rfl
theorem fa33_6:fieldAt Tryz.prog 33 6=some (6,28):=by kernel_rfl
theorem fa33_7:fieldAt Tryz.prog 33 7=some (7,29):=by kernel_rfl
theorem fa33_8:fieldAt Tryz.prog 33 8=some (8,30):=by kernel_rfl
theorem fa33_9:fieldAt Tryz.prog 33 9=some (9,31):=by kernel_rfl
theorem ty35:szOf Tryz.prog 35=some 1/\bytesT Tryz.prog 35=some 24/\zeroT Tryz.prog 35=some (Value.slice none 0 0):=by and_intros <;> kernel_rfl
theorem ty36:szOf Tryz.prog 36=some 1/\bytesT Tryz.prog 36=some 8/\zeroT Tryz.prog 36=some (Value.int IntKind.i64 0):=by and_intros <;> kernel_rfl
theorem ty37:szOf Tryz.prog 37=some 1/\bytesT Tryz.prog 37=some 0/\zeroT Tryz.prog 37=some (Value.tuple #[Value.slice none 0 0,Value.int IntKind.i64 0]):=by and_intros <;> kernel_rfl
theorem ty40:szOf Tryz.prog 40=some 3/\bytesT Tryz.prog 40=some 32/\zeroT Tryz.prog 40=some (Value.agg #[Value.string { data:=#[] },Value.int IntKind.i64 0,Value.int IntKind.i64 0]):=by and_intros <;> kernel_rfl
theorem fa40_0:fieldAt Tryz.prog 40 0=some (0,9):=by kernel_rfl
theorem fa40_1:fieldAt Tryz.prog 40 1=some (1,3):=by kernel_rfl
theorem fa40_2:fieldAt Tryz.prog 40 2=some (2,3):=by kernel_rfl
theorem ty41:szOf Tryz.prog 41=some 1/\bytesT Tryz.prog 41=some 0/\zeroT Tryz.prog 41=some (Value.tuple #[Value.int IntKind.i64 0,Value.int IntKind.i64 0]):=by and_intros <;> kernel_rfl
theorem ty44:szOf Tryz.prog 44=some 5/\bytesT Tryz.prog 44=some 48/\zeroT Tryz.prog 44=some (Value.agg #[Value.int IntKind.i64 0,Value.string { data:=#[] },Value.int IntKind.i64 0,Value.int IntKind.i64 0,Value.int IntKind.i64 0]):=by and_intros <;> kernel_rfl
theorem fa44_0:fieldAt Tryz.prog 44 0=some (0,3):=by kernel_rfl
theorem fa44_1:fieldAt Tryz.prog 44 1=some (1,40):=by kernel_rfl
theorem fa44_2:fieldAt Tryz.prog 44 2=some (4,3):=by kernel_rfl
theorem ty48:szOf Tryz.prog 48=some 1/\bytesT Tryz.prog 48=some 24/\zeroT Tryz.prog 48=some (Value.slice none 0 0):=by and_intros <;> kernel_rfl
theorem ty50:szOf Tryz.prog 50=some 2/\bytesT Tryz.prog 50=some 32/\zeroT Tryz.prog 50=some (Value.agg #[Value.int IntKind.i64 0,Value.slice none 0 0]):=by and_intros <;> kernel_rfl
theorem fa50_0:fieldAt Tryz.prog 50 0=some (0,3):=by kernel_rfl
theorem fa50_1:fieldAt Tryz.prog 50 1=some (1,48):=by kernel_rfl
theorem ty51:szOf Tryz.prog 51=some 1/\bytesT Tryz.prog 51=some 0/\zeroT Tryz.prog 51=some (Value.tuple #[Value.agg #[Value.int IntKind.i64 0,Value.slice none 0 0],Value.int IntKind.i64 0]):=by and_intros <;> kernel_rfl
theorem ty53:szOf Tryz.prog 53=some 1/\bytesT Tryz.prog 53=some 0/\zeroT Tryz.prog 53=some (Value.tuple #[Value.slice none 0 0,Value.int IntKind.i64 0]):=by and_intros <;> kernel_rfl
theorem ty56:szOf Tryz.prog 56=some 1/\bytesT Tryz.prog 56=some 24/\zeroT Tryz.prog 56=some (Value.slice none 0 0):=by and_intros <;> kernel_rfl
theorem ty57:szOf Tryz.prog 57=some 3/\bytesT Tryz.prog 57=some 32/\zeroT Tryz.prog 57=some (Value.agg #[Value.string { data:=#[] },Value.int IntKind.i64 0,Value.int IntKind.i64 0]):=by and_intros <;> kernel_rfl
theorem fa57_0:fieldAt Tryz.prog 57 0=some (0,9):=by kernel_rfl
theorem fa57_1:fieldAt Tryz.prog 57 1=some (1,3):=by kernel_rfl
theorem fa57_2:fieldAt Tryz.prog 57 2=some (2,3):=by kernel_rfl
theorem ty60:szOf Tryz.prog 60=some 4/\bytesT Tryz.prog 60=some 40/\zeroT Tryz.prog 60=some (Value.agg #[Value.string { data:=#[] },Value.int IntKind.i64 0,Value.int IntKind.i64 0,Value.int IntKind.i64 0]):=by and_intros <;> kernel_rfl
theorem fa60_0:fieldAt Tryz.prog 60 0=some (0,9):=by kernel_rfl
theorem fa60_1:fieldAt Tryz.prog 60 1=some (1,3):=by kernel_rfl
theorem fa60_2:fieldAt Tryz.prog 60 2=some (2,3):=by kernel_rfl
theorem fa60_3:fieldAt Tryz.prog 60 3=some (3,3):=by kernel_rfl
theorem ty80:szOf Tryz.prog 80=some 2/\bytesT Tryz.prog 80=some 32/\zeroT Tryz.prog 80=some (Value.agg #[Value.slice none 0 0,Value.int IntKind.i64 0]):=by and_intros <;> kernel_rfl
theorem fa80_0:fieldAt Tryz.prog 80 0=some (0,22):=by kernel_rfl
theorem fa80_1:fieldAt Tryz.prog 80 1=some (1,3):=by kernel_rfl
theorem ty83:szOf Tryz.prog 83=some 1/\bytesT Tryz.prog 83=some 24/\zeroT Tryz.prog 83=some (Value.slice none 0 0):=by and_intros <;> kernel_rfl
theorem ty87:szOf Tryz.prog 87=some 2/\bytesT Tryz.prog 87=some 32/\zeroT Tryz.prog 87=some (Value.agg #[Value.string { data:=#[] },Value.string { data:=#[] }]):=by and_intros <;> kernel_rfl
theorem fa87_0:fieldAt Tryz.prog 87 0=some (0,9):=by kernel_rfl
theorem fa87_1:fieldAt Tryz.prog 87 1=some (1,9):=by kernel_rfl
theorem ty90:szOf Tryz.prog 90=some 1/\bytesT Tryz.prog 90=some 8/\zeroT Tryz.prog 90=some (Value.pointer none):=by and_intros <;> kernel_rfl
theorem ty91:szOf Tryz.prog 91=some 1/\bytesT Tryz.prog 91=some 24/\zeroT Tryz.prog 91=some (Value.slice none 0 0):=by and_intros <;> kernel_rfl
theorem ty94:szOf Tryz.prog 94=some 3/\bytesT Tryz.prog 94=some 40/\zeroT Tryz.prog 94=some (Value.agg #[Value.int IntKind.i64 0,Value.int IntKind.i64 0,Value.slice none 0 0]):=by and_intros <;> kernel_rfl
theorem fa94_0:fieldAt Tryz.prog 94 0=some (0,3):=by kernel_rfl
theorem fa94_1:fieldAt Tryz.prog 94 1=some (1,3):=by kernel_rfl
theorem fa94_2:fieldAt Tryz.prog 94 2=some (2,91):=by kernel_rfl
theorem ty98:szOf Tryz.prog 98=some 4/\bytesT Tryz.prog 98=some 32/\zeroT Tryz.prog 98=some (Value.agg #[Value.int IntKind.i64 0,Value.int IntKind.i64 0,Value.int IntKind.i64 0,Value.int IntKind.i64 0]):=by and_intros <;> kernel_rfl
theorem fa98_0:fieldAt Tryz.prog 98 0=some (0,3):=by kernel_rfl
theorem fa98_1:fieldAt Tryz.prog 98 1=some (1,3):=by kernel_rfl
theorem fa98_2:fieldAt Tryz.prog 98 2=some (2,3):=by kernel_rfl
theorem fa98_3:fieldAt Tryz.prog 98 3=some (3,3):=by kernel_rfl
theorem ty99:szOf Tryz.prog 99=some 1/\bytesT Tryz.prog 99=some 8/\zeroT Tryz.prog 99=some (Value.pointer none):=by and_intros <;> kernel_rfl
theorem ty101:szOf Tryz.prog 101=some 1/\bytesT Tryz.prog 101=some 24/\zeroT Tryz.prog 101=some (Value.slice none 0 0):=by and_intros <;> kernel_rfl
theorem ty103:szOf Tryz.prog 103=some 11/\bytesT Tryz.prog 103=some 232/\zeroT Tryz.prog 103=some (Value.agg #[Value.int IntKind.i64 0,Value.int IntKind.i64 0,Value.slice none 0 0,Value.slice none 0 0,Value.slice none 0 0,Value.slice none 0 0,Value.slice none 0 0,Value.slice none 0 0,Value.slice none 0 0,Value.slice none 0 0,Value.slice none 0 0]):=by and_intros <;> kernel_rfl
theorem fa103_0:fieldAt Tryz.prog 103 0=some (0,33):=by kernel_rfl
theorem fa103_1:fieldAt Tryz.prog 103 1=some (10,101):=by kernel_rfl
theorem ty104:szOf Tryz.prog 104=some 1/\bytesT Tryz.prog 104=some 8/\zeroT Tryz.prog 104=some (Value.int IntKind.i64 0):=by and_intros <;> kernel_rfl
theorem ty106:szOf Tryz.prog 106=some 5/\bytesT Tryz.prog 106=some 48/\zeroT Tryz.prog 106=some (Value.agg #[Value.int IntKind.i64 0,Value.string { data:=#[] },Value.int IntKind.i64 0,Value.int IntKind.i64 0,Value.int IntKind.i64 0]):=by and_intros <;> kernel_rfl
theorem fa106_0:fieldAt Tryz.prog 106 0=some (0,104):=by kernel_rfl
theorem fa106_1:fieldAt Tryz.prog 106 1=some (1,9):=by kernel_rfl
theorem fa106_2:fieldAt Tryz.prog 106 2=some (2,3):=by kernel_rfl
theorem fa106_3:fieldAt Tryz.prog 106 3=some (3,3):=by kernel_rfl
theorem fa106_4:fieldAt Tryz.prog 106 4=some (4,3):=by kernel_rfl
theorem ty107:szOf Tryz.prog 107=some 1/\bytesT Tryz.prog 107=some 0/\zeroT Tryz.prog 107=some (Value.tuple #[Value.int IntKind.i64 0,Value.int IntKind.i64 0]):=by and_intros <;> kernel_rfl
theorem ty111:szOf Tryz.prog 111=some 1/\bytesT Tryz.prog 111=some 8/\zeroT Tryz.prog 111=some Value.nilFunc:=by and_intros <;> kernel_rfl
theorem ty112:szOf Tryz.prog 112=some 1/\bytesT Tryz.prog 112=some 8/\zeroT Tryz.prog 112=some (Value.map none):=by and_intros <;> kernel_rfl
theorem ty116:szOf Tryz.prog 116=some 3/\bytesT Tryz.prog 116=some 40/\zeroT Tryz.prog 116=some (Value.agg #[Value.string { data:=#[] },Value.string { data:=#[] },Value.int IntKind.i64 0]):=by and_intros <;> kernel_rfl
theorem fa116_0:fieldAt Tryz.prog 116 0=some (0,9):=by kernel_rfl
theorem fa116_1:fieldAt Tryz.prog 116 1=some (1,9):=by kernel_rfl
theorem fa116_2:fieldAt Tryz.prog 116 2=some (2,3):=by kernel_rfl
theorem ty118:szOf Tryz.prog 118=some 7/\bytesT Tryz.prog 118=some 72/\zeroT Tryz.prog 118=some (Value.agg #[Value.string { data:=#[] },Value.int IntKind.i64 0,Value.int IntKind.i64 0,Value.int IntKind.i64 0,Value.int IntKind.i64 0,Value.string { data:=#[] },Value.int IntKind.i64 0]):=by and_intros <;> kernel_rfl
theorem fa118_0:fieldAt Tryz.prog 118 0=some (0,9):=by kernel_rfl
theorem fa118_1:fieldAt Tryz.prog 118 1=some (1,3):=by kernel_rfl
theorem fa118_2:fieldAt Tryz.prog 118 2=some (2,3):=by kernel_rfl
theorem fa118_3:fieldAt Tryz.prog 118 3=some (3,3):=by kernel_rfl
theorem fa118_4:fieldAt Tryz.prog 118 4=some (4,3):=by kernel_rfl
theorem fa118_5:fieldAt Tryz.prog 118 5=some (5,9):=by kernel_rfl
theorem fa118_6:fieldAt Tryz.prog 118 6=some (6,3):=by kernel_rfl
theorem ty120:szOf Tryz.prog 120=some 4/\bytesT Tryz.prog 120=some 48/\zeroT Tryz.prog 120=some (Value.agg #[Value.int IntKind.i64 0,Value.string { data:=#[] },Value.string { data:=#[] },Value.int IntKind.i64 0]):=by and_intros <;> kernel_rfl
theorem fa120_0:fieldAt Tryz.prog 120 0=some (0,3):=by kernel_rfl
theorem fa120_1:fieldAt Tryz.prog 120 1=some (1,9):=by kernel_rfl
theorem fa120_2:fieldAt Tryz.prog 120 2=some (2,9):=by kernel_rfl
theorem fa120_3:fieldAt Tryz.prog 120 3=some (3,3):=by kernel_rfl
theorem ty122:szOf Tryz.prog 122=some 4/\bytesT Tryz.prog 122=some 40/\zeroT Tryz.prog 122=some (Value.agg #[Value.int IntKind.i64 0,Value.string { data:=#[] },Value.int IntKind.i64 0,Value.int IntKind.i64 0]):=by and_intros <;> kernel_rfl
theorem fa122_0:fieldAt Tryz.prog 122 0=some (0,3):=by kernel_rfl
theorem fa122_1:fieldAt Tryz.prog 122 1=some (1,9):=by kernel_rfl
theorem fa122_2:fieldAt Tryz.prog 122 2=some (2,3):=by kernel_rfl
theorem fa122_3:fieldAt Tryz.prog 122 3=some (3,3):=by kernel_rfl
theorem ty142:szOf Tryz.prog 142=some 1/\bytesT Tryz.prog 142=some 24/\zeroT Tryz.prog 142=some (Value.slice none 0 0):=by and_intros <;> kernel_rfl
theorem ty144:szOf Tryz.prog 144=some 11/\bytesT Tryz.prog 144=some 232/\zeroT Tryz.prog 144=some (Value.agg #[Value.int IntKind.i64 0,Value.int IntKind.i64 0,Value.slice none 0 0,Value.slice none 0 0,Value.slice none 0 0,Value.slice none 0 0,Value.slice none 0 0,Value.slice none 0 0,Value.slice none 0 0,Value.slice none 0 0,Value.slice none 0 0]):=by and_intros <;> kernel_rfl
theorem fa144_0:fieldAt Tryz.prog 144 0=some (0,33):=by kernel_rfl
theorem fa144_1:fieldAt Tryz.prog 144 1=some (10,83):=by kernel_rfl
theorem ty146:szOf Tryz.prog 146=some 1/\bytesT Tryz.prog 146=some 8/\zeroT Tryz.prog 146=some Value.nilFunc:=by and_intros <;> kernel_rfl
theorem ty149:szOf Tryz.prog 149=some 1/\bytesT Tryz.prog 149=some 8/\zeroT Tryz.prog 149=some Value.nilFunc:=by and_intros <;> kernel_rfl
theorem ty150:szOf Tryz.prog 150=some 1/\bytesT Tryz.prog 150=some 8/\zeroT Tryz.prog 150=some Value.nilFunc:=by and_intros <;> kernel_rfl
theorem ty152:szOf Tryz.prog 152=some 1/\bytesT Tryz.prog 152=some 8/\zeroT Tryz.prog 152=some Value.nilFunc:=by and_intros <;> kernel_rfl
theorem ty153:szOf Tryz.prog 153=some 1/\bytesT Tryz.prog 153=some 8/\zeroT Tryz.prog 153=some Value.nilFunc:=by and_intros <;> kernel_rfl
theorem ty155:szOf Tryz.prog 155=some 1/\bytesT Tryz.prog 155=some 8/\zeroT Tryz.prog 155=some Value.nilFunc:=by and_intros <;> kernel_rfl
theorem ty156:szOf Tryz.prog 156=some 1/\bytesT Tryz.prog 156=some 8/\zeroT Tryz.prog 156=some Value.nilFunc:=by and_intros <;> kernel_rfl
theorem ty158:szOf Tryz.prog 158=some 1/\bytesT Tryz.prog 158=some 8/\zeroT Tryz.prog 158=some Value.nilFunc:=by and_intros <;> kernel_rfl
theorem ty160:szOf Tryz.prog 160=some 1/\bytesT Tryz.prog 160=some 8/\zeroT Tryz.prog 160=some Value.nilFunc:=by and_intros <;> kernel_rfl
theorem ty161:szOf Tryz.prog 161=some 1/\bytesT Tryz.prog 161=some 8/\zeroT Tryz.prog 161=some Value.nilFunc:=by and_intros <;> kernel_rfl
theorem ty168:szOf Tryz.prog 168=some 1/\bytesT Tryz.prog 168=some 8/\zeroT Tryz.prog 168=some Value.nilFunc:=by and_intros <;> kernel_rfl
theorem ty170:szOf Tryz.prog 170=some 1/\bytesT Tryz.prog 170=some 8/\zeroT Tryz.prog 170=some (Value.int IntKind.u64 0):=by and_intros <;> kernel_rfl
theorem ty177:szOf Tryz.prog 177=some 1/\bytesT Tryz.prog 177=some 8/\zeroT Tryz.prog 177=some Value.nilFunc:=by and_intros <;> kernel_rfl
theorem ty179:szOf Tryz.prog 179=some 1/\bytesT Tryz.prog 179=some 8/\zeroT Tryz.prog 179=some (Value.map none):=by and_intros <;> kernel_rfl
theorem ty182:szOf Tryz.prog 182=some 1/\bytesT Tryz.prog 182=some 8/\zeroT Tryz.prog 182=some Value.nilFunc:=by and_intros <;> kernel_rfl
theorem ty183:szOf Tryz.prog 183=some 1/\bytesT Tryz.prog 183=some 8/\zeroT Tryz.prog 183=some Value.nilFunc:=by and_intros <;> kernel_rfl
theorem ty198:szOf Tryz.prog 198=some 1/\bytesT Tryz.prog 198=some 8/\zeroT Tryz.prog 198=some Value.nilFunc:=by and_intros <;> kernel_rfl
theorem sz243:szOf Tryz.prog 243=some 256:=by kernel_rfl
theorem by243:bytesT Tryz.prog 243=some 256:=by kernel_rfl
theorem sz244:szOf Tryz.prog 244=some 1:=by kernel_rfl
theorem by244:bytesT Tryz.prog 244=some 0:=by kernel_rfl
theorem ty247:szOf Tryz.prog 247=some 1/\bytesT Tryz.prog 247=some 8/\zeroT Tryz.prog 247=some (Value.pointer none):=by and_intros <;> kernel_rfl
end Go.AM
namespace Go.AM
open Go
def callTGK (C:Ctx) (v:AV) (y x:Prop):Prop:=
 match v with
 | .pv (.fn g _)=>match C.Θ g with
   | none=>y
   | _=>x
 | .clo g _=>match C.Θ g with
   | none=>y
   | _=>x
 | _=>x
section
variable {C:Ctx} {dr:Bool} {H0:AHeap} {ops:Array Oper} {st:ASt} {K:ASt->Prop}
theorem ev_callTG_main {d:Option Tmp} {t:Tmp} {args:Array Operand} {ts:Array TypeId} {ty:TypeId} {pos:String} {af:Array Edge} {j:Nat} {b:Bool} {g:FuncId} {caps:List AV} (hv:calleeA (ox st.ρ (.tmp t))=some (g,caps)) (hθ:C.Θ g=none):
 stepX C true H0 ops ⟨d,.call { callee:=.value (.tmp t),args:=args,argTypes:=ts },ty,pos,af,some (j,b)⟩ st K=
  gK C.N st d (gAt ops j st.ρ) b (aopP C st.ρ st.H (.call { callee:=.value (.tmp t),args:=args,argTypes:=ts })) (aopP C st.ρ H0 (.call { callee:=.value (.tmp t),args:=args,argTypes:=ts })).2 K:=by
 have hq:qop C st.ρ st.H ⟨d,.call { callee:=.value (.tmp t),args:=args,argTypes:=ts },ty,pos,af,some (j,b)⟩=
  ((aopP C st.ρ st.H (.call { callee:=.value (.tmp t),args:=args,argTypes:=ts })).1,fun r=>r=(aopP C st.ρ st.H (.call { callee:=.value (.tmp t),args:=args,argTypes:=ts })).2):=by
  simp only [qop,hv,hθ]
 have main:∀ c:Bool,stepQ C H0 ⟨d,.call { callee:=.value (.tmp t),args:=args,argTypes:=ts },ty,pos,af,some (j,b)⟩ c st K=
  pureGK C.N st d c (aopP C st.ρ st.H (.call { callee:=.value (.tmp t),args:=args,argTypes:=ts })) (aopP C st.ρ H0 (.call { callee:=.value (.tmp t),args:=args,argTypes:=ts })).2 K:=by
  intro c
  simp only [stepQ,hq,pureGK,selK]
 unfold stepX stepG
 simp only [cls,guardC,if_true,gK,gAt,cond_true]
 cases hj:(ops[j]?).bind (·.dst) with
 | none=>rfl
 | some g'=>
   simp only
   cases hv':st.ρ g' with
   | pv p=>cases p <;> simp only <;> exact main _
   | whn c v => cases v <;> try rfl
                rename_i p;cases p <;> first | rfl | exact main _
   | _=>rfl
theorem ev_callTG {d:Option Tmp} {t:Tmp} {args:Array Operand} {ts:Array TypeId} {ty:TypeId} {pos:String} {af:Array Edge} {j:Nat} {b:Bool}:
 stepX C true H0 ops ⟨d,.call { callee:=.value (.tmp t),args:=args,argTypes:=ts },ty,pos,af,some (j,b)⟩ st K=
  callTGK C (ox st.ρ (.tmp t)) (gK C.N st d (gAt ops j st.ρ) b (aopP C st.ρ st.H (.call { callee:=.value (.tmp t),args:=args,argTypes:=ts })) (aopP C st.ρ H0 (.call { callee:=.value (.tmp t),args:=args,argTypes:=ts })).2 K)
   (stepH C true H0 ops ⟨d,.call { callee:=.value (.tmp t),args:=args,argTypes:=ts },ty,pos,af,some (j,b)⟩ st K):=by
 unfold callTGK
 split
 · rename_i g caps hv
   split
   · rename_i hθ
     exact ev_callTG_main (by rw [hv];rfl) hθ
   · rfl
 · rename_i g caps hv
   split
   · rename_i hθ
     exact ev_callTG_main (by rw [hv];rfl) hθ
   · rfl
 · rfl
theorem eqIn_sn {P:Program} {w:World} (d:Nat) {t e:TypeId} {n c:Nat} (h:P.underlying t=some (.slice e)):(Op.equalIn (d+1) t (.slice none n c) (.slice none 0 0)).run P w=.ok true w:=by
 simp only [Op.equalIn,Sem.run_bind,run_underlying h,Result.andThen_ok];rfl
theorem eqIn_ss {P:Program} {w:World} (d:Nat) {t e:TypeId} {n c:Nat} {a:Addr} (h:P.underlying t=some (.slice e)):(Op.equalIn (d+1) t (.slice (some a) n c) (.slice none 0 0)).run P w=.ok false w:=by
 simp only [Op.equalIn,Sem.run_bind,run_underlying h,Result.andThen_ok];rfl
theorem AWp.nilq {id s d1 d2:Nat} {t e t2 ty1 ty2:TypeId} {p1 p2:String} {a1 a2:Array Edge} {rest:Code} {Q:AX->ASt->Prop} {st:ASt} {es:List PV}
 (hs:st.ρ s=.pv (.sl es)) (ht:C.P.underlying t=some (.slice e)) (hd1:d1<C.N) (hd2:d2<C.N)
 (h:∀ b:Bool,(b=true->es=[])->AWp C rest Q ⟨upd (upd st.ρ d1 (.pv (.sl es))) d2 (.pv (.bool b)),st.H⟩):
 AWp C (.seq (.region id #[⟨some d1,.move (.tmp s),ty1,p1,a1,none⟩,⟨some d2,.binOp .eql t (.tmp d1) (.const (.slice none 0 0)) t2,ty2,p2,a2,none⟩] false) rest) Q st:=by
 intro G E r n hr hF hP0 a w L hR hd
 refine wpIn_seq ?_
 suffices hreg:wpOps G.P #[⟨some d1,.move (.tmp s),ty1,p1,a1,none⟩,⟨some d2,.binOp .eql t (.tmp d1) (.const (.slice none 0 0)) t2,ty2,p2,a2,none⟩] (QR G E C.N (fun st'=>∃ b:Bool,(b=true->es=[])/\st'=⟨upd (upd st.ρ d1 (.pv (.sl es))) d2 (.pv (.bool b)),st.H⟩)) [0,1] a w by
  refine wpIn_mono (wpIn_region (wpOps_in (k:=E.ds.length) r n ?_ ?_ ?_ _ a w ?_ hreg)) (fun e a w he=>?_)
  · rintro a w ⟨st,L,_,_,hd⟩;rw [hd];exact Nat.le_refl _
  · exact fun ch a w h=>h
  · rintro ⟨a,w,h⟩;exact h
  · rw [hd];exact Nat.le_refl _
  · cases e with
    | normal=>
      obtain ⟨st2,L2,⟨b,hb,rfl⟩,h2,h3⟩:=he
      exact h b hb G E r n hr hF hP0 a w L2 h2 h3
    | _=>exact he.elim
 have hx:=hR.env s
 rw [hs] at hx
 have hpx:=pv_inv hx
 have hP:C.P=G.P:=hF.tabs.base.prog
 rw [hP] at ht
 have o1:OpYields G.P ⟨some d1,.move (.tmp s),ty1,p1,a1,none⟩ a w (fun v w'=>w=w'/\v=a.tmps.getD s undef):=
  .of_run (v:=a.tmps.getD s undef) (by simp only [execOp];rfl) ⟨rfl,rfl⟩
 unfold wpOps
 simp only [List.getElem?_toArray,List.getElem?_cons_zero]
 rw [if_pos (show Region.wanted _ _=true from rfl)]
 refine .inl (o1.wp (fun v w' ⟨hw,hv⟩=>?_))
 subst hw;subst hv
 have hb1:=putD_beh (K:=fun st'=>st'=⟨upd st.ρ d1 (.pv (.sl es)),st.H⟩) (d:=some d1) (v:=.pv (.sl es)) ⟨by rw [<- show C.N=C.N from rfl];exact hd1,rfl⟩ hR hx hd
 obtain ⟨st1,L1,hst1,hR1,hdf1⟩:=hb1
 subst hst1
 have hx1:=hR1.env d1
 have he1:(upd st.ρ d1 (.pv (.sl es))) d1=.pv (.sl es):=by simp [upd]
 rw [show (ASt.mk (upd st.ρ d1 (.pv (.sl es))) st.H).ρ d1=.pv (.sl es) from he1] at hx1
 have hp1:=pv_inv hx1
 generalize hgv:((a.put (some d1) (a.tmps.getD s undef)).tmps.getD d1 undef)=v1 at hp1
 obtain ⟨b,hb,hrun⟩:∃ b:Bool,(b=true->es=[])/\(execOp (a.put (some d1) (a.tmps.getD s undef)).eval ⟨some d2,.binOp .eql t (.tmp d1) (.const (.slice none 0 0)) t2,ty2,p2,a2,none⟩).run G.P w=.ok (.value (.bool b)) w:=by
  cases hp1 with
  | sl _ a0 cap k bb o val c1 c2 c3 c4 c5 c6=>
    refine ⟨a0.isNone,fun hn=>?_,?_⟩
    · cases es with
      | nil=>rfl
      | cons x r=>have:=c4 (by simp);rw [this] at hn;cases hn
    · have ev1:(a.put (some d1) (a.tmps.getD s undef)).eval (.tmp d1)=.slice a0 es.length cap:=hgv
      have ev2:(a.put (some d1) (a.tmps.getD s undef)).eval (.const (.slice none 0 0))=.slice none 0 0:=rfl
      have heq:(Op.equal t (.slice a0 es.length cap) (.slice none 0 0)).run G.P w=.ok a0.isNone w:=by
       cases a0 with
       | none=>exact eqIn_sn 9999 ht
       | some ad=>exact eqIn_ss 9999 ht
      have hg:(eqGuard .eql t (.tmp d1) (.const (.slice none 0 0)) (.slice a0 es.length cap) (.slice none 0 0)).run G.P w=.ok () w:=by
       unfold eqGuard;simp
      have hbo:Go.binOp .eql t (.slice a0 es.length cap) (.slice none 0 0)=(do pure (.bool (<- Op.equal t (.slice a0 es.length cap) (.slice none 0 0)))):=rfl
      simp only [execOp,ev1,ev2,Sem.run_bind,hg,hbo,heq,Result.andThen_ok,Sem.run_pure]
 have hgo:([⟨some d1,Op.move (.tmp s),ty1,p1,a1,none⟩,⟨some d2,Op.binOp .eql t (.tmp d1) (.const (.slice none 0 0)) t2,ty2,p2,a2,none⟩]:List Oper)[1]?=some ⟨some d2,Op.binOp .eql t (.tmp d1) (.const (.slice none 0 0)) t2,ty2,p2,a2,none⟩:=rfl
 unfold wpOps
 simp only [List.getElem?_toArray,hgo]
 rw [if_pos (show Region.wanted _ _=true from rfl)]
 have o2:OpYields G.P ⟨some d2,.binOp .eql t (.tmp d1) (.const (.slice none 0 0)) t2,ty2,p2,a2,none⟩ (a.put (some d1) (a.tmps.getD s undef)) w (fun v w'=>w=w'/\v=.bool b):=.of_run hrun ⟨rfl,rfl⟩
 refine .inl (o2.wp (fun v w' ⟨hw,hv⟩=>?_))
 subst hw;subst hv
 obtain ⟨st2,L2,hst2,hR2,hdf2⟩:=putD_beh (K:=fun st'=>st'=⟨upd (upd st.ρ d1 (.pv (.sl es))) d2 (.pv (.bool b)),st.H⟩) (d:=some d2) (v:=.pv (.bool b)) (x:=.bool b) (N:=C.N) (E:=E) (G:=G) (L:=L1) ⟨hd2,rfl⟩ hR1 (.pv _ _ (.bool _)) hdf1
 subst hst2
 unfold wpOps
 exact ⟨_,L2,⟨b,hb,rfl⟩,hR2,hdf2⟩
end
end Go.AM
namespace Go.AM
open Go Go.Proofs Go.IntWalk
attribute [go_sem] ev_skip ev_seq ev_region ev_ret ev_block ev_exit ev_loop ev_cond ev_scope ev_label condK_true condK_false
attribute [go_sem] condK_bool isCut Bool.false_eq_true if_true if_false false_implies true_and and_true true_implies KS_ap KR_ap steps_nil
attribute [go_sem] stepsG_cons thn_n thn_e thn_r blk_n blk_e blk_r ev_op ev_opG opK_true opK_false isPureOp
attribute [go_sem] List.contains_nil List.contains_cons Bool.or_false Bool.false_or cond_true cond_false aopP callP_fn callV_eq mapV allC frzAll
attribute [go_sem] frzL opndV ofV ofV1 oc ox stripC stripV look_cons upd_look pureK_none pureGK_eq
attribute [go_sem] gAt List.getElem?_toArray List.getElem?_cons_succ List.getElem?_cons_zero Option.bind_some Option.isNone_none Option.isNone_some Bool.false_and Bool.and_false Bool.and_self Bool.and_true Bool.true_and
attribute [go_sem] gK_bool gK_whn mkW pickA beq_true beq_false Bool.not_false Bool.not_true keepA binA binP binI
attribute [go_sem] binS eqP unA unP isC extractA List.length_cons List.length_nil List.getD_cons_zero List.getD_cons_succ frzOk frz
attribute [go_sem] AV.freeL AV.free PV.flat PV.flat1 List.all_cons List.all_nil or_true true_or cxP_P cxP_N cxP_Φ cxP_Ψ
attribute [go_sem] cxP_Θ cxP_rows cxP_pins cxQ_P cxQ_N cxQ_Φ cxQ_Ψ cxQ_Θ cxQ_rows cxQ_pins putΘ putΨ
attribute [go_sem] noΘ noΨ ev_call ev_alloc ev_box ev_makeSlice ev_store ev_append binT_i binT_s binT_b binT_ni
attribute [go_sem] binT_np binT_if binT_pp binT_agg keyOk_i keyOk_s keyOk_b keyOk_agg packK_pv packK_agg pvL notIn
attribute [go_sem] ev_range ev_next rangeA nextA ev_makeMap ev_mapUpdate ev_delete ev_clear clrA mapA delA lookupA zvP keyKind
attribute [go_sem] callK_E callK_Q callK_P qV_1 psiNew_eq aopE newB_some putD_some putD hget hset hdel
attribute [go_sem] storeA putL cellsA partC partA fieldAddrA addOff nilCheckA fieldV buildA packA fieldPlaces
attribute [go_sem] fillA appendA allW killR_look killS AV.kill AV.killL killH ABlk.kill putΦ argL implies_true
attribute [go_sem] indexAddrA loadA partP partL PV.nth isAggD Int.toNat_zero Int.toNat_one List.drop_zero List.take_zero Nat.add_zero Int.le_refl
attribute [go_sem] Int.cast_ofNat_Int not_false_eq_true not_true_eq_false imp_self and_self gt1 gt2 Bool.not_not Bool.cond_false_right Bool.cond_true_left Bool.cond_false_left Bool.cond_true_right
attribute [go_sem] Nat.zero_add Fin_n Fin_r FinQ tapeOk filt AV.refsIn AV.refsInL refsH ABlk.refsIn Option.isSome_some Option.getD_some
attribute [go_sem] Option.getD_none FinN resC resV res1 tupP AV.one List.set_cons_succ List.set_cons_zero Option.some.injEq minmaxA foldI
attribute [go_sem] lenA isSliceD isStrD isSliceOrStr Int.toNat_natCast ne_eq sliceA natOf List.map_cons List.map_nil Option.map_none Option.map_some
attribute [go_sem] Option.toList List.append_nil List.nil_append List.cons_append buildSliceA idxOk elemOk PV.width PV.cells PV.one convP convA
attribute [go_sem] srcA isStrV isByteD isU8 Nat.beq_eq_true_eq beq_self_eq_true
attribute [go_sem] Tryz.underlying0 Tryz.underlying1 Tryz.underlying101 Tryz.underlying103 Tryz.underlying104 Tryz.underlying106 Tryz.underlying107 Tryz.underlying111 Tryz.underlying112 Tryz.underlying116 Tryz.underlying118 Tryz.underlying12 Tryz.underlying120 Tryz.underlying122 Tryz.underlying142 Tryz.underlying144 Tryz.underlying146 Tryz.underlying149 Tryz.underlying150 Tryz.underlying152 Tryz.underlying153 Tryz.underlying155 Tryz.underlying156 Tryz.underlying158 Tryz.underlying160 Tryz.underlying161 Tryz.underlying168 Tryz.underlying170 Tryz.underlying177 Tryz.underlying179 Tryz.underlying182 Tryz.underlying183 Tryz.underlying193 Tryz.underlying194 Tryz.underlying198 Tryz.underlying2 Tryz.underlying20 Tryz.underlying207 Tryz.underlying208 Tryz.underlying209
attribute [go_sem] Tryz.underlying21 Tryz.underlying211 Tryz.underlying214 Tryz.underlying217 Tryz.underlying219 Tryz.underlying22 Tryz.underlying221 Tryz.underlying223 Tryz.underlying226 Tryz.underlying227 Tryz.underlying228 Tryz.underlying23 Tryz.underlying236 Tryz.underlying237 Tryz.underlying239 Tryz.underlying243 Tryz.underlying244 Tryz.underlying247 Tryz.underlying248 Tryz.underlying25 Tryz.underlying250 Tryz.underlying251 Tryz.underlying256 Tryz.underlying26 Tryz.underlying27 Tryz.underlying28 Tryz.underlying29 Tryz.underlying3 Tryz.underlying30 Tryz.underlying31 Tryz.underlying33 Tryz.underlying35 Tryz.underlying36 Tryz.underlying37 Tryz.underlying4 Tryz.underlying40 Tryz.underlying41 Tryz.underlying44 Tryz.underlying48 Tryz.underlying5
attribute [go_sem] Tryz.underlying50 Tryz.underlying51 Tryz.underlying53 Tryz.underlying56 Tryz.underlying57 Tryz.underlying6 Tryz.underlying60 Tryz.underlying7 Tryz.underlying8 Tryz.underlying80 Tryz.underlying83 Tryz.underlying87 Tryz.underlying9 Tryz.underlying90 Tryz.underlying91 Tryz.underlying94 Tryz.underlying98 Tryz.underlying99 sz1 by1 ze1 sz2 by2 ze2 sz3 by3 ze3 ty4 ty5 ty6 ty7 fa7_0 fa7_1 fa7_2 fa7_3 ty8 fa8_0 fa8_1 fa8_2 fa8_3
attribute [go_sem] ty9 ty12 ty21 ty22 ty23 ty25 ty26 ty27 ty28 ty29 ty30 ty31 ty33 fa33_0 fa33_1 fa33_2 fa33_3 fa33_4 fa33_5 fa33_6 fa33_7 fa33_8 fa33_9 ty35 ty36 ty37 ty40 fa40_0 fa40_1 fa40_2 ty41 ty44 fa44_0 fa44_1 fa44_2 ty48 ty50 fa50_0 fa50_1 ty51
attribute [go_sem] ty53 ty56 ty57 fa57_0 fa57_1 fa57_2 ty60 fa60_0 fa60_1 fa60_2 fa60_3 ty80 fa80_0 fa80_1 ty83 ty87 fa87_0 fa87_1 ty90 ty91 ty94 fa94_0 fa94_1 fa94_2 ty98 fa98_0 fa98_1 fa98_2 fa98_3 ty99 ty101 ty103 fa103_0 fa103_1 ty104 ty106 fa106_0 fa106_1 fa106_2 fa106_3
attribute [go_sem] fa106_4 ty107 ty111 ty112 ty116 fa116_0 fa116_1 fa116_2 ty118 fa118_0 fa118_1 fa118_2 fa118_3 fa118_4 fa118_5 fa118_6 ty120 fa120_0 fa120_1 fa120_2 fa120_3 ty122 fa122_0 fa122_1 fa122_2 fa122_3 ty142 ty144 fa144_0 fa144_1 ty146 ty149 ty150 ty152 ty153 ty155 ty156 ty158 ty160 ty161
attribute [go_sem] ty168 ty170 ty177 ty179 ty182 ty183 ty198 sz243 by243 sz244 by244 ty247
end Go.AM
