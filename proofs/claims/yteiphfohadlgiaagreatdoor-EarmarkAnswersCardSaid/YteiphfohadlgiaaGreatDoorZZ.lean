/-
  A part of a proof.
-/
import Derived.Test.YteiphfohadlgiaaGreatDoorProg
import Derived.KernelRfl
import Derived.Test.YteiphfohadlgiaaGreatDoorCD
import Derived.Test.YteiphfohadlgiaaGreatDoorDM
set_option linter.unusedSimpArgs false
set_option linter.unusedVariables false
namespace Go.AM
open Go Go.Proofs
theorem ty1:szOf Tryz.prog 1=some 1/\bytesT Tryz.prog 1=some 8/\zeroT Tryz.prog 1=some Value.nilFunc:=by and_intros <;> kernel_rfl
theorem ty2:szOf Tryz.prog 2=some 1/\bytesT Tryz.prog 2=some 8/\zeroT Tryz.prog 2=some (Value.int IntKind.i64 0):=by and_intros <;> kernel_rfl
theorem ty3:szOf Tryz.prog 3=some 1/\bytesT Tryz.prog 3=some 8/\zeroT Tryz.prog 3=some (Value.int IntKind.i64 0):=by and_intros <;> kernel_rfl
theorem ty4:szOf Tryz.prog 4=some 1/\bytesT Tryz.prog 4=some 1/\zeroT Tryz.prog 4=some (Value.bool false):=by and_intros <;> kernel_rfl
theorem ty5:szOf Tryz.prog 5=some 1/\bytesT Tryz.prog 5=some 1/\zeroT Tryz.prog 5=some (Value.int IntKind.u8 0):=by and_intros <;> kernel_rfl
theorem ty6:szOf Tryz.prog 6=some 1/\bytesT Tryz.prog 6=some 1/\zeroT Tryz.prog 6=some (Value.int IntKind.u8 0):=by and_intros <;> kernel_rfl
theorem ty7:szOf Tryz.prog 7=some 4/\bytesT Tryz.prog 7=some 24/\zeroT Tryz.prog 7=some (Value.agg #[Value.int IntKind.i64 0,Value.int IntKind.i64 0,Value.bool false,Value.int IntKind.u8 0]):=by and_intros <;> kernel_rfl
theorem fa7_0:fieldAt Tryz.prog 7 0=some (0,2):=by kernel_rfl
theorem fa7_1:fieldAt Tryz.prog 7 1=some (1,3):=by kernel_rfl
theorem fa7_2:fieldAt Tryz.prog 7 2=some (2,4):=by kernel_rfl
theorem fa7_3:fieldAt Tryz.prog 7 3=some (3,6):=by kernel_rfl
theorem ty8:szOf Tryz.prog 8=some 4/\bytesT Tryz.prog 8=some 24/\zeroT Tryz.prog 8=some (Value.agg #[Value.int IntKind.i64 0,Value.int IntKind.i64 0,Value.bool false,Value.int IntKind.u8 0]):=by and_intros <;> kernel_rfl
theorem fa8_0:fieldAt Tryz.prog 8 0=some (0,2):=by kernel_rfl
theorem fa8_1:fieldAt Tryz.prog 8 1=some (1,3):=by kernel_rfl
theorem fa8_2:fieldAt Tryz.prog 8 2=some (2,4):=by kernel_rfl
theorem fa8_3:fieldAt Tryz.prog 8 3=some (3,6):=by kernel_rfl
theorem ty9:szOf Tryz.prog 9=some 1/\bytesT Tryz.prog 9=some 16/\zeroT Tryz.prog 9=some (Value.string { data:=#[] }):=by and_intros <;> kernel_rfl
theorem ty12:szOf Tryz.prog 12=some 1/\bytesT Tryz.prog 12=some 8/\zeroT Tryz.prog 12=some (Value.int IntKind.u64 0):=by and_intros <;> kernel_rfl
theorem ty21:szOf Tryz.prog 21=some 1/\bytesT Tryz.prog 21=some 4/\zeroT Tryz.prog 21=some (Value.int IntKind.i32 0):=by and_intros <;> kernel_rfl
theorem ty22:szOf Tryz.prog 22=some 1/\bytesT Tryz.prog 22=some 24/\zeroT Tryz.prog 22=some (Value.slice none 0 0):=by and_intros <;> kernel_rfl
theorem ty23:szOf Tryz.prog 23=some 1/\bytesT Tryz.prog 23=some 24/\zeroT Tryz.prog 23=some (Value.slice none 0 0):=by and_intros <;> kernel_rfl
theorem ty24:szOf Tryz.prog 24=some 1/\bytesT Tryz.prog 24=some 24/\zeroT Tryz.prog 24=some (Value.slice none 0 0):=by and_intros <;> kernel_rfl
theorem ty25:szOf Tryz.prog 25=some 1/\bytesT Tryz.prog 25=some 24/\zeroT Tryz.prog 25=some (Value.slice none 0 0):=by and_intros <;> kernel_rfl
theorem ty26:szOf Tryz.prog 26=some 1/\bytesT Tryz.prog 26=some 24/\zeroT Tryz.prog 26=some (Value.slice none 0 0):=by and_intros <;> kernel_rfl
theorem ty27:szOf Tryz.prog 27=some 1/\bytesT Tryz.prog 27=some 24/\zeroT Tryz.prog 27=some (Value.slice none 0 0):=by and_intros <;> kernel_rfl
theorem ty28:szOf Tryz.prog 28=some 1/\bytesT Tryz.prog 28=some 24/\zeroT Tryz.prog 28=some (Value.slice none 0 0):=by and_intros <;> kernel_rfl
theorem ty29:szOf Tryz.prog 29=some 1/\bytesT Tryz.prog 29=some 24/\zeroT Tryz.prog 29=some (Value.slice none 0 0):=by and_intros <;> kernel_rfl
theorem ty31:szOf Tryz.prog 31=some 10/\bytesT Tryz.prog 31=some 208/\zeroT Tryz.prog 31=some (Value.agg #[Value.int IntKind.i64 0,Value.int IntKind.i64 0,Value.slice none 0 0,Value.slice none 0 0,Value.slice none 0 0,Value.slice none 0 0,Value.slice none 0 0,Value.slice none 0 0,Value.slice none 0 0,Value.slice none 0 0]):=by and_intros <;> kernel_rfl
theorem fa31_0:fieldAt Tryz.prog 31 0=some (0,3):=by kernel_rfl
theorem fa31_1:fieldAt Tryz.prog 31 1=some (1,3):=by kernel_rfl
theorem fa31_2:fieldAt Tryz.prog 31 2=some (2,23):=by kernel_rfl
theorem fa31_3:fieldAt Tryz.prog 31 3=some (3,24):=by kernel_rfl
theorem fa31_4:fieldAt Tryz.prog 31 4=some (4,25):=by kernel_rfl
theorem fa31_5:fieldAt Tryz.prog 31 5=some (5,25):=by kernel_rfl
theorem fa31_6:fieldAt Tryz.prog 31 6=some (6,26):=by kernel_rfl
theorem fa31_7:fieldAt Tryz.prog 31 7=some (7,27):=by kernel_rfl
theorem fa31_8:fieldAt Tryz.prog 31 8=some (8,28):=by kernel_rfl
theorem fa31_9:fieldAt Tryz.prog 31 9=some (9,29):=by kernel_rfl
theorem ty32:szOf Tryz.prog 32=some 1/\bytesT Tryz.prog 32=some 24/\zeroT Tryz.prog 32=some (Value.slice none 0 0):=by and_intros <;> kernel_rfl
theorem ty33:szOf Tryz.prog 33=some 1/\bytesT Tryz.prog 33=some 24/\zeroT Tryz.prog 33=some (Value.slice none 0 0):=by and_intros <;> kernel_rfl
theorem ty34:szOf Tryz.prog 34=some 1/\bytesT Tryz.prog 34=some 24/\zeroT Tryz.prog 34=some (Value.slice none 0 0):=by and_intros <;> kernel_rfl
theorem ty36:szOf Tryz.prog 36=some 13/\bytesT Tryz.prog 36=some 280/\zeroT Tryz.prog 36=some (Value.agg #[Value.int IntKind.i64 0,Value.int IntKind.i64 0,Value.slice none 0 0,Value.slice none 0 0,Value.slice none 0 0,Value.slice none 0 0,Value.slice none 0 0,Value.slice none 0 0,Value.slice none 0 0,Value.slice none 0 0,Value.slice none 0 0,Value.slice none 0 0,Value.slice none 0 0]):=by and_intros <;> kernel_rfl
theorem fa36_0:fieldAt Tryz.prog 36 0=some (0,31):=by kernel_rfl
theorem fa36_1:fieldAt Tryz.prog 36 1=some (10,32):=by kernel_rfl
theorem fa36_2:fieldAt Tryz.prog 36 2=some (11,33):=by kernel_rfl
theorem fa36_3:fieldAt Tryz.prog 36 3=some (12,34):=by kernel_rfl
theorem ty38:szOf Tryz.prog 38=some 3/\bytesT Tryz.prog 38=some 40/\zeroT Tryz.prog 38=some (Value.agg #[Value.string { data:=#[] },Value.string { data:=#[] },Value.int IntKind.i64 0]):=by and_intros <;> kernel_rfl
theorem fa38_0:fieldAt Tryz.prog 38 0=some (0,9):=by kernel_rfl
theorem fa38_1:fieldAt Tryz.prog 38 1=some (1,9):=by kernel_rfl
theorem fa38_2:fieldAt Tryz.prog 38 2=some (2,3):=by kernel_rfl
theorem ty41:szOf Tryz.prog 41=some 1/\bytesT Tryz.prog 41=some 8/\zeroT Tryz.prog 41=some (Value.pointer none):=by and_intros <;> kernel_rfl
theorem ty45:szOf Tryz.prog 45=some 1/\bytesT Tryz.prog 45=some 24/\zeroT Tryz.prog 45=some (Value.slice none 0 0):=by and_intros <;> kernel_rfl
theorem ty46:szOf Tryz.prog 46=some 1/\bytesT Tryz.prog 46=some 24/\zeroT Tryz.prog 46=some (Value.slice none 0 0):=by and_intros <;> kernel_rfl
theorem ty47:szOf Tryz.prog 47=some 2/\bytesT Tryz.prog 47=some 16/\zeroT Tryz.prog 47=some (Value.agg #[Value.int IntKind.i64 0,Value.int IntKind.i64 0]):=by and_intros <;> kernel_rfl
theorem ty49:szOf Tryz.prog 49=some 1/\bytesT Tryz.prog 49=some 24/\zeroT Tryz.prog 49=some (Value.slice none 0 0):=by and_intros <;> kernel_rfl
theorem ty51:szOf Tryz.prog 51=some 1/\bytesT Tryz.prog 51=some 24/\zeroT Tryz.prog 51=some (Value.slice none 0 0):=by and_intros <;> kernel_rfl
theorem ty52:szOf Tryz.prog 52=some 1/\bytesT Tryz.prog 52=some 8/\zeroT Tryz.prog 52=some (Value.int IntKind.i64 0):=by and_intros <;> kernel_rfl
theorem ty53:szOf Tryz.prog 53=some 1/\bytesT Tryz.prog 53=some 0/\zeroT Tryz.prog 53=some (Value.tuple #[Value.int IntKind.i64 0,Value.int IntKind.i64 0]):=by and_intros <;> kernel_rfl
theorem ty55:szOf Tryz.prog 55=some 1/\bytesT Tryz.prog 55=some 0/\zeroT Tryz.prog 55=some (Value.tuple #[Value.slice none 0 0,Value.int IntKind.i64 0]):=by and_intros <;> kernel_rfl
theorem ty62:szOf Tryz.prog 62=some 4/\bytesT Tryz.prog 62=some 40/\zeroT Tryz.prog 62=some (Value.agg #[Value.int IntKind.i64 0,Value.int IntKind.i64 0,Value.string { data:=#[] },Value.int IntKind.i64 0]):=by and_intros <;> kernel_rfl
theorem fa62_0:fieldAt Tryz.prog 62 0=some (0,3):=by kernel_rfl
theorem fa62_1:fieldAt Tryz.prog 62 1=some (1,3):=by kernel_rfl
theorem fa62_2:fieldAt Tryz.prog 62 2=some (2,9):=by kernel_rfl
theorem fa62_3:fieldAt Tryz.prog 62 3=some (3,3):=by kernel_rfl
theorem ty64:szOf Tryz.prog 64=some 5/\bytesT Tryz.prog 64=some 48/\zeroT Tryz.prog 64=some (Value.agg #[Value.int IntKind.i64 0,Value.int IntKind.i64 0,Value.string { data:=#[] },Value.int IntKind.i64 0,Value.int IntKind.i64 0]):=by and_intros <;> kernel_rfl
theorem fa64_0:fieldAt Tryz.prog 64 0=some (0,3):=by kernel_rfl
theorem fa64_1:fieldAt Tryz.prog 64 1=some (1,3):=by kernel_rfl
theorem fa64_2:fieldAt Tryz.prog 64 2=some (2,9):=by kernel_rfl
theorem fa64_3:fieldAt Tryz.prog 64 3=some (3,3):=by kernel_rfl
theorem fa64_4:fieldAt Tryz.prog 64 4=some (4,3):=by kernel_rfl
theorem ty68:szOf Tryz.prog 68=some 2/\bytesT Tryz.prog 68=some 32/\zeroT Tryz.prog 68=some (Value.agg #[Value.slice none 0 0,Value.int IntKind.i64 0]):=by and_intros <;> kernel_rfl
theorem fa68_0:fieldAt Tryz.prog 68 0=some (0,22):=by kernel_rfl
theorem fa68_1:fieldAt Tryz.prog 68 1=some (1,3):=by kernel_rfl
theorem ty75:szOf Tryz.prog 75=some 2/\bytesT Tryz.prog 75=some 32/\zeroT Tryz.prog 75=some (Value.agg #[Value.string { data:=#[] },Value.string { data:=#[] }]):=by and_intros <;> kernel_rfl
theorem fa75_0:fieldAt Tryz.prog 75 0=some (0,9):=by kernel_rfl
theorem fa75_1:fieldAt Tryz.prog 75 1=some (1,9):=by kernel_rfl
theorem ty79:szOf Tryz.prog 79=some 3/\bytesT Tryz.prog 79=some 32/\zeroT Tryz.prog 79=some (Value.agg #[Value.string { data:=#[] },Value.int IntKind.i64 0,Value.int IntKind.i64 0]):=by and_intros <;> kernel_rfl
theorem fa79_0:fieldAt Tryz.prog 79 0=some (0,9):=by kernel_rfl
theorem fa79_1:fieldAt Tryz.prog 79 1=some (1,3):=by kernel_rfl
theorem fa79_2:fieldAt Tryz.prog 79 2=some (2,3):=by kernel_rfl
theorem ty80:szOf Tryz.prog 80=some 3/\bytesT Tryz.prog 80=some 32/\zeroT Tryz.prog 80=some (Value.agg #[Value.string { data:=#[] },Value.int IntKind.i64 0,Value.int IntKind.i64 0]):=by and_intros <;> kernel_rfl
theorem fa80_0:fieldAt Tryz.prog 80 0=some (0,9):=by kernel_rfl
theorem fa80_1:fieldAt Tryz.prog 80 1=some (1,3):=by kernel_rfl
theorem fa80_2:fieldAt Tryz.prog 80 2=some (2,3):=by kernel_rfl
theorem ty84:szOf Tryz.prog 84=some 7/\bytesT Tryz.prog 84=some 72/\zeroT Tryz.prog 84=some (Value.agg #[Value.string { data:=#[] },Value.int IntKind.i64 0,Value.int IntKind.i64 0,Value.int IntKind.i64 0,Value.int IntKind.i64 0,Value.string { data:=#[] },Value.int IntKind.i64 0]):=by and_intros <;> kernel_rfl
theorem fa84_0:fieldAt Tryz.prog 84 0=some (0,9):=by kernel_rfl
theorem fa84_1:fieldAt Tryz.prog 84 1=some (1,3):=by kernel_rfl
theorem fa84_2:fieldAt Tryz.prog 84 2=some (2,3):=by kernel_rfl
theorem fa84_3:fieldAt Tryz.prog 84 3=some (3,3):=by kernel_rfl
theorem fa84_4:fieldAt Tryz.prog 84 4=some (4,3):=by kernel_rfl
theorem fa84_5:fieldAt Tryz.prog 84 5=some (5,9):=by kernel_rfl
theorem fa84_6:fieldAt Tryz.prog 84 6=some (6,3):=by kernel_rfl
theorem sz86:szOf Tryz.prog 86=some 4:=by kernel_rfl
theorem by86:bytesT Tryz.prog 86=some 48:=by kernel_rfl
theorem ze86:zeroT Tryz.prog 86=some (Value.agg #[Value.int IntKind.i64 0,Value.string { data:=#[] },Value.string { data:=#[] },Value.int IntKind.i64 0]):=by kernel_rfl
theorem fa86_0:fieldAt Tryz.prog 86 0=some (0,3):=by kernel_rfl
theorem fa86_1:fieldAt Tryz.prog 86 1=some (1,9):=by kernel_rfl
theorem fa86_2:fieldAt Tryz.prog 86 2=some (2,9):=by kernel_rfl
theorem fa86_3:fieldAt Tryz.prog 86 3=some (3,3):=by kernel_rfl
theorem ty88:szOf Tryz.prog 88=some 4/\bytesT Tryz.prog 88=some 40/\zeroT Tryz.prog 88=some (Value.agg #[Value.int IntKind.i64 0,Value.string { data:=#[] },Value.int IntKind.i64 0,Value.int IntKind.i64 0]):=by and_intros <;> kernel_rfl
theorem fa88_0:fieldAt Tryz.prog 88 0=some (0,3):=by kernel_rfl
theorem fa88_1:fieldAt Tryz.prog 88 1=some (1,9):=by kernel_rfl
theorem fa88_2:fieldAt Tryz.prog 88 2=some (2,3):=by kernel_rfl
theorem fa88_3:fieldAt Tryz.prog 88 3=some (3,3):=by kernel_rfl
theorem ty89:szOf Tryz.prog 89=some 1/\bytesT Tryz.prog 89=some 24/\zeroT Tryz.prog 89=some (Value.slice none 0 0):=by and_intros <;> kernel_rfl
theorem ty91:szOf Tryz.prog 91=some 3/\bytesT Tryz.prog 91=some 40/\zeroT Tryz.prog 91=some (Value.agg #[Value.int IntKind.i64 0,Value.int IntKind.i64 0,Value.slice none 0 0]):=by and_intros <;> kernel_rfl
theorem fa91_0:fieldAt Tryz.prog 91 0=some (0,3):=by kernel_rfl
theorem fa91_1:fieldAt Tryz.prog 91 1=some (1,3):=by kernel_rfl
theorem fa91_2:fieldAt Tryz.prog 91 2=some (2,89):=by kernel_rfl
theorem ty98:szOf Tryz.prog 98=some 1/\bytesT Tryz.prog 98=some 24/\zeroT Tryz.prog 98=some (Value.slice none 0 0):=by and_intros <;> kernel_rfl
theorem ty100:szOf Tryz.prog 100=some 7/\bytesT Tryz.prog 100=some 72/\zeroT Tryz.prog 100=some (Value.agg #[Value.int IntKind.i64 0,Value.int IntKind.i64 0,Value.int IntKind.i64 0,Value.int IntKind.i64 0,Value.string { data:=#[] },Value.string { data:=#[] },Value.int IntKind.i64 0]):=by and_intros <;> kernel_rfl
theorem fa100_0:fieldAt Tryz.prog 100 0=some (0,3):=by kernel_rfl
theorem fa100_1:fieldAt Tryz.prog 100 1=some (1,3):=by kernel_rfl
theorem fa100_2:fieldAt Tryz.prog 100 2=some (2,3):=by kernel_rfl
theorem fa100_3:fieldAt Tryz.prog 100 3=some (3,3):=by kernel_rfl
theorem fa100_4:fieldAt Tryz.prog 100 4=some (4,9):=by kernel_rfl
theorem fa100_5:fieldAt Tryz.prog 100 5=some (5,9):=by kernel_rfl
theorem fa100_6:fieldAt Tryz.prog 100 6=some (6,3):=by kernel_rfl
theorem ty115:szOf Tryz.prog 115=some 11/\bytesT Tryz.prog 115=some 232/\zeroT Tryz.prog 115=some (Value.agg #[Value.int IntKind.i64 0,Value.int IntKind.i64 0,Value.slice none 0 0,Value.slice none 0 0,Value.slice none 0 0,Value.slice none 0 0,Value.slice none 0 0,Value.slice none 0 0,Value.slice none 0 0,Value.slice none 0 0,Value.slice none 0 0]):=by and_intros <;> kernel_rfl
theorem fa115_0:fieldAt Tryz.prog 115 0=some (0,31):=by kernel_rfl
theorem fa115_1:fieldAt Tryz.prog 115 1=some (10,51):=by kernel_rfl
theorem ty117:szOf Tryz.prog 117=some 1/\bytesT Tryz.prog 117=some 8/\zeroT Tryz.prog 117=some Value.nilFunc:=by and_intros <;> kernel_rfl
theorem ty120:szOf Tryz.prog 120=some 1/\bytesT Tryz.prog 120=some 8/\zeroT Tryz.prog 120=some Value.nilFunc:=by and_intros <;> kernel_rfl
theorem ty121:szOf Tryz.prog 121=some 1/\bytesT Tryz.prog 121=some 8/\zeroT Tryz.prog 121=some Value.nilFunc:=by and_intros <;> kernel_rfl
theorem ty123:szOf Tryz.prog 123=some 1/\bytesT Tryz.prog 123=some 8/\zeroT Tryz.prog 123=some Value.nilFunc:=by and_intros <;> kernel_rfl
theorem ty124:szOf Tryz.prog 124=some 1/\bytesT Tryz.prog 124=some 8/\zeroT Tryz.prog 124=some Value.nilFunc:=by and_intros <;> kernel_rfl
theorem ty126:szOf Tryz.prog 126=some 1/\bytesT Tryz.prog 126=some 8/\zeroT Tryz.prog 126=some Value.nilFunc:=by and_intros <;> kernel_rfl
theorem ty127:szOf Tryz.prog 127=some 1/\bytesT Tryz.prog 127=some 8/\zeroT Tryz.prog 127=some Value.nilFunc:=by and_intros <;> kernel_rfl
theorem ty129:szOf Tryz.prog 129=some 1/\bytesT Tryz.prog 129=some 8/\zeroT Tryz.prog 129=some Value.nilFunc:=by and_intros <;> kernel_rfl
theorem ty131:szOf Tryz.prog 131=some 1/\bytesT Tryz.prog 131=some 8/\zeroT Tryz.prog 131=some Value.nilFunc:=by and_intros <;> kernel_rfl
theorem ty132:szOf Tryz.prog 132=some 1/\bytesT Tryz.prog 132=some 8/\zeroT Tryz.prog 132=some Value.nilFunc:=by and_intros <;> kernel_rfl
theorem ty135:szOf Tryz.prog 135=some 1/\bytesT Tryz.prog 135=some 24/\zeroT Tryz.prog 135=some (Value.slice none 0 0):=by and_intros <;> kernel_rfl
theorem ty139:szOf Tryz.prog 139=some 1/\bytesT Tryz.prog 139=some 8/\zeroT Tryz.prog 139=some Value.nilFunc:=by and_intros <;> kernel_rfl
theorem ty141:szOf Tryz.prog 141=some 1/\bytesT Tryz.prog 141=some 8/\zeroT Tryz.prog 141=some (Value.map none):=by and_intros <;> kernel_rfl
theorem ty145:szOf Tryz.prog 145=some 1/\bytesT Tryz.prog 145=some 8/\zeroT Tryz.prog 145=some Value.nilFunc:=by and_intros <;> kernel_rfl
theorem ty146:szOf Tryz.prog 146=some 1/\bytesT Tryz.prog 146=some 8/\zeroT Tryz.prog 146=some Value.nilFunc:=by and_intros <;> kernel_rfl
theorem ty162:szOf Tryz.prog 162=some 1/\bytesT Tryz.prog 162=some 8/\zeroT Tryz.prog 162=some (Value.int IntKind.u64 0):=by and_intros <;> kernel_rfl
theorem ty174:szOf Tryz.prog 174=some 1/\bytesT Tryz.prog 174=some 8/\zeroT Tryz.prog 174=some Value.nilFunc:=by and_intros <;> kernel_rfl
theorem sz210:szOf Tryz.prog 210=some 256:=by kernel_rfl
theorem by210:bytesT Tryz.prog 210=some 256:=by kernel_rfl
theorem sz211:szOf Tryz.prog 211=some 1:=by kernel_rfl
theorem by211:bytesT Tryz.prog 211=some 0:=by kernel_rfl
theorem ty214:szOf Tryz.prog 214=some 1/\bytesT Tryz.prog 214=some 8/\zeroT Tryz.prog 214=some (Value.pointer none):=by and_intros <;> kernel_rfl
end Go.AM
namespace Go.AM
open Go
def callTGK (C:Ctx) (v:AV) (y x:Prop):Prop:=
  match v with
  | .pv (.fn g _)=>match C.Θ g with
    | none=>y
    | _=>x
  | .clo g _=>match C.Θ g with
    | none=>y
    | _=>x
  | _=>x
section
variable {C:Ctx} {dr:Bool} {H0:AHeap} {ops:Array Oper} {st:ASt} {K:ASt->Prop}
theorem ev_callTG_main {d:Option Tmp} {t:Tmp} {args:Array Operand} {ts:Array TypeId} {ty:TypeId} {pos:String} {af:Array Edge} {j:Nat} {b:Bool} {g:FuncId} {caps:List AV} (hv:calleeA (ox st.ρ (.tmp t))=some (g,caps)) (hθ:C.Θ g=none):
    stepX C true H0 ops ⟨d,.call { callee:=.value (.tmp t),args:=args,argTypes:=ts },ty,pos,af,some (j,b)⟩ st K=
      gK C.N st d (gAt ops j st.ρ) b (aopP C st.ρ st.H (.call { callee:=.value (.tmp t),args:=args,argTypes:=ts })) (aopP C st.ρ H0 (.call { callee:=.value (.tmp t),args:=args,argTypes:=ts })).2 K:=by
  have hq:qop C st.ρ st.H ⟨d,.call { callee:=.value (.tmp t),args:=args,argTypes:=ts },ty,pos,af,some (j,b)⟩=
      ((aopP C st.ρ st.H (.call { callee:=.value (.tmp t),args:=args,argTypes:=ts })).1,fun r=>r=(aopP C st.ρ st.H (.call { callee:=.value (.tmp t),args:=args,argTypes:=ts })).2):=by
    simp only [qop,hv,hθ]
  have main:∀ c:Bool,stepQ C H0 ⟨d,.call { callee:=.value (.tmp t),args:=args,argTypes:=ts },ty,pos,af,some (j,b)⟩ c st K=
      pureGK C.N st d c (aopP C st.ρ st.H (.call { callee:=.value (.tmp t),args:=args,argTypes:=ts })) (aopP C st.ρ H0 (.call { callee:=.value (.tmp t),args:=args,argTypes:=ts })).2 K:=by
    intro c
    simp only [stepQ,hq,pureGK,selK]
  unfold stepX stepG
  simp only [cls,guardC,if_true,gK,gAt,cond_true]
  cases hj:(ops[j]?).bind (·.dst) with
  | none=>rfl
  | some g'=>
    simp only
    cases hv':st.ρ g' with
    | pv p=>cases p <;> simp only <;> exact main _
    | whn c v => cases v <;> try rfl
                 rename_i p;cases p <;> first | rfl | exact main _
    | _=>rfl
theorem ev_callTG {d:Option Tmp} {t:Tmp} {args:Array Operand} {ts:Array TypeId} {ty:TypeId} {pos:String} {af:Array Edge} {j:Nat} {b:Bool}:
    stepX C true H0 ops ⟨d,.call { callee:=.value (.tmp t),args:=args,argTypes:=ts },ty,pos,af,some (j,b)⟩ st K=
      callTGK C (ox st.ρ (.tmp t)) (gK C.N st d (gAt ops j st.ρ) b (aopP C st.ρ st.H (.call { callee:=.value (.tmp t),args:=args,argTypes:=ts })) (aopP C st.ρ H0 (.call { callee:=.value (.tmp t),args:=args,argTypes:=ts })).2 K)
        (stepH C true H0 ops ⟨d,.call { callee:=.value (.tmp t),args:=args,argTypes:=ts },ty,pos,af,some (j,b)⟩ st K):=by
  unfold callTGK
  split
  · rename_i g caps hv
    split
    · rename_i hθ
      exact ev_callTG_main (by rw [hv];rfl) hθ
    · rfl
  · rename_i g caps hv
    split
    · rename_i hθ
      exact ev_callTG_main (by rw [hv];rfl) hθ
    · rfl
  · rfl
theorem loadC_eq {C:Ctx} {ρ:Nat->AV} {H:AHeap} {t κ o:Nat}:loadC C ⟨ρ,H⟩ t (.ptr κ o)=loadA C.P H t (.ptr κ o):=rfl
end
end Go.AM
namespace Go.AM
open Go Go.Proofs Go.IntWalk
attribute [go_sem] ev_skip ev_seq ev_region ev_ret ev_block ev_exit ev_loop ev_cond ev_scope ev_label condK_true condK_false
attribute [go_sem] condK_bool isCut Bool.false_eq_true if_true if_false false_implies true_and and_true true_implies KS_ap KR_ap steps_nil
attribute [go_sem] stepsG_cons thn_n thn_e thn_r blk_n blk_e blk_r ev_op ev_opG opK_true opK_false isPureOp
attribute [go_sem] List.contains_nil List.contains_cons Bool.or_false Bool.false_or cond_true cond_false aopP callP_fn callV_eq mapV allC frzAll
attribute [go_sem] frzL opndV ofV ofV1 oc ox stripC stripV look_cons upd_look pureK_none pureGK_eq
attribute [go_sem] gAt List.getElem?_toArray List.getElem?_cons_succ List.getElem?_cons_zero Option.bind_some Option.isNone_none Option.isNone_some Bool.false_and Bool.and_false Bool.and_self Bool.and_true Bool.true_and
attribute [go_sem] gK_bool gK_whn mkW pickA beq_true beq_false Bool.not_false Bool.not_true keepA binA binP binI
attribute [go_sem] binS eqP unA unP isC extractA List.length_cons List.length_nil List.getD_cons_zero List.getD_cons_succ frzOk frz
attribute [go_sem] AV.freeL AV.free PV.flat PV.flat1 List.all_cons List.all_nil or_true true_or cxP_P cxP_N cxP_Φ cxP_Ψ
attribute [go_sem] cxP_Θ cxP_rows cxP_pins cxQ_P cxQ_N cxQ_Φ cxQ_Ψ cxQ_Θ cxQ_rows cxQ_pins putΘ putΨ
attribute [go_sem] noΘ noΨ ev_call ev_alloc ev_box ev_makeSlice ev_store ev_append binT_i binT_s binT_b binT_ni
attribute [go_sem] binT_np binT_if binT_pp binT_agg keyOk_i keyOk_s keyOk_b keyOk_agg packK_pv packK_agg pvL notIn
attribute [go_sem] ev_range ev_next rangeA nextA ev_makeMap ev_mapUpdate ev_delete mapA delA lookupA zvP keyKind
attribute [go_sem] callK_E callK_Q callK_P qV_1 psiNew_eq aopE newB_some putD_some putD hget hset hdel
attribute [go_sem] storeA putL cellsA partC partA fieldAddrA addOff nilCheckA fieldV buildA packA fieldPlaces
attribute [go_sem] fillA appendA allW killR_look killS AV.kill AV.killL killH ABlk.kill putΦ argL implies_true
attribute [go_sem] indexAddrA loadA partP partL PV.nth isAggD Int.toNat_zero Int.toNat_one List.drop_zero List.take_zero Nat.add_zero Int.le_refl
attribute [go_sem] Int.cast_ofNat_Int not_false_eq_true not_true_eq_false imp_self and_self gt1 gt2 Bool.not_not Bool.cond_false_right Bool.cond_true_left Bool.cond_false_left Bool.cond_true_right
attribute [go_sem] Nat.zero_add Fin_n Fin_r FinQ tapeOk filt AV.refsIn AV.refsInL refsH ABlk.refsIn Option.isSome_some Option.getD_some
attribute [go_sem] Option.getD_none FinN resC resV res1 tupP AV.one List.set_cons_succ List.set_cons_zero Option.some.injEq minmaxA foldI
attribute [go_sem] lenA isSliceD isStrD isSliceOrStr Int.toNat_natCast ne_eq sliceA natOf List.map_cons List.map_nil Option.map_none Option.map_some
attribute [go_sem] Option.toList List.append_nil List.nil_append List.cons_append buildSliceA idxOk elemOk PV.width PV.cells PV.one convP convA
attribute [go_sem] srcA isStrV isByteD isU8 Nat.beq_eq_true_eq beq_self_eq_true
attribute [go_sem] Tryz.underlying0 Tryz.underlying1 Tryz.underlying100 Tryz.underlying115 Tryz.underlying117 Tryz.underlying12 Tryz.underlying120 Tryz.underlying121 Tryz.underlying123 Tryz.underlying124 Tryz.underlying126 Tryz.underlying127 Tryz.underlying129 Tryz.underlying131 Tryz.underlying132 Tryz.underlying135 Tryz.underlying139 Tryz.underlying141 Tryz.underlying145 Tryz.underlying146 Tryz.underlying156 Tryz.underlying157 Tryz.underlying162 Tryz.underlying166 Tryz.underlying169 Tryz.underlying170 Tryz.underlying174 Tryz.underlying177 Tryz.underlying178 Tryz.underlying180 Tryz.underlying184 Tryz.underlying185 Tryz.underlying186 Tryz.underlying187 Tryz.underlying190 Tryz.underlying193 Tryz.underlying2 Tryz.underlying20 Tryz.underlying202 Tryz.underlying203
attribute [go_sem] Tryz.underlying205 Tryz.underlying206 Tryz.underlying207 Tryz.underlying21 Tryz.underlying210 Tryz.underlying211 Tryz.underlying214 Tryz.underlying215 Tryz.underlying22 Tryz.underlying221 Tryz.underlying23 Tryz.underlying24 Tryz.underlying25 Tryz.underlying26 Tryz.underlying27 Tryz.underlying28 Tryz.underlying29 Tryz.underlying3 Tryz.underlying31 Tryz.underlying32 Tryz.underlying33 Tryz.underlying34 Tryz.underlying36 Tryz.underlying38 Tryz.underlying4 Tryz.underlying41 Tryz.underlying45 Tryz.underlying46 Tryz.underlying47 Tryz.underlying49 Tryz.underlying5 Tryz.underlying51 Tryz.underlying52 Tryz.underlying53 Tryz.underlying55 Tryz.underlying6 Tryz.underlying62 Tryz.underlying64 Tryz.underlying68 Tryz.underlying7
attribute [go_sem] Tryz.underlying75 Tryz.underlying79 Tryz.underlying8 Tryz.underlying80 Tryz.underlying84 Tryz.underlying86 Tryz.underlying88 Tryz.underlying89 Tryz.underlying9 Tryz.underlying91 Tryz.underlying98 ty1 ty2 ty3 ty4 ty5 ty6 ty7 fa7_0 fa7_1 fa7_2 fa7_3 ty8 fa8_0 fa8_1 fa8_2 fa8_3 ty9 ty12 ty21 ty22 ty23 ty24 ty25 ty26 ty27 ty28 ty29 ty31 fa31_0
attribute [go_sem] fa31_1 fa31_2 fa31_3 fa31_4 fa31_5 fa31_6 fa31_7 fa31_8 fa31_9 ty32 ty33 ty34 ty36 fa36_0 fa36_1 fa36_2 fa36_3 ty38 fa38_0 fa38_1 fa38_2 ty41 ty45 ty46 ty47 ty49 ty51 ty52 ty53 ty55 ty62 fa62_0 fa62_1 fa62_2 fa62_3 ty64 fa64_0 fa64_1 fa64_2 fa64_3
attribute [go_sem] fa64_4 ty68 fa68_0 fa68_1 ty75 fa75_0 fa75_1 ty79 fa79_0 fa79_1 fa79_2 ty80 fa80_0 fa80_1 fa80_2 ty84 fa84_0 fa84_1 fa84_2 fa84_3 fa84_4 fa84_5 fa84_6 sz86 by86 ze86 fa86_0 fa86_1 fa86_2 fa86_3 ty88 fa88_0 fa88_1 fa88_2 fa88_3 ty89 ty91 fa91_0 fa91_1 fa91_2
attribute [go_sem] ty98 ty100 fa100_0 fa100_1 fa100_2 fa100_3 fa100_4 fa100_5 fa100_6 ty115 fa115_0 fa115_1 ty117 ty120 ty121 ty123 ty124 ty126 ty127 ty129 ty131 ty132 ty135 ty139 ty141 ty145 ty146 ty162 ty174 sz210 by210 sz211 by211 ty214
end Go.AM
