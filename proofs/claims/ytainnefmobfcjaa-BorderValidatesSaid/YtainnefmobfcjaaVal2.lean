/-
  Texts joined: Types, LibN, LibO, G1.
-/
import Derived.Test.YtainnefmobfcjaaVal1
import Derived.Test.YtainnefmobfcjaaProg
import Derived.KernelRfl
import Derived.Laws.MakeOwn
import Derived.Lib.BitFns
/-! Types -/
namespace Go.Proofs.Ytainnefmobfcjaa
set_option linter.unusedVariables false
instance : TMix Try.prog := ⟨by kernel_rfl⟩
instance : TOne Try.prog 1 := ⟨by kernel_rfl⟩
instance : TSz Try.prog 1 1 := ⟨by kernel_rfl⟩
instance : TZero Try.prog 1 [.nilFunc] := ⟨by kernel_rfl⟩
instance : TU Try.prog 2 (TypeDesc.int IntKind.i64) := ⟨Try.underlying2⟩
instance : TSz Try.prog 2 1 := ⟨by kernel_rfl⟩
instance : TOne Try.prog 2 := ⟨by kernel_rfl⟩
instance : TEl Try.prog 2 1 8 := ⟨by kernel_rfl⟩
instance : TZero Try.prog 2 [.int .i64 0] := ⟨by kernel_rfl⟩
instance : TU Try.prog 3 (TypeDesc.int IntKind.i64) := ⟨Try.underlying3⟩
instance : TSz Try.prog 3 1 := ⟨by kernel_rfl⟩
instance : TOne Try.prog 3 := ⟨by kernel_rfl⟩
instance : TEl Try.prog 3 1 8 := ⟨by kernel_rfl⟩
instance : TZero Try.prog 3 [.int .i64 0] := ⟨by kernel_rfl⟩
instance : TU Try.prog 4 (TypeDesc.bool) := ⟨Try.underlying4⟩
instance : TSz Try.prog 4 1 := ⟨by kernel_rfl⟩
instance : TOne Try.prog 4 := ⟨by kernel_rfl⟩
instance : TEl Try.prog 4 1 1 := ⟨by kernel_rfl⟩
instance : TZero Try.prog 4 [.bool false] := ⟨by kernel_rfl⟩
instance : TU Try.prog 5 (TypeDesc.int IntKind.u8) := ⟨Try.underlying5⟩
instance : TSz Try.prog 5 1 := ⟨by kernel_rfl⟩
instance : TOne Try.prog 5 := ⟨by kernel_rfl⟩
instance : TEl Try.prog 5 1 1 := ⟨by kernel_rfl⟩
instance : TZero Try.prog 5 [.int .u8 0] := ⟨by kernel_rfl⟩
instance : TU Try.prog 6 (TypeDesc.int IntKind.u8) := ⟨Try.underlying6⟩
instance : TSz Try.prog 6 1 := ⟨by kernel_rfl⟩
instance : TOne Try.prog 6 := ⟨by kernel_rfl⟩
instance : TEl Try.prog 6 1 1 := ⟨by kernel_rfl⟩
instance : TZero Try.prog 6 [.int .u8 0] := ⟨by kernel_rfl⟩
instance : TSz Try.prog 7 4 := ⟨by kernel_rfl⟩
instance : TAgg Try.prog 7 4 := ⟨by kernel_rfl⟩
instance : TFldT Try.prog 7 0 0 2 := ⟨by kernel_rfl⟩
instance : TFld Try.prog 7 0 0 := ⟨by kernel_rfl⟩
instance : TFldT Try.prog 7 1 1 3 := ⟨by kernel_rfl⟩
instance : TFld Try.prog 7 1 1 := ⟨by kernel_rfl⟩
instance : TFldT Try.prog 7 2 2 4 := ⟨by kernel_rfl⟩
instance : TFld Try.prog 7 2 2 := ⟨by kernel_rfl⟩
instance : TFldT Try.prog 7 3 3 6 := ⟨by kernel_rfl⟩
instance : TFld Try.prog 7 3 3 := ⟨by kernel_rfl⟩
instance : TLay Try.prog 7 [(0, 1), (1, 1), (2, 1), (3, 1)] := ⟨by kernel_rfl⟩
instance : TEl Try.prog 7 4 24 := ⟨by kernel_rfl⟩
instance : TEq Try.prog 7 [.i .i64, .i .i64, .b, .i .u8] := ⟨by kernel_rfl⟩
instance : TZero Try.prog 7 [.int .i64 0, .int .i64 0, .bool false, .int .u8 0] := ⟨by kernel_rfl⟩
instance : TSz Try.prog 8 4 := ⟨by kernel_rfl⟩
instance : TAgg Try.prog 8 4 := ⟨by kernel_rfl⟩
instance : TFldT Try.prog 8 0 0 2 := ⟨by kernel_rfl⟩
instance : TFld Try.prog 8 0 0 := ⟨by kernel_rfl⟩
instance : TFldT Try.prog 8 1 1 3 := ⟨by kernel_rfl⟩
instance : TFld Try.prog 8 1 1 := ⟨by kernel_rfl⟩
instance : TFldT Try.prog 8 2 2 4 := ⟨by kernel_rfl⟩
instance : TFld Try.prog 8 2 2 := ⟨by kernel_rfl⟩
instance : TFldT Try.prog 8 3 3 6 := ⟨by kernel_rfl⟩
instance : TFld Try.prog 8 3 3 := ⟨by kernel_rfl⟩
instance : TLay Try.prog 8 [(0, 1), (1, 1), (2, 1), (3, 1)] := ⟨by kernel_rfl⟩
instance : TEl Try.prog 8 4 24 := ⟨by kernel_rfl⟩
instance : TEq Try.prog 8 [.i .i64, .i .i64, .b, .i .u8] := ⟨by kernel_rfl⟩
instance : TZero Try.prog 8 [.int .i64 0, .int .i64 0, .bool false, .int .u8 0] := ⟨by kernel_rfl⟩
instance : TU Try.prog 9 (TypeDesc.string) := ⟨Try.underlying9⟩
instance : TSz Try.prog 9 1 := ⟨by kernel_rfl⟩
instance : TOne Try.prog 9 := ⟨by kernel_rfl⟩
instance : TEl Try.prog 9 1 16 := ⟨by kernel_rfl⟩
instance : TNI Try.prog 9 := ⟨by kernel_rfl⟩
instance : TZero Try.prog 9 [.string .empty] := ⟨by kernel_rfl⟩
instance : TU Try.prog 10 (TypeDesc.string) := ⟨Try.underlying10⟩
instance : TSz Try.prog 10 1 := ⟨by kernel_rfl⟩
instance : TOne Try.prog 10 := ⟨by kernel_rfl⟩
instance : TEl Try.prog 10 1 16 := ⟨by kernel_rfl⟩
instance : TNI Try.prog 10 := ⟨by kernel_rfl⟩
instance : TZero Try.prog 10 [.string .empty] := ⟨by kernel_rfl⟩
instance : TU Try.prog 11 (TypeDesc.string) := ⟨Try.underlying11⟩
instance : TSz Try.prog 11 1 := ⟨by kernel_rfl⟩
instance : TOne Try.prog 11 := ⟨by kernel_rfl⟩
instance : TEl Try.prog 11 1 16 := ⟨by kernel_rfl⟩
instance : TNI Try.prog 11 := ⟨by kernel_rfl⟩
instance : TZero Try.prog 11 [.string .empty] := ⟨by kernel_rfl⟩
instance : TU Try.prog 12 (TypeDesc.int IntKind.u64) := ⟨Try.underlying12⟩
instance : TSz Try.prog 12 1 := ⟨by kernel_rfl⟩
instance : TOne Try.prog 12 := ⟨by kernel_rfl⟩
instance : TEl Try.prog 12 1 8 := ⟨by kernel_rfl⟩
instance : TZero Try.prog 12 [.int .u64 0] := ⟨by kernel_rfl⟩
instance : TSz Try.prog 13 2 := ⟨by kernel_rfl⟩
instance : TAgg Try.prog 13 2 := ⟨by kernel_rfl⟩
instance : TFldT Try.prog 13 0 0 9 := ⟨by kernel_rfl⟩
instance : TFld Try.prog 13 0 0 := ⟨by kernel_rfl⟩
instance : TFldT Try.prog 13 1 1 12 := ⟨by kernel_rfl⟩
instance : TFld Try.prog 13 1 1 := ⟨by kernel_rfl⟩
instance : TLay Try.prog 13 [(0, 1), (1, 1)] := ⟨by kernel_rfl⟩
instance : TEl Try.prog 13 2 24 := ⟨by kernel_rfl⟩
instance : TZero Try.prog 13 [.string .empty, .int .u64 0] := ⟨by kernel_rfl⟩
instance : TSz Try.prog 14 2 := ⟨by kernel_rfl⟩
instance : TAgg Try.prog 14 2 := ⟨by kernel_rfl⟩
instance : TFldT Try.prog 14 0 0 9 := ⟨by kernel_rfl⟩
instance : TFld Try.prog 14 0 0 := ⟨by kernel_rfl⟩
instance : TFldT Try.prog 14 1 1 12 := ⟨by kernel_rfl⟩
instance : TFld Try.prog 14 1 1 := ⟨by kernel_rfl⟩
instance : TLay Try.prog 14 [(0, 1), (1, 1)] := ⟨by kernel_rfl⟩
instance : TEl Try.prog 14 2 24 := ⟨by kernel_rfl⟩
instance : TZero Try.prog 14 [.string .empty, .int .u64 0] := ⟨by kernel_rfl⟩
instance : TU Try.prog 15 (TypeDesc.pointer 174) := ⟨Try.underlying15⟩
instance : TSz Try.prog 15 1 := ⟨by kernel_rfl⟩
instance : TOne Try.prog 15 := ⟨by kernel_rfl⟩
instance : TEl Try.prog 15 1 8 := ⟨by kernel_rfl⟩
instance : TZero Try.prog 15 [.pointer none] := ⟨by kernel_rfl⟩
instance : TU Try.prog 16 (TypeDesc.pointer 177) := ⟨Try.underlying16⟩
instance : TSz Try.prog 16 1 := ⟨by kernel_rfl⟩
instance : TOne Try.prog 16 := ⟨by kernel_rfl⟩
instance : TEl Try.prog 16 1 8 := ⟨by kernel_rfl⟩
instance : TZero Try.prog 16 [.pointer none] := ⟨by kernel_rfl⟩
instance : TU Try.prog 17 (TypeDesc.pointer 186) := ⟨Try.underlying17⟩
instance : TSz Try.prog 17 1 := ⟨by kernel_rfl⟩
instance : TOne Try.prog 17 := ⟨by kernel_rfl⟩
instance : TEl Try.prog 17 1 8 := ⟨by kernel_rfl⟩
instance : TZero Try.prog 17 [.pointer none] := ⟨by kernel_rfl⟩
instance : TSz Try.prog 18 1 := ⟨by kernel_rfl⟩
instance : TAgg Try.prog 18 1 := ⟨by kernel_rfl⟩
instance : TFldT Try.prog 18 0 0 17 := ⟨by kernel_rfl⟩
instance : TFld Try.prog 18 0 0 := ⟨by kernel_rfl⟩
instance : TLay Try.prog 18 [(0, 1)] := ⟨by kernel_rfl⟩
instance : TEl Try.prog 18 1 8 := ⟨by kernel_rfl⟩
instance : TZero Try.prog 18 [.pointer none] := ⟨by kernel_rfl⟩
instance : TSz Try.prog 19 1 := ⟨by kernel_rfl⟩
instance : TAgg Try.prog 19 1 := ⟨by kernel_rfl⟩
instance : TFldT Try.prog 19 0 0 17 := ⟨by kernel_rfl⟩
instance : TFld Try.prog 19 0 0 := ⟨by kernel_rfl⟩
instance : TLay Try.prog 19 [(0, 1)] := ⟨by kernel_rfl⟩
instance : TEl Try.prog 19 1 8 := ⟨by kernel_rfl⟩
instance : TZero Try.prog 19 [.pointer none] := ⟨by kernel_rfl⟩
instance : TU Try.prog 21 (TypeDesc.int IntKind.i32) := ⟨Try.underlying21⟩
instance : TSz Try.prog 21 1 := ⟨by kernel_rfl⟩
instance : TOne Try.prog 21 := ⟨by kernel_rfl⟩
instance : TEl Try.prog 21 1 4 := ⟨by kernel_rfl⟩
instance : TZero Try.prog 21 [.int .i32 0] := ⟨by kernel_rfl⟩
instance : TU Try.prog 22 (TypeDesc.slice 3) := ⟨Try.underlying22⟩
instance : TSz Try.prog 22 1 := ⟨by kernel_rfl⟩
instance : TOne Try.prog 22 := ⟨by kernel_rfl⟩
instance : TEl Try.prog 22 1 24 := ⟨by kernel_rfl⟩
instance : TNI Try.prog 22 := ⟨by kernel_rfl⟩
instance : TZero Try.prog 22 [.slice none 0 0] := ⟨by kernel_rfl⟩
instance : TU Try.prog 23 (TypeDesc.pointer 89) := ⟨Try.underlying23⟩
instance : TSz Try.prog 23 1 := ⟨by kernel_rfl⟩
instance : TOne Try.prog 23 := ⟨by kernel_rfl⟩
instance : TEl Try.prog 23 1 8 := ⟨by kernel_rfl⟩
instance : TZero Try.prog 23 [.pointer none] := ⟨by kernel_rfl⟩
instance : TOne Try.prog 24 := ⟨by kernel_rfl⟩
instance : TSz Try.prog 24 1 := ⟨by kernel_rfl⟩
instance : TZero Try.prog 24 [.nilFunc] := ⟨by kernel_rfl⟩
instance : TU Try.prog 25 (TypeDesc.array 16 5) := ⟨Try.underlying25⟩
instance : TSz Try.prog 25 16 := ⟨by kernel_rfl⟩
instance : TAgg Try.prog 25 16 := ⟨by kernel_rfl⟩
instance : TLay Try.prog 25 [(0, 1), (1, 1), (2, 1), (3, 1), (4, 1), (5, 1), (6, 1), (7, 1), (8, 1), (9, 1), (10, 1), (11, 1), (12, 1), (13, 1), (14, 1), (15, 1)] := ⟨by kernel_rfl⟩
instance : TEl Try.prog 25 16 16 := ⟨by kernel_rfl⟩
instance : TEq Try.prog 25 [.i .u8, .i .u8, .i .u8, .i .u8, .i .u8, .i .u8, .i .u8, .i .u8, .i .u8, .i .u8, .i .u8, .i .u8, .i .u8, .i .u8, .i .u8, .i .u8] := ⟨by kernel_rfl⟩
instance : TZero Try.prog 25 [.int .u8 0, .int .u8 0, .int .u8 0, .int .u8 0, .int .u8 0, .int .u8 0, .int .u8 0, .int .u8 0, .int .u8 0, .int .u8 0, .int .u8 0, .int .u8 0, .int .u8 0, .int .u8 0, .int .u8 0, .int .u8 0] := ⟨by kernel_rfl⟩
instance : TU Try.prog 26 (TypeDesc.array 16 5) := ⟨Try.underlying26⟩
instance : TSz Try.prog 26 16 := ⟨by kernel_rfl⟩
instance : TAgg Try.prog 26 16 := ⟨by kernel_rfl⟩
instance : TLay Try.prog 26 [(0, 1), (1, 1), (2, 1), (3, 1), (4, 1), (5, 1), (6, 1), (7, 1), (8, 1), (9, 1), (10, 1), (11, 1), (12, 1), (13, 1), (14, 1), (15, 1)] := ⟨by kernel_rfl⟩
instance : TEl Try.prog 26 16 16 := ⟨by kernel_rfl⟩
instance : TEq Try.prog 26 [.i .u8, .i .u8, .i .u8, .i .u8, .i .u8, .i .u8, .i .u8, .i .u8, .i .u8, .i .u8, .i .u8, .i .u8, .i .u8, .i .u8, .i .u8, .i .u8] := ⟨by kernel_rfl⟩
instance : TZero Try.prog 26 [.int .u8 0, .int .u8 0, .int .u8 0, .int .u8 0, .int .u8 0, .int .u8 0, .int .u8 0, .int .u8 0, .int .u8 0, .int .u8 0, .int .u8 0, .int .u8 0, .int .u8 0, .int .u8 0, .int .u8 0, .int .u8 0] := ⟨by kernel_rfl⟩
instance : TSz Try.prog 27 17 := ⟨by kernel_rfl⟩
instance : TAgg Try.prog 27 17 := ⟨by kernel_rfl⟩
instance : TFldT Try.prog 27 0 0 26 := ⟨by kernel_rfl⟩
instance : TFld Try.prog 27 0 0 := ⟨by kernel_rfl⟩
instance : TFldT Try.prog 27 1 16 3 := ⟨by kernel_rfl⟩
instance : TFld Try.prog 27 1 16 := ⟨by kernel_rfl⟩
instance : TLay Try.prog 27 [(0, 16), (16, 1)] := ⟨by kernel_rfl⟩
instance : TEl Try.prog 27 17 24 := ⟨by kernel_rfl⟩
instance : TEq Try.prog 27 [.i .u8, .i .u8, .i .u8, .i .u8, .i .u8, .i .u8, .i .u8, .i .u8, .i .u8, .i .u8, .i .u8, .i .u8, .i .u8, .i .u8, .i .u8, .i .u8, .i .i64] := ⟨by kernel_rfl⟩
instance : TZero Try.prog 27 [.int .u8 0, .int .u8 0, .int .u8 0, .int .u8 0, .int .u8 0, .int .u8 0, .int .u8 0, .int .u8 0, .int .u8 0, .int .u8 0, .int .u8 0, .int .u8 0, .int .u8 0, .int .u8 0, .int .u8 0, .int .u8 0, .int .i64 0] := ⟨by kernel_rfl⟩
instance : TSz Try.prog 28 17 := ⟨by kernel_rfl⟩
instance : TAgg Try.prog 28 17 := ⟨by kernel_rfl⟩
instance : TFldT Try.prog 28 0 0 26 := ⟨by kernel_rfl⟩
instance : TFld Try.prog 28 0 0 := ⟨by kernel_rfl⟩
instance : TFldT Try.prog 28 1 16 3 := ⟨by kernel_rfl⟩
instance : TFld Try.prog 28 1 16 := ⟨by kernel_rfl⟩
instance : TLay Try.prog 28 [(0, 16), (16, 1)] := ⟨by kernel_rfl⟩
instance : TEl Try.prog 28 17 24 := ⟨by kernel_rfl⟩
instance : TEq Try.prog 28 [.i .u8, .i .u8, .i .u8, .i .u8, .i .u8, .i .u8, .i .u8, .i .u8, .i .u8, .i .u8, .i .u8, .i .u8, .i .u8, .i .u8, .i .u8, .i .u8, .i .i64] := ⟨by kernel_rfl⟩
instance : TZero Try.prog 28 [.int .u8 0, .int .u8 0, .int .u8 0, .int .u8 0, .int .u8 0, .int .u8 0, .int .u8 0, .int .u8 0, .int .u8 0, .int .u8 0, .int .u8 0, .int .u8 0, .int .u8 0, .int .u8 0, .int .u8 0, .int .u8 0, .int .i64 0] := ⟨by kernel_rfl⟩
instance : TOne Try.prog 29 := ⟨by kernel_rfl⟩
instance : TSz Try.prog 29 1 := ⟨by kernel_rfl⟩
instance : TZero Try.prog 29 [.nilFunc] := ⟨by kernel_rfl⟩
instance : TOne Try.prog 30 := ⟨by kernel_rfl⟩
instance : TSz Try.prog 30 1 := ⟨by kernel_rfl⟩
instance : TZero Try.prog 30 [.nilFunc] := ⟨by kernel_rfl⟩
instance : TOne Try.prog 31 := ⟨by kernel_rfl⟩
instance : TSz Try.prog 31 1 := ⟨by kernel_rfl⟩
instance : TZero Try.prog 31 [.nilFunc] := ⟨by kernel_rfl⟩
instance : TU Try.prog 32 (TypeDesc.slice 44) := ⟨Try.underlying32⟩
instance : TSz Try.prog 32 1 := ⟨by kernel_rfl⟩
instance : TOne Try.prog 32 := ⟨by kernel_rfl⟩
instance : TEl Try.prog 32 1 24 := ⟨by kernel_rfl⟩
instance : TNI Try.prog 32 := ⟨by kernel_rfl⟩
instance : TZero Try.prog 32 [.slice none 0 0] := ⟨by kernel_rfl⟩
instance : TSz Try.prog 33 18 := ⟨by kernel_rfl⟩
instance : TAgg Try.prog 33 18 := ⟨by kernel_rfl⟩
instance : TFldT Try.prog 33 0 0 28 := ⟨by kernel_rfl⟩
instance : TFld Try.prog 33 0 0 := ⟨by kernel_rfl⟩
instance : TFldT Try.prog 33 1 17 32 := ⟨by kernel_rfl⟩
instance : TFld Try.prog 33 1 17 := ⟨by kernel_rfl⟩
instance : TLay Try.prog 33 [(0, 17), (17, 1)] := ⟨by kernel_rfl⟩
instance : TEl Try.prog 33 18 48 := ⟨by kernel_rfl⟩
instance : TZero Try.prog 33 [.int .u8 0, .int .u8 0, .int .u8 0, .int .u8 0, .int .u8 0, .int .u8 0, .int .u8 0, .int .u8 0, .int .u8 0, .int .u8 0, .int .u8 0, .int .u8 0, .int .u8 0, .int .u8 0, .int .u8 0, .int .u8 0, .int .i64 0, .slice none 0 0] := ⟨by kernel_rfl⟩
instance : TSz Try.prog 34 18 := ⟨by kernel_rfl⟩
instance : TAgg Try.prog 34 18 := ⟨by kernel_rfl⟩
instance : TFldT Try.prog 34 0 0 28 := ⟨by kernel_rfl⟩
instance : TFld Try.prog 34 0 0 := ⟨by kernel_rfl⟩
instance : TFldT Try.prog 34 1 17 32 := ⟨by kernel_rfl⟩
instance : TFld Try.prog 34 1 17 := ⟨by kernel_rfl⟩
instance : TLay Try.prog 34 [(0, 17), (17, 1)] := ⟨by kernel_rfl⟩
instance : TEl Try.prog 34 18 48 := ⟨by kernel_rfl⟩
instance : TZero Try.prog 34 [.int .u8 0, .int .u8 0, .int .u8 0, .int .u8 0, .int .u8 0, .int .u8 0, .int .u8 0, .int .u8 0, .int .u8 0, .int .u8 0, .int .u8 0, .int .u8 0, .int .u8 0, .int .u8 0, .int .u8 0, .int .u8 0, .int .i64 0, .slice none 0 0] := ⟨by kernel_rfl⟩
instance : TU Try.prog 35 (TypeDesc.int IntKind.u64) := ⟨Try.underlying35⟩
instance : TSz Try.prog 35 1 := ⟨by kernel_rfl⟩
instance : TOne Try.prog 35 := ⟨by kernel_rfl⟩
instance : TEl Try.prog 35 1 8 := ⟨by kernel_rfl⟩
instance : TZero Try.prog 35 [.int .u64 0] := ⟨by kernel_rfl⟩
instance : TU Try.prog 36 (TypeDesc.int IntKind.u64) := ⟨Try.underlying36⟩
instance : TSz Try.prog 36 1 := ⟨by kernel_rfl⟩
instance : TOne Try.prog 36 := ⟨by kernel_rfl⟩
instance : TEl Try.prog 36 1 8 := ⟨by kernel_rfl⟩
instance : TZero Try.prog 36 [.int .u64 0] := ⟨by kernel_rfl⟩
instance : TOne Try.prog 37 := ⟨by kernel_rfl⟩
instance : TSz Try.prog 37 1 := ⟨by kernel_rfl⟩
instance : TZero Try.prog 37 [.nilFunc] := ⟨by kernel_rfl⟩
instance : TU Try.prog 38 (TypeDesc.int IntKind.i64) := ⟨Try.underlying38⟩
instance : TSz Try.prog 38 1 := ⟨by kernel_rfl⟩
instance : TOne Try.prog 38 := ⟨by kernel_rfl⟩
instance : TEl Try.prog 38 1 8 := ⟨by kernel_rfl⟩
instance : TZero Try.prog 38 [.int .i64 0] := ⟨by kernel_rfl⟩
instance : TOne Try.prog 40 := ⟨by kernel_rfl⟩
instance : TSz Try.prog 40 1 := ⟨by kernel_rfl⟩
instance : TZero Try.prog 40 [.nilFunc] := ⟨by kernel_rfl⟩
instance : TOne Try.prog 41 := ⟨by kernel_rfl⟩
instance : TSz Try.prog 41 1 := ⟨by kernel_rfl⟩
instance : TZero Try.prog 41 [.nilFunc] := ⟨by kernel_rfl⟩
instance : TOne Try.prog 42 := ⟨by kernel_rfl⟩
instance : TSz Try.prog 42 1 := ⟨by kernel_rfl⟩
instance : TZero Try.prog 42 [.nilFunc] := ⟨by kernel_rfl⟩
instance : TSz Try.prog 43 19 := ⟨by kernel_rfl⟩
instance : TAgg Try.prog 43 19 := ⟨by kernel_rfl⟩
instance : TFldT Try.prog 43 0 0 28 := ⟨by kernel_rfl⟩
instance : TFld Try.prog 43 0 0 := ⟨by kernel_rfl⟩
instance : TFldT Try.prog 43 1 17 36 := ⟨by kernel_rfl⟩
instance : TFld Try.prog 43 1 17 := ⟨by kernel_rfl⟩
instance : TFldT Try.prog 43 2 18 3 := ⟨by kernel_rfl⟩
instance : TFld Try.prog 43 2 18 := ⟨by kernel_rfl⟩
instance : TLay Try.prog 43 [(0, 17), (17, 1), (18, 1)] := ⟨by kernel_rfl⟩
instance : TEl Try.prog 43 19 40 := ⟨by kernel_rfl⟩
instance : TEq Try.prog 43 [.i .u8, .i .u8, .i .u8, .i .u8, .i .u8, .i .u8, .i .u8, .i .u8, .i .u8, .i .u8, .i .u8, .i .u8, .i .u8, .i .u8, .i .u8, .i .u8, .i .i64, .i .u64, .i .i64] := ⟨by kernel_rfl⟩
instance : TZero Try.prog 43 [.int .u8 0, .int .u8 0, .int .u8 0, .int .u8 0, .int .u8 0, .int .u8 0, .int .u8 0, .int .u8 0, .int .u8 0, .int .u8 0, .int .u8 0, .int .u8 0, .int .u8 0, .int .u8 0, .int .u8 0, .int .u8 0, .int .i64 0, .int .u64 0, .int .i64 0] := ⟨by kernel_rfl⟩
instance : TSz Try.prog 44 19 := ⟨by kernel_rfl⟩
instance : TAgg Try.prog 44 19 := ⟨by kernel_rfl⟩
instance : TFldT Try.prog 44 0 0 28 := ⟨by kernel_rfl⟩
instance : TFld Try.prog 44 0 0 := ⟨by kernel_rfl⟩
instance : TFldT Try.prog 44 1 17 36 := ⟨by kernel_rfl⟩
instance : TFld Try.prog 44 1 17 := ⟨by kernel_rfl⟩
instance : TFldT Try.prog 44 2 18 3 := ⟨by kernel_rfl⟩
instance : TFld Try.prog 44 2 18 := ⟨by kernel_rfl⟩
instance : TLay Try.prog 44 [(0, 17), (17, 1), (18, 1)] := ⟨by kernel_rfl⟩
instance : TEl Try.prog 44 19 40 := ⟨by kernel_rfl⟩
instance : TEq Try.prog 44 [.i .u8, .i .u8, .i .u8, .i .u8, .i .u8, .i .u8, .i .u8, .i .u8, .i .u8, .i .u8, .i .u8, .i .u8, .i .u8, .i .u8, .i .u8, .i .u8, .i .i64, .i .u64, .i .i64] := ⟨by kernel_rfl⟩
instance : TZero Try.prog 44 [.int .u8 0, .int .u8 0, .int .u8 0, .int .u8 0, .int .u8 0, .int .u8 0, .int .u8 0, .int .u8 0, .int .u8 0, .int .u8 0, .int .u8 0, .int .u8 0, .int .u8 0, .int .u8 0, .int .u8 0, .int .u8 0, .int .i64 0, .int .u64 0, .int .i64 0] := ⟨by kernel_rfl⟩
instance : TOne Try.prog 45 := ⟨by kernel_rfl⟩
instance : TSz Try.prog 45 1 := ⟨by kernel_rfl⟩
instance : TZero Try.prog 45 [.nilFunc] := ⟨by kernel_rfl⟩
instance : TOne Try.prog 46 := ⟨by kernel_rfl⟩
instance : TSz Try.prog 46 1 := ⟨by kernel_rfl⟩
instance : TZero Try.prog 46 [.nilFunc] := ⟨by kernel_rfl⟩
instance : TOne Try.prog 48 := ⟨by kernel_rfl⟩
instance : TSz Try.prog 48 1 := ⟨by kernel_rfl⟩
instance : TZero Try.prog 48 [.nilFunc] := ⟨by kernel_rfl⟩
instance : TOne Try.prog 49 := ⟨by kernel_rfl⟩
instance : TSz Try.prog 49 1 := ⟨by kernel_rfl⟩
instance : TZero Try.prog 49 [.nilFunc] := ⟨by kernel_rfl⟩
instance : TOne Try.prog 50 := ⟨by kernel_rfl⟩
instance : TSz Try.prog 50 1 := ⟨by kernel_rfl⟩
instance : TZero Try.prog 50 [.nilFunc] := ⟨by kernel_rfl⟩
instance : TOne Try.prog 51 := ⟨by kernel_rfl⟩
instance : TSz Try.prog 51 1 := ⟨by kernel_rfl⟩
instance : TZero Try.prog 51 [.nilFunc] := ⟨by kernel_rfl⟩
instance : TU Try.prog 52 (TypeDesc.slice 58) := ⟨Try.underlying52⟩
instance : TSz Try.prog 52 1 := ⟨by kernel_rfl⟩
instance : TOne Try.prog 52 := ⟨by kernel_rfl⟩
instance : TEl Try.prog 52 1 24 := ⟨by kernel_rfl⟩
instance : TNI Try.prog 52 := ⟨by kernel_rfl⟩
instance : TZero Try.prog 52 [.slice none 0 0] := ⟨by kernel_rfl⟩
instance : TOne Try.prog 54 := ⟨by kernel_rfl⟩
instance : TSz Try.prog 54 1 := ⟨by kernel_rfl⟩
instance : TZero Try.prog 54 [.nilFunc] := ⟨by kernel_rfl⟩
instance : TU Try.prog 55 (TypeDesc.slice 111) := ⟨Try.underlying55⟩
instance : TSz Try.prog 55 1 := ⟨by kernel_rfl⟩
instance : TOne Try.prog 55 := ⟨by kernel_rfl⟩
instance : TEl Try.prog 55 1 24 := ⟨by kernel_rfl⟩
instance : TNI Try.prog 55 := ⟨by kernel_rfl⟩
instance : TZero Try.prog 55 [.slice none 0 0] := ⟨by kernel_rfl⟩
instance : TU Try.prog 56 (TypeDesc.slice 116) := ⟨Try.underlying56⟩
instance : TSz Try.prog 56 1 := ⟨by kernel_rfl⟩
instance : TOne Try.prog 56 := ⟨by kernel_rfl⟩
instance : TEl Try.prog 56 1 24 := ⟨by kernel_rfl⟩
instance : TNI Try.prog 56 := ⟨by kernel_rfl⟩
instance : TZero Try.prog 56 [.slice none 0 0] := ⟨by kernel_rfl⟩
instance : TSz Try.prog 57 20 := ⟨by kernel_rfl⟩
instance : TAgg Try.prog 57 20 := ⟨by kernel_rfl⟩
instance : TFldT Try.prog 57 0 0 26 := ⟨by kernel_rfl⟩
instance : TFld Try.prog 57 0 0 := ⟨by kernel_rfl⟩
instance : TFldT Try.prog 57 1 16 3 := ⟨by kernel_rfl⟩
instance : TFld Try.prog 57 1 16 := ⟨by kernel_rfl⟩
instance : TFldT Try.prog 57 2 17 3 := ⟨by kernel_rfl⟩
instance : TFld Try.prog 57 2 17 := ⟨by kernel_rfl⟩
instance : TFldT Try.prog 57 3 18 55 := ⟨by kernel_rfl⟩
instance : TFld Try.prog 57 3 18 := ⟨by kernel_rfl⟩
instance : TFldT Try.prog 57 4 19 56 := ⟨by kernel_rfl⟩
instance : TFld Try.prog 57 4 19 := ⟨by kernel_rfl⟩
instance : TLay Try.prog 57 [(0, 16), (16, 1), (17, 1), (18, 1), (19, 1)] := ⟨by kernel_rfl⟩
instance : TEl Try.prog 57 20 80 := ⟨by kernel_rfl⟩
instance : TZero Try.prog 57 [.int .u8 0, .int .u8 0, .int .u8 0, .int .u8 0, .int .u8 0, .int .u8 0, .int .u8 0, .int .u8 0, .int .u8 0, .int .u8 0, .int .u8 0, .int .u8 0, .int .u8 0, .int .u8 0, .int .u8 0, .int .u8 0, .int .i64 0, .int .i64 0, .slice none 0 0, .slice none 0 0] := ⟨by kernel_rfl⟩
instance : TSz Try.prog 58 20 := ⟨by kernel_rfl⟩
instance : TAgg Try.prog 58 20 := ⟨by kernel_rfl⟩
instance : TFldT Try.prog 58 0 0 26 := ⟨by kernel_rfl⟩
instance : TFld Try.prog 58 0 0 := ⟨by kernel_rfl⟩
instance : TFldT Try.prog 58 1 16 3 := ⟨by kernel_rfl⟩
instance : TFld Try.prog 58 1 16 := ⟨by kernel_rfl⟩
instance : TFldT Try.prog 58 2 17 3 := ⟨by kernel_rfl⟩
instance : TFld Try.prog 58 2 17 := ⟨by kernel_rfl⟩
instance : TFldT Try.prog 58 3 18 55 := ⟨by kernel_rfl⟩
instance : TFld Try.prog 58 3 18 := ⟨by kernel_rfl⟩
instance : TFldT Try.prog 58 4 19 56 := ⟨by kernel_rfl⟩
instance : TFld Try.prog 58 4 19 := ⟨by kernel_rfl⟩
instance : TLay Try.prog 58 [(0, 16), (16, 1), (17, 1), (18, 1), (19, 1)] := ⟨by kernel_rfl⟩
instance : TEl Try.prog 58 20 80 := ⟨by kernel_rfl⟩
instance : TZero Try.prog 58 [.int .u8 0, .int .u8 0, .int .u8 0, .int .u8 0, .int .u8 0, .int .u8 0, .int .u8 0, .int .u8 0, .int .u8 0, .int .u8 0, .int .u8 0, .int .u8 0, .int .u8 0, .int .u8 0, .int .u8 0, .int .u8 0, .int .i64 0, .int .i64 0, .slice none 0 0, .slice none 0 0] := ⟨by kernel_rfl⟩
instance : TOne Try.prog 59 := ⟨by kernel_rfl⟩
instance : TSz Try.prog 59 1 := ⟨by kernel_rfl⟩
instance : TZero Try.prog 59 [.nilFunc] := ⟨by kernel_rfl⟩
instance : TOne Try.prog 60 := ⟨by kernel_rfl⟩
instance : TSz Try.prog 60 1 := ⟨by kernel_rfl⟩
instance : TZero Try.prog 60 [.nilFunc] := ⟨by kernel_rfl⟩
instance : TOne Try.prog 61 := ⟨by kernel_rfl⟩
instance : TSz Try.prog 61 1 := ⟨by kernel_rfl⟩
instance : TZero Try.prog 61 [.nilFunc] := ⟨by kernel_rfl⟩
instance : TOne Try.prog 62 := ⟨by kernel_rfl⟩
instance : TSz Try.prog 62 1 := ⟨by kernel_rfl⟩
instance : TZero Try.prog 62 [.nilFunc] := ⟨by kernel_rfl⟩
instance : TOne Try.prog 63 := ⟨by kernel_rfl⟩
instance : TSz Try.prog 63 1 := ⟨by kernel_rfl⟩
instance : TZero Try.prog 63 [.nilFunc] := ⟨by kernel_rfl⟩
instance : TOne Try.prog 64 := ⟨by kernel_rfl⟩
instance : TSz Try.prog 64 1 := ⟨by kernel_rfl⟩
instance : TZero Try.prog 64 [.nilFunc] := ⟨by kernel_rfl⟩
instance : TOne Try.prog 65 := ⟨by kernel_rfl⟩
instance : TSz Try.prog 65 1 := ⟨by kernel_rfl⟩
instance : TZero Try.prog 65 [.nilFunc] := ⟨by kernel_rfl⟩
instance : TOne Try.prog 66 := ⟨by kernel_rfl⟩
instance : TSz Try.prog 66 1 := ⟨by kernel_rfl⟩
instance : TZero Try.prog 66 [.nilFunc] := ⟨by kernel_rfl⟩
instance : TOne Try.prog 67 := ⟨by kernel_rfl⟩
instance : TSz Try.prog 67 1 := ⟨by kernel_rfl⟩
instance : TZero Try.prog 67 [.nilFunc] := ⟨by kernel_rfl⟩
instance : TU Try.prog 68 (TypeDesc.int IntKind.u16) := ⟨Try.underlying68⟩
instance : TSz Try.prog 68 1 := ⟨by kernel_rfl⟩
instance : TOne Try.prog 68 := ⟨by kernel_rfl⟩
instance : TEl Try.prog 68 1 2 := ⟨by kernel_rfl⟩
instance : TZero Try.prog 68 [.int .u16 0] := ⟨by kernel_rfl⟩
instance : TU Try.prog 69 (TypeDesc.int IntKind.u16) := ⟨Try.underlying69⟩
instance : TSz Try.prog 69 1 := ⟨by kernel_rfl⟩
instance : TOne Try.prog 69 := ⟨by kernel_rfl⟩
instance : TEl Try.prog 69 1 2 := ⟨by kernel_rfl⟩
instance : TZero Try.prog 69 [.int .u16 0] := ⟨by kernel_rfl⟩
instance : TSz Try.prog 70 3 := ⟨by kernel_rfl⟩
instance : TAgg Try.prog 70 3 := ⟨by kernel_rfl⟩
instance : TFldT Try.prog 70 0 0 3 := ⟨by kernel_rfl⟩
instance : TFld Try.prog 70 0 0 := ⟨by kernel_rfl⟩
instance : TFldT Try.prog 70 1 1 69 := ⟨by kernel_rfl⟩
instance : TFld Try.prog 70 1 1 := ⟨by kernel_rfl⟩
instance : TFldT Try.prog 70 2 2 36 := ⟨by kernel_rfl⟩
instance : TFld Try.prog 70 2 2 := ⟨by kernel_rfl⟩
instance : TLay Try.prog 70 [(0, 1), (1, 1), (2, 1)] := ⟨by kernel_rfl⟩
instance : TEl Try.prog 70 3 24 := ⟨by kernel_rfl⟩
instance : TEq Try.prog 70 [.i .i64, .i .u16, .i .u64] := ⟨by kernel_rfl⟩
instance : TZero Try.prog 70 [.int .i64 0, .int .u16 0, .int .u64 0] := ⟨by kernel_rfl⟩
instance : TSz Try.prog 71 3 := ⟨by kernel_rfl⟩
instance : TAgg Try.prog 71 3 := ⟨by kernel_rfl⟩
instance : TFldT Try.prog 71 0 0 3 := ⟨by kernel_rfl⟩
instance : TFld Try.prog 71 0 0 := ⟨by kernel_rfl⟩
instance : TFldT Try.prog 71 1 1 69 := ⟨by kernel_rfl⟩
instance : TFld Try.prog 71 1 1 := ⟨by kernel_rfl⟩
instance : TFldT Try.prog 71 2 2 36 := ⟨by kernel_rfl⟩
instance : TFld Try.prog 71 2 2 := ⟨by kernel_rfl⟩
instance : TLay Try.prog 71 [(0, 1), (1, 1), (2, 1)] := ⟨by kernel_rfl⟩
instance : TEl Try.prog 71 3 24 := ⟨by kernel_rfl⟩
instance : TEq Try.prog 71 [.i .i64, .i .u16, .i .u64] := ⟨by kernel_rfl⟩
instance : TZero Try.prog 71 [.int .i64 0, .int .u16 0, .int .u64 0] := ⟨by kernel_rfl⟩
instance : TSz Try.prog 72 4 := ⟨by kernel_rfl⟩
instance : TAgg Try.prog 72 4 := ⟨by kernel_rfl⟩
instance : TFldT Try.prog 72 0 0 36 := ⟨by kernel_rfl⟩
instance : TFld Try.prog 72 0 0 := ⟨by kernel_rfl⟩
instance : TFldT Try.prog 72 1 1 5 := ⟨by kernel_rfl⟩
instance : TFld Try.prog 72 1 1 := ⟨by kernel_rfl⟩
instance : TFldT Try.prog 72 2 2 5 := ⟨by kernel_rfl⟩
instance : TFld Try.prog 72 2 2 := ⟨by kernel_rfl⟩
instance : TFldT Try.prog 72 3 3 68 := ⟨by kernel_rfl⟩
instance : TFld Try.prog 72 3 3 := ⟨by kernel_rfl⟩
instance : TLay Try.prog 72 [(0, 1), (1, 1), (2, 1), (3, 1)] := ⟨by kernel_rfl⟩
instance : TEl Try.prog 72 4 16 := ⟨by kernel_rfl⟩
instance : TEq Try.prog 72 [.i .u64, .i .u8, .i .u8, .i .u16] := ⟨by kernel_rfl⟩
instance : TZero Try.prog 72 [.int .u64 0, .int .u8 0, .int .u8 0, .int .u16 0] := ⟨by kernel_rfl⟩
instance : TSz Try.prog 73 4 := ⟨by kernel_rfl⟩
instance : TAgg Try.prog 73 4 := ⟨by kernel_rfl⟩
instance : TFldT Try.prog 73 0 0 36 := ⟨by kernel_rfl⟩
instance : TFld Try.prog 73 0 0 := ⟨by kernel_rfl⟩
instance : TFldT Try.prog 73 1 1 5 := ⟨by kernel_rfl⟩
instance : TFld Try.prog 73 1 1 := ⟨by kernel_rfl⟩
instance : TFldT Try.prog 73 2 2 5 := ⟨by kernel_rfl⟩
instance : TFld Try.prog 73 2 2 := ⟨by kernel_rfl⟩
instance : TFldT Try.prog 73 3 3 68 := ⟨by kernel_rfl⟩
instance : TFld Try.prog 73 3 3 := ⟨by kernel_rfl⟩
instance : TLay Try.prog 73 [(0, 1), (1, 1), (2, 1), (3, 1)] := ⟨by kernel_rfl⟩
instance : TEl Try.prog 73 4 16 := ⟨by kernel_rfl⟩
instance : TEq Try.prog 73 [.i .u64, .i .u8, .i .u8, .i .u16] := ⟨by kernel_rfl⟩
instance : TZero Try.prog 73 [.int .u64 0, .int .u8 0, .int .u8 0, .int .u16 0] := ⟨by kernel_rfl⟩
instance : TU Try.prog 74 (TypeDesc.int IntKind.u32) := ⟨Try.underlying74⟩
instance : TSz Try.prog 74 1 := ⟨by kernel_rfl⟩
instance : TOne Try.prog 74 := ⟨by kernel_rfl⟩
instance : TEl Try.prog 74 1 4 := ⟨by kernel_rfl⟩
instance : TZero Try.prog 74 [.int .u32 0] := ⟨by kernel_rfl⟩
instance : TSz Try.prog 75 18 := ⟨by kernel_rfl⟩
instance : TAgg Try.prog 75 18 := ⟨by kernel_rfl⟩
instance : TFldT Try.prog 75 0 0 74 := ⟨by kernel_rfl⟩
instance : TFld Try.prog 75 0 0 := ⟨by kernel_rfl⟩
instance : TFldT Try.prog 75 1 1 68 := ⟨by kernel_rfl⟩
instance : TFld Try.prog 75 1 1 := ⟨by kernel_rfl⟩
instance : TFldT Try.prog 75 2 2 26 := ⟨by kernel_rfl⟩
instance : TFld Try.prog 75 2 2 := ⟨by kernel_rfl⟩
instance : TLay Try.prog 75 [(0, 1), (1, 1), (2, 16)] := ⟨by kernel_rfl⟩
instance : TEl Try.prog 75 18 24 := ⟨by kernel_rfl⟩
instance : TEq Try.prog 75 [.i .u32, .i .u16, .i .u8, .i .u8, .i .u8, .i .u8, .i .u8, .i .u8, .i .u8, .i .u8, .i .u8, .i .u8, .i .u8, .i .u8, .i .u8, .i .u8, .i .u8, .i .u8] := ⟨by kernel_rfl⟩
instance : TZero Try.prog 75 [.int .u32 0, .int .u16 0, .int .u8 0, .int .u8 0, .int .u8 0, .int .u8 0, .int .u8 0, .int .u8 0, .int .u8 0, .int .u8 0, .int .u8 0, .int .u8 0, .int .u8 0, .int .u8 0, .int .u8 0, .int .u8 0, .int .u8 0, .int .u8 0] := ⟨by kernel_rfl⟩
instance : TSz Try.prog 76 18 := ⟨by kernel_rfl⟩
instance : TAgg Try.prog 76 18 := ⟨by kernel_rfl⟩
instance : TFldT Try.prog 76 0 0 74 := ⟨by kernel_rfl⟩
instance : TFld Try.prog 76 0 0 := ⟨by kernel_rfl⟩
instance : TFldT Try.prog 76 1 1 68 := ⟨by kernel_rfl⟩
instance : TFld Try.prog 76 1 1 := ⟨by kernel_rfl⟩
instance : TFldT Try.prog 76 2 2 26 := ⟨by kernel_rfl⟩
instance : TFld Try.prog 76 2 2 := ⟨by kernel_rfl⟩
instance : TLay Try.prog 76 [(0, 1), (1, 1), (2, 16)] := ⟨by kernel_rfl⟩
instance : TEl Try.prog 76 18 24 := ⟨by kernel_rfl⟩
instance : TEq Try.prog 76 [.i .u32, .i .u16, .i .u8, .i .u8, .i .u8, .i .u8, .i .u8, .i .u8, .i .u8, .i .u8, .i .u8, .i .u8, .i .u8, .i .u8, .i .u8, .i .u8, .i .u8, .i .u8] := ⟨by kernel_rfl⟩
instance : TZero Try.prog 76 [.int .u32 0, .int .u16 0, .int .u8 0, .int .u8 0, .int .u8 0, .int .u8 0, .int .u8 0, .int .u8 0, .int .u8 0, .int .u8 0, .int .u8 0, .int .u8 0, .int .u8 0, .int .u8 0, .int .u8 0, .int .u8 0, .int .u8 0, .int .u8 0] := ⟨by kernel_rfl⟩
instance : TSz Try.prog 77 48 := ⟨by kernel_rfl⟩
instance : TAgg Try.prog 77 48 := ⟨by kernel_rfl⟩
instance : TFldT Try.prog 77 0 0 5 := ⟨by kernel_rfl⟩
instance : TFld Try.prog 77 0 0 := ⟨by kernel_rfl⟩
instance : TFldT Try.prog 77 1 1 5 := ⟨by kernel_rfl⟩
instance : TFld Try.prog 77 1 1 := ⟨by kernel_rfl⟩
instance : TFldT Try.prog 77 2 2 68 := ⟨by kernel_rfl⟩
instance : TFld Try.prog 77 2 2 := ⟨by kernel_rfl⟩
instance : TFldT Try.prog 77 3 3 26 := ⟨by kernel_rfl⟩
instance : TFld Try.prog 77 3 3 := ⟨by kernel_rfl⟩
instance : TFldT Try.prog 77 4 19 71 := ⟨by kernel_rfl⟩
instance : TFld Try.prog 77 4 19 := ⟨by kernel_rfl⟩
instance : TFldT Try.prog 77 5 22 73 := ⟨by kernel_rfl⟩
instance : TFld Try.prog 77 5 22 := ⟨by kernel_rfl⟩
instance : TFldT Try.prog 77 6 26 4 := ⟨by kernel_rfl⟩
instance : TFld Try.prog 77 6 26 := ⟨by kernel_rfl⟩
instance : TFldT Try.prog 77 7 27 55 := ⟨by kernel_rfl⟩
instance : TFld Try.prog 77 7 27 := ⟨by kernel_rfl⟩
instance : TFldT Try.prog 77 8 28 56 := ⟨by kernel_rfl⟩
instance : TFld Try.prog 77 8 28 := ⟨by kernel_rfl⟩
instance : TFldT Try.prog 77 9 29 76 := ⟨by kernel_rfl⟩
instance : TFld Try.prog 77 9 29 := ⟨by kernel_rfl⟩
instance : TFldT Try.prog 77 10 47 4 := ⟨by kernel_rfl⟩
instance : TFld Try.prog 77 10 47 := ⟨by kernel_rfl⟩
instance : TLay Try.prog 77 [(0, 1), (1, 1), (2, 1), (3, 16), (19, 3), (22, 4), (26, 1), (27, 1), (28, 1), (29, 18), (47, 1)] := ⟨by kernel_rfl⟩
instance : TEl Try.prog 77 48 152 := ⟨by kernel_rfl⟩
instance : TSz Try.prog 78 48 := ⟨by kernel_rfl⟩
instance : TAgg Try.prog 78 48 := ⟨by kernel_rfl⟩
instance : TFldT Try.prog 78 0 0 5 := ⟨by kernel_rfl⟩
instance : TFld Try.prog 78 0 0 := ⟨by kernel_rfl⟩
instance : TFldT Try.prog 78 1 1 5 := ⟨by kernel_rfl⟩
instance : TFld Try.prog 78 1 1 := ⟨by kernel_rfl⟩
instance : TFldT Try.prog 78 2 2 68 := ⟨by kernel_rfl⟩
instance : TFld Try.prog 78 2 2 := ⟨by kernel_rfl⟩
instance : TFldT Try.prog 78 3 3 26 := ⟨by kernel_rfl⟩
instance : TFld Try.prog 78 3 3 := ⟨by kernel_rfl⟩
instance : TFldT Try.prog 78 4 19 71 := ⟨by kernel_rfl⟩
instance : TFld Try.prog 78 4 19 := ⟨by kernel_rfl⟩
instance : TFldT Try.prog 78 5 22 73 := ⟨by kernel_rfl⟩
instance : TFld Try.prog 78 5 22 := ⟨by kernel_rfl⟩
instance : TFldT Try.prog 78 6 26 4 := ⟨by kernel_rfl⟩
instance : TFld Try.prog 78 6 26 := ⟨by kernel_rfl⟩
instance : TFldT Try.prog 78 7 27 55 := ⟨by kernel_rfl⟩
instance : TFld Try.prog 78 7 27 := ⟨by kernel_rfl⟩
instance : TFldT Try.prog 78 8 28 56 := ⟨by kernel_rfl⟩
instance : TFld Try.prog 78 8 28 := ⟨by kernel_rfl⟩
instance : TFldT Try.prog 78 9 29 76 := ⟨by kernel_rfl⟩
instance : TFld Try.prog 78 9 29 := ⟨by kernel_rfl⟩
instance : TFldT Try.prog 78 10 47 4 := ⟨by kernel_rfl⟩
instance : TFld Try.prog 78 10 47 := ⟨by kernel_rfl⟩
instance : TLay Try.prog 78 [(0, 1), (1, 1), (2, 1), (3, 16), (19, 3), (22, 4), (26, 1), (27, 1), (28, 1), (29, 18), (47, 1)] := ⟨by kernel_rfl⟩
instance : TEl Try.prog 78 48 152 := ⟨by kernel_rfl⟩
instance : TOne Try.prog 79 := ⟨by kernel_rfl⟩
instance : TSz Try.prog 79 1 := ⟨by kernel_rfl⟩
instance : TZero Try.prog 79 [.nilFunc] := ⟨by kernel_rfl⟩
instance : TU Try.prog 80 (TypeDesc.slice 78) := ⟨Try.underlying80⟩
instance : TSz Try.prog 80 1 := ⟨by kernel_rfl⟩
instance : TOne Try.prog 80 := ⟨by kernel_rfl⟩
instance : TEl Try.prog 80 1 24 := ⟨by kernel_rfl⟩
instance : TNI Try.prog 80 := ⟨by kernel_rfl⟩
instance : TZero Try.prog 80 [.slice none 0 0] := ⟨by kernel_rfl⟩
instance : TOne Try.prog 82 := ⟨by kernel_rfl⟩
instance : TSz Try.prog 82 1 := ⟨by kernel_rfl⟩
instance : TZero Try.prog 82 [.nilFunc] := ⟨by kernel_rfl⟩
instance : TOne Try.prog 83 := ⟨by kernel_rfl⟩
instance : TSz Try.prog 83 1 := ⟨by kernel_rfl⟩
instance : TZero Try.prog 83 [.nilFunc] := ⟨by kernel_rfl⟩
instance : TOne Try.prog 84 := ⟨by kernel_rfl⟩
instance : TSz Try.prog 84 1 := ⟨by kernel_rfl⟩
instance : TZero Try.prog 84 [.nilFunc] := ⟨by kernel_rfl⟩
instance : TOne Try.prog 85 := ⟨by kernel_rfl⟩
instance : TSz Try.prog 85 1 := ⟨by kernel_rfl⟩
instance : TZero Try.prog 85 [.nilFunc] := ⟨by kernel_rfl⟩
instance : TOne Try.prog 86 := ⟨by kernel_rfl⟩
instance : TSz Try.prog 86 1 := ⟨by kernel_rfl⟩
instance : TZero Try.prog 86 [.nilFunc] := ⟨by kernel_rfl⟩
instance : TOne Try.prog 87 := ⟨by kernel_rfl⟩
instance : TSz Try.prog 87 1 := ⟨by kernel_rfl⟩
instance : TZero Try.prog 87 [.nilFunc] := ⟨by kernel_rfl⟩
instance : TSz Try.prog 88 2 := ⟨by kernel_rfl⟩
instance : TAgg Try.prog 88 2 := ⟨by kernel_rfl⟩
instance : TFldT Try.prog 88 0 0 22 := ⟨by kernel_rfl⟩
instance : TFld Try.prog 88 0 0 := ⟨by kernel_rfl⟩
instance : TFldT Try.prog 88 1 1 3 := ⟨by kernel_rfl⟩
instance : TFld Try.prog 88 1 1 := ⟨by kernel_rfl⟩
instance : TLay Try.prog 88 [(0, 1), (1, 1)] := ⟨by kernel_rfl⟩
instance : TEl Try.prog 88 2 32 := ⟨by kernel_rfl⟩
instance : TZero Try.prog 88 [.slice none 0 0, .int .i64 0] := ⟨by kernel_rfl⟩
instance : TSz Try.prog 89 2 := ⟨by kernel_rfl⟩
instance : TAgg Try.prog 89 2 := ⟨by kernel_rfl⟩
instance : TFldT Try.prog 89 0 0 22 := ⟨by kernel_rfl⟩
instance : TFld Try.prog 89 0 0 := ⟨by kernel_rfl⟩
instance : TFldT Try.prog 89 1 1 3 := ⟨by kernel_rfl⟩
instance : TFld Try.prog 89 1 1 := ⟨by kernel_rfl⟩
instance : TLay Try.prog 89 [(0, 1), (1, 1)] := ⟨by kernel_rfl⟩
instance : TEl Try.prog 89 2 32 := ⟨by kernel_rfl⟩
instance : TZero Try.prog 89 [.slice none 0 0, .int .i64 0] := ⟨by kernel_rfl⟩
instance : TOne Try.prog 90 := ⟨by kernel_rfl⟩
instance : TSz Try.prog 90 1 := ⟨by kernel_rfl⟩
instance : TZero Try.prog 90 [.nilFunc] := ⟨by kernel_rfl⟩
instance : TU Try.prog 91 (TypeDesc.int IntKind.u64) := ⟨Try.underlying91⟩
instance : TSz Try.prog 91 1 := ⟨by kernel_rfl⟩
instance : TOne Try.prog 91 := ⟨by kernel_rfl⟩
instance : TEl Try.prog 91 1 8 := ⟨by kernel_rfl⟩
instance : TZero Try.prog 91 [.int .u64 0] := ⟨by kernel_rfl⟩
instance : TOne Try.prog 92 := ⟨by kernel_rfl⟩
instance : TSz Try.prog 92 1 := ⟨by kernel_rfl⟩
instance : TZero Try.prog 92 [.nilFunc] := ⟨by kernel_rfl⟩
instance : TOne Try.prog 93 := ⟨by kernel_rfl⟩
instance : TSz Try.prog 93 1 := ⟨by kernel_rfl⟩
instance : TZero Try.prog 93 [.nilFunc] := ⟨by kernel_rfl⟩
instance : TOne Try.prog 95 := ⟨by kernel_rfl⟩
instance : TSz Try.prog 95 1 := ⟨by kernel_rfl⟩
instance : TZero Try.prog 95 [.nilFunc] := ⟨by kernel_rfl⟩
instance : TOne Try.prog 96 := ⟨by kernel_rfl⟩
instance : TSz Try.prog 96 1 := ⟨by kernel_rfl⟩
instance : TZero Try.prog 96 [.nilFunc] := ⟨by kernel_rfl⟩
instance : TOne Try.prog 97 := ⟨by kernel_rfl⟩
instance : TSz Try.prog 97 1 := ⟨by kernel_rfl⟩
instance : TZero Try.prog 97 [.nilFunc] := ⟨by kernel_rfl⟩
instance : TOne Try.prog 98 := ⟨by kernel_rfl⟩
instance : TSz Try.prog 98 1 := ⟨by kernel_rfl⟩
instance : TZero Try.prog 98 [.nilFunc] := ⟨by kernel_rfl⟩
instance : TOne Try.prog 99 := ⟨by kernel_rfl⟩
instance : TSz Try.prog 99 1 := ⟨by kernel_rfl⟩
instance : TZero Try.prog 99 [.nilFunc] := ⟨by kernel_rfl⟩
instance : TOne Try.prog 100 := ⟨by kernel_rfl⟩
instance : TSz Try.prog 100 1 := ⟨by kernel_rfl⟩
instance : TZero Try.prog 100 [.nilFunc] := ⟨by kernel_rfl⟩
instance : TOne Try.prog 101 := ⟨by kernel_rfl⟩
instance : TSz Try.prog 101 1 := ⟨by kernel_rfl⟩
instance : TZero Try.prog 101 [.nilFunc] := ⟨by kernel_rfl⟩
instance : TOne Try.prog 102 := ⟨by kernel_rfl⟩
instance : TSz Try.prog 102 1 := ⟨by kernel_rfl⟩
instance : TZero Try.prog 102 [.nilFunc] := ⟨by kernel_rfl⟩
instance : TOne Try.prog 103 := ⟨by kernel_rfl⟩
instance : TSz Try.prog 103 1 := ⟨by kernel_rfl⟩
instance : TZero Try.prog 103 [.nilFunc] := ⟨by kernel_rfl⟩
instance : TOne Try.prog 104 := ⟨by kernel_rfl⟩
instance : TSz Try.prog 104 1 := ⟨by kernel_rfl⟩
instance : TZero Try.prog 104 [.nilFunc] := ⟨by kernel_rfl⟩
instance : TOne Try.prog 105 := ⟨by kernel_rfl⟩
instance : TSz Try.prog 105 1 := ⟨by kernel_rfl⟩
instance : TZero Try.prog 105 [.nilFunc] := ⟨by kernel_rfl⟩
instance : TOne Try.prog 107 := ⟨by kernel_rfl⟩
instance : TSz Try.prog 107 1 := ⟨by kernel_rfl⟩
instance : TZero Try.prog 107 [.nilFunc] := ⟨by kernel_rfl⟩
instance : TOne Try.prog 108 := ⟨by kernel_rfl⟩
instance : TSz Try.prog 108 1 := ⟨by kernel_rfl⟩
instance : TZero Try.prog 108 [.nilFunc] := ⟨by kernel_rfl⟩
instance : TOne Try.prog 109 := ⟨by kernel_rfl⟩
instance : TSz Try.prog 109 1 := ⟨by kernel_rfl⟩
instance : TZero Try.prog 109 [.nilFunc] := ⟨by kernel_rfl⟩
instance : TSz Try.prog 110 20 := ⟨by kernel_rfl⟩
instance : TAgg Try.prog 110 20 := ⟨by kernel_rfl⟩
instance : TFldT Try.prog 110 0 0 28 := ⟨by kernel_rfl⟩
instance : TFld Try.prog 110 0 0 := ⟨by kernel_rfl⟩
instance : TFldT Try.prog 110 1 17 4 := ⟨by kernel_rfl⟩
instance : TFld Try.prog 110 1 17 := ⟨by kernel_rfl⟩
instance : TFldT Try.prog 110 2 18 4 := ⟨by kernel_rfl⟩
instance : TFld Try.prog 110 2 18 := ⟨by kernel_rfl⟩
instance : TFldT Try.prog 110 3 19 74 := ⟨by kernel_rfl⟩
instance : TFld Try.prog 110 3 19 := ⟨by kernel_rfl⟩
instance : TLay Try.prog 110 [(0, 17), (17, 1), (18, 1), (19, 1)] := ⟨by kernel_rfl⟩
instance : TEl Try.prog 110 20 32 := ⟨by kernel_rfl⟩
instance : TEq Try.prog 110 [.i .u8, .i .u8, .i .u8, .i .u8, .i .u8, .i .u8, .i .u8, .i .u8, .i .u8, .i .u8, .i .u8, .i .u8, .i .u8, .i .u8, .i .u8, .i .u8, .i .i64, .b, .b, .i .u32] := ⟨by kernel_rfl⟩
instance : TZero Try.prog 110 [.int .u8 0, .int .u8 0, .int .u8 0, .int .u8 0, .int .u8 0, .int .u8 0, .int .u8 0, .int .u8 0, .int .u8 0, .int .u8 0, .int .u8 0, .int .u8 0, .int .u8 0, .int .u8 0, .int .u8 0, .int .u8 0, .int .i64 0, .bool false, .bool false, .int .u32 0] := ⟨by kernel_rfl⟩
instance : TSz Try.prog 111 20 := ⟨by kernel_rfl⟩
instance : TAgg Try.prog 111 20 := ⟨by kernel_rfl⟩
instance : TFldT Try.prog 111 0 0 28 := ⟨by kernel_rfl⟩
instance : TFld Try.prog 111 0 0 := ⟨by kernel_rfl⟩
instance : TFldT Try.prog 111 1 17 4 := ⟨by kernel_rfl⟩
instance : TFld Try.prog 111 1 17 := ⟨by kernel_rfl⟩
instance : TFldT Try.prog 111 2 18 4 := ⟨by kernel_rfl⟩
instance : TFld Try.prog 111 2 18 := ⟨by kernel_rfl⟩
instance : TFldT Try.prog 111 3 19 74 := ⟨by kernel_rfl⟩
instance : TFld Try.prog 111 3 19 := ⟨by kernel_rfl⟩
instance : TLay Try.prog 111 [(0, 17), (17, 1), (18, 1), (19, 1)] := ⟨by kernel_rfl⟩
instance : TEl Try.prog 111 20 32 := ⟨by kernel_rfl⟩
instance : TEq Try.prog 111 [.i .u8, .i .u8, .i .u8, .i .u8, .i .u8, .i .u8, .i .u8, .i .u8, .i .u8, .i .u8, .i .u8, .i .u8, .i .u8, .i .u8, .i .u8, .i .u8, .i .i64, .b, .b, .i .u32] := ⟨by kernel_rfl⟩
instance : TZero Try.prog 111 [.int .u8 0, .int .u8 0, .int .u8 0, .int .u8 0, .int .u8 0, .int .u8 0, .int .u8 0, .int .u8 0, .int .u8 0, .int .u8 0, .int .u8 0, .int .u8 0, .int .u8 0, .int .u8 0, .int .u8 0, .int .u8 0, .int .i64 0, .bool false, .bool false, .int .u32 0] := ⟨by kernel_rfl⟩
instance : TU Try.prog 112 (TypeDesc.slice 26) := ⟨Try.underlying112⟩
instance : TSz Try.prog 112 1 := ⟨by kernel_rfl⟩
instance : TOne Try.prog 112 := ⟨by kernel_rfl⟩
instance : TEl Try.prog 112 1 24 := ⟨by kernel_rfl⟩
instance : TNI Try.prog 112 := ⟨by kernel_rfl⟩
instance : TZero Try.prog 112 [.slice none 0 0] := ⟨by kernel_rfl⟩
instance : TOne Try.prog 113 := ⟨by kernel_rfl⟩
instance : TSz Try.prog 113 1 := ⟨by kernel_rfl⟩
instance : TZero Try.prog 113 [.nilFunc] := ⟨by kernel_rfl⟩
instance : TOne Try.prog 114 := ⟨by kernel_rfl⟩
instance : TSz Try.prog 114 1 := ⟨by kernel_rfl⟩
instance : TZero Try.prog 114 [.nilFunc] := ⟨by kernel_rfl⟩
instance : TSz Try.prog 115 20 := ⟨by kernel_rfl⟩
instance : TAgg Try.prog 115 20 := ⟨by kernel_rfl⟩
instance : TFldT Try.prog 115 0 0 3 := ⟨by kernel_rfl⟩
instance : TFld Try.prog 115 0 0 := ⟨by kernel_rfl⟩
instance : TFldT Try.prog 115 1 1 28 := ⟨by kernel_rfl⟩
instance : TFld Try.prog 115 1 1 := ⟨by kernel_rfl⟩
instance : TFldT Try.prog 115 2 18 4 := ⟨by kernel_rfl⟩
instance : TFld Try.prog 115 2 18 := ⟨by kernel_rfl⟩
instance : TFldT Try.prog 115 3 19 68 := ⟨by kernel_rfl⟩
instance : TFld Try.prog 115 3 19 := ⟨by kernel_rfl⟩
instance : TLay Try.prog 115 [(0, 1), (1, 17), (18, 1), (19, 1)] := ⟨by kernel_rfl⟩
instance : TEl Try.prog 115 20 40 := ⟨by kernel_rfl⟩
instance : TEq Try.prog 115 [.i .i64, .i .u8, .i .u8, .i .u8, .i .u8, .i .u8, .i .u8, .i .u8, .i .u8, .i .u8, .i .u8, .i .u8, .i .u8, .i .u8, .i .u8, .i .u8, .i .u8, .i .i64, .b, .i .u16] := ⟨by kernel_rfl⟩
instance : TZero Try.prog 115 [.int .i64 0, .int .u8 0, .int .u8 0, .int .u8 0, .int .u8 0, .int .u8 0, .int .u8 0, .int .u8 0, .int .u8 0, .int .u8 0, .int .u8 0, .int .u8 0, .int .u8 0, .int .u8 0, .int .u8 0, .int .u8 0, .int .u8 0, .int .i64 0, .bool false, .int .u16 0] := ⟨by kernel_rfl⟩
instance : TSz Try.prog 116 20 := ⟨by kernel_rfl⟩
instance : TAgg Try.prog 116 20 := ⟨by kernel_rfl⟩
instance : TFldT Try.prog 116 0 0 3 := ⟨by kernel_rfl⟩
instance : TFld Try.prog 116 0 0 := ⟨by kernel_rfl⟩
instance : TFldT Try.prog 116 1 1 28 := ⟨by kernel_rfl⟩
instance : TFld Try.prog 116 1 1 := ⟨by kernel_rfl⟩
instance : TFldT Try.prog 116 2 18 4 := ⟨by kernel_rfl⟩
instance : TFld Try.prog 116 2 18 := ⟨by kernel_rfl⟩
instance : TFldT Try.prog 116 3 19 68 := ⟨by kernel_rfl⟩
instance : TFld Try.prog 116 3 19 := ⟨by kernel_rfl⟩
instance : TLay Try.prog 116 [(0, 1), (1, 17), (18, 1), (19, 1)] := ⟨by kernel_rfl⟩
instance : TEl Try.prog 116 20 40 := ⟨by kernel_rfl⟩
instance : TEq Try.prog 116 [.i .i64, .i .u8, .i .u8, .i .u8, .i .u8, .i .u8, .i .u8, .i .u8, .i .u8, .i .u8, .i .u8, .i .u8, .i .u8, .i .u8, .i .u8, .i .u8, .i .u8, .i .i64, .b, .i .u16] := ⟨by kernel_rfl⟩
instance : TZero Try.prog 116 [.int .i64 0, .int .u8 0, .int .u8 0, .int .u8 0, .int .u8 0, .int .u8 0, .int .u8 0, .int .u8 0, .int .u8 0, .int .u8 0, .int .u8 0, .int .u8 0, .int .u8 0, .int .u8 0, .int .u8 0, .int .u8 0, .int .u8 0, .int .i64 0, .bool false, .int .u16 0] := ⟨by kernel_rfl⟩
instance : TOne Try.prog 117 := ⟨by kernel_rfl⟩
instance : TSz Try.prog 117 1 := ⟨by kernel_rfl⟩
instance : TZero Try.prog 117 [.nilFunc] := ⟨by kernel_rfl⟩
instance : TOne Try.prog 118 := ⟨by kernel_rfl⟩
instance : TSz Try.prog 118 1 := ⟨by kernel_rfl⟩
instance : TZero Try.prog 118 [.nilFunc] := ⟨by kernel_rfl⟩
instance : TOne Try.prog 119 := ⟨by kernel_rfl⟩
instance : TSz Try.prog 119 1 := ⟨by kernel_rfl⟩
instance : TZero Try.prog 119 [.nilFunc] := ⟨by kernel_rfl⟩
instance : TU Try.prog 120 (TypeDesc.array 16 4) := ⟨Try.underlying120⟩
instance : TSz Try.prog 120 16 := ⟨by kernel_rfl⟩
instance : TAgg Try.prog 120 16 := ⟨by kernel_rfl⟩
instance : TLay Try.prog 120 [(0, 1), (1, 1), (2, 1), (3, 1), (4, 1), (5, 1), (6, 1), (7, 1), (8, 1), (9, 1), (10, 1), (11, 1), (12, 1), (13, 1), (14, 1), (15, 1)] := ⟨by kernel_rfl⟩
instance : TEl Try.prog 120 16 16 := ⟨by kernel_rfl⟩
instance : TEq Try.prog 120 [.b, .b, .b, .b, .b, .b, .b, .b, .b, .b, .b, .b, .b, .b, .b, .b] := ⟨by kernel_rfl⟩
instance : TZero Try.prog 120 [.bool false, .bool false, .bool false, .bool false, .bool false, .bool false, .bool false, .bool false, .bool false, .bool false, .bool false, .bool false, .bool false, .bool false, .bool false, .bool false] := ⟨by kernel_rfl⟩
instance : TOne Try.prog 121 := ⟨by kernel_rfl⟩
instance : TSz Try.prog 121 1 := ⟨by kernel_rfl⟩
instance : TZero Try.prog 121 [.nilFunc] := ⟨by kernel_rfl⟩
instance : TOne Try.prog 122 := ⟨by kernel_rfl⟩
instance : TSz Try.prog 122 1 := ⟨by kernel_rfl⟩
instance : TZero Try.prog 122 [.nilFunc] := ⟨by kernel_rfl⟩
instance : TU Try.prog 123 (TypeDesc.slice 125) := ⟨Try.underlying123⟩
instance : TSz Try.prog 123 1 := ⟨by kernel_rfl⟩
instance : TOne Try.prog 123 := ⟨by kernel_rfl⟩
instance : TEl Try.prog 123 1 24 := ⟨by kernel_rfl⟩
instance : TNI Try.prog 123 := ⟨by kernel_rfl⟩
instance : TZero Try.prog 123 [.slice none 0 0] := ⟨by kernel_rfl⟩
instance : TSz Try.prog 124 20 := ⟨by kernel_rfl⟩
instance : TAgg Try.prog 124 20 := ⟨by kernel_rfl⟩
instance : TFldT Try.prog 124 0 0 3 := ⟨by kernel_rfl⟩
instance : TFld Try.prog 124 0 0 := ⟨by kernel_rfl⟩
instance : TFldT Try.prog 124 1 1 28 := ⟨by kernel_rfl⟩
instance : TFld Try.prog 124 1 1 := ⟨by kernel_rfl⟩
instance : TFldT Try.prog 124 2 18 4 := ⟨by kernel_rfl⟩
instance : TFld Try.prog 124 2 18 := ⟨by kernel_rfl⟩
instance : TFldT Try.prog 124 3 19 3 := ⟨by kernel_rfl⟩
instance : TFld Try.prog 124 3 19 := ⟨by kernel_rfl⟩
instance : TLay Try.prog 124 [(0, 1), (1, 17), (18, 1), (19, 1)] := ⟨by kernel_rfl⟩
instance : TEl Try.prog 124 20 48 := ⟨by kernel_rfl⟩
instance : TEq Try.prog 124 [.i .i64, .i .u8, .i .u8, .i .u8, .i .u8, .i .u8, .i .u8, .i .u8, .i .u8, .i .u8, .i .u8, .i .u8, .i .u8, .i .u8, .i .u8, .i .u8, .i .u8, .i .i64, .b, .i .i64] := ⟨by kernel_rfl⟩
instance : TZero Try.prog 124 [.int .i64 0, .int .u8 0, .int .u8 0, .int .u8 0, .int .u8 0, .int .u8 0, .int .u8 0, .int .u8 0, .int .u8 0, .int .u8 0, .int .u8 0, .int .u8 0, .int .u8 0, .int .u8 0, .int .u8 0, .int .u8 0, .int .u8 0, .int .i64 0, .bool false, .int .i64 0] := ⟨by kernel_rfl⟩
instance : TSz Try.prog 125 20 := ⟨by kernel_rfl⟩
instance : TAgg Try.prog 125 20 := ⟨by kernel_rfl⟩
instance : TFldT Try.prog 125 0 0 3 := ⟨by kernel_rfl⟩
instance : TFld Try.prog 125 0 0 := ⟨by kernel_rfl⟩
instance : TFldT Try.prog 125 1 1 28 := ⟨by kernel_rfl⟩
instance : TFld Try.prog 125 1 1 := ⟨by kernel_rfl⟩
instance : TFldT Try.prog 125 2 18 4 := ⟨by kernel_rfl⟩
instance : TFld Try.prog 125 2 18 := ⟨by kernel_rfl⟩
instance : TFldT Try.prog 125 3 19 3 := ⟨by kernel_rfl⟩
instance : TFld Try.prog 125 3 19 := ⟨by kernel_rfl⟩
instance : TLay Try.prog 125 [(0, 1), (1, 17), (18, 1), (19, 1)] := ⟨by kernel_rfl⟩
instance : TEl Try.prog 125 20 48 := ⟨by kernel_rfl⟩
instance : TEq Try.prog 125 [.i .i64, .i .u8, .i .u8, .i .u8, .i .u8, .i .u8, .i .u8, .i .u8, .i .u8, .i .u8, .i .u8, .i .u8, .i .u8, .i .u8, .i .u8, .i .u8, .i .u8, .i .i64, .b, .i .i64] := ⟨by kernel_rfl⟩
instance : TZero Try.prog 125 [.int .i64 0, .int .u8 0, .int .u8 0, .int .u8 0, .int .u8 0, .int .u8 0, .int .u8 0, .int .u8 0, .int .u8 0, .int .u8 0, .int .u8 0, .int .u8 0, .int .u8 0, .int .u8 0, .int .u8 0, .int .u8 0, .int .u8 0, .int .i64 0, .bool false, .int .i64 0] := ⟨by kernel_rfl⟩
instance : TOne Try.prog 126 := ⟨by kernel_rfl⟩
instance : TSz Try.prog 126 1 := ⟨by kernel_rfl⟩
instance : TZero Try.prog 126 [.nilFunc] := ⟨by kernel_rfl⟩
instance : TOne Try.prog 128 := ⟨by kernel_rfl⟩
instance : TSz Try.prog 128 1 := ⟨by kernel_rfl⟩
instance : TZero Try.prog 128 [.nilFunc] := ⟨by kernel_rfl⟩
instance : TOne Try.prog 129 := ⟨by kernel_rfl⟩
instance : TSz Try.prog 129 1 := ⟨by kernel_rfl⟩
instance : TZero Try.prog 129 [.nilFunc] := ⟨by kernel_rfl⟩
instance : TU Try.prog 130 (TypeDesc.slice 5) := ⟨Try.underlying130⟩
instance : TSz Try.prog 130 1 := ⟨by kernel_rfl⟩
instance : TOne Try.prog 130 := ⟨by kernel_rfl⟩
instance : TEl Try.prog 130 1 24 := ⟨by kernel_rfl⟩
instance : TNI Try.prog 130 := ⟨by kernel_rfl⟩
instance : TZero Try.prog 130 [.slice none 0 0] := ⟨by kernel_rfl⟩
instance : TOne Try.prog 131 := ⟨by kernel_rfl⟩
instance : TSz Try.prog 131 1 := ⟨by kernel_rfl⟩
instance : TZero Try.prog 131 [.nilFunc] := ⟨by kernel_rfl⟩
instance : TOne Try.prog 132 := ⟨by kernel_rfl⟩
instance : TSz Try.prog 132 1 := ⟨by kernel_rfl⟩
instance : TZero Try.prog 132 [.nilFunc] := ⟨by kernel_rfl⟩
instance : TOne Try.prog 133 := ⟨by kernel_rfl⟩
instance : TSz Try.prog 133 1 := ⟨by kernel_rfl⟩
instance : TZero Try.prog 133 [.nilFunc] := ⟨by kernel_rfl⟩
instance : TOne Try.prog 134 := ⟨by kernel_rfl⟩
instance : TSz Try.prog 134 1 := ⟨by kernel_rfl⟩
instance : TZero Try.prog 134 [.nilFunc] := ⟨by kernel_rfl⟩
instance : TOne Try.prog 136 := ⟨by kernel_rfl⟩
instance : TSz Try.prog 136 1 := ⟨by kernel_rfl⟩
instance : TZero Try.prog 136 [.nilFunc] := ⟨by kernel_rfl⟩
instance : TOne Try.prog 138 := ⟨by kernel_rfl⟩
instance : TSz Try.prog 138 1 := ⟨by kernel_rfl⟩
instance : TZero Try.prog 138 [.nilFunc] := ⟨by kernel_rfl⟩
instance : TOne Try.prog 139 := ⟨by kernel_rfl⟩
instance : TSz Try.prog 139 1 := ⟨by kernel_rfl⟩
instance : TZero Try.prog 139 [.nilFunc] := ⟨by kernel_rfl⟩
instance : TOne Try.prog 140 := ⟨by kernel_rfl⟩
instance : TSz Try.prog 140 1 := ⟨by kernel_rfl⟩
instance : TZero Try.prog 140 [.nilFunc] := ⟨by kernel_rfl⟩
instance : TOne Try.prog 141 := ⟨by kernel_rfl⟩
instance : TSz Try.prog 141 1 := ⟨by kernel_rfl⟩
instance : TZero Try.prog 141 [.nilFunc] := ⟨by kernel_rfl⟩
instance : TOne Try.prog 142 := ⟨by kernel_rfl⟩
instance : TSz Try.prog 142 1 := ⟨by kernel_rfl⟩
instance : TZero Try.prog 142 [.nilFunc] := ⟨by kernel_rfl⟩
instance : TOne Try.prog 143 := ⟨by kernel_rfl⟩
instance : TSz Try.prog 143 1 := ⟨by kernel_rfl⟩
instance : TZero Try.prog 143 [.nilFunc] := ⟨by kernel_rfl⟩
instance : TOne Try.prog 144 := ⟨by kernel_rfl⟩
instance : TSz Try.prog 144 1 := ⟨by kernel_rfl⟩
instance : TZero Try.prog 144 [.nilFunc] := ⟨by kernel_rfl⟩
instance : TOne Try.prog 145 := ⟨by kernel_rfl⟩
instance : TSz Try.prog 145 1 := ⟨by kernel_rfl⟩
instance : TZero Try.prog 145 [.nilFunc] := ⟨by kernel_rfl⟩
instance : TOne Try.prog 146 := ⟨by kernel_rfl⟩
instance : TSz Try.prog 146 1 := ⟨by kernel_rfl⟩
instance : TZero Try.prog 146 [.nilFunc] := ⟨by kernel_rfl⟩
instance : TOne Try.prog 147 := ⟨by kernel_rfl⟩
instance : TSz Try.prog 147 1 := ⟨by kernel_rfl⟩
instance : TZero Try.prog 147 [.nilFunc] := ⟨by kernel_rfl⟩
instance : TOne Try.prog 148 := ⟨by kernel_rfl⟩
instance : TSz Try.prog 148 1 := ⟨by kernel_rfl⟩
instance : TZero Try.prog 148 [.nilFunc] := ⟨by kernel_rfl⟩
instance : TOne Try.prog 149 := ⟨by kernel_rfl⟩
instance : TSz Try.prog 149 1 := ⟨by kernel_rfl⟩
instance : TZero Try.prog 149 [.nilFunc] := ⟨by kernel_rfl⟩
instance : TOne Try.prog 150 := ⟨by kernel_rfl⟩
instance : TSz Try.prog 150 1 := ⟨by kernel_rfl⟩
instance : TZero Try.prog 150 [.nilFunc] := ⟨by kernel_rfl⟩
instance : TOne Try.prog 151 := ⟨by kernel_rfl⟩
instance : TSz Try.prog 151 1 := ⟨by kernel_rfl⟩
instance : TZero Try.prog 151 [.nilFunc] := ⟨by kernel_rfl⟩
instance : TOne Try.prog 152 := ⟨by kernel_rfl⟩
instance : TSz Try.prog 152 1 := ⟨by kernel_rfl⟩
instance : TZero Try.prog 152 [.nilFunc] := ⟨by kernel_rfl⟩
instance : TOne Try.prog 153 := ⟨by kernel_rfl⟩
instance : TSz Try.prog 153 1 := ⟨by kernel_rfl⟩
instance : TZero Try.prog 153 [.nilFunc] := ⟨by kernel_rfl⟩
instance : TOne Try.prog 154 := ⟨by kernel_rfl⟩
instance : TSz Try.prog 154 1 := ⟨by kernel_rfl⟩
instance : TZero Try.prog 154 [.nilFunc] := ⟨by kernel_rfl⟩
instance : TOne Try.prog 155 := ⟨by kernel_rfl⟩
instance : TSz Try.prog 155 1 := ⟨by kernel_rfl⟩
instance : TZero Try.prog 155 [.nilFunc] := ⟨by kernel_rfl⟩
instance : TU Try.prog 156 (TypeDesc.int IntKind.i64) := ⟨Try.underlying156⟩
instance : TSz Try.prog 156 1 := ⟨by kernel_rfl⟩
instance : TOne Try.prog 156 := ⟨by kernel_rfl⟩
instance : TEl Try.prog 156 1 8 := ⟨by kernel_rfl⟩
instance : TZero Try.prog 156 [.int .i64 0] := ⟨by kernel_rfl⟩
instance : TOne Try.prog 158 := ⟨by kernel_rfl⟩
instance : TSz Try.prog 158 1 := ⟨by kernel_rfl⟩
instance : TZero Try.prog 158 [.nilFunc] := ⟨by kernel_rfl⟩
instance : TOne Try.prog 159 := ⟨by kernel_rfl⟩
instance : TSz Try.prog 159 1 := ⟨by kernel_rfl⟩
instance : TZero Try.prog 159 [.nilFunc] := ⟨by kernel_rfl⟩
instance : TOne Try.prog 160 := ⟨by kernel_rfl⟩
instance : TSz Try.prog 160 1 := ⟨by kernel_rfl⟩
instance : TZero Try.prog 160 [.nilFunc] := ⟨by kernel_rfl⟩
instance : TOne Try.prog 161 := ⟨by kernel_rfl⟩
instance : TSz Try.prog 161 1 := ⟨by kernel_rfl⟩
instance : TZero Try.prog 161 [.nilFunc] := ⟨by kernel_rfl⟩
instance : TOne Try.prog 162 := ⟨by kernel_rfl⟩
instance : TSz Try.prog 162 1 := ⟨by kernel_rfl⟩
instance : TZero Try.prog 162 [.nilFunc] := ⟨by kernel_rfl⟩
instance : TOne Try.prog 163 := ⟨by kernel_rfl⟩
instance : TSz Try.prog 163 1 := ⟨by kernel_rfl⟩
instance : TZero Try.prog 163 [.nilFunc] := ⟨by kernel_rfl⟩
instance : TU Try.prog 164 (TypeDesc.int IntKind.u64) := ⟨Try.underlying164⟩
instance : TSz Try.prog 164 1 := ⟨by kernel_rfl⟩
instance : TOne Try.prog 164 := ⟨by kernel_rfl⟩
instance : TEl Try.prog 164 1 8 := ⟨by kernel_rfl⟩
instance : TZero Try.prog 164 [.int .u64 0] := ⟨by kernel_rfl⟩
instance : TOne Try.prog 165 := ⟨by kernel_rfl⟩
instance : TSz Try.prog 165 1 := ⟨by kernel_rfl⟩
instance : TZero Try.prog 165 [.nilFunc] := ⟨by kernel_rfl⟩
instance : TOne Try.prog 166 := ⟨by kernel_rfl⟩
instance : TSz Try.prog 166 1 := ⟨by kernel_rfl⟩
instance : TZero Try.prog 166 [.nilFunc] := ⟨by kernel_rfl⟩
instance : TU Try.prog 167 (TypeDesc.pointer 3) := ⟨Try.underlying167⟩
instance : TSz Try.prog 167 1 := ⟨by kernel_rfl⟩
instance : TOne Try.prog 167 := ⟨by kernel_rfl⟩
instance : TEl Try.prog 167 1 8 := ⟨by kernel_rfl⟩
instance : TZero Try.prog 167 [.pointer none] := ⟨by kernel_rfl⟩
instance : TOne Try.prog 168 := ⟨by kernel_rfl⟩
instance : TSz Try.prog 168 1 := ⟨by kernel_rfl⟩
instance : TZero Try.prog 168 [.nilFunc] := ⟨by kernel_rfl⟩
instance : TU Try.prog 169 (TypeDesc.pointer 164) := ⟨Try.underlying169⟩
instance : TSz Try.prog 169 1 := ⟨by kernel_rfl⟩
instance : TOne Try.prog 169 := ⟨by kernel_rfl⟩
instance : TEl Try.prog 169 1 8 := ⟨by kernel_rfl⟩
instance : TZero Try.prog 169 [.pointer none] := ⟨by kernel_rfl⟩
instance : TOne Try.prog 171 := ⟨by kernel_rfl⟩
instance : TSz Try.prog 171 1 := ⟨by kernel_rfl⟩
instance : TZero Try.prog 171 [.nilFunc] := ⟨by kernel_rfl⟩
instance : TOne Try.prog 172 := ⟨by kernel_rfl⟩
instance : TSz Try.prog 172 1 := ⟨by kernel_rfl⟩
instance : TZero Try.prog 172 [.nilFunc] := ⟨by kernel_rfl⟩
instance : TSz Try.prog 173 4 := ⟨by kernel_rfl⟩
instance : TAgg Try.prog 173 4 := ⟨by kernel_rfl⟩
instance : TFldT Try.prog 173 0 0 17 := ⟨by kernel_rfl⟩
instance : TFld Try.prog 173 0 0 := ⟨by kernel_rfl⟩
instance : TFldT Try.prog 173 1 1 17 := ⟨by kernel_rfl⟩
instance : TFld Try.prog 173 1 1 := ⟨by kernel_rfl⟩
instance : TFldT Try.prog 173 2 2 17 := ⟨by kernel_rfl⟩
instance : TFld Try.prog 173 2 2 := ⟨by kernel_rfl⟩
instance : TFldT Try.prog 173 3 3 9 := ⟨by kernel_rfl⟩
instance : TFld Try.prog 173 3 3 := ⟨by kernel_rfl⟩
instance : TLay Try.prog 173 [(0, 1), (1, 1), (2, 1), (3, 1)] := ⟨by kernel_rfl⟩
instance : TEl Try.prog 173 4 40 := ⟨by kernel_rfl⟩
instance : TZero Try.prog 173 [.pointer none, .pointer none, .pointer none, .string .empty] := ⟨by kernel_rfl⟩
instance : TSz Try.prog 174 4 := ⟨by kernel_rfl⟩
instance : TAgg Try.prog 174 4 := ⟨by kernel_rfl⟩
instance : TFldT Try.prog 174 0 0 17 := ⟨by kernel_rfl⟩
instance : TFld Try.prog 174 0 0 := ⟨by kernel_rfl⟩
instance : TFldT Try.prog 174 1 1 17 := ⟨by kernel_rfl⟩
instance : TFld Try.prog 174 1 1 := ⟨by kernel_rfl⟩
instance : TFldT Try.prog 174 2 2 17 := ⟨by kernel_rfl⟩
instance : TFld Try.prog 174 2 2 := ⟨by kernel_rfl⟩
instance : TFldT Try.prog 174 3 3 9 := ⟨by kernel_rfl⟩
instance : TFld Try.prog 174 3 3 := ⟨by kernel_rfl⟩
instance : TLay Try.prog 174 [(0, 1), (1, 1), (2, 1), (3, 1)] := ⟨by kernel_rfl⟩
instance : TEl Try.prog 174 4 40 := ⟨by kernel_rfl⟩
instance : TZero Try.prog 174 [.pointer none, .pointer none, .pointer none, .string .empty] := ⟨by kernel_rfl⟩
instance : TU Try.prog 175 (TypeDesc.array 0 16) := ⟨Try.underlying175⟩
instance : TSz Try.prog 175 0 := ⟨by kernel_rfl⟩
instance : TAgg Try.prog 175 0 := ⟨by kernel_rfl⟩
instance : TLay Try.prog 175 [] := ⟨by kernel_rfl⟩
instance : TEl Try.prog 175 0 0 := ⟨by kernel_rfl⟩
instance : TSz Try.prog 176 0 := ⟨by kernel_rfl⟩
instance : TAgg Try.prog 176 0 := ⟨by kernel_rfl⟩
instance : TFldT Try.prog 176 0 0 175 := ⟨by kernel_rfl⟩
instance : TLay Try.prog 176 [(0, 0)] := ⟨by kernel_rfl⟩
instance : TEl Try.prog 176 0 0 := ⟨by kernel_rfl⟩
instance : TSz Try.prog 177 0 := ⟨by kernel_rfl⟩
instance : TAgg Try.prog 177 0 := ⟨by kernel_rfl⟩
instance : TFldT Try.prog 177 0 0 175 := ⟨by kernel_rfl⟩
instance : TLay Try.prog 177 [(0, 0)] := ⟨by kernel_rfl⟩
instance : TEl Try.prog 177 0 0 := ⟨by kernel_rfl⟩
instance : TOne Try.prog 178 := ⟨by kernel_rfl⟩
instance : TSz Try.prog 178 1 := ⟨by kernel_rfl⟩
instance : TZero Try.prog 178 [.nilFunc] := ⟨by kernel_rfl⟩
instance : TU Try.prog 179 (TypeDesc.int IntKind.u8) := ⟨Try.underlying179⟩
instance : TSz Try.prog 179 1 := ⟨by kernel_rfl⟩
instance : TOne Try.prog 179 := ⟨by kernel_rfl⟩
instance : TEl Try.prog 179 1 1 := ⟨by kernel_rfl⟩
instance : TZero Try.prog 179 [.int .u8 0] := ⟨by kernel_rfl⟩
instance : TU Try.prog 180 (TypeDesc.int IntKind.u8) := ⟨Try.underlying180⟩
instance : TSz Try.prog 180 1 := ⟨by kernel_rfl⟩
instance : TOne Try.prog 180 := ⟨by kernel_rfl⟩
instance : TEl Try.prog 180 1 1 := ⟨by kernel_rfl⟩
instance : TZero Try.prog 180 [.int .u8 0] := ⟨by kernel_rfl⟩
instance : TOne Try.prog 181 := ⟨by kernel_rfl⟩
instance : TSz Try.prog 181 1 := ⟨by kernel_rfl⟩
instance : TZero Try.prog 181 [.nilFunc] := ⟨by kernel_rfl⟩
instance : TU Try.prog 182 (TypeDesc.pointer 5) := ⟨Try.underlying182⟩
instance : TSz Try.prog 182 1 := ⟨by kernel_rfl⟩
instance : TOne Try.prog 182 := ⟨by kernel_rfl⟩
instance : TEl Try.prog 182 1 8 := ⟨by kernel_rfl⟩
instance : TZero Try.prog 182 [.pointer none] := ⟨by kernel_rfl⟩
instance : TU Try.prog 183 (TypeDesc.int IntKind.i32) := ⟨Try.underlying183⟩
instance : TSz Try.prog 183 1 := ⟨by kernel_rfl⟩
instance : TOne Try.prog 183 := ⟨by kernel_rfl⟩
instance : TEl Try.prog 183 1 4 := ⟨by kernel_rfl⟩
instance : TZero Try.prog 183 [.int .i32 0] := ⟨by kernel_rfl⟩
instance : TU Try.prog 184 (TypeDesc.int IntKind.i32) := ⟨Try.underlying184⟩
instance : TSz Try.prog 184 1 := ⟨by kernel_rfl⟩
instance : TOne Try.prog 184 := ⟨by kernel_rfl⟩
instance : TEl Try.prog 184 1 4 := ⟨by kernel_rfl⟩
instance : TZero Try.prog 184 [.int .i32 0] := ⟨by kernel_rfl⟩
instance : TSz Try.prog 185 11 := ⟨by kernel_rfl⟩
instance : TAgg Try.prog 185 11 := ⟨by kernel_rfl⟩
instance : TFldT Try.prog 185 0 0 12 := ⟨by kernel_rfl⟩
instance : TFld Try.prog 185 0 0 := ⟨by kernel_rfl⟩
instance : TFldT Try.prog 185 1 1 12 := ⟨by kernel_rfl⟩
instance : TFld Try.prog 185 1 1 := ⟨by kernel_rfl⟩
instance : TFldT Try.prog 185 2 2 74 := ⟨by kernel_rfl⟩
instance : TFld Try.prog 185 2 2 := ⟨by kernel_rfl⟩
instance : TFldT Try.prog 185 3 3 179 := ⟨by kernel_rfl⟩
instance : TFld Try.prog 185 3 3 := ⟨by kernel_rfl⟩
instance : TFldT Try.prog 185 4 4 5 := ⟨by kernel_rfl⟩
instance : TFld Try.prog 185 4 4 := ⟨by kernel_rfl⟩
instance : TFldT Try.prog 185 5 5 5 := ⟨by kernel_rfl⟩
instance : TFld Try.prog 185 5 5 := ⟨by kernel_rfl⟩
instance : TFldT Try.prog 185 6 6 180 := ⟨by kernel_rfl⟩
instance : TFld Try.prog 185 6 6 := ⟨by kernel_rfl⟩
instance : TFldT Try.prog 185 7 7 181 := ⟨by kernel_rfl⟩
instance : TFld Try.prog 185 7 7 := ⟨by kernel_rfl⟩
instance : TFldT Try.prog 185 8 8 182 := ⟨by kernel_rfl⟩
instance : TFld Try.prog 185 8 8 := ⟨by kernel_rfl⟩
instance : TFldT Try.prog 185 9 9 183 := ⟨by kernel_rfl⟩
instance : TFld Try.prog 185 9 9 := ⟨by kernel_rfl⟩
instance : TFldT Try.prog 185 10 10 184 := ⟨by kernel_rfl⟩
instance : TFld Try.prog 185 10 10 := ⟨by kernel_rfl⟩
instance : TLay Try.prog 185 [(0, 1), (1, 1), (2, 1), (3, 1), (4, 1), (5, 1), (6, 1), (7, 1), (8, 1), (9, 1), (10, 1)] := ⟨by kernel_rfl⟩
instance : TEl Try.prog 185 11 48 := ⟨by kernel_rfl⟩
instance : TZero Try.prog 185 [.int .u64 0, .int .u64 0, .int .u32 0, .int .u8 0, .int .u8 0, .int .u8 0, .int .u8 0, .nilFunc, .pointer none, .int .i32 0, .int .i32 0] := ⟨by kernel_rfl⟩
instance : TSz Try.prog 186 11 := ⟨by kernel_rfl⟩
instance : TAgg Try.prog 186 11 := ⟨by kernel_rfl⟩
instance : TFldT Try.prog 186 0 0 12 := ⟨by kernel_rfl⟩
instance : TFld Try.prog 186 0 0 := ⟨by kernel_rfl⟩
instance : TFldT Try.prog 186 1 1 12 := ⟨by kernel_rfl⟩
instance : TFld Try.prog 186 1 1 := ⟨by kernel_rfl⟩
instance : TFldT Try.prog 186 2 2 74 := ⟨by kernel_rfl⟩
instance : TFld Try.prog 186 2 2 := ⟨by kernel_rfl⟩
instance : TFldT Try.prog 186 3 3 179 := ⟨by kernel_rfl⟩
instance : TFld Try.prog 186 3 3 := ⟨by kernel_rfl⟩
instance : TFldT Try.prog 186 4 4 5 := ⟨by kernel_rfl⟩
instance : TFld Try.prog 186 4 4 := ⟨by kernel_rfl⟩
instance : TFldT Try.prog 186 5 5 5 := ⟨by kernel_rfl⟩
instance : TFld Try.prog 186 5 5 := ⟨by kernel_rfl⟩
instance : TFldT Try.prog 186 6 6 180 := ⟨by kernel_rfl⟩
instance : TFld Try.prog 186 6 6 := ⟨by kernel_rfl⟩
instance : TFldT Try.prog 186 7 7 181 := ⟨by kernel_rfl⟩
instance : TFld Try.prog 186 7 7 := ⟨by kernel_rfl⟩
instance : TFldT Try.prog 186 8 8 182 := ⟨by kernel_rfl⟩
instance : TFld Try.prog 186 8 8 := ⟨by kernel_rfl⟩
instance : TFldT Try.prog 186 9 9 183 := ⟨by kernel_rfl⟩
instance : TFld Try.prog 186 9 9 := ⟨by kernel_rfl⟩
instance : TFldT Try.prog 186 10 10 184 := ⟨by kernel_rfl⟩
instance : TFld Try.prog 186 10 10 := ⟨by kernel_rfl⟩
instance : TLay Try.prog 186 [(0, 1), (1, 1), (2, 1), (3, 1), (4, 1), (5, 1), (6, 1), (7, 1), (8, 1), (9, 1), (10, 1)] := ⟨by kernel_rfl⟩
instance : TEl Try.prog 186 11 48 := ⟨by kernel_rfl⟩
instance : TZero Try.prog 186 [.int .u64 0, .int .u64 0, .int .u32 0, .int .u8 0, .int .u8 0, .int .u8 0, .int .u8 0, .nilFunc, .pointer none, .int .i32 0, .int .i32 0] := ⟨by kernel_rfl⟩
instance : TU Try.prog 187 (TypeDesc.unsafePointer) := ⟨Try.underlying187⟩
instance : TSz Try.prog 187 1 := ⟨by kernel_rfl⟩
instance : TOne Try.prog 187 := ⟨by kernel_rfl⟩
instance : TBody Try.prog 3 := ⟨by kernel_rfl⟩
instance : TBody Try.prog 4 := ⟨by kernel_rfl⟩
instance : TBody Try.prog 5 := ⟨by kernel_rfl⟩
instance : TBody Try.prog 6 := ⟨by kernel_rfl⟩
instance : TBody Try.prog 7 := ⟨by kernel_rfl⟩
instance : TBody Try.prog 8 := ⟨by kernel_rfl⟩
instance : TBody Try.prog 9 := ⟨by kernel_rfl⟩
instance : TBody Try.prog 10 := ⟨by kernel_rfl⟩
instance : TBody Try.prog 11 := ⟨by kernel_rfl⟩
instance : TBody Try.prog 12 := ⟨by kernel_rfl⟩
instance : TBody Try.prog 13 := ⟨by kernel_rfl⟩
instance : TBody Try.prog 14 := ⟨by kernel_rfl⟩
instance : TBody Try.prog 15 := ⟨by kernel_rfl⟩
instance : TBody Try.prog 16 := ⟨by kernel_rfl⟩
instance : TBody Try.prog 17 := ⟨by kernel_rfl⟩
instance : TBody Try.prog 18 := ⟨by kernel_rfl⟩
instance : TBody Try.prog 19 := ⟨by kernel_rfl⟩
instance : TBody Try.prog 20 := ⟨by kernel_rfl⟩
instance : TBody Try.prog 21 := ⟨by kernel_rfl⟩
instance : TBody Try.prog 22 := ⟨by kernel_rfl⟩
instance : TBody Try.prog 23 := ⟨by kernel_rfl⟩
instance : TBody Try.prog 24 := ⟨by kernel_rfl⟩
instance : TBody Try.prog 25 := ⟨by kernel_rfl⟩
instance : TBody Try.prog 26 := ⟨by kernel_rfl⟩
instance : TBody Try.prog 27 := ⟨by kernel_rfl⟩
instance : TBody Try.prog 28 := ⟨by kernel_rfl⟩
instance : TBody Try.prog 29 := ⟨by kernel_rfl⟩
instance : TBody Try.prog 30 := ⟨by kernel_rfl⟩
instance : TBody Try.prog 31 := ⟨by kernel_rfl⟩
instance : TBody Try.prog 32 := ⟨by kernel_rfl⟩
instance : TBody Try.prog 33 := ⟨by kernel_rfl⟩
instance : TBody Try.prog 34 := ⟨by kernel_rfl⟩
instance : TBody Try.prog 35 := ⟨by kernel_rfl⟩
instance : TBody Try.prog 36 := ⟨by kernel_rfl⟩
instance : TBody Try.prog 37 := ⟨by kernel_rfl⟩
instance : TBody Try.prog 38 := ⟨by kernel_rfl⟩
instance : TBody Try.prog 39 := ⟨by kernel_rfl⟩
instance : TBody Try.prog 40 := ⟨by kernel_rfl⟩
instance : TBody Try.prog 41 := ⟨by kernel_rfl⟩
instance : TBody Try.prog 42 := ⟨by kernel_rfl⟩
instance : TBody Try.prog 43 := ⟨by kernel_rfl⟩
instance : TBody Try.prog 44 := ⟨by kernel_rfl⟩
instance : TBody Try.prog 45 := ⟨by kernel_rfl⟩
instance : TBody Try.prog 46 := ⟨by kernel_rfl⟩
instance : TBody Try.prog 47 := ⟨by kernel_rfl⟩
instance : TBody Try.prog 48 := ⟨by kernel_rfl⟩
instance : TBody Try.prog 49 := ⟨by kernel_rfl⟩
instance : TBody Try.prog 50 := ⟨by kernel_rfl⟩
instance : TBody Try.prog 52 := ⟨by kernel_rfl⟩
instance : TBody Try.prog 53 := ⟨by kernel_rfl⟩
instance : TBody Try.prog 54 := ⟨by kernel_rfl⟩
instance : TBody Try.prog 55 := ⟨by kernel_rfl⟩
instance : TBody Try.prog 56 := ⟨by kernel_rfl⟩
instance : TBody Try.prog 57 := ⟨by kernel_rfl⟩
instance : TBody Try.prog 58 := ⟨by kernel_rfl⟩
instance : TBody Try.prog 59 := ⟨by kernel_rfl⟩
instance : TBody Try.prog 60 := ⟨by kernel_rfl⟩
instance : TBody Try.prog 61 := ⟨by kernel_rfl⟩
instance : TBody Try.prog 62 := ⟨by kernel_rfl⟩
instance : TBody Try.prog 63 := ⟨by kernel_rfl⟩
instance : TBody Try.prog 64 := ⟨by kernel_rfl⟩
instance : TBody Try.prog 65 := ⟨by kernel_rfl⟩
instance : TBody Try.prog 66 := ⟨by kernel_rfl⟩
instance : TBody Try.prog 67 := ⟨by kernel_rfl⟩
instance : TBody Try.prog 68 := ⟨by kernel_rfl⟩
instance : TBody Try.prog 69 := ⟨by kernel_rfl⟩
instance : TBody Try.prog 70 := ⟨by kernel_rfl⟩
instance : TBody Try.prog 71 := ⟨by kernel_rfl⟩
instance : TBody Try.prog 72 := ⟨by kernel_rfl⟩
instance : TBody Try.prog 73 := ⟨by kernel_rfl⟩
instance : TBody Try.prog 74 := ⟨by kernel_rfl⟩
instance : TBody Try.prog 75 := ⟨by kernel_rfl⟩
instance : TBody Try.prog 76 := ⟨by kernel_rfl⟩
instance : TBody Try.prog 77 := ⟨by kernel_rfl⟩
instance : TBody Try.prog 79 := ⟨by kernel_rfl⟩
instance : TBody Try.prog 80 := ⟨by kernel_rfl⟩
instance : TBody Try.prog 81 := ⟨by kernel_rfl⟩
instance : TBody Try.prog 82 := ⟨by kernel_rfl⟩
instance : TBody Try.prog 83 := ⟨by kernel_rfl⟩
instance : TBody Try.prog 84 := ⟨by kernel_rfl⟩
instance : TBody Try.prog 86 := ⟨by kernel_rfl⟩
instance : TBody Try.prog 87 := ⟨by kernel_rfl⟩
instance : TBody Try.prog 88 := ⟨by kernel_rfl⟩
instance : TBody Try.prog 89 := ⟨by kernel_rfl⟩
instance : TBody Try.prog 90 := ⟨by kernel_rfl⟩
instance : TBody Try.prog 91 := ⟨by kernel_rfl⟩
instance : TBody Try.prog 92 := ⟨by kernel_rfl⟩
instance : TBody Try.prog 93 := ⟨by kernel_rfl⟩
instance : TBody Try.prog 94 := ⟨by kernel_rfl⟩
instance : TBody Try.prog 95 := ⟨by kernel_rfl⟩
instance : TBody Try.prog 96 := ⟨by kernel_rfl⟩
instance : TBody Try.prog 97 := ⟨by kernel_rfl⟩
instance : TBody Try.prog 98 := ⟨by kernel_rfl⟩
instance : TBody Try.prog 100 := ⟨by kernel_rfl⟩
instance : TBody Try.prog 101 := ⟨by kernel_rfl⟩
instance : TBody Try.prog 102 := ⟨by kernel_rfl⟩
instance : TBody Try.prog 103 := ⟨by kernel_rfl⟩
instance : TBody Try.prog 104 := ⟨by kernel_rfl⟩
instance : TBody Try.prog 105 := ⟨by kernel_rfl⟩
instance : TBody Try.prog 106 := ⟨by kernel_rfl⟩
instance : TBody Try.prog 107 := ⟨by kernel_rfl⟩
instance : TBody Try.prog 108 := ⟨by kernel_rfl⟩
instance : TBody Try.prog 109 := ⟨by kernel_rfl⟩
instance : TBody Try.prog 110 := ⟨by kernel_rfl⟩
instance : TBody Try.prog 111 := ⟨by kernel_rfl⟩
instance : TBody Try.prog 112 := ⟨by kernel_rfl⟩
instance : TBody Try.prog 113 := ⟨by kernel_rfl⟩
instance : TBody Try.prog 114 := ⟨by kernel_rfl⟩
instance : TBody Try.prog 115 := ⟨by kernel_rfl⟩
instance : TBody Try.prog 116 := ⟨by kernel_rfl⟩
instance : TBody Try.prog 117 := ⟨by kernel_rfl⟩
instance : TBody Try.prog 118 := ⟨by kernel_rfl⟩
instance : TBody Try.prog 119 := ⟨by kernel_rfl⟩
instance : TBody Try.prog 120 := ⟨by kernel_rfl⟩
instance : TBody Try.prog 121 := ⟨by kernel_rfl⟩
instance : TBody Try.prog 122 := ⟨by kernel_rfl⟩
instance : TBody Try.prog 123 := ⟨by kernel_rfl⟩
instance : TBody Try.prog 124 := ⟨by kernel_rfl⟩
instance : TBody Try.prog 125 := ⟨by kernel_rfl⟩
instance : TBody Try.prog 126 := ⟨by kernel_rfl⟩
instance : TBody Try.prog 127 := ⟨by kernel_rfl⟩
instance : TBody Try.prog 128 := ⟨by kernel_rfl⟩
instance : TBody Try.prog 129 := ⟨by kernel_rfl⟩
instance : TBody Try.prog 130 := ⟨by kernel_rfl⟩
end Go.Proofs.Ytainnefmobfcjaa
/-! LibN -/
namespace Go.Proofs.Ytainnefmobfcjaa
set_option linter.unusedVariables false
set_option linter.unusedSimpArgs false
open Go.RowKit
theorem Cal.to {P : Program} {f : FuncId} {args : Array Value} {w : World} {v v' : Value} {E : World → Prop} (h : Cal P f args w fun x w' => x = v ∧ E w') (e : v = v') : Cal P f args w fun x w' => x = v' ∧ E w' := e ▸ h
theorem put_all {xs ys : List Value} (h : xs.length = ys.length) : put xs 0 ys = some ys := by
  rw [put_of _ _ _ (by omega)]
  simp [splice, ← h]
/-- A block that came in: it may be named, as long as it is not turned. -/
theorem Mem.came {S : List Nat} {W w : World} {l : List (Nat × Obj)} (M : Mem S W w l) (hw : w = W) {b : Nat} {o : Obj} (hb : W.heap[b]? = some o) (hS : b ∈ S) (hn : ∀ p ∈ l, p.1 ≠ b) : Mem S W w ((b, o) :: l) :=
  M.cons (by rw [hw]; exact hb) hn (.inl hS)
section
variable {P : Program} {ρ : Operand → Value} {w W0 : World} {S : List Nat} {l l' : List (Nat × Obj)} {R : Value → World → Prop} {d : Option Tmp} {ty : TypeId} {pos : String} {af : Array Edge} {g : Option (Nat × Bool)}
/-- make, of elements of one cell -/
theorem o_make1 {t e : TypeId} {x y : Operand} {k k' : IntKind} {n : Int} {by_ : Nat} {z : Value} [ht : TU P t (.slice e)] [hel : TEl P e 1 by_] [hz : TZero P e [z]] (M : Mem S W0 w l) (hx : ρ x = .int k n) (hy : ρ y = .int k' n) (h0 : 0 ≤ n) (hb : (by_ : Int) * n ≤ 281474976710656) (h63 : n ≤ 9223372036854775807)
    (h : ∀ b w', Mem S W0 w' ((b, .cells (List.replicate n.toNat z).toArray e (0, 0)) :: l) → R (.slice (some ⟨b, 0, none⟩) n.toNat n.toNat) w') : OpTo P ⟨d, .makeSlice t x y, ty, pos, af, g⟩ ρ w R := by
  obtain ⟨i, zz, hi, hs, rfl, hz0, hzs⟩ := elB_spec hel.h
  have hzc : zz.cells = #[z] := by
    have := hz.h
    unfold zeroC at this
    rw [hi] at this
    simpa [hz0] using this
  have hr := run_make (P := P) w t e i zz ht.h hi hz0 k k' n n h0 (Int.le_refl _) hb h63
  have hm : madeCells zz.cells (n.toNat * i.size) = (List.replicate n.toNat z).toArray := by
    rw [hs, hzc, Nat.mul_one]
    apply Array.ext'
    simp only [madeCells, Array.toList_map, Array.toList_range, List.size_toArray, List.length_cons, List.length_nil]
    apply List.ext_getElem (by simp)
    intro j h1 h2
    simp [Nat.mod_one]
  rw [hm] at hr
  refine OpTo.val (v := .slice (some ⟨w.heap.size, 0, none⟩) n.toNat n.toNat) (w' := w.alloc (.cells (List.replicate n.toNat z).toArray e)) ?_ (h _ _ (M.alloc _))
  simp [execOp, hx, hy, hr]
theorem run_copy {dT sT e : TypeId} {sz b o dLen dCap n : Nat} {xv : Value} {sLen : Nat} {cs cs' ys : List Value} {t' : TypeId} (hst : P.underlying dT = some (.slice e)) (hsz : sizeIs P e sz = true) (M : Mem S W0 w l) (hlen : (Builtin.lenOf xv).run P w = .ok sLen w) (hn : n = Nat.min sLen dLen)
    (hc : (Builtin.firstCells sz n xv).run P w = .ok ys.toArray w) (h1 : ∀ v ∈ ys, v.oneCell' = true) (hb : Has l b (.cells cs.toArray t' (0, 0))) (hp : put cs o ys = some cs') (hu : Upd l b (.cells cs.toArray t' (0, 0)) (.cells cs'.toArray t' (0, 0)) l') (tyy : TypeId) :
    ∃ w', (Builtin.copy_ #[dT, sT] tyy #[.slice (some ⟨b, o, none⟩) dLen dCap, xv]).run P w = .ok (.int .i64 n) w' ∧ Mem S W0 w' l' ∧ Ext [b] w w' := by
  obtain ⟨hle, rfl⟩ := put_splice _ _ _ _ hp
  obtain ⟨w', hr, he, hh⟩ := run_storeRow (P := P) (off := o) ys 0 cs w (M.heap hb) (by simpa using hle) h1
  refine ⟨w', ?_, M.turned hu he (by simpa using hh), he⟩
  subst hn
  simp [Builtin.copy_, run_underlying hst, hlen, run_sizeOf hsz, hc, hr, goInt]
/-- copy into a block of ours, out of a slice whose block is known -/
theorem o_copy {dT sT e : TypeId} {x y : Operand} {sz b o dLen dCap b' o' sLen sCap n : Nat} {cs cs' ds ys : List Value} {t' t'' : TypeId} {fz : Nat × Nat} [hst : TU P dT (.slice e)] [hsz : TSz P e sz] (M : Mem S W0 w l) (hx : ρ x = .slice (some ⟨b, o, none⟩) dLen dCap) (hy : ρ y = .slice (some ⟨b', o', none⟩) sLen sCap) (hn : n = Nat.min sLen dLen)
    (hs : Has l b' (.cells ds.toArray t'' fz)) (hv : seg ds o' (n * sz) = some ys) (h1 : ys.all (·.oneCell') = true) (hb : Has l b (.cells cs.toArray t' (0, 0))) (hp : put cs o ys = some cs') (hu : Upd l b (.cells cs.toArray t' (0, 0)) (.cells cs'.toArray t' (0, 0)) l')
    (h : ∀ w', Mem S W0 w' l' → R (.int .i64 n) w') : OpTo P ⟨d, .call ⟨.builtin .copy, #[x, y], #[dT, sT]⟩, ty, pos, af, g⟩ ρ w R := by
  have hsrc := (SrcOf.cells' (P := P) (m := n) (c := sCap) (sz := sz) (M.heap hs) hv h1).cells w.drawn
  have hc : (Builtin.firstCells sz n (.slice (some ⟨b', o', none⟩) sLen sCap)).run P w = .ok ys.toArray w := by
    simpa [Builtin.firstCells] using hsrc
  obtain ⟨w', hr, M', _⟩ := run_copy (sT := sT) (dLen := dLen) (dCap := dCap) (o := o) hst.h hsz.h M (by simp [Builtin.lenOf]) hn hc (fun v hv => List.all_eq_true.1 h1 v hv) hb hp hu ty
  exact OpTo.val (v := .int .i64 n) (w' := w') (by simp [execOp, resolve, invoke, builtin, hx, hy, hr]) (h _ M')
/-- copy out of the nil slice -/
theorem o_copyNil {dT sT e : TypeId} {x y : Operand} {sz : Nat} {p : Option Addr} {dLen dCap : Nat} [hst : TU P dT (.slice e)] [hsz : TSz P e sz] (hx : ρ x = .slice p dLen dCap) (hy : ρ y = .slice none 0 0) (h : R (.int .i64 0) w) : OpTo P ⟨d, .call ⟨.builtin .copy, #[x, y], #[dT, sT]⟩, ty, pos, af, g⟩ ρ w R := by
  refine OpTo.val (v := .int .i64 0) (w' := w) ?_ h
  cases p <;> simp [execOp, resolve, invoke, builtin, hx, hy, Builtin.copy_, run_underlying hst.h, Builtin.lenOf, run_sizeOf hsz.h, Builtin.firstCells, storeCells, goInt]
end
/-- a slice over the whole of a new block -/
def NewS (n0 len cap : Nat) (o : Obj) : Pred := fun v w => ∃ b, v = .slice (some ⟨b, 0, none⟩) len cap ∧ n0 ≤ b ∧ w.heap[b]? = some o
theorem NewS.stays (n0 len cap : Nat) (o : Obj) : Stays keepAll (NewS n0 len cap o) := fun v w w' ⟨b, h1, h2, h3⟩ h => ⟨b, h1, h2, by
  rw [Ext.block h b (Array.getElem?_eq_some_iff.1 h3).1 (by simp)]; exact h3⟩
theorem newS_of {w1 w w' : World} {len cap : Nat} {o : Obj} {x : Value} (E : Ext [] w1 w) (h : ∃ b, x = .slice (some ⟨b, 0, none⟩) len cap ∧ Mem [] w w' [(b, o)]) : Ext [] w w' ∧ NewS w1.heap.size len cap o x w' := by
  obtain ⟨b, rfl, N⟩ := h
  refine ⟨N.ext, b, rfl, ?_, N.heap .here⟩
  have := (N.own (b, o) (by simp)).resolve_left (by simp)
  exact Nat.le_trans E.size this
end Go.Proofs.Ytainnefmobfcjaa
/-! LibO -/
namespace Go.Proofs.Ytainnefmobfcjaa
set_option linter.unusedVariables false
set_option linter.unusedSimpArgs false
open Go.RowKit
section
variable {P : Program} {ρ : Operand → Value} {w W0 : World} {S : List Nat} {l l' : List (Nat × Obj)} {R : Value → World → Prop} {d : Option Tmp} {ty : TypeId} {pos : String} {af : Array Edge} {g : Option (Nat × Bool)}
theorem o_neqBF {t t' : TypeId} {x y : Operand} {p q : Bool} (hx : ρ x = .bool p) (hy : ρ y = .bool q) [ht : TU P t .bool] (he : p = q) (h : R (.bool false) w) : OpTo P ⟨d, .binOp .neq t x y t', ty, pos, af, g⟩ ρ w R := o_neqB hx hy (by subst he; cases p <;> exact h)
theorem o_eqlAT {t t' : TypeId} {x y : Operand} {ks : List LK} {xs ys : List Value} [ht : TEq P t ks] (hx : ρ x = .agg xs.toArray) (hy : ρ y = .agg ys.toArray) (fx : fitsK ks xs = true) (fy : fitsK ks ys = true) (he : eqVs xs ys = true) (h : R (.bool true) w) : OpTo P ⟨d, .binOp .eql t x y t', ty, pos, af, g⟩ ρ w R := o_eqlA hx hy fx fy (by rw [he]; exact h)
theorem o_eqlAF {t t' : TypeId} {x y : Operand} {ks : List LK} {xs ys : List Value} [ht : TEq P t ks] (hx : ρ x = .agg xs.toArray) (hy : ρ y = .agg ys.toArray) (fx : fitsK ks xs = true) (fy : fitsK ks ys = true) (he : eqVs xs ys = false) (h : R (.bool false) w) : OpTo P ⟨d, .binOp .eql t x y t', ty, pos, af, g⟩ ρ w R := o_eqlA hx hy fx fy (by rw [he]; exact h)
theorem o_neqAT {t t' : TypeId} {x y : Operand} {ks : List LK} {xs ys : List Value} [ht : TEq P t ks] (hx : ρ x = .agg xs.toArray) (hy : ρ y = .agg ys.toArray) (fx : fitsK ks xs = true) (fy : fitsK ks ys = true) (he : eqVs xs ys = false) (h : R (.bool true) w) : OpTo P ⟨d, .binOp .neq t x y t', ty, pos, af, g⟩ ρ w R := o_neqA hx hy fx fy (by rw [he]; exact h)
theorem o_neqAF {t t' : TypeId} {x y : Operand} {ks : List LK} {xs ys : List Value} [ht : TEq P t ks] (hx : ρ x = .agg xs.toArray) (hy : ρ y = .agg ys.toArray) (fx : fitsK ks xs = true) (fy : fitsK ks ys = true) (he : eqVs xs ys = true) (h : R (.bool false) w) : OpTo P ⟨d, .binOp .neq t x y t', ty, pos, af, g⟩ ρ w R := o_neqA hx hy fx fy (by rw [he]; exact h)
end
end Go.Proofs.Ytainnefmobfcjaa
/-! G1 -/
namespace Go.Proofs.Ytainnefmobfcjaa
set_option linter.unusedVariables false
set_option linter.unusedSimpArgs false
open Go.RowKit
section
set_option linter.unusedVariables false
set_option linter.unusedSimpArgs false
open Go.RowKit
attribute [local irreducible] OpTo wpListIn Code.wpIn MW Cal
def ipC (a : List Int) : List Value := a.map (Value.int .u8)
def clampB (b : Int) : Int := if 128 < (if b < 0 then 0 else b) then 128 else (if b < 0 then 0 else b)
def keepN (n i : Int) : Int := if 8 < (if n - 8 * i < 0 then 0 else n - 8 * i) then 8 else (if n - 8 * i < 0 then 0 else n - 8 * i)
/-- byte i of a, of which the first n bits of all stay -/
def maskAt (a : List Int) (n : Int) (i : Nat) : Int := bitsOf .andNot .u8 (a.getD i 0) (Int.fdiv 255 (2 ^ min (keepN n i).toNat 8))
def mrow (a : List Int) (n : Int) (i : Nat) : List Value := (List.range 16).map (fun j => if j < i then .int .u8 (maskAt a n j) else .int .u8 0) ++ [.int .i64 n]
theorem nth_ip {a : List Int} {i : Nat} (h : i < a.length) : nth (ipC a) (0 + (i : Int).toNat * 1) = some (.int .u8 (a.getD i 0)) := by
  rw [nth_spec]; simp [ipC, h]
theorem put1 {xs : List Value} {off q : Nat} (v : Value) (h : off = q) (hq : q < xs.length) : put xs off [v] = some (xs.set q v) := by
  subst h
  rw [put_of _ _ _ (by simp; omega)]
  congr 1
  have := splice_set xs off v [] hq
  simp only [splice, List.length_nil, List.nil_append, Nat.add_zero, List.take_append_drop] at this
  exact this.symm
theorem put_mrow {a : List Int} {n : Int} {i : Nat} (h : i < 16) : put (mrow a n i) (0 + 0 + (i : Int).toNat * 1) [.int .u8 (maskAt a n i)] = some (mrow a n (i + 1)) := by
  rw [put1 (q := i) _ (by omega) (by simp [mrow]; omega)]
  congr 1
  unfold mrow
  rw [List.set_append_left _ _ (by simpa using h)]
  congr 1
  apply List.ext_getElem (by simp)
  intro j h1 h2
  simp only [List.getElem_set, List.getElem_map, List.getElem_range]
  split
  · subst_vars; simp
  · have : j < i ↔ j < i + 1 := by omega
    simp [this]
set_option maxHeartbeats 400000 in
theorem mask_c (a : List Int) (ha : a.length = 16) (bits : Int) (W : World) :
    Cal Try.prog 80 [.agg (ipC a).toArray, .int .i64 bits].toArray W fun v w' => v = .agg (mrow a (clampB bits) 16).toArray ∧ Ext [] W w' := by
  obtain ⟨ip, rfl⟩ : ∃ ip, ip = a := ⟨_, rfl⟩
  refine fn_ofM (n := 33) [] Try.func80 rfl rfl rfl ?_
  intro a w F M hwW
  refine c_seq ?_
  refine c_region ?_
  (refine stepD rfl F rfl (o_box M (F.ev rfl) rfl ?_); clear F; clear M; intro b1 w M a F)
  (refine stepD rfl F rfl (o_alloc M ?_); clear F; clear M; intro b2 w M a F)
  with_reducible refine l_nil ?_
  with_reducible refine q_then ?_
  with_reducible refine c_seq ?_
  with_reducible refine c_region ?_
  refine stepD rfl F rfl (o_move (F.ev rfl) ?_); clear F; clear a; intro a F
  refine stepD rfl F rfl (o_max (F.ev rfl) (F.ev rfl) ?_); clear F; clear a; intro a F
  refine stepD rfl F rfl (o_min (F.ev rfl) (F.ev rfl) ?_); clear F; clear a; intro a F
  refine stepD rfl F rfl (o_build F rfl rfl ?_); clear F; clear a; intro a F
  (refine stepD rfl F rfl (o_alloc M ?_); clear F; clear M; intro b3 w M a F)
  (refine stepN rfl F (o_storeA M (F.ev rfl) (F.ev rfl) (by rfl) (by rfl) (by repeat (first | exact .here | apply Has.there)) (by rfl) (by repeat (first | exact .here | apply Upd.there)) ?_); clear F; clear M; intro w M a F)
  with_reducible refine l_nil ?_
  with_reducible refine q_then ?_
  with_reducible refine c_seq ?_
  with_reducible refine c_seq ?_
  with_reducible refine c_region ?_
  refine stepD rfl F rfl (o_move (F.ev rfl) ?_); clear F; clear a; intro a F
  with_reducible refine l_nil ?_
  with_reducible refine q_then ?_
  with_reducible refine c_block ?_
  refine c_loop (fun k a w => ∃ i : Nat, k = 16 - i ∧ i ≤ 16 ∧ Frm a 33 [] [(12, .int .i64 i), (5, .pointer (some ⟨b3, 0, none⟩)), (4, .pointer (some ⟨b2, 0, none⟩)), (2, .pointer (some ⟨b1, 0, none⟩))] ∧ Mem [] W w [(b3, .cells (mrow ip (clampB bits) i).toArray 28 (0, 0)), (b2, .cells #[.int .u8 0, .int .u8 0, .int .u8 0, .int .u8 0, .int .u8 0, .int .u8 0, .int .u8 0, .int .u8 0, .int .u8 0, .int .u8 0, .int .u8 0, .int .u8 0, .int .u8 0, .int .u8 0, .int .u8 0, .int .u8 0, .int .i64 0] 28 (0, 0)), (b1, .cells (ipC ip).toArray 26 (0, 0))]) 16 ⟨0, rfl, by omega, F.only [12, 5, 4, 2] rfl, M⟩ ?_
  clear F M
  have hcb : 0 ≤ clampB bits ∧ clampB bits ≤ 128 := by unfold clampB; split <;> (try split) <;> omega
  rintro k a w ⟨i, hk, hi, F, M⟩
  with_reducible refine c_seq ?_
  with_reducible refine c_region ?_
  refine stepD rfl F rfl (o_lss (F.ev rfl) (F.ev rfl) ?_); clear F; clear a; intro a F
  with_reducible refine l_nil ?_
  with_reducible refine q_then ?_
  with_reducible refine c_seq ?_
  refine c_if F rfl (fun hc => ?_) (fun hc => ?_)
  · replace hc := of_decide_eq_true hc
    have hlt : i < 16 := by omega
    with_reducible refine c_skip ?_
    with_reducible refine q_then ?_
    with_reducible refine c_seq ?_
    with_reducible refine c_block ?_
    with_reducible refine c_seq ?_
    with_reducible refine c_region ?_
    refine stepD rfl F rfl (o_move (F.ev rfl) ?_); clear F; clear a; intro a F
    refine stepD rfl F rfl (o_assign (F.ev rfl) ?_); clear F; clear a; intro a F
    with_reducible refine l_nil ?_
    with_reducible refine q_then ?_
    with_reducible refine c_seq ?_
    with_reducible refine c_region ?_
    refine stepD rfl F rfl (o_fieldAddr (F.ev rfl) ?_); clear F; clear a; intro a F
    refine stepD rfl F rfl (o_load1 M (F.ev rfl) (by repeat (first | exact .here | apply Has.there)) (by first | assumption | rfl) ?_); clear F; clear a; intro a F
    refine stepD rfl F rfl (o_move (F.ev rfl) ?_); clear F; clear a; intro a F
    refine stepD rfl F rfl (o_mul (F.ev rfl) (F.ev rfl) (w_i64 (by omega) (by omega)) ?_); clear F; clear a; intro a F
    refine stepD rfl F rfl (o_sub (F.ev rfl) (F.ev rfl) (w_i64 (by omega) (by omega)) ?_); clear F; clear a; intro a F
    refine stepD rfl F rfl (o_max (F.ev rfl) (F.ev rfl) ?_); clear F; clear a; intro a F
    refine stepD rfl F rfl (o_min (F.ev rfl) (F.ev rfl) ?_); clear F; clear a; intro a F
    refine stepD rfl F rfl (o_assign (F.ev rfl) ?_); clear F; clear a; intro a F
    with_reducible refine l_nil ?_
    with_reducible refine q_then ?_
    replace F := F.only [6, 7, 12, 5, 4, 2] rfl
    refine c_draw 9 F (by kernel_rfl) ?_
    intro w1 hE hok
    have M1 := M.later hE
    refine mK hok rfl rfl (fun a' w' F' E' => o_move (F'.ev rfl) ⟨Ext.refl _ _, rfl⟩) ?_
    refine mK hok rfl rfl (fun a' w' F' E' => o_move (F'.ev rfl) ⟨Ext.refl _ _, rfl⟩) ?_
    refine mK hok rfl rfl (fun a' w' F' E' => o_indexArr (F'.ev rfl) (F'.ev rfl) (by omega) (by omega) ⟨Ext.refl _ _, rfl⟩) ?_
    (refine mK hok rfl rfl (fun a' w' F' E' => o_load1 (M1.later E') (F'.ev rfl) (by repeat (first | exact .here | apply Has.there)) (nth_ip (a := ip) (i := i) (by omega)) ⟨Ext.refl _ _, rfl⟩) ?_)
    refine mK hok rfl rfl (fun a' w' F' E' => o_move (F'.ev rfl) ⟨Ext.refl _ _, rfl⟩) ?_
    refine mK hok rfl rfl (fun a' w' F' E' => o_shr (F'.ev rfl) (F'.ev rfl) (by omega) rfl ⟨Ext.refl _ _, rfl⟩) ?_
    refine mK hok rfl rfl (fun a' w' F' E' => o_andNot (F'.ev rfl) (F'.ev rfl) rfl ⟨Ext.refl _ _, rfl⟩) ?_
    refine mK hok rfl rfl (fun a' w' F' E' => o_fieldAddr (F'.ev rfl) ⟨Ext.refl _ _, rfl⟩) ?_
    refine mK hok rfl rfl (fun a' w' F' E' => o_indexArr (F'.ev rfl) (F'.ev rfl) (by omega) (by omega) ⟨Ext.refl _ _, rfl⟩) ?_
    (refine mDone rfl rfl ?_; clear F; clear M; intro a w F hE2 hX hTT hDD hPP; have M := M1.later hE2; clear M1; clear hX; clear hE2; clear hok; clear hE; clear hTT; clear hDD; clear hPP; (try dsimp only at F))
    (refine stepN rfl F (o_store1 M (F.ev rfl) (F.ev rfl) rfl (by repeat (first | exact .here | apply Has.there)) (put_mrow hlt) (by repeat (first | exact .here | apply Upd.there)) ?_); clear F; clear M; intro w M a F)
    with_reducible refine l_nil ?_
    with_reducible refine q_inB ?_
    with_reducible refine q_then ?_
    with_reducible refine c_region ?_
    refine stepD rfl F rfl (o_add (F.ev rfl) (F.ev rfl) (w_i64 (by omega) (by omega)) ?_); clear F; clear a; intro a F
    refine stepD rfl F rfl (o_move (F.ev rfl) ?_); clear F; clear a; intro a F
    with_reducible refine l_nil ?_
    with_reducible refine q_then ?_
    exact ⟨_, by omega, i + 1, rfl, by omega, F.only [12, 5, 4, 2] rfl, M⟩
  · replace hc := of_decide_eq_false hc
    obtain rfl : i = 16 := by omega
    with_reducible refine c_exit ?_
    with_reducible refine q_thenX ?_
    with_reducible refine q_thenX ?_
    with_reducible refine q_inBX ?_
    with_reducible refine q_then ?_
    with_reducible refine c_seq ?_
    with_reducible refine c_region ?_
    refine stepD rfl F rfl (o_loadA M (F.ev rfl) (by repeat (first | exact .here | apply Has.there)) (by first | assumption | rfl) ?_); clear F; clear a; intro a F
    (refine stepN rfl F (o_storeA M (F.ev rfl) (F.ev rfl) (by rfl) (by rfl) (by repeat (first | exact .here | apply Has.there)) (by rfl) (by repeat (first | exact .here | apply Upd.there)) ?_); clear F; clear M; intro w M a F)
    with_reducible refine l_nil ?_
    with_reducible refine q_then ?_
    with_reducible refine c_ret ?_
    refine p_ret (F.only [4] rfl) rfl (.cons (.cell (F.ev rfl) (run_loadVar_agg TAgg.h (M.heap (.there .here)) rfl)) .nil) ⟨rfl, M.ext⟩
end
section
set_option linter.unusedVariables false
set_option linter.unusedSimpArgs false
open Go.RowKit
attribute [local irreducible] OpTo wpListIn Code.wpIn MW Cal
/-- the variable that strings.Index looks at holds some number -/
def GM (W : World) : Prop := ∃ m : Int, W.cell? ⟨0, 0, none⟩ = some (.int .i64 m)
theorem GM.later {W w : World} (h : GM W) (e : Ext [] W w) : GM w := by
  obtain ⟨m, hm⟩ := h
  have hlt : 0 < W.heap.size := by
    have := block_lt_of_cell hm
    simpa using this
  exact ⟨m, by rw [World.cell?_of_block (w := W) (e.block 0 hlt (by simp))]; exact hm⟩
theorem ipC_set (L : List Int) (i : Nat) (x : Int) : ipC (L.set i x) = (ipC L).set i (.int .u8 x) := by simp [ipC, List.map_set]
end
section
set_option linter.unusedVariables false
set_option linter.unusedSimpArgs false
open Go.RowKit
attribute [local irreducible] OpTo wpListIn Code.wpIn MW Cal
structure IsIP (ip : List Int) : Prop where
  len : ip.length = 16
  bd : ∀ x ∈ ip, 0 ≤ x ∧ x < 256
theorem IsIP.at_ {ip : List Int} (h : IsIP ip) (i : Nat) : 0 ≤ ip.getD i 0 ∧ ip.getD i 0 < 256 := by
  rcases Nat.lt_or_ge i ip.length with hl | hl
  · rw [List.getD_eq_getElem?_getD, List.getElem?_eq_getElem hl]; exact h.bd _ (List.getElem_mem hl)
  · rw [List.getD_eq_getElem?_getD, List.getElem?_eq_none hl]; simp
theorem nth_ip2 {ip : List Int} (h : IsIP ip) {i n : Nat} (hi : i < 16) (hn : n = i) : nth (ipC ip) n = some (.int .u8 (ip.getD i 0)) := by
  subst hn
  have := h.len
  rw [nth_spec]; simp [ipC, List.getElem?_eq_getElem (show n < ip.length by omega)]
end
section
set_option linter.unusedVariables false
set_option linter.unusedSimpArgs false
open Go.RowKit
attribute [local irreducible] OpTo wpListIn Code.wpIn MW Cal
/-- what the table of math/bits holds for 16 -/
def GT (W : World) : Prop := W.cell? ⟨5, 15, none⟩ = some (.int .u8 4)
theorem cell_later {W w : World} {a : Addr} {v : Value} (h : W.cell? a = some v) (e : Ext [] W w) : w.cell? a = some v := by
  have hlt := block_lt_of_cell h
  rw [World.cell?_of_block (w := W) (e.block a.block hlt (by simp))]; exact h
theorem GT.later {W w : World} (h : GT W) (e : Ext [] W w) : GT w := cell_later h e
end
section
set_option linter.unusedVariables false
set_option linter.unusedSimpArgs false
open Go.RowKit
attribute [local irreducible] OpTo wpListIn Code.wpIn MW Cal
theorem len16 {l : List Int} (h : l.length = 16) : ∃ x0 x1 x2 x3 x4 x5 x6 x7 x8 x9 x10 x11 x12 x13 x14 x15 : Int, l = [x0, x1, x2, x3, x4, x5, x6, x7, x8, x9, x10, x11, x12, x13, x14, x15] :=
  match l, h with
  | [x0, x1, x2, x3, x4, x5, x6, x7, x8, x9, x10, x11, x12, x13, x14, x15], _ => ⟨x0, x1, x2, x3, x4, x5, x6, x7, x8, x9, x10, x11, x12, x13, x14, x15, rfl⟩
def maskI (a : List Int) (n : Int) : List Int := (List.range 16).map (maskAt a n)
def pfC (a : List Int) (n : Int) : List Value := ipC a ++ [.int .i64 n]
def validP (a : List Int) (n : Int) : Bool := decide (0 ≤ n) && decide (n ≤ 128) && (maskI a n == a)
theorem maskI_len (a : List Int) (n : Int) : (maskI a n).length = 16 := by simp [maskI]
theorem mrow_pf (a : List Int) (n : Int) : mrow a n 16 = pfC (maskI a n) n := by
  unfold mrow pfC maskI ipC
  rw [List.map_map]
  congr 1
theorem eqVs_ip : ∀ a b : List Int, a.length = b.length → eqVs (ipC a) (ipC b) = (a == b)
  | [], [], _ => rfl
  | x :: a, y :: b, h => by
    have := eqVs_ip a b (by simpa using h)
    simp only [ipC] at this
    simp [ipC, eqVs, eqV, this]
theorem eqVs_pf {a b : List Int} {n m : Int} (h : a.length = b.length) : eqVs (pfC a n) (pfC b m) = (a == b && n == m) := by
  unfold pfC
  rw [eqVs_append _ _ _ _ (by simp [ipC, h]), eqVs_ip a b h]
  simp [eqVs, eqV]
/-- the remainder that is not negative -/
def modI (a n : Int) : Int := if a.tmod n < 0 then a.tmod n + n else a.tmod n
theorem clamp_in {n : Int} (h0 : 0 ≤ n) (h1 : n ≤ 128) : clampB n = n := by unfold clampB; rw [if_neg (show ¬ n < 0 by omega), if_neg (by omega)]
theorem maskP_c (a : List Int) (ha : a.length = 16) (n : Int) (W : World) : Cal Try.prog 80 [.agg (ipC a).toArray, .int .i64 n].toArray W fun v w' => v = .agg (pfC (maskI a (clampB n)) (clampB n)).toArray ∧ Ext [] W w' :=
  (mask_c a ha n W).mono fun v w' h => ⟨by rw [h.1, mrow_pf], h.2⟩
theorem maskIn_c (a : List Int) (ha : a.length = 16) (n : Int) (h0 : 0 ≤ n) (h1 : n ≤ 128) (W : World) : Cal Try.prog 80 [.agg (ipC a).toArray, .int .i64 n].toArray W fun v w' => v = .agg (pfC (maskI a n) n).toArray ∧ Ext [] W w' :=
  (maskP_c a ha n W).mono fun v w' h => ⟨by rw [h.1, clamp_in h0 h1], h.2⟩
def pfK : List LK := [.i .u8, .i .u8, .i .u8, .i .u8, .i .u8, .i .u8, .i .u8, .i .u8, .i .u8, .i .u8, .i .u8, .i .u8, .i .u8, .i .u8, .i .u8, .i .u8, .i .i64]
theorem fits_pf {a : List Int} (ha : a.length = 16) (n : Int) : fitsK pfK (pfC a n) = true := by
  obtain ⟨x0, x1, x2, x3, x4, x5, x6, x7, x8, x9, x10, x11, x12, x13, x14, x15, rfl⟩ := len16 ha
  rfl
theorem seg_all {xs : List Value} {k : Nat} (h : xs.length = k) : seg xs 0 k = some xs := by
  have h1 := seg_of [] xs []
  rw [h] at h1
  simpa using h1
theorem pfC_len {a : List Int} (ha : a.length = 16) (n : Int) : (pfC a n).length = 17 := by simp [pfC, ipC, ha]
theorem ipC_len {a : List Int} (ha : a.length = 16) : (ipC a).length = 16 := by simp [ipC, ha]
theorem seg_pf {a : List Int} (ha : a.length = 16) (n : Int) : seg (pfC a n) 0 17 = some (pfC a n) := seg_all (pfC_len ha n)
theorem seg_pf0 {a : List Int} (ha : a.length = 16) (n : Int) : seg (pfC a n) 0 16 = some (ipC a) := by
  have h1 := seg_of [] (ipC a) [.int .i64 n]
  rw [ipC_len ha] at h1
  simpa [pfC] using h1
theorem nth_pf {a : List Int} (ha : a.length = 16) (n : Int) : nth (pfC a n) 16 = some (.int .i64 n) := by
  rw [nth_spec]; simp [pfC, ipC, ha]
set_option maxHeartbeats 2000000 in
theorem validPrefix_c (p : List Int) (n : Int) (hp : p.length = 16) (W : World) : Cal Try.prog 47 [.agg (pfC p n).toArray].toArray W fun v w' => v = .bool (validP p n) ∧ Ext [] W w' := by
  have e1 := seg_pf hp n
  have e2 := seg_pf0 hp n
  have e3 := nth_pf hp n
  have e4 := fits_pf hp n
  have e5 := fits_pf (maskI_len p n) n
  refine fn_ofM (n := 20) [] Try.func47 rfl rfl rfl ?_
  intro a w F M hwW
  refine c_seq ?_
  refine c_region ?_
  (refine stepD rfl F rfl (o_box M (F.ev rfl) rfl ?_); clear F; clear M; intro b1 w M a F)
  refine stepD rfl F rfl (o_assign (F.ev rfl) ?_); clear F; clear a; intro a F
  with_reducible refine l_nil ?_
  with_reducible refine q_then ?_
  with_reducible refine c_seq ?_
  replace F := F.only [1] rfl
  by_cases h0 : 0 ≤ n
  · by_cases h1 : n ≤ 128
    · refine c_draw 18 F (by kernel_rfl) ?_
      intro w1 hE hok
      have M1 := M.later hE
      refine mK hok rfl rfl (fun a' w' F' E' => o_fieldAddr (F'.ev rfl) ⟨Ext.refl _ _, rfl⟩) ?_
      refine mK hok rfl rfl (fun a' w' F' E' => o_load1 (M1.later E') (F'.ev rfl) (by repeat (first | exact .here | apply Has.there)) (by first | assumption | rfl) ⟨Ext.refl _ _, rfl⟩) ?_
      refine mK hok rfl rfl (fun a' w' F' E' => o_geqT (F'.ev rfl) (F'.ev rfl) (by omega) ⟨Ext.refl _ _, rfl⟩) ?_
      refine mK hok rfl rfl (fun a' w' F' E' => o_move (F'.ev rfl) ⟨Ext.refl _ _, rfl⟩) ?_
      refine mKG hok rfl rfl rfl rfl (fun a' w' F' E' => o_fieldAddr (F'.ev rfl) ⟨Ext.refl _ _, rfl⟩) ?_
      refine mKG hok rfl rfl rfl rfl (fun a' w' F' E' => o_load1 (M1.later E') (F'.ev rfl) (by repeat (first | exact .here | apply Has.there)) (by first | assumption | rfl) ⟨Ext.refl _ _, rfl⟩) ?_
      refine mKG hok rfl rfl rfl rfl (fun a' w' F' E' => o_leqT (F'.ev rfl) (F'.ev rfl) (by omega) ⟨Ext.refl _ _, rfl⟩) ?_
      refine mK hok rfl rfl (fun a' w' F' E' => o_pickT (F'.ev rfl) (F'.ev rfl) ⟨Ext.refl _ _, rfl⟩) ?_
      refine mK hok rfl rfl (fun a' w' F' E' => o_move (F'.ev rfl) ⟨Ext.refl _ _, rfl⟩) ?_
      refine mKG hok rfl rfl rfl rfl (fun a' w' F' E' => o_fieldAddr (F'.ev rfl) ⟨Ext.refl _ _, rfl⟩) ?_
      refine mKG hok rfl rfl rfl rfl (fun a' w' F' E' => o_loadA (M1.later E') (F'.ev rfl) (by repeat (first | exact .here | apply Has.there)) (by first | assumption | rfl) ⟨Ext.refl _ _, rfl⟩) ?_
      refine mKG hok rfl rfl rfl rfl (fun a' w' F' E' => o_fieldAddr (F'.ev rfl) ⟨Ext.refl _ _, rfl⟩) ?_
      refine mKG hok rfl rfl rfl rfl (fun a' w' F' E' => o_load1 (M1.later E') (F'.ev rfl) (by repeat (first | exact .here | apply Has.there)) (by first | assumption | rfl) ⟨Ext.refl _ _, rfl⟩) ?_
      (refine mKG hok rfl rfl rfl rfl (fun a' w' F' E' => o_call (F'.ev rfl) (F'.evs rfl) (Cal.mono (maskIn_c p hp n h0 h1 _) fun _ _ hh => ⟨hh.2, hh.1⟩)) ?_)
      refine mKG hok rfl rfl rfl rfl (fun a' w' F' E' => o_loadA (M1.later E') (F'.ev rfl) (by repeat (first | exact .here | apply Has.there)) (by first | assumption | rfl) ⟨Ext.refl _ _, rfl⟩) ?_
      refine mKG hok rfl rfl rfl rfl (fun a' w' F' E' => o_eqlA (F'.ev rfl) (F'.ev rfl) (by first | assumption | rfl) (by first | assumption | rfl) ⟨Ext.refl _ _, rfl⟩) ?_
      refine mK hok rfl rfl (fun a' w' F' E' => o_pickT (F'.ev rfl) (F'.ev rfl) ⟨Ext.refl _ _, rfl⟩) ?_
      refine mK hok rfl rfl (fun a' w' F' E' => o_assign (F'.ev rfl) ⟨Ext.refl _ _, rfl⟩) ?_
      (refine mDone rfl rfl ?_; clear F; clear M; intro a w F hE2 hX hTT hDD hPP; have M := M1.later hE2; clear M1; clear hX; clear hE2; clear hok; clear hE; clear hTT; clear hDD; clear hPP; (try dsimp only at F))
      with_reducible refine l_nil ?_
      with_reducible refine q_then ?_
      with_reducible refine c_ret ?_
      refine p_ret F rfl (.cons (.tmp (F.ev rfl)) .nil) ?_
      refine ⟨?_, M.ext⟩
      show Value.bool _ = Value.bool _
      rw [eqVs_pf (by rw [maskI_len, hp])]
      simp [validP, h0, h1]
    · refine c_draw 18 F (by kernel_rfl) ?_
      intro w1 hE hok
      have M1 := M.later hE
      refine mK hok rfl rfl (fun a' w' F' E' => o_fieldAddr (F'.ev rfl) ⟨Ext.refl _ _, rfl⟩) ?_
      refine mK hok rfl rfl (fun a' w' F' E' => o_load1 (M1.later E') (F'.ev rfl) (by repeat (first | exact .here | apply Has.there)) (by first | assumption | rfl) ⟨Ext.refl _ _, rfl⟩) ?_
      refine mK hok rfl rfl (fun a' w' F' E' => o_geqT (F'.ev rfl) (F'.ev rfl) (by omega) ⟨Ext.refl _ _, rfl⟩) ?_
      refine mK hok rfl rfl (fun a' w' F' E' => o_move (F'.ev rfl) ⟨Ext.refl _ _, rfl⟩) ?_
      refine mKG hok rfl rfl rfl rfl (fun a' w' F' E' => o_fieldAddr (F'.ev rfl) ⟨Ext.refl _ _, rfl⟩) ?_
      refine mKG hok rfl rfl rfl rfl (fun a' w' F' E' => o_load1 (M1.later E') (F'.ev rfl) (by repeat (first | exact .here | apply Has.there)) (by first | assumption | rfl) ⟨Ext.refl _ _, rfl⟩) ?_
      refine mKG hok rfl rfl rfl rfl (fun a' w' F' E' => o_leqF (F'.ev rfl) (F'.ev rfl) (by omega) ⟨Ext.refl _ _, rfl⟩) ?_
      refine mK hok rfl rfl (fun a' w' F' E' => o_pickT (F'.ev rfl) (F'.ev rfl) ⟨Ext.refl _ _, rfl⟩) ?_
      refine mK hok rfl rfl (fun a' w' F' E' => o_move (F'.ev rfl) ⟨Ext.refl _ _, rfl⟩) ?_
      refine mOff hok rfl rfl rfl rfl rfl ?_
      refine mOff hok rfl rfl rfl rfl rfl ?_
      refine mOff hok rfl rfl rfl rfl rfl ?_
      refine mOff hok rfl rfl rfl rfl rfl ?_
      refine mOff hok rfl rfl rfl rfl rfl ?_
      refine mOff hok rfl rfl rfl rfl rfl ?_
      refine mOff hok rfl rfl rfl rfl rfl ?_
      refine mK hok rfl rfl (fun a' w' F' E' => o_pickF (F'.ev rfl) (F'.ev rfl) ⟨Ext.refl _ _, rfl⟩) ?_
      refine mK hok rfl rfl (fun a' w' F' E' => o_assign (F'.ev rfl) ⟨Ext.refl _ _, rfl⟩) ?_
      (refine mDone rfl rfl ?_; clear F; clear M; intro a w F hE2 hX hTT hDD hPP; have M := M1.later hE2; clear M1; clear hX; clear hE2; clear hok; clear hE; clear hTT; clear hDD; clear hPP; (try dsimp only at F))
      with_reducible refine l_nil ?_
      with_reducible refine q_then ?_
      with_reducible refine c_ret ?_
      refine p_ret F rfl (.cons (.tmp (F.ev rfl)) .nil) ?_
      exact ⟨by show Value.bool _ = Value.bool _; simp [validP, h1], M.ext⟩
  · refine c_draw 18 F (by kernel_rfl) ?_
    intro w1 hE hok
    have M1 := M.later hE
    refine mK hok rfl rfl (fun a' w' F' E' => o_fieldAddr (F'.ev rfl) ⟨Ext.refl _ _, rfl⟩) ?_
    refine mK hok rfl rfl (fun a' w' F' E' => o_load1 (M1.later E') (F'.ev rfl) (by repeat (first | exact .here | apply Has.there)) (by first | assumption | rfl) ⟨Ext.refl _ _, rfl⟩) ?_
    refine mK hok rfl rfl (fun a' w' F' E' => o_geqF (F'.ev rfl) (F'.ev rfl) (by omega) ⟨Ext.refl _ _, rfl⟩) ?_
    refine mK hok rfl rfl (fun a' w' F' E' => o_move (F'.ev rfl) ⟨Ext.refl _ _, rfl⟩) ?_
    refine mOff hok rfl rfl rfl rfl rfl ?_
    refine mOff hok rfl rfl rfl rfl rfl ?_
    refine mOff hok rfl rfl rfl rfl rfl ?_
    refine mK hok rfl rfl (fun a' w' F' E' => o_pickF (F'.ev rfl) (F'.ev rfl) ⟨Ext.refl _ _, rfl⟩) ?_
    refine mK hok rfl rfl (fun a' w' F' E' => o_move (F'.ev rfl) ⟨Ext.refl _ _, rfl⟩) ?_
    refine mOff hok rfl rfl rfl rfl rfl ?_
    refine mOff hok rfl rfl rfl rfl rfl ?_
    refine mOff hok rfl rfl rfl rfl rfl ?_
    refine mOff hok rfl rfl rfl rfl rfl ?_
    refine mOff hok rfl rfl rfl rfl rfl ?_
    refine mOff hok rfl rfl rfl rfl rfl ?_
    refine mOff hok rfl rfl rfl rfl rfl ?_
    refine mK hok rfl rfl (fun a' w' F' E' => o_pickF (F'.ev rfl) (F'.ev rfl) ⟨Ext.refl _ _, rfl⟩) ?_
    refine mK hok rfl rfl (fun a' w' F' E' => o_assign (F'.ev rfl) ⟨Ext.refl _ _, rfl⟩) ?_
    (refine mDone rfl rfl ?_; clear F; clear M; intro a w F hE2 hX hTT hDD hPP; have M := M1.later hE2; clear M1; clear hX; clear hE2; clear hok; clear hE; clear hTT; clear hDD; clear hPP; (try dsimp only at F))
    with_reducible refine l_nil ?_
    with_reducible refine q_then ?_
    with_reducible refine c_ret ?_
    refine p_ret F rfl (.cons (.tmp (F.ev rfl)) .nil) ?_
    exact ⟨by show Value.bool _ = Value.bool _; simp [validP, h0], M.ext⟩
end
section
set_option linter.unusedVariables false
set_option linter.unusedSimpArgs false
open Go.RowKit
attribute [local irreducible] OpTo wpListIn Code.wpIn MW Cal
end
section
set_option linter.unusedVariables false
set_option linter.unusedSimpArgs false
open Go.RowKit
attribute [local irreducible] OpTo wpListIn Code.wpIn MW Cal
end
section
set_option linter.unusedVariables false
set_option linter.unusedSimpArgs false
open Go.RowKit
theorem one_ip (a : List Int) : (ipC a).all (·.oneCell') = true := by
  rw [List.all_eq_true]
  intro v hv
  obtain ⟨x, _, rfl⟩ := List.mem_map.1 hv
  rfl
theorem one_pf (a : List Int) (n : Int) : (pfC a n).all (·.oneCell') = true := by
  unfold pfC
  rw [List.all_append, one_ip]
  rfl
theorem modI_bd (x : Int) {n : Int} (hn : 0 < n) : 0 ≤ modI x n ∧ modI x n < n := by
  have h1 := Int.tmod_lt_of_pos x hn
  have h2 : -n < x.tmod n := by have := Int.tmod_lt_of_pos (-x) hn; rw [Int.neg_tmod] at this; omega
  unfold modI
  split <;> omega
end
section
set_option linter.unusedVariables false
set_option linter.unusedSimpArgs false
open Go.RowKit
/-- a byte of which the first k bits stay -/
def cutB (x : Int) (k : Nat) : Int := bitsOf .andNot .u8 x (Int.fdiv 255 (2 ^ min k 8))
theorem cutB_fin : ∀ x : Fin 256, ∀ k : Fin 9, cutB (x.1 : Int) k.1 = ((x.1 / 2 ^ (8 - k.1) * 2 ^ (8 - k.1) : Nat) : Int) := by decide +kernel
theorem cutB_nat {x k : Nat} (hx : x < 256) (hk : k ≤ 8) : cutB (x : Int) k = ((x / 2 ^ (8 - k) * 2 ^ (8 - k) : Nat) : Int) := cutB_fin ⟨x, hx⟩ ⟨k, by omega⟩
theorem cutB_bd {x : Int} {k : Nat} (h0 : 0 ≤ x) (h1 : x < 256) (hk : k ≤ 8) : 0 ≤ cutB x k ∧ cutB x k < 256 := by
  obtain ⟨n, rfl⟩ := Int.eq_ofNat_of_zero_le h0
  rw [cutB_nat (by omega) hk]
  have := Nat.div_mul_le_self n (2 ^ (8 - k))
  omega
theorem keepN_bd (n i : Int) : (keepN n i).toNat ≤ 8 := by unfold keepN; split <;> (try split) <;> omega
theorem maskAt_cut (a : List Int) (n : Int) (i : Nat) : maskAt a n i = cutB (a.getD i 0) (keepN n i).toNat := rfl
theorem maskI_at (a : List Int) (n : Int) {i : Nat} (h : i < 16) : (maskI a n).getD i 0 = maskAt a n i := by simp [maskI, h]
theorem mask_isIP {p : List Int} (hp : IsIP p) (n : Int) : IsIP (maskI p n) := by
  refine ⟨maskI_len p n, fun x hx => ?_⟩
  unfold maskI at hx
  obtain ⟨i, _, rfl⟩ := List.mem_map.1 hx
  exact cutB_bd (hp.at_ i).1 (hp.at_ i).2 (keepN_bd _ _)
end
section
set_option linter.unusedVariables false
set_option linter.unusedSimpArgs false
open Go.RowKit
attribute [local irreducible] OpTo wpListIn Code.wpIn MW Cal
/-- the cells of a link address -/
def adC (m s e : Int) : List Value := [.int .i64 m, .int .u16 s, .int .u64 e]
def validA (m s e : Int) : Bool := if m = 0 then s == 0 && e == 0 else if m = 2 then e == 0 else if m = 3 then s == 0 else false
set_option maxHeartbeats 400000 in
theorem valid_c (m s e : Int) (W : World) : Cal Try.prog 104 [.agg (adC m s e).toArray].toArray W fun v w' => v = .bool (validA m s e) ∧ Ext [] W w' := by
  unfold adC validA
  by_cases h0 : m = 0
  · subst h0
    refine fn_ofM (n := 20) [] Try.func104 rfl rfl rfl ?_
    intro a w F M hwW
    refine c_seq ?_
    refine c_region ?_
    (refine stepD rfl F rfl (o_box M (F.ev rfl) rfl ?_); clear F; clear M; intro b1 w M a F)
    refine stepD rfl F rfl (o_assign (F.ev rfl) ?_); clear F; clear a; intro a F
    with_reducible refine l_nil ?_
    with_reducible refine q_then ?_
    with_reducible refine c_seq ?_
    with_reducible refine c_seq ?_
    with_reducible refine c_region ?_
    refine stepD rfl F rfl (o_fieldAddr (F.ev rfl) ?_); clear F; clear a; intro a F
    refine stepD rfl F rfl (o_load1 M (F.ev rfl) (by repeat (first | exact .here | apply Has.there)) (by first | assumption | rfl) ?_); clear F; clear a; intro a F
    with_reducible refine l_nil ?_
    with_reducible refine q_then ?_
    with_reducible refine c_block ?_
    with_reducible refine c_seq ?_
    with_reducible refine c_region ?_
    refine stepD rfl F rfl (o_eqlT (F.ev rfl) (F.ev rfl) (by omega) ?_); clear F; clear a; intro a F
    refine stepD rfl F rfl (o_assign (F.ev rfl) ?_); clear F; clear a; intro a F
    with_reducible refine l_nil ?_
    with_reducible refine q_then ?_
    refine c_true F rfl rfl ?_
    with_reducible refine c_seq ?_
    with_reducible refine c_region ?_
    refine stepD rfl F rfl (o_loadA M (F.ev rfl) (by repeat (first | exact .here | apply Has.there)) (by first | assumption | rfl) ?_); clear F; clear a; intro a F
    refine stepD rfl F rfl (o_build F rfl rfl ?_); clear F; clear a; intro a F
    refine stepD rfl F rfl (o_eqlA (F.ev rfl) (F.ev rfl) (by first | assumption | rfl) (by first | assumption | rfl) ?_); clear F; clear a; intro a F
    refine stepD rfl F rfl (o_assign (F.ev rfl) ?_); clear F; clear a; intro a F
    with_reducible refine l_nil ?_
    with_reducible refine q_then ?_
    with_reducible refine c_ret ?_
    with_reducible refine q_inBR ?_
    with_reducible refine q_thenR ?_
    refine p_ret F rfl (.cons (.tmp (F.ev rfl)) .nil) ?_
    exact ⟨by simp [oneOr, eqVs, eqV], M.ext⟩
  · by_cases h2 : m = 2
    · subst h2
      refine fn_ofM (n := 20) [] Try.func104 rfl rfl rfl ?_
      intro a w F M hwW
      refine c_seq ?_
      refine c_region ?_
      (refine stepD rfl F rfl (o_box M (F.ev rfl) rfl ?_); clear F; clear M; intro b1 w M a F)
      refine stepD rfl F rfl (o_assign (F.ev rfl) ?_); clear F; clear a; intro a F
      with_reducible refine l_nil ?_
      with_reducible refine q_then ?_
      with_reducible refine c_seq ?_
      with_reducible refine c_seq ?_
      with_reducible refine c_region ?_
      refine stepD rfl F rfl (o_fieldAddr (F.ev rfl) ?_); clear F; clear a; intro a F
      refine stepD rfl F rfl (o_load1 M (F.ev rfl) (by repeat (first | exact .here | apply Has.there)) (by first | assumption | rfl) ?_); clear F; clear a; intro a F
      with_reducible refine l_nil ?_
      with_reducible refine q_then ?_
      with_reducible refine c_block ?_
      with_reducible refine c_seq ?_
      with_reducible refine c_region ?_
      refine stepD rfl F rfl (o_eqlF (F.ev rfl) (F.ev rfl) (by omega) ?_); clear F; clear a; intro a F
      refine stepD rfl F rfl (o_assign (F.ev rfl) ?_); clear F; clear a; intro a F
      with_reducible refine l_nil ?_
      with_reducible refine q_then ?_
      refine c_false F rfl rfl ?_
      with_reducible refine c_seq ?_
      with_reducible refine c_region ?_
      refine stepD rfl F rfl (o_eqlT (F.ev rfl) (F.ev rfl) (by omega) ?_); clear F; clear a; intro a F
      refine stepD rfl F rfl (o_assign (F.ev rfl) ?_); clear F; clear a; intro a F
      with_reducible refine l_nil ?_
      with_reducible refine q_then ?_
      refine c_true F rfl rfl ?_
      with_reducible refine c_seq ?_
      with_reducible refine c_region ?_
      refine stepD rfl F rfl (o_fieldAddr (F.ev rfl) ?_); clear F; clear a; intro a F
      refine stepD rfl F rfl (o_load1 M (F.ev rfl) (by repeat (first | exact .here | apply Has.there)) (by first | assumption | rfl) ?_); clear F; clear a; intro a F
      refine stepD rfl F rfl (o_eql (F.ev rfl) (F.ev rfl) ?_); clear F; clear a; intro a F
      refine stepD rfl F rfl (o_assign (F.ev rfl) ?_); clear F; clear a; intro a F
      with_reducible refine l_nil ?_
      with_reducible refine q_then ?_
      with_reducible refine c_ret ?_
      with_reducible refine q_inBR ?_
      with_reducible refine q_thenR ?_
      refine p_ret F rfl (.cons (.tmp (F.ev rfl)) .nil) ?_
      exact ⟨by simp [oneOr], M.ext⟩
    · by_cases h3 : m = 3
      · subst h3
        refine fn_ofM (n := 20) [] Try.func104 rfl rfl rfl ?_
        intro a w F M hwW
        refine c_seq ?_
        refine c_region ?_
        (refine stepD rfl F rfl (o_box M (F.ev rfl) rfl ?_); clear F; clear M; intro b1 w M a F)
        refine stepD rfl F rfl (o_assign (F.ev rfl) ?_); clear F; clear a; intro a F
        with_reducible refine l_nil ?_
        with_reducible refine q_then ?_
        with_reducible refine c_seq ?_
        with_reducible refine c_seq ?_
        with_reducible refine c_region ?_
        refine stepD rfl F rfl (o_fieldAddr (F.ev rfl) ?_); clear F; clear a; intro a F
        refine stepD rfl F rfl (o_load1 M (F.ev rfl) (by repeat (first | exact .here | apply Has.there)) (by first | assumption | rfl) ?_); clear F; clear a; intro a F
        with_reducible refine l_nil ?_
        with_reducible refine q_then ?_
        with_reducible refine c_block ?_
        with_reducible refine c_seq ?_
        with_reducible refine c_region ?_
        refine stepD rfl F rfl (o_eqlF (F.ev rfl) (F.ev rfl) (by omega) ?_); clear F; clear a; intro a F
        refine stepD rfl F rfl (o_assign (F.ev rfl) ?_); clear F; clear a; intro a F
        with_reducible refine l_nil ?_
        with_reducible refine q_then ?_
        refine c_false F rfl rfl ?_
        with_reducible refine c_seq ?_
        with_reducible refine c_region ?_
        refine stepD rfl F rfl (o_eqlF (F.ev rfl) (F.ev rfl) (by omega) ?_); clear F; clear a; intro a F
        refine stepD rfl F rfl (o_assign (F.ev rfl) ?_); clear F; clear a; intro a F
        with_reducible refine l_nil ?_
        with_reducible refine q_then ?_
        refine c_false F rfl rfl ?_
        with_reducible refine c_seq ?_
        with_reducible refine c_region ?_
        refine stepD rfl F rfl (o_eqlT (F.ev rfl) (F.ev rfl) (by omega) ?_); clear F; clear a; intro a F
        refine stepD rfl F rfl (o_assign (F.ev rfl) ?_); clear F; clear a; intro a F
        with_reducible refine l_nil ?_
        with_reducible refine q_then ?_
        refine c_true F rfl rfl ?_
        with_reducible refine c_seq ?_
        with_reducible refine c_region ?_
        refine stepD rfl F rfl (o_fieldAddr (F.ev rfl) ?_); clear F; clear a; intro a F
        refine stepD rfl F rfl (o_load1 M (F.ev rfl) (by repeat (first | exact .here | apply Has.there)) (by first | assumption | rfl) ?_); clear F; clear a; intro a F
        refine stepD rfl F rfl (o_eql (F.ev rfl) (F.ev rfl) ?_); clear F; clear a; intro a F
        refine stepD rfl F rfl (o_assign (F.ev rfl) ?_); clear F; clear a; intro a F
        with_reducible refine l_nil ?_
        with_reducible refine q_then ?_
        with_reducible refine c_ret ?_
        with_reducible refine q_inBR ?_
        with_reducible refine q_thenR ?_
        refine p_ret F rfl (.cons (.tmp (F.ev rfl)) .nil) ?_
        exact ⟨by simp [oneOr], M.ext⟩
      · refine fn_ofM (n := 20) [] Try.func104 rfl rfl rfl ?_
        intro a w F M hwW
        refine c_seq ?_
        refine c_region ?_
        (refine stepD rfl F rfl (o_box M (F.ev rfl) rfl ?_); clear F; clear M; intro b1 w M a F)
        refine stepD rfl F rfl (o_assign (F.ev rfl) ?_); clear F; clear a; intro a F
        with_reducible refine l_nil ?_
        with_reducible refine q_then ?_
        with_reducible refine c_seq ?_
        with_reducible refine c_seq ?_
        with_reducible refine c_region ?_
        refine stepD rfl F rfl (o_fieldAddr (F.ev rfl) ?_); clear F; clear a; intro a F
        refine stepD rfl F rfl (o_load1 M (F.ev rfl) (by repeat (first | exact .here | apply Has.there)) (by first | assumption | rfl) ?_); clear F; clear a; intro a F
        with_reducible refine l_nil ?_
        with_reducible refine q_then ?_
        with_reducible refine c_block ?_
        with_reducible refine c_seq ?_
        with_reducible refine c_region ?_
        refine stepD rfl F rfl (o_eqlF (F.ev rfl) (F.ev rfl) (by omega) ?_); clear F; clear a; intro a F
        refine stepD rfl F rfl (o_assign (F.ev rfl) ?_); clear F; clear a; intro a F
        with_reducible refine l_nil ?_
        with_reducible refine q_then ?_
        refine c_false F rfl rfl ?_
        with_reducible refine c_seq ?_
        with_reducible refine c_region ?_
        refine stepD rfl F rfl (o_eqlF (F.ev rfl) (F.ev rfl) (by omega) ?_); clear F; clear a; intro a F
        refine stepD rfl F rfl (o_assign (F.ev rfl) ?_); clear F; clear a; intro a F
        with_reducible refine l_nil ?_
        with_reducible refine q_then ?_
        refine c_false F rfl rfl ?_
        with_reducible refine c_seq ?_
        with_reducible refine c_region ?_
        refine stepD rfl F rfl (o_eqlF (F.ev rfl) (F.ev rfl) (by omega) ?_); clear F; clear a; intro a F
        refine stepD rfl F rfl (o_assign (F.ev rfl) ?_); clear F; clear a; intro a F
        with_reducible refine l_nil ?_
        with_reducible refine q_then ?_
        refine c_false F rfl rfl ?_
        with_reducible refine c_skip ?_
        with_reducible refine q_inB ?_
        with_reducible refine q_then ?_
        with_reducible refine c_seq ?_
        with_reducible refine c_region ?_
        refine stepD rfl F rfl (o_assign (F.ev rfl) ?_); clear F; clear a; intro a F
        with_reducible refine l_nil ?_
        with_reducible refine q_then ?_
        with_reducible refine c_ret ?_
        refine p_ret F rfl (.cons (.tmp (F.ev rfl)) .nil) ?_
        exact ⟨by simp [oneOr, h0, h2, h3], M.ext⟩
/-- an interface identifier, of a valid link address other than none -/
def iidA (m s e : Int) : Option Int := if validA m s e then (if m = 2 then some (1099478073344 + s) else if m = 3 then some (bitsOf .xor .u64 e 144115188075855872) else none) else none
def optU (x : Option Int) : Value := .tuple #[.int .u64 (x.getD 0), .bool x.isSome]
set_option maxHeartbeats 400000 in
theorem iid_c (m s e : Int) (hs0 : 0 ≤ s) (hs1 : s ≤ 65535) (W : World) : Cal Try.prog 87 [.agg (adC m s e).toArray].toArray W fun v w' => v = optU (iidA m s e) ∧ Ext [] W w' := by
  have hb : @Eq (List Value) (adC m s e) [.int .i64 m, .int .u16 s, .int .u64 e] := rfl
  cases hv : validA m s e
  · refine fn_ofM (n := 20) [] Try.func87 rfl rfl rfl ?_
    intro a w F M hwW
    refine c_seq ?_
    refine c_region ?_
    (refine stepD rfl F rfl (o_box M (F.ev rfl) rfl ?_); clear F; clear M; intro b1 w M a F)
    refine stepD rfl F rfl (o_assign (F.ev rfl) ?_); clear F; clear a; intro a F
    refine stepD rfl F rfl (o_assign (F.ev rfl) ?_); clear F; clear a; intro a F
    with_reducible refine l_nil ?_
    with_reducible refine q_then ?_
    with_reducible refine c_seq ?_
    with_reducible refine c_seq ?_
    with_reducible refine c_region ?_
    refine stepD rfl F rfl (o_loadA M (F.ev rfl) (by repeat (first | exact .here | apply Has.there)) (by first | assumption | rfl) ?_); clear F; clear a; intro a F
    (refine stepD rfl F rfl (o_call (F.ev rfl) (F.evs rfl) (Cal.mono (Cal.to (valid_c m s e _) (by rw [hv])) ?_)); clear F; clear a; rintro _ w ⟨rfl, hE⟩ a F; replace M := M.later hE; clear hE)
    refine stepD rfl F rfl (o_not (F.ev rfl) ?_); clear F; clear a; intro a F
    with_reducible refine l_nil ?_
    with_reducible refine q_then ?_
    refine c_true F rfl rfl ?_
    with_reducible refine c_seq ?_
    with_reducible refine c_region ?_
    refine stepD rfl F rfl (o_assign (F.ev rfl) ?_); clear F; clear a; intro a F
    refine stepD rfl F rfl (o_assign (F.ev rfl) ?_); clear F; clear a; intro a F
    with_reducible refine l_nil ?_
    with_reducible refine q_then ?_
    with_reducible refine c_ret ?_
    with_reducible refine q_thenR ?_
    refine p_ret F rfl (.cons (.tmp (F.ev rfl)) (.cons (.tmp (F.ev rfl)) .nil)) ?_
    exact ⟨by simp [oneOr, optU, iidA, hv], M.ext⟩
  · by_cases h2 : m = 2
    · subst h2
      refine fn_ofM (n := 20) [] Try.func87 rfl rfl rfl ?_
      intro a w F M hwW
      refine c_seq ?_
      refine c_region ?_
      (refine stepD rfl F rfl (o_box M (F.ev rfl) rfl ?_); clear F; clear M; intro b1 w M a F)
      refine stepD rfl F rfl (o_assign (F.ev rfl) ?_); clear F; clear a; intro a F
      refine stepD rfl F rfl (o_assign (F.ev rfl) ?_); clear F; clear a; intro a F
      with_reducible refine l_nil ?_
      with_reducible refine q_then ?_
      with_reducible refine c_seq ?_
      with_reducible refine c_seq ?_
      with_reducible refine c_region ?_
      refine stepD rfl F rfl (o_loadA M (F.ev rfl) (by repeat (first | exact .here | apply Has.there)) (by first | assumption | rfl) ?_); clear F; clear a; intro a F
      (refine stepD rfl F rfl (o_call (F.ev rfl) (F.evs rfl) (Cal.mono (Cal.to (valid_c 2 s e _) (by rw [hv])) ?_)); clear F; clear a; rintro _ w ⟨rfl, hE⟩ a F; replace M := M.later hE; clear hE)
      refine stepD rfl F rfl (o_not (F.ev rfl) ?_); clear F; clear a; intro a F
      with_reducible refine l_nil ?_
      with_reducible refine q_then ?_
      refine c_false F rfl rfl ?_
      with_reducible refine c_skip ?_
      with_reducible refine q_then ?_
      with_reducible refine c_seq ?_
      with_reducible refine c_seq ?_
      with_reducible refine c_region ?_
      refine stepD rfl F rfl (o_fieldAddr (F.ev rfl) ?_); clear F; clear a; intro a F
      refine stepD rfl F rfl (o_load1 M (F.ev rfl) (by repeat (first | exact .here | apply Has.there)) (by first | assumption | rfl) ?_); clear F; clear a; intro a F
      with_reducible refine l_nil ?_
      with_reducible refine q_then ?_
      with_reducible refine c_block ?_
      with_reducible refine c_seq ?_
      with_reducible refine c_region ?_
      refine stepD rfl F rfl (o_eqlT (F.ev rfl) (F.ev rfl) (by omega) ?_); clear F; clear a; intro a F
      refine stepD rfl F rfl (o_assign (F.ev rfl) ?_); clear F; clear a; intro a F
      with_reducible refine l_nil ?_
      with_reducible refine q_then ?_
      refine c_true F rfl rfl ?_
      with_reducible refine c_seq ?_
      with_reducible refine c_region ?_
      refine stepD rfl F rfl (o_fieldAddr (F.ev rfl) ?_); clear F; clear a; intro a F
      refine stepD rfl F rfl (o_load1 M (F.ev rfl) (by repeat (first | exact .here | apply Has.there)) (by first | assumption | rfl) ?_); clear F; clear a; intro a F
      refine stepD rfl F rfl (o_conv (F.ev rfl) (w_u64 (by omega) (by omega)) ?_); clear F; clear a; intro a F
      refine stepD rfl F rfl (o_add (F.ev rfl) (F.ev rfl) (w_u64 (by omega) (by omega)) ?_); clear F; clear a; intro a F
      refine stepD rfl F rfl (o_assign (F.ev rfl) ?_); clear F; clear a; intro a F
      refine stepD rfl F rfl (o_assign (F.ev rfl) ?_); clear F; clear a; intro a F
      with_reducible refine l_nil ?_
      with_reducible refine q_then ?_
      with_reducible refine c_ret ?_
      with_reducible refine q_inBR ?_
      with_reducible refine q_thenR ?_
      refine p_ret F rfl (.cons (.tmp (F.ev rfl)) (.cons (.tmp (F.ev rfl)) .nil)) ?_
      exact ⟨by simp [oneOr, optU, iidA, hv], M.ext⟩
    · by_cases h3 : m = 3
      · subst h3
        refine fn_ofM (n := 20) [] Try.func87 rfl rfl rfl ?_
        intro a w F M hwW
        refine c_seq ?_
        refine c_region ?_
        (refine stepD rfl F rfl (o_box M (F.ev rfl) rfl ?_); clear F; clear M; intro b1 w M a F)
        refine stepD rfl F rfl (o_assign (F.ev rfl) ?_); clear F; clear a; intro a F
        refine stepD rfl F rfl (o_assign (F.ev rfl) ?_); clear F; clear a; intro a F
        with_reducible refine l_nil ?_
        with_reducible refine q_then ?_
        with_reducible refine c_seq ?_
        with_reducible refine c_seq ?_
        with_reducible refine c_region ?_
        refine stepD rfl F rfl (o_loadA M (F.ev rfl) (by repeat (first | exact .here | apply Has.there)) (by first | assumption | rfl) ?_); clear F; clear a; intro a F
        (refine stepD rfl F rfl (o_call (F.ev rfl) (F.evs rfl) (Cal.mono (Cal.to (valid_c 3 s e _) (by rw [hv])) ?_)); clear F; clear a; rintro _ w ⟨rfl, hE⟩ a F; replace M := M.later hE; clear hE)
        refine stepD rfl F rfl (o_not (F.ev rfl) ?_); clear F; clear a; intro a F
        with_reducible refine l_nil ?_
        with_reducible refine q_then ?_
        refine c_false F rfl rfl ?_
        with_reducible refine c_skip ?_
        with_reducible refine q_then ?_
        with_reducible refine c_seq ?_
        with_reducible refine c_seq ?_
        with_reducible refine c_region ?_
        refine stepD rfl F rfl (o_fieldAddr (F.ev rfl) ?_); clear F; clear a; intro a F
        refine stepD rfl F rfl (o_load1 M (F.ev rfl) (by repeat (first | exact .here | apply Has.there)) (by first | assumption | rfl) ?_); clear F; clear a; intro a F
        with_reducible refine l_nil ?_
        with_reducible refine q_then ?_
        with_reducible refine c_block ?_
        with_reducible refine c_seq ?_
        with_reducible refine c_region ?_
        refine stepD rfl F rfl (o_eqlF (F.ev rfl) (F.ev rfl) (by omega) ?_); clear F; clear a; intro a F
        refine stepD rfl F rfl (o_assign (F.ev rfl) ?_); clear F; clear a; intro a F
        with_reducible refine l_nil ?_
        with_reducible refine q_then ?_
        refine c_false F rfl rfl ?_
        with_reducible refine c_seq ?_
        with_reducible refine c_region ?_
        refine stepD rfl F rfl (o_eqlT (F.ev rfl) (F.ev rfl) (by omega) ?_); clear F; clear a; intro a F
        refine stepD rfl F rfl (o_assign (F.ev rfl) ?_); clear F; clear a; intro a F
        with_reducible refine l_nil ?_
        with_reducible refine q_then ?_
        refine c_true F rfl rfl ?_
        with_reducible refine c_seq ?_
        with_reducible refine c_region ?_
        refine stepD rfl F rfl (o_fieldAddr (F.ev rfl) ?_); clear F; clear a; intro a F
        refine stepD rfl F rfl (o_load1 M (F.ev rfl) (by repeat (first | exact .here | apply Has.there)) (by first | assumption | rfl) ?_); clear F; clear a; intro a F
        refine stepD rfl F rfl (o_xor (F.ev rfl) (F.ev rfl) rfl ?_); clear F; clear a; intro a F
        refine stepD rfl F rfl (o_assign (F.ev rfl) ?_); clear F; clear a; intro a F
        refine stepD rfl F rfl (o_assign (F.ev rfl) ?_); clear F; clear a; intro a F
        with_reducible refine l_nil ?_
        with_reducible refine q_then ?_
        with_reducible refine c_ret ?_
        with_reducible refine q_inBR ?_
        with_reducible refine q_thenR ?_
        refine p_ret F rfl (.cons (.tmp (F.ev rfl)) (.cons (.tmp (F.ev rfl)) .nil)) ?_
        exact ⟨by simp [oneOr, optU, iidA, hv], M.ext⟩
      · refine fn_ofM (n := 20) [] Try.func87 rfl rfl rfl ?_
        intro a w F M hwW
        refine c_seq ?_
        refine c_region ?_
        (refine stepD rfl F rfl (o_box M (F.ev rfl) rfl ?_); clear F; clear M; intro b1 w M a F)
        refine stepD rfl F rfl (o_assign (F.ev rfl) ?_); clear F; clear a; intro a F
        refine stepD rfl F rfl (o_assign (F.ev rfl) ?_); clear F; clear a; intro a F
        with_reducible refine l_nil ?_
        with_reducible refine q_then ?_
        with_reducible refine c_seq ?_
        with_reducible refine c_seq ?_
        with_reducible refine c_region ?_
        refine stepD rfl F rfl (o_loadA M (F.ev rfl) (by repeat (first | exact .here | apply Has.there)) (by first | assumption | rfl) ?_); clear F; clear a; intro a F
        (refine stepD rfl F rfl (o_call (F.ev rfl) (F.evs rfl) (Cal.mono (Cal.to (valid_c m s e _) (by rw [hv])) ?_)); clear F; clear a; rintro _ w ⟨rfl, hE⟩ a F; replace M := M.later hE; clear hE)
        refine stepD rfl F rfl (o_not (F.ev rfl) ?_); clear F; clear a; intro a F
        with_reducible refine l_nil ?_
        with_reducible refine q_then ?_
        refine c_false F rfl rfl ?_
        with_reducible refine c_skip ?_
        with_reducible refine q_then ?_
        with_reducible refine c_seq ?_
        with_reducible refine c_seq ?_
        with_reducible refine c_region ?_
        refine stepD rfl F rfl (o_fieldAddr (F.ev rfl) ?_); clear F; clear a; intro a F
        refine stepD rfl F rfl (o_load1 M (F.ev rfl) (by repeat (first | exact .here | apply Has.there)) (by first | assumption | rfl) ?_); clear F; clear a; intro a F
        with_reducible refine l_nil ?_
        with_reducible refine q_then ?_
        with_reducible refine c_block ?_
        with_reducible refine c_seq ?_
        with_reducible refine c_region ?_
        refine stepD rfl F rfl (o_eqlF (F.ev rfl) (F.ev rfl) (by omega) ?_); clear F; clear a; intro a F
        refine stepD rfl F rfl (o_assign (F.ev rfl) ?_); clear F; clear a; intro a F
        with_reducible refine l_nil ?_
        with_reducible refine q_then ?_
        refine c_false F rfl rfl ?_
        with_reducible refine c_seq ?_
        with_reducible refine c_region ?_
        refine stepD rfl F rfl (o_eqlF (F.ev rfl) (F.ev rfl) (by omega) ?_); clear F; clear a; intro a F
        refine stepD rfl F rfl (o_assign (F.ev rfl) ?_); clear F; clear a; intro a F
        with_reducible refine l_nil ?_
        with_reducible refine q_then ?_
        refine c_false F rfl rfl ?_
        with_reducible refine c_skip ?_
        with_reducible refine q_inB ?_
        with_reducible refine q_then ?_
        with_reducible refine c_seq ?_
        with_reducible refine c_region ?_
        refine stepD rfl F rfl (o_assign (F.ev rfl) ?_); clear F; clear a; intro a F
        refine stepD rfl F rfl (o_assign (F.ev rfl) ?_); clear F; clear a; intro a F
        with_reducible refine l_nil ?_
        with_reducible refine q_then ?_
        with_reducible refine c_ret ?_
        refine p_ret F rfl (.cons (.tmp (F.ev rfl)) (.cons (.tmp (F.ev rfl)) .nil)) ?_
        exact ⟨by simp [oneOr, optU, iidA, hv, h2, h3], M.ext⟩
end
section
set_option linter.unusedVariables false
set_option linter.unusedSimpArgs false
open Go.RowKit
attribute [local irreducible] OpTo wpListIn Code.wpIn MW Cal
/-- the number of a row of bytes, the first one highest -/
def beN (xs : List Int) : Int := xs.foldl (fun v c => 256 * v + c) 0
theorem beN_snoc (xs : List Int) (c : Int) : beN (xs ++ [c]) = 256 * beN xs + c := by simp [beN]
theorem beN_bd : ∀ (n : Nat) (xs : List Int), xs.length = n → (∀ x ∈ xs, 0 ≤ x ∧ x < 256) → 0 ≤ beN xs ∧ beN xs < ((256 ^ n : Nat) : Int)
  | 0, xs, hl, _ => by
    have : xs = [] := List.length_eq_zero_iff.1 hl
    subst this; simp [beN]
  | n + 1, xs, hl, h => by
    obtain ⟨ys, c, rfl⟩ : ∃ ys c, xs = ys ++ [c] := ⟨xs.dropLast, xs.getLast (by intro e; rw [e] at hl; cases hl), (List.dropLast_concat_getLast _).symm⟩
    have ih := beN_bd n ys (by simpa using hl) (fun x hx => h x (by simp [hx]))
    have hc := h c (by simp)
    rw [beN_snoc, Nat.pow_succ]
    omega
end
section
set_option linter.unusedVariables false
set_option linter.unusedSimpArgs false
open Go.RowKit
attribute [local irreducible] OpTo wpListIn Code.wpIn MW Cal
/-- byte i of the 8 bytes of a number -/
def beAt (v : Int) (i : Nat) : Int := IntKind.u8.wrap (Int.fdiv v (2 ^ min (8 * (8 - 1 - (i : Int))).toNat 64))
def beB (v : Int) : List Int := (List.range 8).map (beAt v)
def brow (v : Int) (i : Nat) : List Value := (List.range 8).map fun j => if j < i then .int .u8 (beAt v j) else .int .u8 0
theorem brow_all (v : Int) : brow v 8 = ipC (beB v) := by
  unfold brow beB ipC
  rw [List.map_map]
  refine List.map_congr_left fun j hj => ?_
  simp [List.mem_range.1 hj]
theorem put_brow {v : Int} {i : Nat} (h : i < 8) {q : Nat} (hq : q = i) : put (brow v i) q [.int .u8 (beAt v i)] = some (brow v (i + 1)) := by
  rw [put1 (q := i) _ hq (by simp [brow]; omega)]
  congr 1
  unfold brow
  apply List.ext_getElem (by simp)
  intro j h1 h2
  simp only [List.getElem_set, List.getElem_map, List.getElem_range]
  split
  · subst_vars; simp
  · have : j < i ↔ j < i + 1 := by omega
    simp [this]
set_option maxHeartbeats 400000 in
theorem append8_c (v : Int) (h0 : 0 ≤ v) (W : World) : Cal Try.prog 105 [.slice none 0 0, .int .u64 v, .int .i64 8].toArray W fun x w' => ∃ b, x = .slice (some ⟨b, 0, none⟩) 8 8 ∧ Mem [] W w' [(b, .cells (ipC (beB v)).toArray 5 (0, 0))] := by
  refine fn_ofM (n := 43) [] Try.func105 rfl rfl rfl ?_
  intro a w F M hwW
  with_reducible refine c_seq ?_
  with_reducible refine c_region ?_
  refine stepD rfl F rfl (o_assign (F.ev rfl) ?_); clear F; clear a; intro a F
  with_reducible refine l_nil ?_
  with_reducible refine q_then ?_
  with_reducible refine c_seq ?_
  with_reducible refine c_seq ?_
  with_reducible refine c_region ?_
  refine stepD rfl F rfl (o_move (F.ev rfl) ?_); clear F; clear a; intro a F
  refine stepD rfl F rfl (o_lssF (F.ev rfl) (F.ev rfl) (by omega) ?_); clear F; clear a; intro a F
  refine stepD rfl F rfl (o_move (F.ev rfl) ?_); clear F; clear a; intro a F
  refine stepG rfl F rfl rfl rfl (o_move (F.ev rfl) ?_); clear F; clear a; intro a F
  refine stepG rfl F rfl rfl rfl (o_gtrF (F.ev rfl) (F.ev rfl) (by omega) ?_); clear F; clear a; intro a F
  refine stepD rfl F rfl (o_pickF (F.ev rfl) (F.ev rfl) ?_); clear F; clear a; intro a F
  with_reducible refine l_nil ?_
  with_reducible refine q_then ?_
  refine c_false F rfl rfl ?_
  with_reducible refine c_skip ?_
  with_reducible refine q_then ?_
  with_reducible refine c_seq ?_
  with_reducible refine c_region ?_
  refine stepD rfl F rfl (o_move (F.ev rfl) ?_); clear F; clear a; intro a F
  refine stepD rfl F rfl (o_lenSl (F.ev rfl) ?_); clear F; clear a; intro a F
  refine stepD rfl F rfl (o_move (F.ev rfl) ?_); clear F; clear a; intro a F
  refine stepD rfl F rfl (o_add (F.ev rfl) (F.ev rfl) (w_i64 (by omega) (by omega)) ?_); clear F; clear a; intro a F
  (refine stepD rfl F rfl (o_make1 M (F.ev rfl) (F.ev rfl) (by omega) (by omega) (by omega) ?_); clear F; clear M; intro b w M a F)
  refine stepD rfl F rfl (o_assign (F.ev rfl) ?_); clear F; clear a; intro a F
  with_reducible refine l_nil ?_
  with_reducible refine q_then ?_
  with_reducible refine c_seq ?_
  with_reducible refine c_region ?_
  refine stepD rfl F rfl (o_move (F.ev rfl) ?_); clear F; clear a; intro a F
  refine stepD rfl F rfl (o_move (F.ev rfl) ?_); clear F; clear a; intro a F
  (refine stepD rfl F rfl (o_copyNil (F.ev rfl) (F.ev rfl) ?_); clear F; clear a; intro a F)
  with_reducible refine l_nil ?_
  with_reducible refine q_then ?_
  with_reducible refine c_seq ?_
  with_reducible refine c_seq ?_
  with_reducible refine c_region ?_
  refine stepD rfl F rfl (o_move (F.ev rfl) ?_); clear F; clear a; intro a F
  refine stepD rfl F rfl (o_move (F.ev rfl) ?_); clear F; clear a; intro a F
  with_reducible refine l_nil ?_
  with_reducible refine q_then ?_
  with_reducible refine c_block ?_
  refine c_loop (fun k a w => ∃ i : Nat, k = 8 - i ∧ i ≤ 8 ∧ Frm a 43 [] [(24, .int .i64 i), (23, .int .i64 8), (7, .slice (some ⟨b, 0, none⟩) 8 8), (0, .slice none 0 0), (1, .int .u64 v), (2, .int .i64 8)] ∧ Mem [] W w [(b, .cells (brow v i).toArray 5 (0, 0))]) 8 ⟨0, rfl, by omega, F.only [24, 23, 7, 0, 1, 2] rfl, M⟩ ?_
  clear F M
  rintro k a w ⟨i, hk, hi, F, M⟩
  by_cases hlt : i < 8
  · with_reducible refine c_seq ?_
    with_reducible refine c_region ?_
    refine stepD rfl F rfl (o_lssT (F.ev rfl) (F.ev rfl) (by omega) ?_); clear F; clear a; intro a F
    with_reducible refine l_nil ?_
    with_reducible refine q_then ?_
    with_reducible refine c_seq ?_
    refine c_true F rfl rfl ?_
    with_reducible refine c_skip ?_
    with_reducible refine q_then ?_
    with_reducible refine c_seq ?_
    with_reducible refine c_block ?_
    with_reducible refine c_seq ?_
    with_reducible refine c_region ?_
    refine stepD rfl F rfl (o_move (F.ev rfl) ?_); clear F; clear a; intro a F
    refine stepD rfl F rfl (o_assign (F.ev rfl) ?_); clear F; clear a; intro a F
    with_reducible refine l_nil ?_
    with_reducible refine q_then ?_
    with_reducible refine c_region ?_
    refine stepD rfl F rfl (o_move (F.ev rfl) ?_); clear F; clear a; intro a F
    refine stepD rfl F rfl (o_move (F.ev rfl) ?_); clear F; clear a; intro a F
    refine stepD rfl F rfl (o_lenSl (F.ev rfl) ?_); clear F; clear a; intro a F
    refine stepD rfl F rfl (o_move (F.ev rfl) ?_); clear F; clear a; intro a F
    refine stepD rfl F rfl (o_add (F.ev rfl) (F.ev rfl) (w_i64 (by omega) (by omega)) ?_); clear F; clear a; intro a F
    refine stepD rfl F rfl (o_move (F.ev rfl) ?_); clear F; clear a; intro a F
    refine stepD rfl F rfl (o_move (F.ev rfl) ?_); clear F; clear a; intro a F
    refine stepD rfl F rfl (o_sub (F.ev rfl) (F.ev rfl) (w_i64 (by omega) (by omega)) ?_); clear F; clear a; intro a F
    refine stepD rfl F rfl (o_move (F.ev rfl) ?_); clear F; clear a; intro a F
    refine stepD rfl F rfl (o_sub (F.ev rfl) (F.ev rfl) (w_i64 (by omega) (by omega)) ?_); clear F; clear a; intro a F
    refine stepD rfl F rfl (o_mul (F.ev rfl) (F.ev rfl) (w_i64 (by omega) (by omega)) ?_); clear F; clear a; intro a F
    refine stepD rfl F rfl (o_shr (F.ev rfl) (F.ev rfl) (by omega) rfl ?_); clear F; clear a; intro a F
    refine stepD rfl F rfl (o_conv (F.ev rfl) rfl ?_); clear F; clear a; intro a F
    refine stepD rfl F rfl (o_indexSl (F.ev rfl) (F.ev rfl) (by omega) (by omega) ?_); clear F; clear a; intro a F
    (refine stepN rfl F (o_store1 M (F.ev rfl) (F.ev rfl) rfl (by repeat (first | exact .here | apply Has.there)) (put_brow hlt (by omega)) (by repeat (first | exact .here | apply Upd.there)) ?_); clear F; clear M; intro w M a F)
    with_reducible refine l_nil ?_
    with_reducible refine q_inB ?_
    with_reducible refine q_then ?_
    with_reducible refine c_region ?_
    refine stepD rfl F rfl (o_add (F.ev rfl) (F.ev rfl) (w_i64 (by omega) (by omega)) ?_); clear F; clear a; intro a F
    refine stepD rfl F rfl (o_move (F.ev rfl) ?_); clear F; clear a; intro a F
    with_reducible refine l_nil ?_
    with_reducible refine q_then ?_
    exact ⟨_, by omega, i + 1, rfl, by omega, F.only [24, 23, 7, 0, 1, 2] rfl, M⟩
  · obtain rfl : i = 8 := by omega
    rw [brow_all] at M
    with_reducible refine c_seq ?_
    with_reducible refine c_region ?_
    refine stepD rfl F rfl (o_lssF (F.ev rfl) (F.ev rfl) (by omega) ?_); clear F; clear a; intro a F
    with_reducible refine l_nil ?_
    with_reducible refine q_then ?_
    with_reducible refine c_seq ?_
    refine c_false F rfl rfl ?_
    with_reducible refine c_exit ?_
    with_reducible refine q_thenX ?_
    with_reducible refine q_thenX ?_
    with_reducible refine q_inBX ?_
    with_reducible refine q_then ?_
    with_reducible refine c_seq ?_
    with_reducible refine c_region ?_
    refine stepD rfl F rfl (o_move (F.ev rfl) ?_); clear F; clear a; intro a F
    refine stepD rfl F rfl (o_assign (F.ev rfl) ?_); clear F; clear a; intro a F
    with_reducible refine l_nil ?_
    with_reducible refine q_then ?_
    with_reducible refine c_ret ?_
    refine p_ret F rfl (.cons (.tmp (F.ev rfl)) .nil) ?_
    exact ⟨b, rfl, M⟩
end
section
set_option linter.unusedVariables false
set_option linter.unusedSimpArgs false
open Go.RowKit
attribute [local irreducible] OpTo wpListIn Code.wpIn MW Cal
def joinI (p : List Int) (v : Int) : List Int := p.take 8 ++ beB v
def zeroIP : List Int := [0, 0, 0, 0, 0, 0, 0, 0, 0, 0, 0, 0, 0, 0, 0, 0]
def joinP (p : List Int) (n v : Int) : Option (List Int) := if validP p n && decide (n ≤ 64) then some (joinI p v) else none
def optIP (x : Option (List Int)) : Value := .tuple #[.agg (ipC (x.getD zeroIP)).toArray, .bool x.isSome]
theorem beB_len (v : Int) : (beB v).length = 8 := by simp [beB]
set_option maxHeartbeats 1000000 in
theorem join_c (p : List Int) (hp : p.length = 16) (n v : Int) (hv : 0 ≤ v) (W : World) : Cal Try.prog 88 [.agg (pfC p n).toArray, .int .u64 v].toArray W fun x w' => x = optIP (joinP p n v) ∧ Ext [] W w' := by
  have e1 := seg_pf hp n
  have e2 := seg_pf0 hp n
  have e3 := nth_pf hp n
  have s2 : seg (ipC (beB v)) 0 (8 * 1) = some (ipC (beB v)) := seg_all (by simp [ipC, beB_len])
  have hput : put (ipC p) (0 + (8 : Int).toNat * 1) (ipC (beB v)) = some (ipC (joinI p v)) := by
    rw [put_of _ _ _ (by simp [ipC, beB_len, hp])]
    have hl : (ipC (beB v)).length = 8 := by simp [ipC, beB_len]
    simp only [splice, hl]
    rw [List.drop_eq_nil_of_le (by simp [ipC, hp])]
    simp [ipC, joinI]
  have s3 : seg (ipC (joinI p v)) 0 16 = some (ipC (joinI p v)) := seg_all (by simp [ipC, joinI, beB_len, hp])
  have hl3 : (ipC (joinI p v)).length = 16 := by simp [ipC, joinI, beB_len, hp]
  cases hvp : validP p n
  · refine fn_ofM (n := 23) [] Try.func88 rfl rfl rfl ?_
    intro a w F M hwW
    refine c_seq ?_
    refine c_region ?_
    (refine stepD rfl F rfl (o_box M (F.ev rfl) rfl ?_); clear F; clear M; intro b2 w M a F)
    (refine stepD rfl F rfl (o_alloc M ?_); clear F; clear M; intro b4 w M a F)
    refine stepD rfl F rfl (o_assign (F.ev rfl) ?_); clear F; clear a; intro a F
    with_reducible refine l_nil ?_
    with_reducible refine q_then ?_
    with_reducible refine c_seq ?_
    with_reducible refine c_seq ?_
    with_reducible refine c_region ?_
    refine stepD rfl F rfl (o_loadA M (F.ev rfl) (by repeat (first | exact .here | apply Has.there)) (by first | assumption | rfl) ?_); clear F; clear a; intro a F
    (refine stepD rfl F rfl (o_call (F.ev rfl) (F.evs rfl) (Cal.mono (Cal.to (validPrefix_c p n hp _) (by rw [hvp])) ?_)); clear F; clear a; rintro _ w ⟨rfl, hE⟩ a F; replace M := M.later hE; clear hE)
    refine stepD rfl F rfl (o_not (F.ev rfl) ?_); clear F; clear a; intro a F
    refine stepD rfl F rfl (o_move (F.ev rfl) ?_); clear F; clear a; intro a F
    refine stepOff F rfl rfl rfl rfl ?_; clear F; clear a; intro a F
    refine stepOff F rfl rfl rfl rfl ?_; clear F; clear a; intro a F
    refine stepOff F rfl rfl rfl rfl ?_; clear F; clear a; intro a F
    refine stepD rfl F rfl (o_pickT (F.ev rfl) (F.ev rfl) ?_); clear F; clear a; intro a F
    with_reducible refine l_nil ?_
    with_reducible refine q_then ?_
    refine c_true F rfl rfl ?_
    with_reducible refine c_seq ?_
    with_reducible refine c_region ?_
    refine stepD rfl F rfl (o_build F rfl rfl ?_); clear F; clear a; intro a F
    (refine stepN rfl F (o_storeA M (F.ev rfl) (F.ev rfl) (by rfl) (by rfl) (by repeat (first | exact .here | apply Has.there)) (by rfl) (by repeat (first | exact .here | apply Upd.there)) ?_); clear F; clear M; intro w M a F)
    refine stepD rfl F rfl (o_assign (F.ev rfl) ?_); clear F; clear a; intro a F
    with_reducible refine l_nil ?_
    with_reducible refine q_then ?_
    with_reducible refine c_ret ?_
    with_reducible refine q_thenR ?_
    refine p_ret F rfl (.cons (.cell (F.ev rfl) (run_loadVar_agg TAgg.h (M.heap (by repeat (first | exact .here | apply Has.there))) rfl)) (.cons (.tmp (F.ev rfl)) .nil)) ⟨by simp [joinP, hvp, optIP, oneOr, zeroIP, ipC], M.ext⟩
  · by_cases h64 : n ≤ 64
    · refine fn_ofM (n := 23) [] Try.func88 rfl rfl rfl ?_
      intro a w F M hwW
      refine c_seq ?_
      refine c_region ?_
      (refine stepD rfl F rfl (o_box M (F.ev rfl) rfl ?_); clear F; clear M; intro b2 w M a F)
      (refine stepD rfl F rfl (o_alloc M ?_); clear F; clear M; intro b4 w M a F)
      refine stepD rfl F rfl (o_assign (F.ev rfl) ?_); clear F; clear a; intro a F
      with_reducible refine l_nil ?_
      with_reducible refine q_then ?_
      with_reducible refine c_seq ?_
      with_reducible refine c_seq ?_
      with_reducible refine c_region ?_
      refine stepD rfl F rfl (o_loadA M (F.ev rfl) (by repeat (first | exact .here | apply Has.there)) (by first | assumption | rfl) ?_); clear F; clear a; intro a F
      (refine stepD rfl F rfl (o_call (F.ev rfl) (F.evs rfl) (Cal.mono (Cal.to (validPrefix_c p n hp _) (by rw [hvp])) ?_)); clear F; clear a; rintro _ w ⟨rfl, hE⟩ a F; replace M := M.later hE; clear hE)
      refine stepD rfl F rfl (o_not (F.ev rfl) ?_); clear F; clear a; intro a F
      refine stepD rfl F rfl (o_move (F.ev rfl) ?_); clear F; clear a; intro a F
      refine stepG rfl F rfl rfl rfl (o_fieldAddr (F.ev rfl) ?_); clear F; clear a; intro a F
      refine stepG rfl F rfl rfl rfl (o_load1 M (F.ev rfl) (by repeat (first | exact .here | apply Has.there)) (by first | assumption | rfl) ?_); clear F; clear a; intro a F
      refine stepG rfl F rfl rfl rfl (o_gtrF (F.ev rfl) (F.ev rfl) (by omega) ?_); clear F; clear a; intro a F
      refine stepD rfl F rfl (o_pickF (F.ev rfl) (F.ev rfl) ?_); clear F; clear a; intro a F
      with_reducible refine l_nil ?_
      with_reducible refine q_then ?_
      refine c_false F rfl rfl ?_
      with_reducible refine c_skip ?_
      with_reducible refine q_then ?_
      with_reducible refine c_seq ?_
      with_reducible refine c_region ?_
      refine stepD rfl F rfl (o_fieldAddr (F.ev rfl) ?_); clear F; clear a; intro a F
      refine stepD rfl F rfl (o_loadA M (F.ev rfl) (by repeat (first | exact .here | apply Has.there)) (by first | assumption | rfl) ?_); clear F; clear a; intro a F
      (refine stepD rfl F rfl (o_alloc M ?_); clear F; clear M; intro b6 w M a F)
      (refine stepN rfl F (o_storeA M (F.ev rfl) (F.ev rfl) (ipC_len hp) (one_ip _)  (by repeat (first | exact .here | apply Has.there))  (put_all (by rw [ipC_len hp]; rfl)) (by repeat (first | exact .here | apply Upd.there)) ?_); clear F; clear M; intro w M a F)
      with_reducible refine l_nil ?_
      with_reducible refine q_then ?_
      with_reducible refine c_seq ?_
      replace F := F.only [6, 1, 4] rfl
      refine c_draw 3 F (by kernel_rfl) ?_
      intro w1 hE hok
      have M1 := M.later hE
      (refine mK hok rfl rfl (fun a' w' F' E' => o_arrL (F'.ev rfl) (F'.ev rfl) (by omega) (by omega) ⟨Ext.refl _ _, rfl⟩) ?_)
      refine mK hok rfl rfl (fun a' w' F' E' => o_move (F'.ev rfl) ⟨Ext.refl _ _, rfl⟩) ?_
      refine mX hok rfl rfl (NewS.stays _ _ _ _) (fun a' w' F' E' D' => o_call (F'.ev rfl) (F'.evs rfl) (Cal.mono (append8_c v hv _) fun _ _ hh => newS_of E' hh)) ?_
      (refine mDone rfl rfl ?_; clear F; clear M; intro a w F hE2 hX hTT hDD hPP; have M := M1.later hE2; (try dsimp only at F); obtain ⟨b20, e_1, g_1, q_1⟩ := hX 2 _ rfl; replace F := F.know (d := 20) e_1; replace M := Mem.al (pre := []) M M1 q_1 g_1 (by intro p hp; cases hp); clear M1; clear hX; clear hE2; clear hok; clear hE; clear hTT; clear hDD; clear hPP; clear e_1; clear g_1; clear q_1; (try simp only [List.nil_append] at M))
      (refine stepD rfl F rfl (o_copy (n := 8) M (F.ev rfl) (F.ev rfl) rfl (by repeat (first | exact .here | apply Has.there)) s2 (one_ip _) (by repeat (first | exact .here | apply Has.there)) hput (by repeat (first | exact .here | apply Upd.there)) ?_); clear F; clear M; intro w M a F)
      with_reducible refine l_nil ?_
      with_reducible refine q_then ?_
      with_reducible refine c_seq ?_
      with_reducible refine c_region ?_
      refine stepD rfl F rfl (o_loadA M (F.ev rfl) (by repeat (first | exact .here | apply Has.there)) (by first | assumption | rfl) ?_); clear F; clear a; intro a F
      (refine stepN rfl F (o_storeA M (F.ev rfl) (F.ev rfl) hl3 (one_ip _)  (by repeat (first | exact .here | apply Has.there))  (put_all (by rw [hl3]; rfl)) (by repeat (first | exact .here | apply Upd.there)) ?_); clear F; clear M; intro w M a F)
      refine stepD rfl F rfl (o_assign (F.ev rfl) ?_); clear F; clear a; intro a F
      with_reducible refine l_nil ?_
      with_reducible refine q_then ?_
      with_reducible refine c_ret ?_
      refine p_ret F rfl (.cons (.cell (F.ev rfl) (run_loadVar_agg TAgg.h (M.heap (by repeat (first | exact .here | apply Has.there))) s3)) (.cons (.tmp (F.ev rfl)) .nil)) ⟨by simp [joinP, hvp, h64, optIP, oneOr], M.ext⟩
    · refine fn_ofM (n := 23) [] Try.func88 rfl rfl rfl ?_
      intro a w F M hwW
      refine c_seq ?_
      refine c_region ?_
      (refine stepD rfl F rfl (o_box M (F.ev rfl) rfl ?_); clear F; clear M; intro b2 w M a F)
      (refine stepD rfl F rfl (o_alloc M ?_); clear F; clear M; intro b4 w M a F)
      refine stepD rfl F rfl (o_assign (F.ev rfl) ?_); clear F; clear a; intro a F
      with_reducible refine l_nil ?_
      with_reducible refine q_then ?_
      with_reducible refine c_seq ?_
      with_reducible refine c_seq ?_
      with_reducible refine c_region ?_
      refine stepD rfl F rfl (o_loadA M (F.ev rfl) (by repeat (first | exact .here | apply Has.there)) (by first | assumption | rfl) ?_); clear F; clear a; intro a F
      (refine stepD rfl F rfl (o_call (F.ev rfl) (F.evs rfl) (Cal.mono (Cal.to (validPrefix_c p n hp _) (by rw [hvp])) ?_)); clear F; clear a; rintro _ w ⟨rfl, hE⟩ a F; replace M := M.later hE; clear hE)
      refine stepD rfl F rfl (o_not (F.ev rfl) ?_); clear F; clear a; intro a F
      refine stepD rfl F rfl (o_move (F.ev rfl) ?_); clear F; clear a; intro a F
      refine stepG rfl F rfl rfl rfl (o_fieldAddr (F.ev rfl) ?_); clear F; clear a; intro a F
      refine stepG rfl F rfl rfl rfl (o_load1 M (F.ev rfl) (by repeat (first | exact .here | apply Has.there)) (by first | assumption | rfl) ?_); clear F; clear a; intro a F
      refine stepG rfl F rfl rfl rfl (o_gtrT (F.ev rfl) (F.ev rfl) (by omega) ?_); clear F; clear a; intro a F
      refine stepD rfl F rfl (o_pickF (F.ev rfl) (F.ev rfl) ?_); clear F; clear a; intro a F
      with_reducible refine l_nil ?_
      with_reducible refine q_then ?_
      refine c_true F rfl rfl ?_
      with_reducible refine c_seq ?_
      with_reducible refine c_region ?_
      refine stepD rfl F rfl (o_build F rfl rfl ?_); clear F; clear a; intro a F
      (refine stepN rfl F (o_storeA M (F.ev rfl) (F.ev rfl) (by rfl) (by rfl) (by repeat (first | exact .here | apply Has.there)) (by rfl) (by repeat (first | exact .here | apply Upd.there)) ?_); clear F; clear M; intro w M a F)
      refine stepD rfl F rfl (o_assign (F.ev rfl) ?_); clear F; clear a; intro a F
      with_reducible refine l_nil ?_
      with_reducible refine q_then ?_
      with_reducible refine c_ret ?_
      with_reducible refine q_thenR ?_
      refine p_ret F rfl (.cons (.cell (F.ev rfl) (run_loadVar_agg TAgg.h (M.heap (by repeat (first | exact .here | apply Has.there))) rfl)) (.cons (.tmp (F.ev rfl)) .nil)) ⟨by simp [joinP, hvp, h64, optIP, oneOr, zeroIP, ipC], M.ext⟩
end
section
set_option linter.unusedVariables false
set_option linter.unusedSimpArgs false
open Go.RowKit
attribute [local irreducible] OpTo wpListIn Code.wpIn MW Cal
theorem pow_fin : ∀ i : Fin 8, (2 : Int) ^ (8 * (7 - i.1)) = ((256 ^ (7 - i.1) : Nat) : Int) := by decide
theorem beAt_nat (n i : Nat) (hi : i < 8) : beAt (n : Int) i = ((n / 256 ^ (7 - i) % 256 : Nat) : Int) := by
  unfold beAt
  have e1 : min (8 * (8 - 1 - (i : Int))).toNat 64 = 8 * (7 - i) := by omega
  rw [e1, pow_fin ⟨i, hi⟩, Int.fdiv_eq_ediv_of_nonneg _ (Int.natCast_nonneg _)]
  simp only [IntKind.wrap, IntKind.signed, IntKind.bits, Bool.false_and, Bool.false_eq_true, if_false]
  rfl
theorem beB_bd (n : Nat) : ∀ x ∈ beB (n : Int), 0 ≤ x ∧ x < 256 := by
  intro x hx
  obtain ⟨i, hi, rfl⟩ := List.mem_map.1 hx
  rw [beAt_nat n i (List.mem_range.1 hi)]
  have : n / 256 ^ (7 - i) % 256 < 256 := Nat.mod_lt _ (by omega)
  omega
end
section
set_option linter.unusedVariables false
set_option linter.unusedSimpArgs false
open Go.RowKit
attribute [local irreducible] OpTo wpListIn Code.wpIn MW Cal
/-- Fewer blocks, of which those that are left out have not been turned. -/
theorem Mem.less {S S' : List Nat} {W w : World} {l new : List (Nat × Obj)} (M : Mem S W w l) (h : ∀ k ∈ S, k ∈ S' ∨ ∃ o, Has l k o ∧ W.heap[k]? = some o) (hs : new.Sublist l) (hn : ∀ p ∈ new, p.1 ∈ S → p.1 ∈ S') : Mem S' W w new :=
  ⟨⟨M.ext.os, M.ext.tape, M.ext.output, M.ext.size, M.ext.dr, fun k hk hS' => by
    by_cases hS : k ∈ S
    · rcases h k hS with h1 | ⟨o, h1, h2⟩
      · exact absurd h1 hS'
      · rw [M.heap h1, h2]
    · exact M.ext.block k hk hS⟩, fun p hp => M.at_ p (hs.subset hp), M.nd.sublist (hs.map _), fun p hp => (M.own p (hs.subset hp)).imp_left (hn p hp)⟩
/-- the tape's block -/
def tobj (p : Option Addr) (len cap k : Nat) : Obj := .cells [.slice p len cap, .int .i64 k].toArray 89 (0, 0)
def i64C (xs : List Int) : List Value := xs.map (Value.int .i64)
/-- what its numbers are -/
structure TapeS (W : World) (bt : Nat) (p : Option Addr) (len : Nat) (xs : List Int) : Prop where
  lenE : xs.length = len
  small : len ≤ 400
  bd : ∀ x ∈ xs, -9223372036854775808 ≤ x ∧ x ≤ 9223372036854775807
  mem : 0 < len → ∃ b o cs t fz, p = some ⟨b, o, none⟩ ∧ b ≠ bt ∧ W.heap[b]? = some (.cells cs t fz) ∧ seg cs.toList o len = some (i64C xs)
theorem TapeS.later {W w : World} {bt : Nat} {p : Option Addr} {len : Nat} {xs : List Int} (h : TapeS W bt p len xs) (E : Ext [bt] W w) : TapeS w bt p len xs :=
  ⟨h.lenE, h.small, h.bd, fun hl => by
    obtain ⟨b, o, cs, t, fz, h1, h2, h3, h4⟩ := h.mem hl
    exact ⟨b, o, cs, t, fz, h1, h2, by rw [E.block b (Array.getElem?_eq_some_iff.1 h3).1 (by simpa using h2)]; exact h3, h4⟩⟩
def nxV (xs : List Int) (k : Nat) (n : Int) : Int := if k < xs.length then modI (xs.getD k 0) n else 0
def nxK (xs : List Int) (k : Nat) : Nat := if k < xs.length then k + 1 else k
theorem nxV_bd (xs : List Int) (k : Nat) {n : Int} (hn : 0 < n) : 0 ≤ nxV xs k n ∧ nxV xs k n < n := by
  unfold nxV
  split
  · exact modI_bd _ hn
  · omega
set_option maxHeartbeats 1000000 in
theorem next_c {bt : Nat} {p : Option Addr} {len cap k : Nat} {xs : List Int} (n : Int) (hn : 0 < n) (hn2 : n ≤ 9223372036854775807) (W : World) (hT : TapeS W bt p len xs) (hb : W.heap[bt]? = some (tobj p len cap k)) :
    Cal Try.prog 14 [.pointer (some ⟨bt, 0, none⟩), .int .i64 n].toArray W fun v w' => v = .int .i64 (nxV xs k n) ∧ Mem [bt] W w' [(bt, tobj p len cap (nxK xs k))] := by
  have hlen := hT.lenE
  by_cases hk : k < len
  · obtain ⟨b, o, cs, t, fz, rfl, hne, hbb, hs⟩ := hT.mem (by omega)
    have hnt : nth cs.toList (o + (k : Int).toNat * 1) = some (.int .i64 (xs.getD k 0)) := by
      obtain ⟨h1, h2⟩ := seg_spec _ _ _ _ hs
      have h3 := h2 k hk
      rw [nth_spec, show o + (k : Int).toNat * 1 = o + k by omega, h3]
      have hl : k < xs.length := by omega
      simp [i64C, hl]
    have hxk := hT.bd (xs.getD k 0) (by rw [List.getD_eq_getElem?_getD, List.getElem?_eq_getElem (by omega)]; exact List.getElem_mem _)
    have hr := Int.tmod_lt_of_pos (xs.getD k 0) hn
    have hr2 : -n < (xs.getD k 0).tmod n := by have := Int.tmod_lt_of_pos (-(xs.getD k 0)) hn; rw [Int.neg_tmod] at this; omega
    have hsm := hT.small
    have hv : nxV xs k n = modI (xs.getD k 0) n := by unfold nxV; rw [if_pos (by omega)]
    have hkk : nxK xs k = k + 1 := by unfold nxK; rw [if_pos (by omega)]
    rw [hv, hkk]
    unfold modI
    refine fn_ofM (n := 41) [bt,b] Try.func14 rfl rfl rfl ?_
    intro a w F M hwW
    replace M := M.came hwW hb (by simp) (by simp)
    replace M := M.came hwW (o := .cells cs.toList.toArray t fz) (by simpa using hbb) (by simp) (by simp; exact fun h => hne h.symm)
    unfold tobj at M
    with_reducible refine c_seq ?_
    with_reducible refine c_region ?_
    refine stepD rfl F rfl (o_assign (F.ev rfl) ?_); clear F; clear a; intro a F
    with_reducible refine l_nil ?_
    with_reducible refine q_then ?_
    with_reducible refine c_seq ?_
    with_reducible refine c_seq ?_
    refine c_draw 10 F (by kernel_rfl) ?_
    intro w1 hE hok
    have M1 := M.later hE
    refine mK hok rfl rfl (fun a' w' F' E' => o_move (F'.ev rfl) ⟨Ext.refl _ _, rfl⟩) ?_
    refine mK hok rfl rfl (fun a' w' F' E' => o_nilCheck (F'.ev rfl) rfl ⟨Ext.refl _ _, rfl⟩) ?_
    refine mK hok rfl rfl (fun a' w' F' E' => o_fieldAddr (F'.ev rfl) ⟨Ext.refl _ _, rfl⟩) ?_
    refine mK hok rfl rfl (fun a' w' F' E' => o_load1 (M1.later E') (F'.ev rfl) (by repeat (first | exact .here | apply Has.there)) (by first | assumption | rfl) ⟨Ext.refl _ _, rfl⟩) ?_
    refine mK hok rfl rfl (fun a' w' F' E' => o_move (F'.ev rfl) ⟨Ext.refl _ _, rfl⟩) ?_
    refine mK hok rfl rfl (fun a' w' F' E' => o_nilCheck (F'.ev rfl) rfl ⟨Ext.refl _ _, rfl⟩) ?_
    refine mK hok rfl rfl (fun a' w' F' E' => o_fieldAddr (F'.ev rfl) ⟨Ext.refl _ _, rfl⟩) ?_
    refine mK hok rfl rfl (fun a' w' F' E' => o_load1 (M1.later E') (F'.ev rfl) (by repeat (first | exact .here | apply Has.there)) (by first | assumption | rfl) ⟨Ext.refl _ _, rfl⟩) ?_
    refine mK hok rfl rfl (fun a' w' F' E' => o_lenSl (F'.ev rfl) ⟨Ext.refl _ _, rfl⟩) ?_
    refine mK hok rfl rfl (fun a' w' F' E' => o_geqF (F'.ev rfl) (F'.ev rfl) (by omega) ⟨Ext.refl _ _, rfl⟩) ?_
    (refine mDone rfl rfl ?_; clear F; clear M; intro a w F hE2 hX hTT hDD hPP; have M := M1.later hE2; clear M1; clear hX; clear hE2; clear hok; clear hE; clear hTT; clear hDD; clear hPP; (try dsimp only at F))
    with_reducible refine l_nil ?_
    with_reducible refine q_then ?_
    refine c_false F rfl rfl ?_
    with_reducible refine c_skip ?_
    with_reducible refine q_then ?_
    with_reducible refine c_seq ?_
    refine c_draw 12 F (by kernel_rfl) ?_
    intro w1 hE hok
    have M1 := M.later hE
    refine mK hok rfl rfl (fun a' w' F' E' => o_move (F'.ev rfl) ⟨Ext.refl _ _, rfl⟩) ?_
    refine mK hok rfl rfl (fun a' w' F' E' => o_nilCheck (F'.ev rfl) rfl ⟨Ext.refl _ _, rfl⟩) ?_
    refine mK hok rfl rfl (fun a' w' F' E' => o_fieldAddr (F'.ev rfl) ⟨Ext.refl _ _, rfl⟩) ?_
    refine mK hok rfl rfl (fun a' w' F' E' => o_load1 (M1.later E') (F'.ev rfl) (by repeat (first | exact .here | apply Has.there)) (by first | assumption | rfl) ⟨Ext.refl _ _, rfl⟩) ?_
    refine mK hok rfl rfl (fun a' w' F' E' => o_move (F'.ev rfl) ⟨Ext.refl _ _, rfl⟩) ?_
    refine mK hok rfl rfl (fun a' w' F' E' => o_nilCheck (F'.ev rfl) rfl ⟨Ext.refl _ _, rfl⟩) ?_
    refine mK hok rfl rfl (fun a' w' F' E' => o_fieldAddr (F'.ev rfl) ⟨Ext.refl _ _, rfl⟩) ?_
    refine mK hok rfl rfl (fun a' w' F' E' => o_load1 (M1.later E') (F'.ev rfl) (by repeat (first | exact .here | apply Has.there)) (by first | assumption | rfl) ⟨Ext.refl _ _, rfl⟩) ?_
    refine mK hok rfl rfl (fun a' w' F' E' => o_indexSl (F'.ev rfl) (F'.ev rfl) (by omega) (by omega) ⟨Ext.refl _ _, rfl⟩) ?_
    refine mK hok rfl rfl (fun a' w' F' E' => o_load1 (M1.later E') (F'.ev rfl) (by repeat (first | exact .here | apply Has.there)) (by first | assumption | rfl) ⟨Ext.refl _ _, rfl⟩) ?_
    refine mK hok rfl rfl (fun a' w' F' E' => o_move (F'.ev rfl) ⟨Ext.refl _ _, rfl⟩) ?_
    refine mK hok rfl rfl (fun a' w' F' E' => o_rem (F'.ev rfl) (F'.ev rfl) (by omega) rfl ⟨Ext.refl _ _, rfl⟩) ?_
    (refine mDone rfl rfl ?_; clear F; clear M; intro a w F hE2 hX hTT hDD hPP; have M := M1.later hE2; clear M1; clear hX; clear hE2; clear hok; clear hE; clear hTT; clear hDD; clear hPP; (try dsimp only at F))
    refine stepD rfl F rfl (o_assign (F.ev rfl) ?_); clear F; clear a; intro a F
    with_reducible refine l_nil ?_
    with_reducible refine q_then ?_
    with_reducible refine c_seq ?_
    with_reducible refine c_region ?_
    refine stepD rfl F rfl (o_move (F.ev rfl) ?_); clear F; clear a; intro a F
    refine stepD rfl F rfl (o_nilCheck (F.ev rfl) rfl ?_); clear F; clear a; intro a F
    refine stepD rfl F rfl (o_fieldAddr (F.ev rfl) ?_); clear F; clear a; intro a F
    refine stepD rfl F rfl (o_load1 M (F.ev rfl) (by repeat (first | exact .here | apply Has.there)) (by first | assumption | rfl) ?_); clear F; clear a; intro a F
    refine stepD rfl F rfl (o_add (F.ev rfl) (F.ev rfl) (w_i64 (by omega) (by omega)) ?_); clear F; clear a; intro a F
    refine stepD rfl F rfl (o_nilCheck (F.ev rfl) rfl ?_); clear F; clear a; intro a F
    refine stepD rfl F rfl (o_fieldAddr (F.ev rfl) ?_); clear F; clear a; intro a F
    (refine stepN rfl F (o_store1 M (F.ev rfl) (F.ev rfl) rfl (by repeat (first | exact .here | apply Has.there)) (by rfl) (by repeat (first | exact .here | apply Upd.there)) ?_); clear F; clear M; intro w M a F)
    with_reducible refine l_nil ?_
    with_reducible refine q_then ?_
    with_reducible refine c_seq ?_
    with_reducible refine c_seq ?_
    with_reducible refine c_region ?_
    refine stepD rfl F rfl (o_move (F.ev rfl) ?_); clear F; clear a; intro a F
    refine stepD rfl F rfl (o_lss (F.ev rfl) (F.ev rfl) ?_); clear F; clear a; intro a F
    with_reducible refine l_nil ?_
    with_reducible refine q_then ?_
    generalize (xs.getD k 0).tmod n = r at *
    have fin : ∀ w', Mem [bt, b] W w' [(b, .cells cs.toList.toArray t fz), (bt, .cells [.slice (some ⟨b, o, none⟩) len cap, .int .i64 ((k : Int) + 1)].toArray 89 (0, 0))] → Mem [bt] W w' [(bt, tobj (some ⟨b, o, none⟩) len cap (k + 1))] := fun w' M' =>
      M'.less (fun q hq => by
        simp only [List.mem_cons, List.not_mem_nil, or_false] at hq
        rcases hq with rfl | rfl
        · exact .inl (by simp)
        · exact .inr ⟨_, .here, by simpa using hbb⟩) (List.sublist_cons_self _ _) (fun q hq _ => by simp at hq; subst hq; simp)
    refine c_if F rfl (fun hc => ?_) (fun hc => ?_)
    · replace hc := of_decide_eq_true hc
      rw [if_pos hc]
      with_reducible refine c_region ?_
      refine stepD rfl F rfl (o_move (F.ev rfl) ?_); clear F; clear a; intro a F
      refine stepD rfl F rfl (o_move (F.ev rfl) ?_); clear F; clear a; intro a F
      refine stepD rfl F rfl (o_add (F.ev rfl) (F.ev rfl) (w_i64 (by omega) (by omega)) ?_); clear F; clear a; intro a F
      refine stepD rfl F rfl (o_assign (F.ev rfl) ?_); clear F; clear a; intro a F
      with_reducible refine l_nil ?_
      with_reducible refine q_then ?_
      with_reducible refine c_seq ?_
      with_reducible refine c_region ?_
      refine stepD rfl F rfl (o_move (F.ev rfl) ?_); clear F; clear a; intro a F
      refine stepD rfl F rfl (o_assign (F.ev rfl) ?_); clear F; clear a; intro a F
      with_reducible refine l_nil ?_
      with_reducible refine q_then ?_
      with_reducible refine c_ret ?_
      refine p_ret F rfl (.cons (.tmp (F.ev rfl)) .nil) ?_
      exact ⟨rfl, fin _ M⟩
    · replace hc := of_decide_eq_false hc
      rw [if_neg hc]
      with_reducible refine c_skip ?_
      with_reducible refine q_then ?_
      with_reducible refine c_seq ?_
      with_reducible refine c_region ?_
      refine stepD rfl F rfl (o_move (F.ev rfl) ?_); clear F; clear a; intro a F
      refine stepD rfl F rfl (o_assign (F.ev rfl) ?_); clear F; clear a; intro a F
      with_reducible refine l_nil ?_
      with_reducible refine q_then ?_
      with_reducible refine c_ret ?_
      refine p_ret F rfl (.cons (.tmp (F.ev rfl)) .nil) ?_
      exact ⟨rfl, fin _ M⟩
  · have hv : nxV xs k n = 0 := by unfold nxV; rw [if_neg (by omega)]
    have hkk : nxK xs k = k := by unfold nxK; rw [if_neg (by omega)]
    rw [hv, hkk]
    refine fn_ofM (n := 41) [bt] Try.func14 rfl rfl rfl ?_
    intro a w F M hwW
    replace M := M.came hwW hb (by simp) (by simp)
    unfold tobj at M
    with_reducible refine c_seq ?_
    with_reducible refine c_region ?_
    refine stepD rfl F rfl (o_assign (F.ev rfl) ?_); clear F; clear a; intro a F
    with_reducible refine l_nil ?_
    with_reducible refine q_then ?_
    with_reducible refine c_seq ?_
    with_reducible refine c_seq ?_
    refine c_draw 10 F (by kernel_rfl) ?_
    intro w1 hE hok
    have M1 := M.later hE
    refine mK hok rfl rfl (fun a' w' F' E' => o_move (F'.ev rfl) ⟨Ext.refl _ _, rfl⟩) ?_
    refine mK hok rfl rfl (fun a' w' F' E' => o_nilCheck (F'.ev rfl) rfl ⟨Ext.refl _ _, rfl⟩) ?_
    refine mK hok rfl rfl (fun a' w' F' E' => o_fieldAddr (F'.ev rfl) ⟨Ext.refl _ _, rfl⟩) ?_
    refine mK hok rfl rfl (fun a' w' F' E' => o_load1 (M1.later E') (F'.ev rfl) (by repeat (first | exact .here | apply Has.there)) (by first | assumption | rfl) ⟨Ext.refl _ _, rfl⟩) ?_
    refine mK hok rfl rfl (fun a' w' F' E' => o_move (F'.ev rfl) ⟨Ext.refl _ _, rfl⟩) ?_
    refine mK hok rfl rfl (fun a' w' F' E' => o_nilCheck (F'.ev rfl) rfl ⟨Ext.refl _ _, rfl⟩) ?_
    refine mK hok rfl rfl (fun a' w' F' E' => o_fieldAddr (F'.ev rfl) ⟨Ext.refl _ _, rfl⟩) ?_
    refine mK hok rfl rfl (fun a' w' F' E' => o_load1 (M1.later E') (F'.ev rfl) (by repeat (first | exact .here | apply Has.there)) (by first | assumption | rfl) ⟨Ext.refl _ _, rfl⟩) ?_
    refine mK hok rfl rfl (fun a' w' F' E' => o_lenSl (F'.ev rfl) ⟨Ext.refl _ _, rfl⟩) ?_
    refine mK hok rfl rfl (fun a' w' F' E' => o_geqT (F'.ev rfl) (F'.ev rfl) (by omega) ⟨Ext.refl _ _, rfl⟩) ?_
    (refine mDone rfl rfl ?_; clear F; clear M; intro a w F hE2 hX hTT hDD hPP; have M := M1.later hE2; clear M1; clear hX; clear hE2; clear hok; clear hE; clear hTT; clear hDD; clear hPP; (try dsimp only at F))
    with_reducible refine l_nil ?_
    with_reducible refine q_then ?_
    refine c_true F rfl rfl ?_
    with_reducible refine c_seq ?_
    with_reducible refine c_region ?_
    refine stepD rfl F rfl (o_assign (F.ev rfl) ?_); clear F; clear a; intro a F
    with_reducible refine l_nil ?_
    with_reducible refine q_then ?_
    with_reducible refine c_ret ?_
    with_reducible refine q_thenR ?_
    refine p_ret F rfl (.cons (.tmp (F.ev rfl)) .nil) ?_
    exact ⟨rfl, M⟩
end
section
set_option linter.unusedVariables false
set_option linter.unusedSimpArgs false
open Go.RowKit
attribute [local irreducible] OpTo wpListIn Code.wpIn MW Cal
/-- Behind a call that turned one block of ours. -/
theorem Mem.turn1 {S : List Nat} {W0 w w' : World} {l l' : List (Nat × Obj)} {b : Nat} {o o' : Obj} (M : Mem S W0 w l) (N : Mem [b] w w' [(b, o')]) (hu : Upd l b o o' l') : Mem S W0 w' l' := M.turned hu N.ext (N.heap .here)
def boolV (xs : List Int) (k : Nat) (n : Int) : Bool := nxV xs k n == n - 1
theorem bool_c {bt : Nat} {p : Option Addr} {len cap k : Nat} {xs : List Int} (n : Int) (hn : 0 < n) (hn2 : n ≤ 9223372036854775807) (W : World) (hT : TapeS W bt p len xs) (hb : W.heap[bt]? = some (tobj p len cap k)) :
    Cal Try.prog 17 [.pointer (some ⟨bt, 0, none⟩), .int .i64 n].toArray W fun v w' => v = .bool (boolV xs k n) ∧ Mem [bt] W w' [(bt, tobj p len cap (nxK xs k))] := by
  refine fn_ofM (n := 11) [bt] Try.func17 rfl rfl rfl ?_
  intro a w F M hwW
  replace M := M.came hwW hb (by simp) (by simp)
  with_reducible refine c_seq ?_
  with_reducible refine c_region ?_
  refine stepD rfl F rfl (o_assign (F.ev rfl) ?_); clear F; clear a; intro a F
  with_reducible refine l_nil ?_
  with_reducible refine q_then ?_
  with_reducible refine c_seq ?_
  with_reducible refine c_region ?_
  refine stepD rfl F rfl (o_move (F.ev rfl) ?_); clear F; clear a; intro a F
  refine stepD rfl F rfl (o_move (F.ev rfl) ?_); clear F; clear a; intro a F
  (refine stepD rfl F rfl (o_call (F.ev rfl) (F.evs rfl) (Cal.mono (next_c n hn hn2 _ (hT.later M.ext) (M.heap .here) ) ?_)); clear F; clear a; have M0 := M; clear M; rintro _ w ⟨rfl, N⟩ a F)
  replace M := M0.turn1 N .here
  refine stepD rfl F rfl (o_move (F.ev rfl) ?_); clear F; clear a; intro a F
  refine stepD rfl F rfl (o_sub (F.ev rfl) (F.ev rfl) (w_i64 (by omega) (by omega)) ?_); clear F; clear a; intro a F
  refine stepD rfl F rfl (o_eql (F.ev rfl) (F.ev rfl) ?_); clear F; clear a; intro a F
  refine stepD rfl F rfl (o_assign (F.ev rfl) ?_); clear F; clear a; intro a F
  with_reducible refine l_nil ?_
  with_reducible refine q_then ?_
  with_reducible refine c_ret ?_
  refine p_ret F rfl (.cons (.tmp (F.ev rfl)) .nil) ?_
  exact ⟨rfl, M⟩
/-- a slice of int that came in: its numbers -/
structure IntsAt (W : World) (v : Value) (xs : List Int) : Prop where
  ex : ∃ p cap, v = .slice p xs.length cap ∧ xs.length ≤ cap ∧ (0 < xs.length → ∃ b o cs t fz, p = some ⟨b, o, none⟩ ∧ W.heap[b]? = some (.cells cs t fz) ∧ seg cs.toList o xs.length = some (i64C xs))
  bd : ∀ x ∈ xs, -9223372036854775808 ≤ x ∧ x ≤ 9223372036854775807
  small : xs.length ≤ 9223372036854775807
def cut400 (xs : List Int) : List Int := xs.take 400
theorem seg_eq : ∀ (cs : List Value) (off n : Nat), seg cs off n = if off + n ≤ cs.length then some ((cs.drop off).take n) else none
  | [], 0, 0 => by simp [seg]
  | _ :: _, 0, 0 => by simp [seg]
  | [], 0, n + 1 => by simp [seg]
  | [], off + 1, n => by cases n <;> simp [seg]
  | x :: xs, 0, n + 1 => by
    simp only [seg]
    rw [seg_eq xs 0 n]
    by_cases h : n ≤ xs.length
    · rw [if_pos (by omega), if_pos (by simp; omega)]; simp
    · rw [if_neg (by omega), if_neg (by simp; omega)]
  | x :: xs, off + 1, n => by
    have : seg (x :: xs) (off + 1) n = seg xs off n := by cases n <;> rfl
    rw [this, seg_eq xs off n]
    by_cases h : off + n ≤ xs.length
    · rw [if_pos h, if_pos (by simp; omega)]; simp
    · rw [if_neg h, if_neg (by simp; omega)]
theorem seg_take {cs ys : List Value} {off n m : Nat} (h : seg cs off n = some ys) (hm : m ≤ n) : seg cs off m = some (ys.take m) := by
  rw [seg_eq] at h ⊢
  split at h
  · rename_i hle
    rw [if_pos (by omega)]
    simp only [Option.some.injEq] at h
    subst h
    rw [List.take_take, Nat.min_eq_left hm]
  · cases h
theorem tape_new {W w' : World} {bt : Nat} {p : Option Addr} {xs : List Int} (hE : Ext [] W w') (hbt : W.heap.size ≤ bt) (hbd : ∀ x ∈ xs, -9223372036854775808 ≤ x ∧ x ≤ 9223372036854775807)
    (hm : 0 < xs.length → ∃ b o cs t fz, p = some ⟨b, o, none⟩ ∧ W.heap[b]? = some (.cells cs t fz) ∧ seg cs.toList o xs.length = some (i64C xs)) : TapeS w' bt p (cut400 xs).length (cut400 xs) := by
  refine ⟨rfl, by unfold cut400; rw [List.length_take]; omega, fun x hx => hbd x (List.mem_of_mem_take hx), fun hl => ?_⟩
  have hl0 : 0 < xs.length := by unfold cut400 at hl; rw [List.length_take] at hl; omega
  obtain ⟨b, o, cs, t, fz, h1, h2, h3⟩ := hm hl0
  have hlt := (Array.getElem?_eq_some_iff.1 h2).1
  refine ⟨b, o, cs, t, fz, h1, by omega, by rw [hE.block b hlt (by simp)]; exact h2, ?_⟩
  have := seg_take h3 (show (cut400 xs).length ≤ xs.length by unfold cut400; rw [List.length_take]; omega)
  rw [this]
  unfold i64C cut400
  rw [← List.map_take, List.length_take, Nat.min_comm, ← List.take_take, List.take_of_length_le (show (List.take 400 xs).length ≤ xs.length by rw [List.length_take]; omega)]
set_option maxHeartbeats 400000 in
theorem new_c {p : Option Addr} {cap : Nat} (xs : List Int) (W : World) (hI : IntsAt W (.slice p xs.length cap) xs) (hcap : xs.length ≤ cap) : Cal Try.prog 8 [.slice p xs.length cap].toArray W fun x w' => ∃ bt, x = .pointer (some ⟨bt, 0, none⟩) ∧ Mem [] W w' [(bt, tobj p (cut400 xs).length cap 0)] := by
  have hsm := hI.small
  by_cases h4 : 400 < xs.length
  · obtain ⟨b, o, hpp⟩ : ∃ b o, p = some ⟨b, o, none⟩ := by
      obtain ⟨p', cap', h1, _, h3⟩ := hI.ex
      cases h1
      obtain ⟨b, o, _, _, _, h5, _⟩ := h3 (by omega)
      exact ⟨b, o, h5⟩
    have hl : (cut400 xs).length = 400 := by unfold cut400; rw [List.length_take]; omega
    refine fn_ofM (n := 11) [] Try.func8 rfl rfl rfl ?_
    intro a w F M hwW
    with_reducible refine c_seq ?_
    with_reducible refine c_region ?_
    refine stepD rfl F rfl (o_assign (F.ev rfl) ?_); clear F; clear a; intro a F
    with_reducible refine l_nil ?_
    with_reducible refine q_then ?_
    with_reducible refine c_seq ?_
    with_reducible refine c_seq ?_
    with_reducible refine c_region ?_
    refine stepD rfl F rfl (o_move (F.ev rfl) ?_); clear F; clear a; intro a F
    refine stepD rfl F rfl (o_lenSl (F.ev rfl) ?_); clear F; clear a; intro a F
    refine stepD rfl F rfl (o_gtrT (F.ev rfl) (F.ev rfl) (by omega) ?_); clear F; clear a; intro a F
    with_reducible refine l_nil ?_
    with_reducible refine q_then ?_
    refine c_true F rfl rfl ?_
    with_reducible refine c_region ?_
    refine stepD rfl F rfl (o_move (F.ev rfl) ?_); clear F; clear a; intro a F
    (refine stepD rfl F rfl (o_slH (F.ev rfl) (F.ev rfl) (fun _ _ => trivial) (by omega) (by omega) ?_); clear F; clear a; intro a F)
    refine stepD rfl F rfl (o_assign (F.ev rfl) ?_); clear F; clear a; intro a F
    with_reducible refine l_nil ?_
    with_reducible refine q_then ?_
    with_reducible refine c_seq ?_
    with_reducible refine c_region ?_
    refine stepD rfl F rfl (o_move (F.ev rfl) ?_); clear F; clear a; intro a F
    refine stepD rfl F rfl (o_build F rfl rfl ?_); clear F; clear a; intro a F
    (refine stepD rfl F rfl (o_box M (F.ev rfl) rfl ?_); clear F; clear M; intro bt w M a F)
    refine stepD rfl F rfl (o_assign (F.ev rfl) ?_); clear F; clear a; intro a F
    with_reducible refine l_nil ?_
    with_reducible refine q_then ?_
    with_reducible refine c_ret ?_
    refine p_ret F rfl (.cons (.tmp (F.ev rfl)) .nil) ?_
    refine ⟨bt, rfl, ?_⟩
    rw [hl]; exact M
  · have hl : (cut400 xs).length = xs.length := by unfold cut400; rw [List.length_take]; omega
    refine fn_ofM (n := 11) [] Try.func8 rfl rfl rfl ?_
    intro a w F M hwW
    with_reducible refine c_seq ?_
    with_reducible refine c_region ?_
    refine stepD rfl F rfl (o_assign (F.ev rfl) ?_); clear F; clear a; intro a F
    with_reducible refine l_nil ?_
    with_reducible refine q_then ?_
    with_reducible refine c_seq ?_
    with_reducible refine c_seq ?_
    with_reducible refine c_region ?_
    refine stepD rfl F rfl (o_move (F.ev rfl) ?_); clear F; clear a; intro a F
    refine stepD rfl F rfl (o_lenSl (F.ev rfl) ?_); clear F; clear a; intro a F
    refine stepD rfl F rfl (o_gtrF (F.ev rfl) (F.ev rfl) (by omega) ?_); clear F; clear a; intro a F
    with_reducible refine l_nil ?_
    with_reducible refine q_then ?_
    refine c_false F rfl rfl ?_
    with_reducible refine c_skip ?_
    with_reducible refine q_then ?_
    with_reducible refine c_seq ?_
    with_reducible refine c_region ?_
    refine stepD rfl F rfl (o_move (F.ev rfl) ?_); clear F; clear a; intro a F
    refine stepD rfl F rfl (o_build F rfl rfl ?_); clear F; clear a; intro a F
    (refine stepD rfl F rfl (o_box M (F.ev rfl) rfl ?_); clear F; clear M; intro bt w M a F)
    refine stepD rfl F rfl (o_assign (F.ev rfl) ?_); clear F; clear a; intro a F
    with_reducible refine l_nil ?_
    with_reducible refine q_then ?_
    with_reducible refine c_ret ?_
    refine p_ret F rfl (.cons (.tmp (F.ev rfl)) .nil) ?_
    refine ⟨bt, rfl, ?_⟩
    rw [hl]; exact M
theorem IntsAt.later {W w : World} {v : Value} {xs : List Int} (h : IntsAt W v xs) (E : Ext [] W w) : IntsAt w v xs := by
  refine ⟨?_, h.bd, h.small⟩
  obtain ⟨p, cap, h1, h2, h3⟩ := h.ex
  refine ⟨p, cap, h1, h2, fun hl => ?_⟩
  obtain ⟨b, o, cs, t, fz, g1, g2, g3⟩ := h3 hl
  exact ⟨b, o, cs, t, fz, g1, by rw [E.block b (Array.getElem?_eq_some_iff.1 g2).1 (by simp)]; exact g2, g3⟩
end
section
set_option linter.unusedVariables false
set_option linter.unusedSimpArgs false
open Go.RowKit
attribute [local irreducible] OpTo wpListIn Code.wpIn MW Cal
set_option maxHeartbeats 400000 in
theorem rvalid_c (m s e : Int) (W : World) : Cal Try.prog 124 [.agg (adC m s e).toArray].toArray W fun v w' => v = .bool (validA m s e) ∧ Ext [] W w' := by
  unfold adC validA
  by_cases h0 : m = 0
  · subst h0
    by_cases hs : s = 0
    · refine fn_ofM (n := 25) [] Try.func124 rfl rfl rfl ?_
      intro a w F M hwW
      refine c_seq ?_
      refine c_region ?_
      (refine stepD rfl F rfl (o_box M (F.ev rfl) rfl ?_); clear F; clear M; intro b1 w M a F)
      refine stepD rfl F rfl (o_assign (F.ev rfl) ?_); clear F; clear a; intro a F
      with_reducible refine l_nil ?_
      with_reducible refine q_then ?_
      with_reducible refine c_seq ?_
      with_reducible refine c_seq ?_
      with_reducible refine c_region ?_
      refine stepD rfl F rfl (o_fieldAddr (F.ev rfl) ?_); clear F; clear a; intro a F
      refine stepD rfl F rfl (o_load1 M (F.ev rfl) (by repeat (first | exact .here | apply Has.there)) (by first | assumption | rfl) ?_); clear F; clear a; intro a F
      with_reducible refine l_nil ?_
      with_reducible refine q_then ?_
      with_reducible refine c_block ?_
      with_reducible refine c_seq ?_
      with_reducible refine c_region ?_
      refine stepD rfl F rfl (o_eqlT (F.ev rfl) (F.ev rfl) (by omega) ?_); clear F; clear a; intro a F
      refine stepD rfl F rfl (o_assign (F.ev rfl) ?_); clear F; clear a; intro a F
      with_reducible refine l_nil ?_
      with_reducible refine q_then ?_
      refine c_true F rfl rfl ?_
      with_reducible refine c_seq ?_
      with_reducible refine c_region ?_
      refine stepD rfl F rfl (o_fieldAddr (F.ev rfl) ?_); clear F; clear a; intro a F
      refine stepD rfl F rfl (o_load1 M (F.ev rfl) (by repeat (first | exact .here | apply Has.there)) (by first | assumption | rfl) ?_); clear F; clear a; intro a F
      refine stepD rfl F rfl (o_eqlT (F.ev rfl) (F.ev rfl) (by omega) ?_); clear F; clear a; intro a F
      refine stepD rfl F rfl (o_move (F.ev rfl) ?_); clear F; clear a; intro a F
      refine stepG rfl F rfl rfl rfl (o_fieldAddr (F.ev rfl) ?_); clear F; clear a; intro a F
      refine stepG rfl F rfl rfl rfl (o_load1 M (F.ev rfl) (by repeat (first | exact .here | apply Has.there)) (by first | assumption | rfl) ?_); clear F; clear a; intro a F
      refine stepG rfl F rfl rfl rfl (o_eql (F.ev rfl) (F.ev rfl) ?_); clear F; clear a; intro a F
      refine stepD rfl F rfl (o_pickT (F.ev rfl) (F.ev rfl) ?_); clear F; clear a; intro a F
      refine stepD rfl F rfl (o_assign (F.ev rfl) ?_); clear F; clear a; intro a F
      with_reducible refine l_nil ?_
      with_reducible refine q_then ?_
      with_reducible refine c_ret ?_
      with_reducible refine q_inBR ?_
      with_reducible refine q_thenR ?_
      refine p_ret F rfl (.cons (.tmp (F.ev rfl)) .nil) ?_
      exact ⟨by simp [oneOr, hs], M.ext⟩
    · refine fn_ofM (n := 25) [] Try.func124 rfl rfl rfl ?_
      intro a w F M hwW
      refine c_seq ?_
      refine c_region ?_
      (refine stepD rfl F rfl (o_box M (F.ev rfl) rfl ?_); clear F; clear M; intro b1 w M a F)
      refine stepD rfl F rfl (o_assign (F.ev rfl) ?_); clear F; clear a; intro a F
      with_reducible refine l_nil ?_
      with_reducible refine q_then ?_
      with_reducible refine c_seq ?_
      with_reducible refine c_seq ?_
      with_reducible refine c_region ?_
      refine stepD rfl F rfl (o_fieldAddr (F.ev rfl) ?_); clear F; clear a; intro a F
      refine stepD rfl F rfl (o_load1 M (F.ev rfl) (by repeat (first | exact .here | apply Has.there)) (by first | assumption | rfl) ?_); clear F; clear a; intro a F
      with_reducible refine l_nil ?_
      with_reducible refine q_then ?_
      with_reducible refine c_block ?_
      with_reducible refine c_seq ?_
      with_reducible refine c_region ?_
      refine stepD rfl F rfl (o_eqlT (F.ev rfl) (F.ev rfl) (by omega) ?_); clear F; clear a; intro a F
      refine stepD rfl F rfl (o_assign (F.ev rfl) ?_); clear F; clear a; intro a F
      with_reducible refine l_nil ?_
      with_reducible refine q_then ?_
      refine c_true F rfl rfl ?_
      with_reducible refine c_seq ?_
      with_reducible refine c_region ?_
      refine stepD rfl F rfl (o_fieldAddr (F.ev rfl) ?_); clear F; clear a; intro a F
      refine stepD rfl F rfl (o_load1 M (F.ev rfl) (by repeat (first | exact .here | apply Has.there)) (by first | assumption | rfl) ?_); clear F; clear a; intro a F
      refine stepD rfl F rfl (o_eqlF (F.ev rfl) (F.ev rfl) (by omega) ?_); clear F; clear a; intro a F
      refine stepD rfl F rfl (o_move (F.ev rfl) ?_); clear F; clear a; intro a F
      refine stepOff F rfl rfl rfl rfl ?_; clear F; clear a; intro a F
      refine stepOff F rfl rfl rfl rfl ?_; clear F; clear a; intro a F
      refine stepOff F rfl rfl rfl rfl ?_; clear F; clear a; intro a F
      refine stepD rfl F rfl (o_pickF (F.ev rfl) (F.ev rfl) ?_); clear F; clear a; intro a F
      refine stepD rfl F rfl (o_assign (F.ev rfl) ?_); clear F; clear a; intro a F
      with_reducible refine l_nil ?_
      with_reducible refine q_then ?_
      with_reducible refine c_ret ?_
      with_reducible refine q_inBR ?_
      with_reducible refine q_thenR ?_
      refine p_ret F rfl (.cons (.tmp (F.ev rfl)) .nil) ?_
      exact ⟨by simp [oneOr, hs], M.ext⟩
  · by_cases h2 : m = 2
    · subst h2
      refine fn_ofM (n := 25) [] Try.func124 rfl rfl rfl ?_
      intro a w F M hwW
      refine c_seq ?_
      refine c_region ?_
      (refine stepD rfl F rfl (o_box M (F.ev rfl) rfl ?_); clear F; clear M; intro b1 w M a F)
      refine stepD rfl F rfl (o_assign (F.ev rfl) ?_); clear F; clear a; intro a F
      with_reducible refine l_nil ?_
      with_reducible refine q_then ?_
      with_reducible refine c_seq ?_
      with_reducible refine c_seq ?_
      with_reducible refine c_region ?_
      refine stepD rfl F rfl (o_fieldAddr (F.ev rfl) ?_); clear F; clear a; intro a F
      refine stepD rfl F rfl (o_load1 M (F.ev rfl) (by repeat (first | exact .here | apply Has.there)) (by first | assumption | rfl) ?_); clear F; clear a; intro a F
      with_reducible refine l_nil ?_
      with_reducible refine q_then ?_
      with_reducible refine c_block ?_
      with_reducible refine c_seq ?_
      with_reducible refine c_region ?_
      refine stepD rfl F rfl (o_eqlF (F.ev rfl) (F.ev rfl) (by omega) ?_); clear F; clear a; intro a F
      refine stepD rfl F rfl (o_assign (F.ev rfl) ?_); clear F; clear a; intro a F
      with_reducible refine l_nil ?_
      with_reducible refine q_then ?_
      refine c_false F rfl rfl ?_
      with_reducible refine c_seq ?_
      with_reducible refine c_region ?_
      refine stepD rfl F rfl (o_eqlT (F.ev rfl) (F.ev rfl) (by omega) ?_); clear F; clear a; intro a F
      refine stepD rfl F rfl (o_assign (F.ev rfl) ?_); clear F; clear a; intro a F
      with_reducible refine l_nil ?_
      with_reducible refine q_then ?_
      refine c_true F rfl rfl ?_
      with_reducible refine c_seq ?_
      with_reducible refine c_region ?_
      refine stepD rfl F rfl (o_fieldAddr (F.ev rfl) ?_); clear F; clear a; intro a F
      refine stepD rfl F rfl (o_load1 M (F.ev rfl) (by repeat (first | exact .here | apply Has.there)) (by first | assumption | rfl) ?_); clear F; clear a; intro a F
      refine stepD rfl F rfl (o_eql (F.ev rfl) (F.ev rfl) ?_); clear F; clear a; intro a F
      refine stepD rfl F rfl (o_assign (F.ev rfl) ?_); clear F; clear a; intro a F
      with_reducible refine l_nil ?_
      with_reducible refine q_then ?_
      with_reducible refine c_ret ?_
      with_reducible refine q_inBR ?_
      with_reducible refine q_thenR ?_
      refine p_ret F rfl (.cons (.tmp (F.ev rfl)) .nil) ?_
      exact ⟨by simp [oneOr], M.ext⟩
    · by_cases h3 : m = 3
      · subst h3
        refine fn_ofM (n := 25) [] Try.func124 rfl rfl rfl ?_
        intro a w F M hwW
        refine c_seq ?_
        refine c_region ?_
        (refine stepD rfl F rfl (o_box M (F.ev rfl) rfl ?_); clear F; clear M; intro b1 w M a F)
        refine stepD rfl F rfl (o_assign (F.ev rfl) ?_); clear F; clear a; intro a F
        with_reducible refine l_nil ?_
        with_reducible refine q_then ?_
        with_reducible refine c_seq ?_
        with_reducible refine c_seq ?_
        with_reducible refine c_region ?_
        refine stepD rfl F rfl (o_fieldAddr (F.ev rfl) ?_); clear F; clear a; intro a F
        refine stepD rfl F rfl (o_load1 M (F.ev rfl) (by repeat (first | exact .here | apply Has.there)) (by first | assumption | rfl) ?_); clear F; clear a; intro a F
        with_reducible refine l_nil ?_
        with_reducible refine q_then ?_
        with_reducible refine c_block ?_
        with_reducible refine c_seq ?_
        with_reducible refine c_region ?_
        refine stepD rfl F rfl (o_eqlF (F.ev rfl) (F.ev rfl) (by omega) ?_); clear F; clear a; intro a F
        refine stepD rfl F rfl (o_assign (F.ev rfl) ?_); clear F; clear a; intro a F
        with_reducible refine l_nil ?_
        with_reducible refine q_then ?_
        refine c_false F rfl rfl ?_
        with_reducible refine c_seq ?_
        with_reducible refine c_region ?_
        refine stepD rfl F rfl (o_eqlF (F.ev rfl) (F.ev rfl) (by omega) ?_); clear F; clear a; intro a F
        refine stepD rfl F rfl (o_assign (F.ev rfl) ?_); clear F; clear a; intro a F
        with_reducible refine l_nil ?_
        with_reducible refine q_then ?_
        refine c_false F rfl rfl ?_
        with_reducible refine c_seq ?_
        with_reducible refine c_region ?_
        refine stepD rfl F rfl (o_eqlT (F.ev rfl) (F.ev rfl) (by omega) ?_); clear F; clear a; intro a F
        refine stepD rfl F rfl (o_assign (F.ev rfl) ?_); clear F; clear a; intro a F
        with_reducible refine l_nil ?_
        with_reducible refine q_then ?_
        refine c_true F rfl rfl ?_
        with_reducible refine c_seq ?_
        with_reducible refine c_region ?_
        refine stepD rfl F rfl (o_fieldAddr (F.ev rfl) ?_); clear F; clear a; intro a F
        refine stepD rfl F rfl (o_load1 M (F.ev rfl) (by repeat (first | exact .here | apply Has.there)) (by first | assumption | rfl) ?_); clear F; clear a; intro a F
        refine stepD rfl F rfl (o_eql (F.ev rfl) (F.ev rfl) ?_); clear F; clear a; intro a F
        refine stepD rfl F rfl (o_assign (F.ev rfl) ?_); clear F; clear a; intro a F
        with_reducible refine l_nil ?_
        with_reducible refine q_then ?_
        with_reducible refine c_ret ?_
        with_reducible refine q_inBR ?_
        with_reducible refine q_thenR ?_
        refine p_ret F rfl (.cons (.tmp (F.ev rfl)) .nil) ?_
        exact ⟨by simp [oneOr], M.ext⟩
      · refine fn_ofM (n := 25) [] Try.func124 rfl rfl rfl ?_
        intro a w F M hwW
        refine c_seq ?_
        refine c_region ?_
        (refine stepD rfl F rfl (o_box M (F.ev rfl) rfl ?_); clear F; clear M; intro b1 w M a F)
        refine stepD rfl F rfl (o_assign (F.ev rfl) ?_); clear F; clear a; intro a F
        with_reducible refine l_nil ?_
        with_reducible refine q_then ?_
        with_reducible refine c_seq ?_
        with_reducible refine c_seq ?_
        with_reducible refine c_region ?_
        refine stepD rfl F rfl (o_fieldAddr (F.ev rfl) ?_); clear F; clear a; intro a F
        refine stepD rfl F rfl (o_load1 M (F.ev rfl) (by repeat (first | exact .here | apply Has.there)) (by first | assumption | rfl) ?_); clear F; clear a; intro a F
        with_reducible refine l_nil ?_
        with_reducible refine q_then ?_
        with_reducible refine c_block ?_
        with_reducible refine c_seq ?_
        with_reducible refine c_region ?_
        refine stepD rfl F rfl (o_eqlF (F.ev rfl) (F.ev rfl) (by omega) ?_); clear F; clear a; intro a F
        refine stepD rfl F rfl (o_assign (F.ev rfl) ?_); clear F; clear a; intro a F
        with_reducible refine l_nil ?_
        with_reducible refine q_then ?_
        refine c_false F rfl rfl ?_
        with_reducible refine c_seq ?_
        with_reducible refine c_region ?_
        refine stepD rfl F rfl (o_eqlF (F.ev rfl) (F.ev rfl) (by omega) ?_); clear F; clear a; intro a F
        refine stepD rfl F rfl (o_assign (F.ev rfl) ?_); clear F; clear a; intro a F
        with_reducible refine l_nil ?_
        with_reducible refine q_then ?_
        refine c_false F rfl rfl ?_
        with_reducible refine c_seq ?_
        with_reducible refine c_region ?_
        refine stepD rfl F rfl (o_eqlF (F.ev rfl) (F.ev rfl) (by omega) ?_); clear F; clear a; intro a F
        refine stepD rfl F rfl (o_assign (F.ev rfl) ?_); clear F; clear a; intro a F
        with_reducible refine l_nil ?_
        with_reducible refine q_then ?_
        refine c_false F rfl rfl ?_
        with_reducible refine c_skip ?_
        with_reducible refine q_inB ?_
        with_reducible refine q_then ?_
        with_reducible refine c_seq ?_
        with_reducible refine c_region ?_
        refine stepD rfl F rfl (o_assign (F.ev rfl) ?_); clear F; clear a; intro a F
        with_reducible refine l_nil ?_
        with_reducible refine q_then ?_
        with_reducible refine c_ret ?_
        refine p_ret F rfl (.cons (.tmp (F.ev rfl)) .nil) ?_
        exact ⟨by simp [oneOr, h0, h2, h3], M.ext⟩
def someA (m s e : Int) : Bool := validA m s e && decide (m ≠ 0)
theorem some_c (m s e : Int) (W : World) : Cal Try.prog 108 [.agg (adC m s e).toArray].toArray W fun v w' => v = .bool (someA m s e) ∧ Ext [] W w' := by
  have hb : @Eq (List Value) (adC m s e) [.int .i64 m, .int .u16 s, .int .u64 e] := rfl
  unfold someA
  cases hv : validA m s e
  · refine fn_ofM (n := 10) [] Try.func108 rfl rfl rfl ?_
    intro a w F M hwW
    refine c_seq ?_
    refine c_region ?_
    (refine stepD rfl F rfl (o_box M (F.ev rfl) rfl ?_); clear F; clear M; intro b1 w M a F)
    refine stepD rfl F rfl (o_assign (F.ev rfl) ?_); clear F; clear a; intro a F
    with_reducible refine l_nil ?_
    with_reducible refine q_then ?_
    with_reducible refine c_seq ?_
    with_reducible refine c_region ?_
    refine stepD rfl F rfl (o_loadA M (F.ev rfl) (by repeat (first | exact .here | apply Has.there)) (by first | assumption | rfl) ?_); clear F; clear a; intro a F
    (refine stepD rfl F rfl (o_call (F.ev rfl) (F.evs rfl) (Cal.mono (Cal.to (rvalid_c m s e _) (by rw [hv])) ?_)); clear F; clear a; rintro _ w ⟨rfl, hE⟩ a F; replace M := M.later hE; clear hE)
    refine stepD rfl F rfl (o_move (F.ev rfl) ?_); clear F; clear a; intro a F
    refine stepOff F rfl rfl rfl rfl ?_; clear F; clear a; intro a F
    refine stepOff F rfl rfl rfl rfl ?_; clear F; clear a; intro a F
    refine stepOff F rfl rfl rfl rfl ?_; clear F; clear a; intro a F
    refine stepD rfl F rfl (o_pickF (F.ev rfl) (F.ev rfl) ?_); clear F; clear a; intro a F
    refine stepD rfl F rfl (o_assign (F.ev rfl) ?_); clear F; clear a; intro a F
    with_reducible refine l_nil ?_
    with_reducible refine q_then ?_
    with_reducible refine c_ret ?_
    refine p_ret F rfl (.cons (.tmp (F.ev rfl)) .nil) ?_
    exact ⟨rfl, M.ext⟩
  · by_cases h0 : m = 0
    · refine fn_ofM (n := 10) [] Try.func108 rfl rfl rfl ?_
      intro a w F M hwW
      refine c_seq ?_
      refine c_region ?_
      (refine stepD rfl F rfl (o_box M (F.ev rfl) rfl ?_); clear F; clear M; intro b1 w M a F)
      refine stepD rfl F rfl (o_assign (F.ev rfl) ?_); clear F; clear a; intro a F
      with_reducible refine l_nil ?_
      with_reducible refine q_then ?_
      with_reducible refine c_seq ?_
      with_reducible refine c_region ?_
      refine stepD rfl F rfl (o_loadA M (F.ev rfl) (by repeat (first | exact .here | apply Has.there)) (by first | assumption | rfl) ?_); clear F; clear a; intro a F
      (refine stepD rfl F rfl (o_call (F.ev rfl) (F.evs rfl) (Cal.mono (Cal.to (rvalid_c m s e _) (by rw [hv])) ?_)); clear F; clear a; rintro _ w ⟨rfl, hE⟩ a F; replace M := M.later hE; clear hE)
      refine stepD rfl F rfl (o_move (F.ev rfl) ?_); clear F; clear a; intro a F
      refine stepG rfl F rfl rfl rfl (o_fieldAddr (F.ev rfl) ?_); clear F; clear a; intro a F
      refine stepG rfl F rfl rfl rfl (o_load1 M (F.ev rfl) (by repeat (first | exact .here | apply Has.there)) (by first | assumption | rfl) ?_); clear F; clear a; intro a F
      refine stepG rfl F rfl rfl rfl (o_neqF (F.ev rfl) (F.ev rfl) (by omega) ?_); clear F; clear a; intro a F
      refine stepD rfl F rfl (o_pickT (F.ev rfl) (F.ev rfl) ?_); clear F; clear a; intro a F
      refine stepD rfl F rfl (o_assign (F.ev rfl) ?_); clear F; clear a; intro a F
      with_reducible refine l_nil ?_
      with_reducible refine q_then ?_
      with_reducible refine c_ret ?_
      refine p_ret F rfl (.cons (.tmp (F.ev rfl)) .nil) ?_
      exact ⟨by simp [oneOr, h0], M.ext⟩
    · refine fn_ofM (n := 10) [] Try.func108 rfl rfl rfl ?_
      intro a w F M hwW
      refine c_seq ?_
      refine c_region ?_
      (refine stepD rfl F rfl (o_box M (F.ev rfl) rfl ?_); clear F; clear M; intro b1 w M a F)
      refine stepD rfl F rfl (o_assign (F.ev rfl) ?_); clear F; clear a; intro a F
      with_reducible refine l_nil ?_
      with_reducible refine q_then ?_
      with_reducible refine c_seq ?_
      with_reducible refine c_region ?_
      refine stepD rfl F rfl (o_loadA M (F.ev rfl) (by repeat (first | exact .here | apply Has.there)) (by first | assumption | rfl) ?_); clear F; clear a; intro a F
      (refine stepD rfl F rfl (o_call (F.ev rfl) (F.evs rfl) (Cal.mono (Cal.to (rvalid_c m s e _) (by rw [hv])) ?_)); clear F; clear a; rintro _ w ⟨rfl, hE⟩ a F; replace M := M.later hE; clear hE)
      refine stepD rfl F rfl (o_move (F.ev rfl) ?_); clear F; clear a; intro a F
      refine stepG rfl F rfl rfl rfl (o_fieldAddr (F.ev rfl) ?_); clear F; clear a; intro a F
      refine stepG rfl F rfl rfl rfl (o_load1 M (F.ev rfl) (by repeat (first | exact .here | apply Has.there)) (by first | assumption | rfl) ?_); clear F; clear a; intro a F
      refine stepG rfl F rfl rfl rfl (o_neqT (F.ev rfl) (F.ev rfl) (by omega) ?_); clear F; clear a; intro a F
      refine stepD rfl F rfl (o_pickT (F.ev rfl) (F.ev rfl) ?_); clear F; clear a; intro a F
      refine stepD rfl F rfl (o_assign (F.ev rfl) ?_); clear F; clear a; intro a F
      with_reducible refine l_nil ?_
      with_reducible refine q_then ?_
      with_reducible refine c_ret ?_
      refine p_ret F rfl (.cons (.tmp (F.ev rfl)) .nil) ?_
      exact ⟨by simp [oneOr, h0], M.ext⟩
theorem some_mode {m s e : Int} (h : someA m s e = true) : validA m s e = true ∧ (m = 2 ∨ m = 3) := by
  simp only [someA, Bool.and_eq_true, decide_eq_true_eq] at h
  refine ⟨h.1, ?_⟩
  have hv := h.1
  unfold validA at hv
  by_cases h2 : m = 2
  · exact .inl h2
  · by_cases h3 : m = 3
    · exact .inr h3
    · simp [h.2, h2, h3] at hv
theorem none_iid {m s e : Int} (h : someA m s e = false) : iidA m s e = none := by
  unfold iidA
  cases hv : validA m s e
  · simp
  · have h0 : m = 0 := by
      simp only [someA, hv, Bool.true_and, decide_eq_false_iff_not, ne_eq, Classical.not_not] at h
      exact h
    simp [h0]
set_option maxHeartbeats 400000 in
theorem riid_c (m s e : Int) (hs0 : 0 ≤ s) (hs1 : s ≤ 65535) (W : World) : Cal Try.prog 93 [.agg (adC m s e).toArray].toArray W fun v w' => v = optU (iidA m s e) ∧ Ext [] W w' := by
  have hb : @Eq (List Value) (adC m s e) [.int .i64 m, .int .u16 s, .int .u64 e] := rfl
  cases hv : someA m s e
  · refine fn_ofM (n := 17) [] Try.func93 rfl rfl rfl ?_
    intro a w F M hwW
    refine c_seq ?_
    refine c_region ?_
    (refine stepD rfl F rfl (o_box M (F.ev rfl) rfl ?_); clear F; clear M; intro b1 w M a F)
    refine stepD rfl F rfl (o_assign (F.ev rfl) ?_); clear F; clear a; intro a F
    refine stepD rfl F rfl (o_assign (F.ev rfl) ?_); clear F; clear a; intro a F
    with_reducible refine l_nil ?_
    with_reducible refine q_then ?_
    with_reducible refine c_seq ?_
    with_reducible refine c_seq ?_
    with_reducible refine c_region ?_
    refine stepD rfl F rfl (o_loadA M (F.ev rfl) (by repeat (first | exact .here | apply Has.there)) (by first | assumption | rfl) ?_); clear F; clear a; intro a F
    (refine stepD rfl F rfl (o_call (F.ev rfl) (F.evs rfl) (Cal.mono (Cal.to (some_c m s e _) (by rw [hv])) ?_)); clear F; clear a; rintro _ w ⟨rfl, hE⟩ a F; replace M := M.later hE; clear hE)
    refine stepD rfl F rfl (o_not (F.ev rfl) ?_); clear F; clear a; intro a F
    with_reducible refine l_nil ?_
    with_reducible refine q_then ?_
    refine c_true F rfl rfl ?_
    with_reducible refine c_seq ?_
    with_reducible refine c_region ?_
    refine stepD rfl F rfl (o_assign (F.ev rfl) ?_); clear F; clear a; intro a F
    refine stepD rfl F rfl (o_assign (F.ev rfl) ?_); clear F; clear a; intro a F
    with_reducible refine l_nil ?_
    with_reducible refine q_then ?_
    with_reducible refine c_ret ?_
    with_reducible refine q_thenR ?_
    refine p_ret F rfl (.cons (.tmp (F.ev rfl)) (.cons (.tmp (F.ev rfl)) .nil)) ?_
    exact ⟨by simp [oneOr, optU, none_iid hv], M.ext⟩
  · obtain ⟨h1, h2⟩ := some_mode hv
    rcases h2 with rfl | rfl
    · refine fn_ofM (n := 17) [] Try.func93 rfl rfl rfl ?_
      intro a w F M hwW
      refine c_seq ?_
      refine c_region ?_
      (refine stepD rfl F rfl (o_box M (F.ev rfl) rfl ?_); clear F; clear M; intro b1 w M a F)
      refine stepD rfl F rfl (o_assign (F.ev rfl) ?_); clear F; clear a; intro a F
      refine stepD rfl F rfl (o_assign (F.ev rfl) ?_); clear F; clear a; intro a F
      with_reducible refine l_nil ?_
      with_reducible refine q_then ?_
      with_reducible refine c_seq ?_
      with_reducible refine c_seq ?_
      with_reducible refine c_region ?_
      refine stepD rfl F rfl (o_loadA M (F.ev rfl) (by repeat (first | exact .here | apply Has.there)) (by first | assumption | rfl) ?_); clear F; clear a; intro a F
      (refine stepD rfl F rfl (o_call (F.ev rfl) (F.evs rfl) (Cal.mono (Cal.to (some_c 2 s e _) (by rw [hv])) ?_)); clear F; clear a; rintro _ w ⟨rfl, hE⟩ a F; replace M := M.later hE; clear hE)
      refine stepD rfl F rfl (o_not (F.ev rfl) ?_); clear F; clear a; intro a F
      with_reducible refine l_nil ?_
      with_reducible refine q_then ?_
      refine c_false F rfl rfl ?_
      with_reducible refine c_skip ?_
      with_reducible refine q_then ?_
      with_reducible refine c_seq ?_
      with_reducible refine c_seq ?_
      with_reducible refine c_region ?_
      refine stepD rfl F rfl (o_fieldAddr (F.ev rfl) ?_); clear F; clear a; intro a F
      refine stepD rfl F rfl (o_load1 M (F.ev rfl) (by repeat (first | exact .here | apply Has.there)) (by first | assumption | rfl) ?_); clear F; clear a; intro a F
      refine stepD rfl F rfl (o_eqlF (F.ev rfl) (F.ev rfl) (by omega) ?_); clear F; clear a; intro a F
      with_reducible refine l_nil ?_
      with_reducible refine q_then ?_
      refine c_false F rfl rfl ?_
      with_reducible refine c_skip ?_
      with_reducible refine q_then ?_
      with_reducible refine c_seq ?_
      with_reducible refine c_region ?_
      refine stepD rfl F rfl (o_fieldAddr (F.ev rfl) ?_); clear F; clear a; intro a F
      refine stepD rfl F rfl (o_load1 M (F.ev rfl) (by repeat (first | exact .here | apply Has.there)) (by first | assumption | rfl) ?_); clear F; clear a; intro a F
      refine stepD rfl F rfl (o_conv (F.ev rfl) (w_u64 (by omega) (by omega)) ?_); clear F; clear a; intro a F
      refine stepD rfl F rfl (o_add (F.ev rfl) (F.ev rfl) (w_u64 (by omega) (by omega)) ?_); clear F; clear a; intro a F
      refine stepD rfl F rfl (o_assign (F.ev rfl) ?_); clear F; clear a; intro a F
      refine stepD rfl F rfl (o_assign (F.ev rfl) ?_); clear F; clear a; intro a F
      with_reducible refine l_nil ?_
      with_reducible refine q_then ?_
      with_reducible refine c_ret ?_
      refine p_ret F rfl (.cons (.tmp (F.ev rfl)) (.cons (.tmp (F.ev rfl)) .nil)) ?_
      exact ⟨by simp [oneOr, optU, iidA, h1], M.ext⟩
    · refine fn_ofM (n := 17) [] Try.func93 rfl rfl rfl ?_
      intro a w F M hwW
      refine c_seq ?_
      refine c_region ?_
      (refine stepD rfl F rfl (o_box M (F.ev rfl) rfl ?_); clear F; clear M; intro b1 w M a F)
      refine stepD rfl F rfl (o_assign (F.ev rfl) ?_); clear F; clear a; intro a F
      refine stepD rfl F rfl (o_assign (F.ev rfl) ?_); clear F; clear a; intro a F
      with_reducible refine l_nil ?_
      with_reducible refine q_then ?_
      with_reducible refine c_seq ?_
      with_reducible refine c_seq ?_
      with_reducible refine c_region ?_
      refine stepD rfl F rfl (o_loadA M (F.ev rfl) (by repeat (first | exact .here | apply Has.there)) (by first | assumption | rfl) ?_); clear F; clear a; intro a F
      (refine stepD rfl F rfl (o_call (F.ev rfl) (F.evs rfl) (Cal.mono (Cal.to (some_c 3 s e _) (by rw [hv])) ?_)); clear F; clear a; rintro _ w ⟨rfl, hE⟩ a F; replace M := M.later hE; clear hE)
      refine stepD rfl F rfl (o_not (F.ev rfl) ?_); clear F; clear a; intro a F
      with_reducible refine l_nil ?_
      with_reducible refine q_then ?_
      refine c_false F rfl rfl ?_
      with_reducible refine c_skip ?_
      with_reducible refine q_then ?_
      with_reducible refine c_seq ?_
      with_reducible refine c_seq ?_
      with_reducible refine c_region ?_
      refine stepD rfl F rfl (o_fieldAddr (F.ev rfl) ?_); clear F; clear a; intro a F
      refine stepD rfl F rfl (o_load1 M (F.ev rfl) (by repeat (first | exact .here | apply Has.there)) (by first | assumption | rfl) ?_); clear F; clear a; intro a F
      refine stepD rfl F rfl (o_eqlT (F.ev rfl) (F.ev rfl) (by omega) ?_); clear F; clear a; intro a F
      with_reducible refine l_nil ?_
      with_reducible refine q_then ?_
      refine c_true F rfl rfl ?_
      with_reducible refine c_seq ?_
      with_reducible refine c_region ?_
      refine stepD rfl F rfl (o_fieldAddr (F.ev rfl) ?_); clear F; clear a; intro a F
      refine stepD rfl F rfl (o_load1 M (F.ev rfl) (by repeat (first | exact .here | apply Has.there)) (by first | assumption | rfl) ?_); clear F; clear a; intro a F
      refine stepD rfl F rfl (o_xor (F.ev rfl) (F.ev rfl) rfl ?_); clear F; clear a; intro a F
      refine stepD rfl F rfl (o_assign (F.ev rfl) ?_); clear F; clear a; intro a F
      refine stepD rfl F rfl (o_assign (F.ev rfl) ?_); clear F; clear a; intro a F
      with_reducible refine l_nil ?_
      with_reducible refine q_then ?_
      with_reducible refine c_ret ?_
      with_reducible refine q_thenR ?_
      refine p_ret F rfl (.cons (.tmp (F.ev rfl)) (.cons (.tmp (F.ev rfl)) .nil)) ?_
      exact ⟨by simp [oneOr, optU, iidA, h1], M.ext⟩
end
section
set_option linter.unusedVariables false
set_option linter.unusedSimpArgs false
open Go.RowKit
attribute [local irreducible] OpTo wpListIn Code.wpIn MW Cal
def orow (x y : Int) (i k : Nat) : List Value := (List.range 16).map fun j => if j < 8 then (if j < i then .int .u8 (beAt x j) else .int .u8 0) else (if j - 8 < k then .int .u8 (beAt y (j - 8)) else .int .u8 0)
theorem orow_all (x y : Int) : orow x y 8 8 = ipC (beB x ++ beB y) := rfl
def shrB (x : Int) (i : Nat) : Int := IntKind.u8.wrap (Int.fdiv x (2 ^ min (56 - 8 * (i : Int)).toNat IntKind.u64.bits))
theorem shrB_be (x : Int) {i : Nat} (h : i < 8) : shrB x i = beAt x i := by
  unfold shrB beAt
  rw [show (56 - 8 * (i : Int)) = 8 * (8 - 1 - (i : Int)) by omega]
  rfl
theorem put_o1 {x y : Int} {i : Nat} (h : i < 8) : put (orow x y i i) (0 + (i : Int).toNat * 1) [.int .u8 (shrB x i)] = some (orow x y (i + 1) i) := by
  rw [shrB_be x h, put1 (q := i) _ (by omega) (by simp [orow]; omega)]
  congr 1
  unfold orow
  apply List.ext_getElem (by simp)
  intro j h1 h2
  simp only [List.getElem_set, List.getElem_map, List.getElem_range]
  split
  · subst_vars; simp [h]
  · have : j < i ↔ j < i + 1 := by omega
    simp [this]
theorem put_o2 {x y : Int} {i : Nat} (h : i < 8) : put (orow x y (i + 1) i) (0 + (8 + (i : Int)).toNat * 1) [.int .u8 (shrB y i)] = some (orow x y (i + 1) (i + 1)) := by
  rw [shrB_be y h, put1 (q := 8 + i) _ (by omega) (by simp [orow]; omega)]
  congr 1
  unfold orow
  apply List.ext_getElem (by simp)
  intro j h1 h2
  simp only [List.getElem_set, List.getElem_map, List.getElem_range]
  split
  · subst_vars
    rw [if_neg (by omega), if_pos (by omega), Nat.add_sub_cancel_left]
  · by_cases h8 : j < 8
    · simp [h8]
    · have : j - 8 < i ↔ j - 8 < i + 1 := by omega
      simp [h8, this]
set_option maxHeartbeats 400000 in
theorem of_c (x y : Int) (hx : 0 ≤ x) (hy : 0 ≤ y) (W : World) : Cal Try.prog 110 [.int .u64 x, .int .u64 y].toArray W fun v w' => v = .agg (ipC (beB x ++ beB y)).toArray ∧ Ext [] W w' := by
  refine fn_ofM (n := 31) [] Try.func110 rfl rfl rfl ?_
  intro a w F M hwW
  refine c_seq ?_
  refine c_region ?_
  (refine stepD rfl F rfl (o_alloc M ?_); clear F; clear M; intro b4 w M a F)
  with_reducible refine l_nil ?_
  with_reducible refine q_then ?_
  with_reducible refine c_seq ?_
  with_reducible refine c_region ?_
  (refine stepD rfl F rfl (o_alloc M ?_); clear F; clear M; intro b5 w M a F)
  with_reducible refine l_nil ?_
  with_reducible refine q_then ?_
  with_reducible refine c_seq ?_
  with_reducible refine c_seq ?_
  with_reducible refine c_region ?_
  refine stepD rfl F rfl (o_assign (F.ev rfl) ?_); clear F; clear a; intro a F
  with_reducible refine l_nil ?_
  with_reducible refine q_then ?_
  with_reducible refine c_block ?_
  refine c_loop (fun k a w => ∃ i : Nat, k = 8 - i ∧ i ≤ 8 ∧ Frm a 31 [] [(6, .int .i64 i), (5, .pointer (some ⟨b5, 0, none⟩)), (4, .pointer (some ⟨b4, 0, none⟩)), (0, .int .u64 x), (1, .int .u64 y)] ∧ Mem [] W w [(b5, .cells (orow x y i i).toArray 26 (0, 0)), (b4, .cells (orow 0 0 0 0).toArray 26 (0, 0))]) 8 ⟨0, rfl, by omega, F.only [6, 5, 4, 0, 1] rfl, M⟩ ?_
  clear F M
  rintro k a w ⟨i, hk, hi, F, M⟩
  by_cases hlt : i < 8
  · with_reducible refine c_seq ?_
    with_reducible refine c_seq ?_
    with_reducible refine c_region ?_
    refine stepD rfl F rfl (o_move (F.ev rfl) ?_); clear F; clear a; intro a F
    refine stepD rfl F rfl (o_lssT (F.ev rfl) (F.ev rfl) (by omega) ?_); clear F; clear a; intro a F
    with_reducible refine l_nil ?_
    with_reducible refine q_then ?_
    refine c_true F rfl rfl ?_
    with_reducible refine c_skip ?_
    with_reducible refine q_then ?_
    with_reducible refine c_seq ?_
    with_reducible refine c_block ?_
    with_reducible refine c_region ?_
    refine stepD rfl F rfl (o_move (F.ev rfl) ?_); clear F; clear a; intro a F
    refine stepD rfl F rfl (o_move (F.ev rfl) ?_); clear F; clear a; intro a F
    refine stepD rfl F rfl (o_add (F.ev rfl) (F.ev rfl) (w_i64 (by omega) (by omega)) ?_); clear F; clear a; intro a F
    refine stepD rfl F rfl (o_move (F.ev rfl) ?_); clear F; clear a; intro a F
    refine stepD rfl F rfl (o_move (F.ev rfl) ?_); clear F; clear a; intro a F
    refine stepD rfl F rfl (o_conv (F.ev rfl) (w_u64 (by omega) (by omega)) ?_); clear F; clear a; intro a F
    refine stepD rfl F rfl (o_mul (F.ev rfl) (F.ev rfl) (w_u64 (by omega) (by omega)) ?_); clear F; clear a; intro a F
    refine stepD rfl F rfl (o_sub (F.ev rfl) (F.ev rfl) (w_u64 (by omega) (by omega)) ?_); clear F; clear a; intro a F
    refine stepD rfl F rfl (o_shr (F.ev rfl) (F.ev rfl) (by omega) rfl ?_); clear F; clear a; intro a F
    refine stepD rfl F rfl (o_conv (F.ev rfl) rfl ?_); clear F; clear a; intro a F
    refine stepD rfl F rfl (o_move (F.ev rfl) ?_); clear F; clear a; intro a F
    refine stepD rfl F rfl (o_move (F.ev rfl) ?_); clear F; clear a; intro a F
    refine stepD rfl F rfl (o_conv (F.ev rfl) (w_u64 (by omega) (by omega)) ?_); clear F; clear a; intro a F
    refine stepD rfl F rfl (o_mul (F.ev rfl) (F.ev rfl) (w_u64 (by omega) (by omega)) ?_); clear F; clear a; intro a F
    refine stepD rfl F rfl (o_sub (F.ev rfl) (F.ev rfl) (w_u64 (by omega) (by omega)) ?_); clear F; clear a; intro a F
    refine stepD rfl F rfl (o_shr (F.ev rfl) (F.ev rfl) (by omega) rfl ?_); clear F; clear a; intro a F
    refine stepD rfl F rfl (o_conv (F.ev rfl) rfl ?_); clear F; clear a; intro a F
    refine stepD rfl F rfl (o_indexArr (F.ev rfl) (F.ev rfl) (by omega) (by omega) ?_); clear F; clear a; intro a F
    (refine stepN rfl F (o_store1 M (F.ev rfl) (F.ev rfl) rfl (by repeat (first | exact .here | apply Has.there)) (put_o1 hlt) (by repeat (first | exact .here | apply Upd.there)) ?_); clear F; clear M; intro w M a F)
    refine stepD rfl F rfl (o_indexArr (F.ev rfl) (F.ev rfl) (by omega) (by omega) ?_); clear F; clear a; intro a F
    (refine stepN rfl F (o_store1 M (F.ev rfl) (F.ev rfl) rfl (by repeat (first | exact .here | apply Has.there)) (put_o2 hlt) (by repeat (first | exact .here | apply Upd.there)) ?_); clear F; clear M; intro w M a F)
    with_reducible refine l_nil ?_
    with_reducible refine q_inB ?_
    with_reducible refine q_then ?_
    with_reducible refine c_region ?_
    refine stepD rfl F rfl (o_move (F.ev rfl) ?_); clear F; clear a; intro a F
    refine stepD rfl F rfl (o_add (F.ev rfl) (F.ev rfl) (w_i64 (by omega) (by omega)) ?_); clear F; clear a; intro a F
    refine stepD rfl F rfl (o_assign (F.ev rfl) ?_); clear F; clear a; intro a F
    with_reducible refine l_nil ?_
    with_reducible refine q_then ?_
    exact ⟨_, by omega, i + 1, rfl, by omega, F.only [6, 5, 4, 0, 1] rfl, M⟩
  · obtain rfl : i = 8 := by omega
    rw [orow_all] at M
    have hl3 : (ipC (beB x ++ beB y)).length = 16 := by simp [ipC, beB_len]
    have s3 : seg (ipC (beB x ++ beB y)) 0 16 = some (ipC (beB x ++ beB y)) := seg_all hl3
    with_reducible refine c_seq ?_
    with_reducible refine c_seq ?_
    with_reducible refine c_region ?_
    refine stepD rfl F rfl (o_move (F.ev rfl) ?_); clear F; clear a; intro a F
    refine stepD rfl F rfl (o_lssF (F.ev rfl) (F.ev rfl) (by omega) ?_); clear F; clear a; intro a F
    with_reducible refine l_nil ?_
    with_reducible refine q_then ?_
    refine c_false F rfl rfl ?_
    with_reducible refine c_exit ?_
    with_reducible refine q_thenX ?_
    with_reducible refine q_thenX ?_
    with_reducible refine q_inBX ?_
    with_reducible refine q_then ?_
    with_reducible refine c_seq ?_
    with_reducible refine c_region ?_
    refine stepD rfl F rfl (o_loadA M (F.ev rfl) (by repeat (first | exact .here | apply Has.there)) (by first | assumption | rfl) ?_); clear F; clear a; intro a F
    (refine stepN rfl F (o_storeA M (F.ev rfl) (F.ev rfl) hl3 (one_ip _)  (by repeat (first | exact .here | apply Has.there))  (put_all (by rw [hl3]; rfl)) (by repeat (first | exact .here | apply Upd.there)) ?_); clear F; clear M; intro w M a F)
    with_reducible refine l_nil ?_
    with_reducible refine q_then ?_
    with_reducible refine c_ret ?_
    refine p_ret F rfl (.cons (.cell (F.ev rfl) (run_loadVar_agg TAgg.h (M.heap (by repeat (first | exact .here | apply Has.there))) s3)) .nil) ⟨rfl, M.ext⟩
end
section
set_option linter.unusedVariables false
set_option linter.unusedSimpArgs false
open Go.RowKit
attribute [local irreducible] OpTo wpListIn Code.wpIn MW Cal
theorem fits_ip {a : List Int} (ha : a.length = 16) : fitsK [.i .u8, .i .u8, .i .u8, .i .u8, .i .u8, .i .u8, .i .u8, .i .u8, .i .u8, .i .u8, .i .u8, .i .u8, .i .u8, .i .u8, .i .u8, .i .u8] (ipC a) = true := by
  obtain ⟨x0, x1, x2, x3, x4, x5, x6, x7, x8, x9, x10, x11, x12, x13, x14, x15, rfl⟩ := len16 ha
  rfl
end
section
set_option linter.unusedVariables false
set_option linter.unusedSimpArgs false
open Go.RowKit
def bitX (x : Int) (r : Nat) : Int := bitsOf .and .u8 (Int.fdiv x (2 ^ min (7 - (r : Int)).toNat IntKind.u8.bits)) 1
/-- bit i of an address -/
def bitI (a : List Int) (i : Nat) : Int := bitX (a.getD (i / 8) 0) (i % 8)
theorem bit_fin : ∀ x : Fin 256, ∀ r : Fin 8, bitX (x.1 : Int) r.1 = ((x.1 / 2 ^ (7 - r.1) % 2 : Nat) : Int) := by decide +kernel
theorem valid_fin : ∀ x : Fin 256, ∀ k : Fin 9, (x.1 / 2 ^ (8 - k.1) * 2 ^ (8 - k.1) = x.1) ↔ ∀ r : Fin 8, k.1 ≤ r.1 → x.1 / 2 ^ (7 - r.1) % 2 = 0 := by decide +kernel
theorem mask_fin : ∀ x : Fin 256, ∀ r : Fin 8, bitsOf .or .u8 (cutB (x.1 : Int) r.1) (IntKind.u8.wrap (bitX (x.1 : Int) r.1 * 2 ^ min (7 - (r.1 : Int)).toNat IntKind.u8.bits)) = cutB (x.1 : Int) (r.1 + 1) := by decide +kernel
theorem cut0_fin : ∀ x : Fin 256, cutB (x.1 : Int) 0 = 0 := by decide +kernel
theorem bitX_nat {x : Nat} {r : Nat} (hx : x < 256) (hr : r < 8) : bitX (x : Int) r = ((x / 2 ^ (7 - r) % 2 : Nat) : Int) := bit_fin ⟨x, hx⟩ ⟨r, hr⟩
theorem byte_of {a : List Int} (ha : IsIP a) (j : Nat) : ∃ x : Nat, x < 256 ∧ a.getD j 0 = (x : Int) := by
  have := ha.at_ j
  obtain ⟨x, hx⟩ := Int.eq_ofNat_of_zero_le this.1
  exact ⟨x, by omega, hx⟩
theorem bitI_bd {a : List Int} (ha : IsIP a) (i : Nat) : bitI a i = 0 ∨ bitI a i = 1 := by
  obtain ⟨x, hx, hxe⟩ := byte_of ha (i / 8)
  unfold bitI
  rw [hxe, bitX_nat hx (Nat.mod_lt _ (by omega))]
  omega
theorem keep_le {n j r : Nat} (hr : r < 8) : (keepN (n : Int) j).toNat ≤ r ↔ n ≤ 8 * j + r := by
  unfold keepN
  split <;> (try split) <;> omega
theorem mask_eq_iff {p : List Int} (hp : IsIP p) (n : Int) : maskI p n = p ↔ ∀ j, j < 16 → maskAt p n j = p.getD j 0 := by
  constructor
  · intro h j hj
    rw [← maskI_at p n hj, h]
  · intro h
    apply List.ext_getElem (by rw [maskI_len, hp.len])
    intro j h1 h2
    have hj : j < 16 := by rw [maskI_len] at h1; exact h1
    have e := h j hj
    simp only [maskI, List.getElem_map, List.getElem_range]
    rw [e, List.getD_eq_getElem?_getD, List.getElem?_eq_getElem h2]
    rfl
theorem valid_bits {p : List Int} (hp : IsIP p) (n : Nat) : maskI p (n : Int) = p ↔ ∀ i, n ≤ i → i < 128 → bitI p i = 0 := by
  rw [mask_eq_iff hp]
  have key : ∀ j, j < 16 → (maskAt p n j = p.getD j 0 ↔ ∀ r, r < 8 → (keepN (n : Int) j).toNat ≤ r → bitI p (8 * j + r) = 0) := by
    intro j hj
    obtain ⟨x, hx, hxe⟩ := byte_of hp j
    have hk := keepN_bd (n : Int) (j : Int)
    rw [maskAt_cut, hxe, cutB_nat hx hk]
    have hv := valid_fin ⟨x, hx⟩ ⟨(keepN (n : Int) j).toNat, by omega⟩
    simp only at hv
    constructor
    · intro h r hr hkr
      have h' : x / 2 ^ (8 - (keepN (n : Int) j).toNat) * 2 ^ (8 - (keepN (n : Int) j).toNat) = x := by exact_mod_cast h
      have := hv.1 h' ⟨r, hr⟩ hkr
      unfold bitI
      rw [show (8 * j + r) / 8 = j by omega, show (8 * j + r) % 8 = r by omega, hxe, bitX_nat hx hr]
      simp only at this
      omega
    · intro h
      have : x / 2 ^ (8 - (keepN (n : Int) j).toNat) * 2 ^ (8 - (keepN (n : Int) j).toNat) = x := hv.2 fun r hkr => by
        have h1 := h r.1 r.2 hkr
        unfold bitI at h1
        rw [show (8 * j + r.1) / 8 = j by omega, show (8 * j + r.1) % 8 = r.1 by omega, hxe, bitX_nat hx r.2] at h1
        omega
      exact_mod_cast this
  constructor
  · intro h i hi hlt
    have := (key (i / 8) (by omega)).1 (h (i / 8) (by omega)) (i % 8) (Nat.mod_lt _ (by omega)) ((keep_le (Nat.mod_lt _ (by omega))).2 (by omega))
    rwa [show 8 * (i / 8) + i % 8 = i by omega] at this
  · intro h j hj
    exact (key j hj).2 fun r hr hkr => h _ ((keep_le hr).1 hkr) (by omega)
/-- one bit more -/
theorem mask_step {a : List Int} (ha : IsIP a) {i : Nat} (hi : i < 128) : bitsOf .or .u8 (maskAt a (i : Int) (i / 8)) (IntKind.u8.wrap (bitI a i * 2 ^ min (7 - ((i % 8 : Nat) : Int)).toNat IntKind.u8.bits)) = maskAt a ((i : Int) + 1) (i / 8) := by
  obtain ⟨x, hx, hxe⟩ := byte_of ha (i / 8)
  have k1 : (keepN (i : Int) ((i / 8 : Nat) : Int)).toNat = i % 8 := by unfold keepN; split <;> (try split) <;> omega
  have k2 : (keepN ((i : Int) + 1) ((i / 8 : Nat) : Int)).toNat = i % 8 + 1 := by unfold keepN; split <;> (try split) <;> omega
  rw [maskAt_cut, maskAt_cut, k1, k2]
  unfold bitI
  rw [hxe]
  exact mask_fin ⟨x, hx⟩ ⟨i % 8, Nat.mod_lt _ (by omega)⟩
theorem mask_other {a : List Int} {i j : Nat} (hj : j ≠ i / 8) : maskAt a ((i : Int) + 1) j = maskAt a (i : Int) j := by
  have : keepN ((i : Int) + 1) (j : Int) = keepN (i : Int) (j : Int) := by unfold keepN; split <;> (try split) <;> (try split) <;> (try split) <;> omega
  rw [maskAt_cut, maskAt_cut, this]
theorem mask_set {a : List Int} {i : Nat} (hi : i < 128) : (maskI a (i : Int)).set (i / 8) (maskAt a ((i : Int) + 1) (i / 8)) = maskI a ((i : Int) + 1) := by
  unfold maskI
  apply List.ext_getElem (by simp)
  intro j h1 h2
  simp only [List.getElem_set, List.getElem_map, List.getElem_range]
  split
  · subst_vars; rfl
  · rename_i hne
    exact (mask_other (fun h => hne h.symm)).symm
theorem mask_zero {a : List Int} (ha : IsIP a) : maskI a 0 = zeroIP := by
  have : ∀ j, j < 16 → maskAt a 0 j = 0 := fun j hj => by
    obtain ⟨x, hx, hxe⟩ := byte_of ha j
    have k : (keepN 0 (j : Int)).toNat = 0 := by unfold keepN; split <;> (try split) <;> omega
    rw [maskAt_cut, hxe, k]
    exact cut0_fin ⟨x, hx⟩
  unfold maskI
  rw [List.map_congr_left (g := fun _ => (0 : Int)) fun j hj => this j (List.mem_range.1 hj)]
  rfl
/-- eight bytes, back -/
theorem be_inv {xs : List Int} (hl : xs.length = 8) (hb : ∀ x ∈ xs, 0 ≤ x ∧ x < 256) : beB (beN xs) = xs := by
  match xs, hl with
  | [x0, x1, x2, x3, x4, x5, x6, x7], _ =>
    have b0 := hb x0 (by simp); have b1 := hb x1 (by simp); have b2 := hb x2 (by simp); have b3 := hb x3 (by simp)
    have b4 := hb x4 (by simp); have b5 := hb x5 (by simp); have b6 := hb x6 (by simp); have b7 := hb x7 (by simp)
    obtain ⟨y0, rfl⟩ := Int.eq_ofNat_of_zero_le b0.1
    obtain ⟨y1, rfl⟩ := Int.eq_ofNat_of_zero_le b1.1
    obtain ⟨y2, rfl⟩ := Int.eq_ofNat_of_zero_le b2.1
    obtain ⟨y3, rfl⟩ := Int.eq_ofNat_of_zero_le b3.1
    obtain ⟨y4, rfl⟩ := Int.eq_ofNat_of_zero_le b4.1
    obtain ⟨y5, rfl⟩ := Int.eq_ofNat_of_zero_le b5.1
    obtain ⟨y6, rfl⟩ := Int.eq_ofNat_of_zero_le b6.1
    obtain ⟨y7, rfl⟩ := Int.eq_ofNat_of_zero_le b7.1
    clear hb
    obtain ⟨m1, h1⟩ : ∃ m, m = 256 * y0 + y1 := ⟨_, rfl⟩
    obtain ⟨m2, h2⟩ : ∃ m, m = 256 * m1 + y2 := ⟨_, rfl⟩
    obtain ⟨m3, h3⟩ : ∃ m, m = 256 * m2 + y3 := ⟨_, rfl⟩
    obtain ⟨m4, h4⟩ : ∃ m, m = 256 * m3 + y4 := ⟨_, rfl⟩
    obtain ⟨m5, h5⟩ : ∃ m, m = 256 * m4 + y5 := ⟨_, rfl⟩
    obtain ⟨m6, h6⟩ : ∃ m, m = 256 * m5 + y6 := ⟨_, rfl⟩
    obtain ⟨n, h7⟩ : ∃ m, m = 256 * m6 + y7 := ⟨_, rfl⟩
    have hn : beN [(y0 : Int), y1, y2, y3, y4, y5, y6, y7] = (n : Int) := by
      simp only [beN, List.foldl_cons, List.foldl_nil]
      omega
    rw [hn]
    have d6 : n / 256 = m6 := by omega
    have d5 : n / 65536 = m5 := by rw [show 65536 = 256 * 256 from rfl, ← Nat.div_div_eq_div_mul, d6]; omega
    have d4 : n / 16777216 = m4 := by rw [show 16777216 = 65536 * 256 from rfl, ← Nat.div_div_eq_div_mul, d5]; omega
    have d3 : n / 4294967296 = m3 := by rw [show 4294967296 = 16777216 * 256 from rfl, ← Nat.div_div_eq_div_mul, d4]; omega
    have d2 : n / 1099511627776 = m2 := by rw [show 1099511627776 = 4294967296 * 256 from rfl, ← Nat.div_div_eq_div_mul, d3]; omega
    have d1 : n / 281474976710656 = m1 := by rw [show 281474976710656 = 1099511627776 * 256 from rfl, ← Nat.div_div_eq_div_mul, d2]; omega
    have d0 : n / 72057594037927936 = y0 := by rw [show 72057594037927936 = 281474976710656 * 256 from rfl, ← Nat.div_div_eq_div_mul, d1]; omega
    have e0 : beAt (n : Int) 0 = ((n / 72057594037927936 % 256 : Nat) : Int) := beAt_nat n 0 (by omega)
    have e1 : beAt (n : Int) 1 = ((n / 281474976710656 % 256 : Nat) : Int) := beAt_nat n 1 (by omega)
    have e2 : beAt (n : Int) 2 = ((n / 1099511627776 % 256 : Nat) : Int) := beAt_nat n 2 (by omega)
    have e3 : beAt (n : Int) 3 = ((n / 4294967296 % 256 : Nat) : Int) := beAt_nat n 3 (by omega)
    have e4 : beAt (n : Int) 4 = ((n / 16777216 % 256 : Nat) : Int) := beAt_nat n 4 (by omega)
    have e5 : beAt (n : Int) 5 = ((n / 65536 % 256 : Nat) : Int) := beAt_nat n 5 (by omega)
    have e6 : beAt (n : Int) 6 = ((n / 256 % 256 : Nat) : Int) := beAt_nat n 6 (by omega)
    have e7 : beAt (n : Int) 7 = ((n / 1 % 256 : Nat) : Int) := beAt_nat n 7 (by omega)
    have hbb : beB (n : Int) = [beAt n 0, beAt n 1, beAt n 2, beAt n 3, beAt n 4, beAt n 5, beAt n 6, beAt n 7] := rfl
    rw [hbb, e0, e1, e2, e3, e4, e5, e6, e7, d0, d1, d2, d3, d4, d5, d6, Nat.div_one]
    clear d0 d1 d2 d3 d4 d5 d6 e0 e1 e2 e3 e4 e5 e6 e7 hbb hn
    simp only [List.cons.injEq, and_true]
    refine ⟨?_, ?_, ?_, ?_, ?_, ?_, ?_, ?_⟩ <;> omega
end
end Go.Proofs.Ytainnefmobfcjaa
