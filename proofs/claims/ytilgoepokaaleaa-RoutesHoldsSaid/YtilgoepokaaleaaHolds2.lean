/-
  Texts joined: Types, LibN, LibO, G1, LibQ, LibR, LibS, H1, UOpen, Y0, Y1, Y2.
-/
import Derived.Test.YtilgoepokaaleaaHolds1
import Derived.Test.YtilgoepokaaleaaProg
import Derived.KernelRfl
import Derived.Laws.MakeOwn
import Derived.Lib.BitFns
import Derived.Laws.Externs
import Derived.Lib.Overlaps
import Derived.Lib.BytesEntry
/-! Types -/
namespace Go.Proofs.Ytilgoepokaaleaa
set_option linter.unusedVariables false
instance : TMix Try.prog := ⟨by kernel_rfl⟩
instance : TOne Try.prog 1 := ⟨by kernel_rfl⟩
instance : TSz Try.prog 1 1 := ⟨by kernel_rfl⟩
instance : TZero Try.prog 1 [.nilFunc] := ⟨by kernel_rfl⟩
instance : TU Try.prog 2 (TypeDesc.int IntKind.i64) := ⟨Try.underlying2⟩
instance : TSz Try.prog 2 1 := ⟨by kernel_rfl⟩
instance : TOne Try.prog 2 := ⟨by kernel_rfl⟩
instance : TEl Try.prog 2 1 8 := ⟨by kernel_rfl⟩
instance : TZero Try.prog 2 [.int .i64 0] := ⟨by kernel_rfl⟩
instance : TU Try.prog 3 (TypeDesc.int IntKind.i64) := ⟨Try.underlying3⟩
instance : TSz Try.prog 3 1 := ⟨by kernel_rfl⟩
instance : TOne Try.prog 3 := ⟨by kernel_rfl⟩
instance : TEl Try.prog 3 1 8 := ⟨by kernel_rfl⟩
instance : TZero Try.prog 3 [.int .i64 0] := ⟨by kernel_rfl⟩
instance : TU Try.prog 4 (TypeDesc.bool) := ⟨Try.underlying4⟩
instance : TSz Try.prog 4 1 := ⟨by kernel_rfl⟩
instance : TOne Try.prog 4 := ⟨by kernel_rfl⟩
instance : TEl Try.prog 4 1 1 := ⟨by kernel_rfl⟩
instance : TZero Try.prog 4 [.bool false] := ⟨by kernel_rfl⟩
instance : TU Try.prog 5 (TypeDesc.int IntKind.u8) := ⟨Try.underlying5⟩
instance : TSz Try.prog 5 1 := ⟨by kernel_rfl⟩
instance : TOne Try.prog 5 := ⟨by kernel_rfl⟩
instance : TEl Try.prog 5 1 1 := ⟨by kernel_rfl⟩
instance : TZero Try.prog 5 [.int .u8 0] := ⟨by kernel_rfl⟩
instance : TU Try.prog 6 (TypeDesc.int IntKind.u8) := ⟨Try.underlying6⟩
instance : TSz Try.prog 6 1 := ⟨by kernel_rfl⟩
instance : TOne Try.prog 6 := ⟨by kernel_rfl⟩
instance : TEl Try.prog 6 1 1 := ⟨by kernel_rfl⟩
instance : TZero Try.prog 6 [.int .u8 0] := ⟨by kernel_rfl⟩
instance : TSz Try.prog 7 4 := ⟨by kernel_rfl⟩
instance : TAgg Try.prog 7 4 := ⟨by kernel_rfl⟩
instance : TFldT Try.prog 7 0 0 2 := ⟨by kernel_rfl⟩
instance : TFld Try.prog 7 0 0 := ⟨by kernel_rfl⟩
instance : TFldT Try.prog 7 1 1 3 := ⟨by kernel_rfl⟩
instance : TFld Try.prog 7 1 1 := ⟨by kernel_rfl⟩
instance : TFldT Try.prog 7 2 2 4 := ⟨by kernel_rfl⟩
instance : TFld Try.prog 7 2 2 := ⟨by kernel_rfl⟩
instance : TFldT Try.prog 7 3 3 6 := ⟨by kernel_rfl⟩
instance : TFld Try.prog 7 3 3 := ⟨by kernel_rfl⟩
instance : TLay Try.prog 7 [(0, 1), (1, 1), (2, 1), (3, 1)] := ⟨by kernel_rfl⟩
instance : TEl Try.prog 7 4 24 := ⟨by kernel_rfl⟩
instance : TEq Try.prog 7 [.i .i64, .i .i64, .b, .i .u8] := ⟨by kernel_rfl⟩
instance : TZero Try.prog 7 [.int .i64 0, .int .i64 0, .bool false, .int .u8 0] := ⟨by kernel_rfl⟩
instance : TSz Try.prog 8 4 := ⟨by kernel_rfl⟩
instance : TAgg Try.prog 8 4 := ⟨by kernel_rfl⟩
instance : TFldT Try.prog 8 0 0 2 := ⟨by kernel_rfl⟩
instance : TFld Try.prog 8 0 0 := ⟨by kernel_rfl⟩
instance : TFldT Try.prog 8 1 1 3 := ⟨by kernel_rfl⟩
instance : TFld Try.prog 8 1 1 := ⟨by kernel_rfl⟩
instance : TFldT Try.prog 8 2 2 4 := ⟨by kernel_rfl⟩
instance : TFld Try.prog 8 2 2 := ⟨by kernel_rfl⟩
instance : TFldT Try.prog 8 3 3 6 := ⟨by kernel_rfl⟩
instance : TFld Try.prog 8 3 3 := ⟨by kernel_rfl⟩
instance : TLay Try.prog 8 [(0, 1), (1, 1), (2, 1), (3, 1)] := ⟨by kernel_rfl⟩
instance : TEl Try.prog 8 4 24 := ⟨by kernel_rfl⟩
instance : TEq Try.prog 8 [.i .i64, .i .i64, .b, .i .u8] := ⟨by kernel_rfl⟩
instance : TZero Try.prog 8 [.int .i64 0, .int .i64 0, .bool false, .int .u8 0] := ⟨by kernel_rfl⟩
instance : TU Try.prog 9 (TypeDesc.string) := ⟨Try.underlying9⟩
instance : TSz Try.prog 9 1 := ⟨by kernel_rfl⟩
instance : TOne Try.prog 9 := ⟨by kernel_rfl⟩
instance : TEl Try.prog 9 1 16 := ⟨by kernel_rfl⟩
instance : TNI Try.prog 9 := ⟨by kernel_rfl⟩
instance : TZero Try.prog 9 [.string .empty] := ⟨by kernel_rfl⟩
instance : TU Try.prog 10 (TypeDesc.string) := ⟨Try.underlying10⟩
instance : TSz Try.prog 10 1 := ⟨by kernel_rfl⟩
instance : TOne Try.prog 10 := ⟨by kernel_rfl⟩
instance : TEl Try.prog 10 1 16 := ⟨by kernel_rfl⟩
instance : TNI Try.prog 10 := ⟨by kernel_rfl⟩
instance : TZero Try.prog 10 [.string .empty] := ⟨by kernel_rfl⟩
instance : TU Try.prog 11 (TypeDesc.string) := ⟨Try.underlying11⟩
instance : TSz Try.prog 11 1 := ⟨by kernel_rfl⟩
instance : TOne Try.prog 11 := ⟨by kernel_rfl⟩
instance : TEl Try.prog 11 1 16 := ⟨by kernel_rfl⟩
instance : TNI Try.prog 11 := ⟨by kernel_rfl⟩
instance : TZero Try.prog 11 [.string .empty] := ⟨by kernel_rfl⟩
instance : TU Try.prog 12 (TypeDesc.int IntKind.u64) := ⟨Try.underlying12⟩
instance : TSz Try.prog 12 1 := ⟨by kernel_rfl⟩
instance : TOne Try.prog 12 := ⟨by kernel_rfl⟩
instance : TEl Try.prog 12 1 8 := ⟨by kernel_rfl⟩
instance : TZero Try.prog 12 [.int .u64 0] := ⟨by kernel_rfl⟩
instance : TSz Try.prog 13 2 := ⟨by kernel_rfl⟩
instance : TAgg Try.prog 13 2 := ⟨by kernel_rfl⟩
instance : TFldT Try.prog 13 0 0 9 := ⟨by kernel_rfl⟩
instance : TFld Try.prog 13 0 0 := ⟨by kernel_rfl⟩
instance : TFldT Try.prog 13 1 1 12 := ⟨by kernel_rfl⟩
instance : TFld Try.prog 13 1 1 := ⟨by kernel_rfl⟩
instance : TLay Try.prog 13 [(0, 1), (1, 1)] := ⟨by kernel_rfl⟩
instance : TEl Try.prog 13 2 24 := ⟨by kernel_rfl⟩
instance : TZero Try.prog 13 [.string .empty, .int .u64 0] := ⟨by kernel_rfl⟩
instance : TSz Try.prog 14 2 := ⟨by kernel_rfl⟩
instance : TAgg Try.prog 14 2 := ⟨by kernel_rfl⟩
instance : TFldT Try.prog 14 0 0 9 := ⟨by kernel_rfl⟩
instance : TFld Try.prog 14 0 0 := ⟨by kernel_rfl⟩
instance : TFldT Try.prog 14 1 1 12 := ⟨by kernel_rfl⟩
instance : TFld Try.prog 14 1 1 := ⟨by kernel_rfl⟩
instance : TLay Try.prog 14 [(0, 1), (1, 1)] := ⟨by kernel_rfl⟩
instance : TEl Try.prog 14 2 24 := ⟨by kernel_rfl⟩
instance : TZero Try.prog 14 [.string .empty, .int .u64 0] := ⟨by kernel_rfl⟩
instance : TU Try.prog 15 (TypeDesc.pointer 185) := ⟨Try.underlying15⟩
instance : TSz Try.prog 15 1 := ⟨by kernel_rfl⟩
instance : TOne Try.prog 15 := ⟨by kernel_rfl⟩
instance : TEl Try.prog 15 1 8 := ⟨by kernel_rfl⟩
instance : TZero Try.prog 15 [.pointer none] := ⟨by kernel_rfl⟩
instance : TU Try.prog 16 (TypeDesc.pointer 188) := ⟨Try.underlying16⟩
instance : TSz Try.prog 16 1 := ⟨by kernel_rfl⟩
instance : TOne Try.prog 16 := ⟨by kernel_rfl⟩
instance : TEl Try.prog 16 1 8 := ⟨by kernel_rfl⟩
instance : TZero Try.prog 16 [.pointer none] := ⟨by kernel_rfl⟩
instance : TU Try.prog 17 (TypeDesc.pointer 197) := ⟨Try.underlying17⟩
instance : TSz Try.prog 17 1 := ⟨by kernel_rfl⟩
instance : TOne Try.prog 17 := ⟨by kernel_rfl⟩
instance : TEl Try.prog 17 1 8 := ⟨by kernel_rfl⟩
instance : TZero Try.prog 17 [.pointer none] := ⟨by kernel_rfl⟩
instance : TSz Try.prog 18 1 := ⟨by kernel_rfl⟩
instance : TAgg Try.prog 18 1 := ⟨by kernel_rfl⟩
instance : TFldT Try.prog 18 0 0 17 := ⟨by kernel_rfl⟩
instance : TFld Try.prog 18 0 0 := ⟨by kernel_rfl⟩
instance : TLay Try.prog 18 [(0, 1)] := ⟨by kernel_rfl⟩
instance : TEl Try.prog 18 1 8 := ⟨by kernel_rfl⟩
instance : TZero Try.prog 18 [.pointer none] := ⟨by kernel_rfl⟩
instance : TSz Try.prog 19 1 := ⟨by kernel_rfl⟩
instance : TAgg Try.prog 19 1 := ⟨by kernel_rfl⟩
instance : TFldT Try.prog 19 0 0 17 := ⟨by kernel_rfl⟩
instance : TFld Try.prog 19 0 0 := ⟨by kernel_rfl⟩
instance : TLay Try.prog 19 [(0, 1)] := ⟨by kernel_rfl⟩
instance : TEl Try.prog 19 1 8 := ⟨by kernel_rfl⟩
instance : TZero Try.prog 19 [.pointer none] := ⟨by kernel_rfl⟩
instance : TU Try.prog 21 (TypeDesc.int IntKind.i32) := ⟨Try.underlying21⟩
instance : TSz Try.prog 21 1 := ⟨by kernel_rfl⟩
instance : TOne Try.prog 21 := ⟨by kernel_rfl⟩
instance : TEl Try.prog 21 1 4 := ⟨by kernel_rfl⟩
instance : TZero Try.prog 21 [.int .i32 0] := ⟨by kernel_rfl⟩
instance : TU Try.prog 22 (TypeDesc.slice 52) := ⟨Try.underlying22⟩
instance : TSz Try.prog 22 1 := ⟨by kernel_rfl⟩
instance : TOne Try.prog 22 := ⟨by kernel_rfl⟩
instance : TEl Try.prog 22 1 24 := ⟨by kernel_rfl⟩
instance : TNI Try.prog 22 := ⟨by kernel_rfl⟩
instance : TZero Try.prog 22 [.slice none 0 0] := ⟨by kernel_rfl⟩
instance : TSz Try.prog 23 2 := ⟨by kernel_rfl⟩
instance : TAgg Try.prog 23 2 := ⟨by kernel_rfl⟩
instance : TFldT Try.prog 23 0 0 22 := ⟨by kernel_rfl⟩
instance : TFld Try.prog 23 0 0 := ⟨by kernel_rfl⟩
instance : TFldT Try.prog 23 1 1 3 := ⟨by kernel_rfl⟩
instance : TFld Try.prog 23 1 1 := ⟨by kernel_rfl⟩
instance : TLay Try.prog 23 [(0, 1), (1, 1)] := ⟨by kernel_rfl⟩
instance : TEl Try.prog 23 2 32 := ⟨by kernel_rfl⟩
instance : TZero Try.prog 23 [.slice none 0 0, .int .i64 0] := ⟨by kernel_rfl⟩
instance : TSz Try.prog 24 2 := ⟨by kernel_rfl⟩
instance : TAgg Try.prog 24 2 := ⟨by kernel_rfl⟩
instance : TFldT Try.prog 24 0 0 22 := ⟨by kernel_rfl⟩
instance : TFld Try.prog 24 0 0 := ⟨by kernel_rfl⟩
instance : TFldT Try.prog 24 1 1 3 := ⟨by kernel_rfl⟩
instance : TFld Try.prog 24 1 1 := ⟨by kernel_rfl⟩
instance : TLay Try.prog 24 [(0, 1), (1, 1)] := ⟨by kernel_rfl⟩
instance : TEl Try.prog 24 2 32 := ⟨by kernel_rfl⟩
instance : TZero Try.prog 24 [.slice none 0 0, .int .i64 0] := ⟨by kernel_rfl⟩
instance : TU Try.prog 25 (TypeDesc.slice 3) := ⟨Try.underlying25⟩
instance : TSz Try.prog 25 1 := ⟨by kernel_rfl⟩
instance : TOne Try.prog 25 := ⟨by kernel_rfl⟩
instance : TEl Try.prog 25 1 24 := ⟨by kernel_rfl⟩
instance : TNI Try.prog 25 := ⟨by kernel_rfl⟩
instance : TZero Try.prog 25 [.slice none 0 0] := ⟨by kernel_rfl⟩
instance : TOne Try.prog 26 := ⟨by kernel_rfl⟩
instance : TSz Try.prog 26 1 := ⟨by kernel_rfl⟩
instance : TZero Try.prog 26 [.nilFunc] := ⟨by kernel_rfl⟩
instance : TU Try.prog 27 (TypeDesc.pointer 86) := ⟨Try.underlying27⟩
instance : TSz Try.prog 27 1 := ⟨by kernel_rfl⟩
instance : TOne Try.prog 27 := ⟨by kernel_rfl⟩
instance : TEl Try.prog 27 1 8 := ⟨by kernel_rfl⟩
instance : TZero Try.prog 27 [.pointer none] := ⟨by kernel_rfl⟩
instance : TOne Try.prog 28 := ⟨by kernel_rfl⟩
instance : TSz Try.prog 28 1 := ⟨by kernel_rfl⟩
instance : TZero Try.prog 28 [.nilFunc] := ⟨by kernel_rfl⟩
instance : TOne Try.prog 29 := ⟨by kernel_rfl⟩
instance : TSz Try.prog 29 1 := ⟨by kernel_rfl⟩
instance : TZero Try.prog 29 [.nilFunc] := ⟨by kernel_rfl⟩
instance : TOne Try.prog 30 := ⟨by kernel_rfl⟩
instance : TSz Try.prog 30 1 := ⟨by kernel_rfl⟩
instance : TZero Try.prog 30 [.nilFunc] := ⟨by kernel_rfl⟩
instance : TOne Try.prog 31 := ⟨by kernel_rfl⟩
instance : TSz Try.prog 31 1 := ⟨by kernel_rfl⟩
instance : TZero Try.prog 31 [.nilFunc] := ⟨by kernel_rfl⟩
instance : TOne Try.prog 32 := ⟨by kernel_rfl⟩
instance : TSz Try.prog 32 1 := ⟨by kernel_rfl⟩
instance : TZero Try.prog 32 [.nilFunc] := ⟨by kernel_rfl⟩
instance : TOne Try.prog 33 := ⟨by kernel_rfl⟩
instance : TSz Try.prog 33 1 := ⟨by kernel_rfl⟩
instance : TZero Try.prog 33 [.nilFunc] := ⟨by kernel_rfl⟩
instance : TOne Try.prog 34 := ⟨by kernel_rfl⟩
instance : TSz Try.prog 34 1 := ⟨by kernel_rfl⟩
instance : TZero Try.prog 34 [.nilFunc] := ⟨by kernel_rfl⟩
instance : TU Try.prog 35 (TypeDesc.int IntKind.i64) := ⟨Try.underlying35⟩
instance : TSz Try.prog 35 1 := ⟨by kernel_rfl⟩
instance : TOne Try.prog 35 := ⟨by kernel_rfl⟩
instance : TEl Try.prog 35 1 8 := ⟨by kernel_rfl⟩
instance : TZero Try.prog 35 [.int .i64 0] := ⟨by kernel_rfl⟩
instance : TOne Try.prog 37 := ⟨by kernel_rfl⟩
instance : TSz Try.prog 37 1 := ⟨by kernel_rfl⟩
instance : TZero Try.prog 37 [.nilFunc] := ⟨by kernel_rfl⟩
instance : TOne Try.prog 38 := ⟨by kernel_rfl⟩
instance : TSz Try.prog 38 1 := ⟨by kernel_rfl⟩
instance : TZero Try.prog 38 [.nilFunc] := ⟨by kernel_rfl⟩
instance : TOne Try.prog 39 := ⟨by kernel_rfl⟩
instance : TSz Try.prog 39 1 := ⟨by kernel_rfl⟩
instance : TZero Try.prog 39 [.nilFunc] := ⟨by kernel_rfl⟩
instance : TU Try.prog 40 (TypeDesc.array 16 5) := ⟨Try.underlying40⟩
instance : TSz Try.prog 40 16 := ⟨by kernel_rfl⟩
instance : TAgg Try.prog 40 16 := ⟨by kernel_rfl⟩
instance : TLay Try.prog 40 [(0, 1), (1, 1), (2, 1), (3, 1), (4, 1), (5, 1), (6, 1), (7, 1), (8, 1), (9, 1), (10, 1), (11, 1), (12, 1), (13, 1), (14, 1), (15, 1)] := ⟨by kernel_rfl⟩
instance : TEl Try.prog 40 16 16 := ⟨by kernel_rfl⟩
instance : TEq Try.prog 40 [.i .u8, .i .u8, .i .u8, .i .u8, .i .u8, .i .u8, .i .u8, .i .u8, .i .u8, .i .u8, .i .u8, .i .u8, .i .u8, .i .u8, .i .u8, .i .u8] := ⟨by kernel_rfl⟩
instance : TZero Try.prog 40 [.int .u8 0, .int .u8 0, .int .u8 0, .int .u8 0, .int .u8 0, .int .u8 0, .int .u8 0, .int .u8 0, .int .u8 0, .int .u8 0, .int .u8 0, .int .u8 0, .int .u8 0, .int .u8 0, .int .u8 0, .int .u8 0] := ⟨by kernel_rfl⟩
instance : TU Try.prog 41 (TypeDesc.array 16 5) := ⟨Try.underlying41⟩
instance : TSz Try.prog 41 16 := ⟨by kernel_rfl⟩
instance : TAgg Try.prog 41 16 := ⟨by kernel_rfl⟩
instance : TLay Try.prog 41 [(0, 1), (1, 1), (2, 1), (3, 1), (4, 1), (5, 1), (6, 1), (7, 1), (8, 1), (9, 1), (10, 1), (11, 1), (12, 1), (13, 1), (14, 1), (15, 1)] := ⟨by kernel_rfl⟩
instance : TEl Try.prog 41 16 16 := ⟨by kernel_rfl⟩
instance : TEq Try.prog 41 [.i .u8, .i .u8, .i .u8, .i .u8, .i .u8, .i .u8, .i .u8, .i .u8, .i .u8, .i .u8, .i .u8, .i .u8, .i .u8, .i .u8, .i .u8, .i .u8] := ⟨by kernel_rfl⟩
instance : TZero Try.prog 41 [.int .u8 0, .int .u8 0, .int .u8 0, .int .u8 0, .int .u8 0, .int .u8 0, .int .u8 0, .int .u8 0, .int .u8 0, .int .u8 0, .int .u8 0, .int .u8 0, .int .u8 0, .int .u8 0, .int .u8 0, .int .u8 0] := ⟨by kernel_rfl⟩
instance : TSz Try.prog 42 17 := ⟨by kernel_rfl⟩
instance : TAgg Try.prog 42 17 := ⟨by kernel_rfl⟩
instance : TFldT Try.prog 42 0 0 41 := ⟨by kernel_rfl⟩
instance : TFld Try.prog 42 0 0 := ⟨by kernel_rfl⟩
instance : TFldT Try.prog 42 1 16 3 := ⟨by kernel_rfl⟩
instance : TFld Try.prog 42 1 16 := ⟨by kernel_rfl⟩
instance : TLay Try.prog 42 [(0, 16), (16, 1)] := ⟨by kernel_rfl⟩
instance : TEl Try.prog 42 17 24 := ⟨by kernel_rfl⟩
instance : TEq Try.prog 42 [.i .u8, .i .u8, .i .u8, .i .u8, .i .u8, .i .u8, .i .u8, .i .u8, .i .u8, .i .u8, .i .u8, .i .u8, .i .u8, .i .u8, .i .u8, .i .u8, .i .i64] := ⟨by kernel_rfl⟩
instance : TZero Try.prog 42 [.int .u8 0, .int .u8 0, .int .u8 0, .int .u8 0, .int .u8 0, .int .u8 0, .int .u8 0, .int .u8 0, .int .u8 0, .int .u8 0, .int .u8 0, .int .u8 0, .int .u8 0, .int .u8 0, .int .u8 0, .int .u8 0, .int .i64 0] := ⟨by kernel_rfl⟩
instance : TSz Try.prog 43 17 := ⟨by kernel_rfl⟩
instance : TAgg Try.prog 43 17 := ⟨by kernel_rfl⟩
instance : TFldT Try.prog 43 0 0 41 := ⟨by kernel_rfl⟩
instance : TFld Try.prog 43 0 0 := ⟨by kernel_rfl⟩
instance : TFldT Try.prog 43 1 16 3 := ⟨by kernel_rfl⟩
instance : TFld Try.prog 43 1 16 := ⟨by kernel_rfl⟩
instance : TLay Try.prog 43 [(0, 16), (16, 1)] := ⟨by kernel_rfl⟩
instance : TEl Try.prog 43 17 24 := ⟨by kernel_rfl⟩
instance : TEq Try.prog 43 [.i .u8, .i .u8, .i .u8, .i .u8, .i .u8, .i .u8, .i .u8, .i .u8, .i .u8, .i .u8, .i .u8, .i .u8, .i .u8, .i .u8, .i .u8, .i .u8, .i .i64] := ⟨by kernel_rfl⟩
instance : TZero Try.prog 43 [.int .u8 0, .int .u8 0, .int .u8 0, .int .u8 0, .int .u8 0, .int .u8 0, .int .u8 0, .int .u8 0, .int .u8 0, .int .u8 0, .int .u8 0, .int .u8 0, .int .u8 0, .int .u8 0, .int .u8 0, .int .u8 0, .int .i64 0] := ⟨by kernel_rfl⟩
instance : TU Try.prog 44 (TypeDesc.int IntKind.u64) := ⟨Try.underlying44⟩
instance : TSz Try.prog 44 1 := ⟨by kernel_rfl⟩
instance : TOne Try.prog 44 := ⟨by kernel_rfl⟩
instance : TEl Try.prog 44 1 8 := ⟨by kernel_rfl⟩
instance : TZero Try.prog 44 [.int .u64 0] := ⟨by kernel_rfl⟩
instance : TU Try.prog 45 (TypeDesc.int IntKind.u64) := ⟨Try.underlying45⟩
instance : TSz Try.prog 45 1 := ⟨by kernel_rfl⟩
instance : TOne Try.prog 45 := ⟨by kernel_rfl⟩
instance : TEl Try.prog 45 1 8 := ⟨by kernel_rfl⟩
instance : TZero Try.prog 45 [.int .u64 0] := ⟨by kernel_rfl⟩
instance : TSz Try.prog 46 35 := ⟨by kernel_rfl⟩
instance : TAgg Try.prog 46 35 := ⟨by kernel_rfl⟩
instance : TFldT Try.prog 46 0 0 43 := ⟨by kernel_rfl⟩
instance : TFld Try.prog 46 0 0 := ⟨by kernel_rfl⟩
instance : TFldT Try.prog 46 1 17 43 := ⟨by kernel_rfl⟩
instance : TFld Try.prog 46 1 17 := ⟨by kernel_rfl⟩
instance : TFldT Try.prog 46 2 34 45 := ⟨by kernel_rfl⟩
instance : TFld Try.prog 46 2 34 := ⟨by kernel_rfl⟩
instance : TLay Try.prog 46 [(0, 17), (17, 17), (34, 1)] := ⟨by kernel_rfl⟩
instance : TEl Try.prog 46 35 56 := ⟨by kernel_rfl⟩
instance : TEq Try.prog 46 [.i .u8, .i .u8, .i .u8, .i .u8, .i .u8, .i .u8, .i .u8, .i .u8, .i .u8, .i .u8, .i .u8, .i .u8, .i .u8, .i .u8, .i .u8, .i .u8, .i .i64, .i .u8, .i .u8, .i .u8, .i .u8, .i .u8, .i .u8, .i .u8, .i .u8, .i .u8, .i .u8, .i .u8, .i .u8, .i .u8, .i .u8, .i .u8, .i .u8, .i .i64, .i .u64] := ⟨by kernel_rfl⟩
instance : TZero Try.prog 46 [.int .u8 0, .int .u8 0, .int .u8 0, .int .u8 0, .int .u8 0, .int .u8 0, .int .u8 0, .int .u8 0, .int .u8 0, .int .u8 0, .int .u8 0, .int .u8 0, .int .u8 0, .int .u8 0, .int .u8 0, .int .u8 0, .int .i64 0, .int .u8 0, .int .u8 0, .int .u8 0, .int .u8 0, .int .u8 0, .int .u8 0, .int .u8 0, .int .u8 0, .int .u8 0, .int .u8 0, .int .u8 0, .int .u8 0, .int .u8 0, .int .u8 0, .int .u8 0, .int .u8 0, .int .i64 0, .int .u64 0] := ⟨by kernel_rfl⟩
instance : TSz Try.prog 47 35 := ⟨by kernel_rfl⟩
instance : TAgg Try.prog 47 35 := ⟨by kernel_rfl⟩
instance : TFldT Try.prog 47 0 0 43 := ⟨by kernel_rfl⟩
instance : TFld Try.prog 47 0 0 := ⟨by kernel_rfl⟩
instance : TFldT Try.prog 47 1 17 43 := ⟨by kernel_rfl⟩
instance : TFld Try.prog 47 1 17 := ⟨by kernel_rfl⟩
instance : TFldT Try.prog 47 2 34 45 := ⟨by kernel_rfl⟩
instance : TFld Try.prog 47 2 34 := ⟨by kernel_rfl⟩
instance : TLay Try.prog 47 [(0, 17), (17, 17), (34, 1)] := ⟨by kernel_rfl⟩
instance : TEl Try.prog 47 35 56 := ⟨by kernel_rfl⟩
instance : TEq Try.prog 47 [.i .u8, .i .u8, .i .u8, .i .u8, .i .u8, .i .u8, .i .u8, .i .u8, .i .u8, .i .u8, .i .u8, .i .u8, .i .u8, .i .u8, .i .u8, .i .u8, .i .i64, .i .u8, .i .u8, .i .u8, .i .u8, .i .u8, .i .u8, .i .u8, .i .u8, .i .u8, .i .u8, .i .u8, .i .u8, .i .u8, .i .u8, .i .u8, .i .u8, .i .i64, .i .u64] := ⟨by kernel_rfl⟩
instance : TZero Try.prog 47 [.int .u8 0, .int .u8 0, .int .u8 0, .int .u8 0, .int .u8 0, .int .u8 0, .int .u8 0, .int .u8 0, .int .u8 0, .int .u8 0, .int .u8 0, .int .u8 0, .int .u8 0, .int .u8 0, .int .u8 0, .int .u8 0, .int .i64 0, .int .u8 0, .int .u8 0, .int .u8 0, .int .u8 0, .int .u8 0, .int .u8 0, .int .u8 0, .int .u8 0, .int .u8 0, .int .u8 0, .int .u8 0, .int .u8 0, .int .u8 0, .int .u8 0, .int .u8 0, .int .u8 0, .int .i64 0, .int .u64 0] := ⟨by kernel_rfl⟩
instance : TU Try.prog 48 (TypeDesc.int IntKind.u16) := ⟨Try.underlying48⟩
instance : TSz Try.prog 48 1 := ⟨by kernel_rfl⟩
instance : TOne Try.prog 48 := ⟨by kernel_rfl⟩
instance : TEl Try.prog 48 1 2 := ⟨by kernel_rfl⟩
instance : TZero Try.prog 48 [.int .u16 0] := ⟨by kernel_rfl⟩
instance : TSz Try.prog 49 2 := ⟨by kernel_rfl⟩
instance : TAgg Try.prog 49 2 := ⟨by kernel_rfl⟩
instance : TFldT Try.prog 49 0 0 48 := ⟨by kernel_rfl⟩
instance : TFld Try.prog 49 0 0 := ⟨by kernel_rfl⟩
instance : TFldT Try.prog 49 1 1 3 := ⟨by kernel_rfl⟩
instance : TFld Try.prog 49 1 1 := ⟨by kernel_rfl⟩
instance : TLay Try.prog 49 [(0, 1), (1, 1)] := ⟨by kernel_rfl⟩
instance : TEl Try.prog 49 2 16 := ⟨by kernel_rfl⟩
instance : TEq Try.prog 49 [.i .u16, .i .i64] := ⟨by kernel_rfl⟩
instance : TZero Try.prog 49 [.int .u16 0, .int .i64 0] := ⟨by kernel_rfl⟩
instance : TSz Try.prog 50 2 := ⟨by kernel_rfl⟩
instance : TAgg Try.prog 50 2 := ⟨by kernel_rfl⟩
instance : TFldT Try.prog 50 0 0 48 := ⟨by kernel_rfl⟩
instance : TFld Try.prog 50 0 0 := ⟨by kernel_rfl⟩
instance : TFldT Try.prog 50 1 1 3 := ⟨by kernel_rfl⟩
instance : TFld Try.prog 50 1 1 := ⟨by kernel_rfl⟩
instance : TLay Try.prog 50 [(0, 1), (1, 1)] := ⟨by kernel_rfl⟩
instance : TEl Try.prog 50 2 16 := ⟨by kernel_rfl⟩
instance : TEq Try.prog 50 [.i .u16, .i .i64] := ⟨by kernel_rfl⟩
instance : TZero Try.prog 50 [.int .u16 0, .int .i64 0] := ⟨by kernel_rfl⟩
instance : TSz Try.prog 51 37 := ⟨by kernel_rfl⟩
instance : TAgg Try.prog 51 37 := ⟨by kernel_rfl⟩
instance : TFldT Try.prog 51 0 0 47 := ⟨by kernel_rfl⟩
instance : TFld Try.prog 51 0 0 := ⟨by kernel_rfl⟩
instance : TFldT Try.prog 51 1 35 50 := ⟨by kernel_rfl⟩
instance : TFld Try.prog 51 1 35 := ⟨by kernel_rfl⟩
instance : TLay Try.prog 51 [(0, 35), (35, 2)] := ⟨by kernel_rfl⟩
instance : TEl Try.prog 51 37 72 := ⟨by kernel_rfl⟩
instance : TEq Try.prog 51 [.i .u8, .i .u8, .i .u8, .i .u8, .i .u8, .i .u8, .i .u8, .i .u8, .i .u8, .i .u8, .i .u8, .i .u8, .i .u8, .i .u8, .i .u8, .i .u8, .i .i64, .i .u8, .i .u8, .i .u8, .i .u8, .i .u8, .i .u8, .i .u8, .i .u8, .i .u8, .i .u8, .i .u8, .i .u8, .i .u8, .i .u8, .i .u8, .i .u8, .i .i64, .i .u64, .i .u16, .i .i64] := ⟨by kernel_rfl⟩
instance : TZero Try.prog 51 [.int .u8 0, .int .u8 0, .int .u8 0, .int .u8 0, .int .u8 0, .int .u8 0, .int .u8 0, .int .u8 0, .int .u8 0, .int .u8 0, .int .u8 0, .int .u8 0, .int .u8 0, .int .u8 0, .int .u8 0, .int .u8 0, .int .i64 0, .int .u8 0, .int .u8 0, .int .u8 0, .int .u8 0, .int .u8 0, .int .u8 0, .int .u8 0, .int .u8 0, .int .u8 0, .int .u8 0, .int .u8 0, .int .u8 0, .int .u8 0, .int .u8 0, .int .u8 0, .int .u8 0, .int .i64 0, .int .u64 0, .int .u16 0, .int .i64 0] := ⟨by kernel_rfl⟩
instance : TSz Try.prog 52 37 := ⟨by kernel_rfl⟩
instance : TAgg Try.prog 52 37 := ⟨by kernel_rfl⟩
instance : TFldT Try.prog 52 0 0 47 := ⟨by kernel_rfl⟩
instance : TFld Try.prog 52 0 0 := ⟨by kernel_rfl⟩
instance : TFldT Try.prog 52 1 35 50 := ⟨by kernel_rfl⟩
instance : TFld Try.prog 52 1 35 := ⟨by kernel_rfl⟩
instance : TLay Try.prog 52 [(0, 35), (35, 2)] := ⟨by kernel_rfl⟩
instance : TEl Try.prog 52 37 72 := ⟨by kernel_rfl⟩
instance : TEq Try.prog 52 [.i .u8, .i .u8, .i .u8, .i .u8, .i .u8, .i .u8, .i .u8, .i .u8, .i .u8, .i .u8, .i .u8, .i .u8, .i .u8, .i .u8, .i .u8, .i .u8, .i .i64, .i .u8, .i .u8, .i .u8, .i .u8, .i .u8, .i .u8, .i .u8, .i .u8, .i .u8, .i .u8, .i .u8, .i .u8, .i .u8, .i .u8, .i .u8, .i .u8, .i .i64, .i .u64, .i .u16, .i .i64] := ⟨by kernel_rfl⟩
instance : TZero Try.prog 52 [.int .u8 0, .int .u8 0, .int .u8 0, .int .u8 0, .int .u8 0, .int .u8 0, .int .u8 0, .int .u8 0, .int .u8 0, .int .u8 0, .int .u8 0, .int .u8 0, .int .u8 0, .int .u8 0, .int .u8 0, .int .u8 0, .int .i64 0, .int .u8 0, .int .u8 0, .int .u8 0, .int .u8 0, .int .u8 0, .int .u8 0, .int .u8 0, .int .u8 0, .int .u8 0, .int .u8 0, .int .u8 0, .int .u8 0, .int .u8 0, .int .u8 0, .int .u8 0, .int .u8 0, .int .i64 0, .int .u64 0, .int .u16 0, .int .i64 0] := ⟨by kernel_rfl⟩
instance : TOne Try.prog 53 := ⟨by kernel_rfl⟩
instance : TSz Try.prog 53 1 := ⟨by kernel_rfl⟩
instance : TZero Try.prog 53 [.nilFunc] := ⟨by kernel_rfl⟩
instance : TOne Try.prog 54 := ⟨by kernel_rfl⟩
instance : TSz Try.prog 54 1 := ⟨by kernel_rfl⟩
instance : TZero Try.prog 54 [.nilFunc] := ⟨by kernel_rfl⟩
instance : TOne Try.prog 55 := ⟨by kernel_rfl⟩
instance : TSz Try.prog 55 1 := ⟨by kernel_rfl⟩
instance : TZero Try.prog 55 [.nilFunc] := ⟨by kernel_rfl⟩
instance : TOne Try.prog 56 := ⟨by kernel_rfl⟩
instance : TSz Try.prog 56 1 := ⟨by kernel_rfl⟩
instance : TZero Try.prog 56 [.nilFunc] := ⟨by kernel_rfl⟩
instance : TOne Try.prog 57 := ⟨by kernel_rfl⟩
instance : TSz Try.prog 57 1 := ⟨by kernel_rfl⟩
instance : TZero Try.prog 57 [.nilFunc] := ⟨by kernel_rfl⟩
instance : TU Try.prog 58 (TypeDesc.slice 62) := ⟨Try.underlying58⟩
instance : TSz Try.prog 58 1 := ⟨by kernel_rfl⟩
instance : TOne Try.prog 58 := ⟨by kernel_rfl⟩
instance : TEl Try.prog 58 1 24 := ⟨by kernel_rfl⟩
instance : TNI Try.prog 58 := ⟨by kernel_rfl⟩
instance : TZero Try.prog 58 [.slice none 0 0] := ⟨by kernel_rfl⟩
instance : TOne Try.prog 59 := ⟨by kernel_rfl⟩
instance : TSz Try.prog 59 1 := ⟨by kernel_rfl⟩
instance : TZero Try.prog 59 [.nilFunc] := ⟨by kernel_rfl⟩
instance : TOne Try.prog 60 := ⟨by kernel_rfl⟩
instance : TSz Try.prog 60 1 := ⟨by kernel_rfl⟩
instance : TZero Try.prog 60 [.nilFunc] := ⟨by kernel_rfl⟩
instance : TSz Try.prog 61 40 := ⟨by kernel_rfl⟩
instance : TAgg Try.prog 61 40 := ⟨by kernel_rfl⟩
instance : TFldT Try.prog 61 0 0 47 := ⟨by kernel_rfl⟩
instance : TFld Try.prog 61 0 0 := ⟨by kernel_rfl⟩
instance : TFldT Try.prog 61 1 35 45 := ⟨by kernel_rfl⟩
instance : TFld Try.prog 61 1 35 := ⟨by kernel_rfl⟩
instance : TFldT Try.prog 61 2 36 50 := ⟨by kernel_rfl⟩
instance : TFld Try.prog 61 2 36 := ⟨by kernel_rfl⟩
instance : TFldT Try.prog 61 3 38 3 := ⟨by kernel_rfl⟩
instance : TFld Try.prog 61 3 38 := ⟨by kernel_rfl⟩
instance : TFldT Try.prog 61 4 39 3 := ⟨by kernel_rfl⟩
instance : TFld Try.prog 61 4 39 := ⟨by kernel_rfl⟩
instance : TLay Try.prog 61 [(0, 35), (35, 1), (36, 2), (38, 1), (39, 1)] := ⟨by kernel_rfl⟩
instance : TEl Try.prog 61 40 96 := ⟨by kernel_rfl⟩
instance : TEq Try.prog 61 [.i .u8, .i .u8, .i .u8, .i .u8, .i .u8, .i .u8, .i .u8, .i .u8, .i .u8, .i .u8, .i .u8, .i .u8, .i .u8, .i .u8, .i .u8, .i .u8, .i .i64, .i .u8, .i .u8, .i .u8, .i .u8, .i .u8, .i .u8, .i .u8, .i .u8, .i .u8, .i .u8, .i .u8, .i .u8, .i .u8, .i .u8, .i .u8, .i .u8, .i .i64, .i .u64, .i .u64, .i .u16, .i .i64, .i .i64, .i .i64] := ⟨by kernel_rfl⟩
instance : TZero Try.prog 61 [.int .u8 0, .int .u8 0, .int .u8 0, .int .u8 0, .int .u8 0, .int .u8 0, .int .u8 0, .int .u8 0, .int .u8 0, .int .u8 0, .int .u8 0, .int .u8 0, .int .u8 0, .int .u8 0, .int .u8 0, .int .u8 0, .int .i64 0, .int .u8 0, .int .u8 0, .int .u8 0, .int .u8 0, .int .u8 0, .int .u8 0, .int .u8 0, .int .u8 0, .int .u8 0, .int .u8 0, .int .u8 0, .int .u8 0, .int .u8 0, .int .u8 0, .int .u8 0, .int .u8 0, .int .i64 0, .int .u64 0, .int .u64 0, .int .u16 0, .int .i64 0, .int .i64 0, .int .i64 0] := ⟨by kernel_rfl⟩
instance : TSz Try.prog 62 40 := ⟨by kernel_rfl⟩
instance : TAgg Try.prog 62 40 := ⟨by kernel_rfl⟩
instance : TFldT Try.prog 62 0 0 47 := ⟨by kernel_rfl⟩
instance : TFld Try.prog 62 0 0 := ⟨by kernel_rfl⟩
instance : TFldT Try.prog 62 1 35 45 := ⟨by kernel_rfl⟩
instance : TFld Try.prog 62 1 35 := ⟨by kernel_rfl⟩
instance : TFldT Try.prog 62 2 36 50 := ⟨by kernel_rfl⟩
instance : TFld Try.prog 62 2 36 := ⟨by kernel_rfl⟩
instance : TFldT Try.prog 62 3 38 3 := ⟨by kernel_rfl⟩
instance : TFld Try.prog 62 3 38 := ⟨by kernel_rfl⟩
instance : TFldT Try.prog 62 4 39 3 := ⟨by kernel_rfl⟩
instance : TFld Try.prog 62 4 39 := ⟨by kernel_rfl⟩
instance : TLay Try.prog 62 [(0, 35), (35, 1), (36, 2), (38, 1), (39, 1)] := ⟨by kernel_rfl⟩
instance : TEl Try.prog 62 40 96 := ⟨by kernel_rfl⟩
instance : TEq Try.prog 62 [.i .u8, .i .u8, .i .u8, .i .u8, .i .u8, .i .u8, .i .u8, .i .u8, .i .u8, .i .u8, .i .u8, .i .u8, .i .u8, .i .u8, .i .u8, .i .u8, .i .i64, .i .u8, .i .u8, .i .u8, .i .u8, .i .u8, .i .u8, .i .u8, .i .u8, .i .u8, .i .u8, .i .u8, .i .u8, .i .u8, .i .u8, .i .u8, .i .u8, .i .i64, .i .u64, .i .u64, .i .u16, .i .i64, .i .i64, .i .i64] := ⟨by kernel_rfl⟩
instance : TZero Try.prog 62 [.int .u8 0, .int .u8 0, .int .u8 0, .int .u8 0, .int .u8 0, .int .u8 0, .int .u8 0, .int .u8 0, .int .u8 0, .int .u8 0, .int .u8 0, .int .u8 0, .int .u8 0, .int .u8 0, .int .u8 0, .int .u8 0, .int .i64 0, .int .u8 0, .int .u8 0, .int .u8 0, .int .u8 0, .int .u8 0, .int .u8 0, .int .u8 0, .int .u8 0, .int .u8 0, .int .u8 0, .int .u8 0, .int .u8 0, .int .u8 0, .int .u8 0, .int .u8 0, .int .u8 0, .int .i64 0, .int .u64 0, .int .u64 0, .int .u16 0, .int .i64 0, .int .i64 0, .int .i64 0] := ⟨by kernel_rfl⟩
instance : TOne Try.prog 63 := ⟨by kernel_rfl⟩
instance : TSz Try.prog 63 1 := ⟨by kernel_rfl⟩
instance : TZero Try.prog 63 [.nilFunc] := ⟨by kernel_rfl⟩
instance : TOne Try.prog 64 := ⟨by kernel_rfl⟩
instance : TSz Try.prog 64 1 := ⟨by kernel_rfl⟩
instance : TZero Try.prog 64 [.nilFunc] := ⟨by kernel_rfl⟩
instance : TOne Try.prog 66 := ⟨by kernel_rfl⟩
instance : TSz Try.prog 66 1 := ⟨by kernel_rfl⟩
instance : TZero Try.prog 66 [.nilFunc] := ⟨by kernel_rfl⟩
instance : TOne Try.prog 67 := ⟨by kernel_rfl⟩
instance : TSz Try.prog 67 1 := ⟨by kernel_rfl⟩
instance : TZero Try.prog 67 [.nilFunc] := ⟨by kernel_rfl⟩
instance : TOne Try.prog 68 := ⟨by kernel_rfl⟩
instance : TSz Try.prog 68 1 := ⟨by kernel_rfl⟩
instance : TZero Try.prog 68 [.nilFunc] := ⟨by kernel_rfl⟩
instance : TOne Try.prog 69 := ⟨by kernel_rfl⟩
instance : TSz Try.prog 69 1 := ⟨by kernel_rfl⟩
instance : TZero Try.prog 69 [.nilFunc] := ⟨by kernel_rfl⟩
instance : TOne Try.prog 70 := ⟨by kernel_rfl⟩
instance : TSz Try.prog 70 1 := ⟨by kernel_rfl⟩
instance : TZero Try.prog 70 [.nilFunc] := ⟨by kernel_rfl⟩
instance : TOne Try.prog 71 := ⟨by kernel_rfl⟩
instance : TSz Try.prog 71 1 := ⟨by kernel_rfl⟩
instance : TZero Try.prog 71 [.nilFunc] := ⟨by kernel_rfl⟩
instance : TSz Try.prog 72 2 := ⟨by kernel_rfl⟩
instance : TAgg Try.prog 72 2 := ⟨by kernel_rfl⟩
instance : TFldT Try.prog 72 0 0 45 := ⟨by kernel_rfl⟩
instance : TFld Try.prog 72 0 0 := ⟨by kernel_rfl⟩
instance : TFldT Try.prog 72 1 1 3 := ⟨by kernel_rfl⟩
instance : TFld Try.prog 72 1 1 := ⟨by kernel_rfl⟩
instance : TLay Try.prog 72 [(0, 1), (1, 1)] := ⟨by kernel_rfl⟩
instance : TEl Try.prog 72 2 16 := ⟨by kernel_rfl⟩
instance : TEq Try.prog 72 [.i .u64, .i .i64] := ⟨by kernel_rfl⟩
instance : TZero Try.prog 72 [.int .u64 0, .int .i64 0] := ⟨by kernel_rfl⟩
instance : TSz Try.prog 73 2 := ⟨by kernel_rfl⟩
instance : TAgg Try.prog 73 2 := ⟨by kernel_rfl⟩
instance : TFldT Try.prog 73 0 0 45 := ⟨by kernel_rfl⟩
instance : TFld Try.prog 73 0 0 := ⟨by kernel_rfl⟩
instance : TFldT Try.prog 73 1 1 3 := ⟨by kernel_rfl⟩
instance : TFld Try.prog 73 1 1 := ⟨by kernel_rfl⟩
instance : TLay Try.prog 73 [(0, 1), (1, 1)] := ⟨by kernel_rfl⟩
instance : TEl Try.prog 73 2 16 := ⟨by kernel_rfl⟩
instance : TEq Try.prog 73 [.i .u64, .i .i64] := ⟨by kernel_rfl⟩
instance : TZero Try.prog 73 [.int .u64 0, .int .i64 0] := ⟨by kernel_rfl⟩
instance : TU Try.prog 74 (TypeDesc.slice 73) := ⟨Try.underlying74⟩
instance : TSz Try.prog 74 1 := ⟨by kernel_rfl⟩
instance : TOne Try.prog 74 := ⟨by kernel_rfl⟩
instance : TEl Try.prog 74 1 24 := ⟨by kernel_rfl⟩
instance : TNI Try.prog 74 := ⟨by kernel_rfl⟩
instance : TZero Try.prog 74 [.slice none 0 0] := ⟨by kernel_rfl⟩
instance : TU Try.prog 75 (TypeDesc.slice 81) := ⟨Try.underlying75⟩
instance : TSz Try.prog 75 1 := ⟨by kernel_rfl⟩
instance : TOne Try.prog 75 := ⟨by kernel_rfl⟩
instance : TEl Try.prog 75 1 24 := ⟨by kernel_rfl⟩
instance : TNI Try.prog 75 := ⟨by kernel_rfl⟩
instance : TZero Try.prog 75 [.slice none 0 0] := ⟨by kernel_rfl⟩
instance : TOne Try.prog 77 := ⟨by kernel_rfl⟩
instance : TSz Try.prog 77 1 := ⟨by kernel_rfl⟩
instance : TZero Try.prog 77 [.nilFunc] := ⟨by kernel_rfl⟩
instance : TOne Try.prog 79 := ⟨by kernel_rfl⟩
instance : TSz Try.prog 79 1 := ⟨by kernel_rfl⟩
instance : TZero Try.prog 79 [.nilFunc] := ⟨by kernel_rfl⟩
instance : TSz Try.prog 80 39 := ⟨by kernel_rfl⟩
instance : TAgg Try.prog 80 39 := ⟨by kernel_rfl⟩
instance : TFldT Try.prog 80 0 0 47 := ⟨by kernel_rfl⟩
instance : TFld Try.prog 80 0 0 := ⟨by kernel_rfl⟩
instance : TFldT Try.prog 80 1 35 45 := ⟨by kernel_rfl⟩
instance : TFld Try.prog 80 1 35 := ⟨by kernel_rfl⟩
instance : TFldT Try.prog 80 2 36 50 := ⟨by kernel_rfl⟩
instance : TFld Try.prog 80 2 36 := ⟨by kernel_rfl⟩
instance : TFldT Try.prog 80 3 38 3 := ⟨by kernel_rfl⟩
instance : TFld Try.prog 80 3 38 := ⟨by kernel_rfl⟩
instance : TLay Try.prog 80 [(0, 35), (35, 1), (36, 2), (38, 1)] := ⟨by kernel_rfl⟩
instance : TEl Try.prog 80 39 88 := ⟨by kernel_rfl⟩
instance : TEq Try.prog 80 [.i .u8, .i .u8, .i .u8, .i .u8, .i .u8, .i .u8, .i .u8, .i .u8, .i .u8, .i .u8, .i .u8, .i .u8, .i .u8, .i .u8, .i .u8, .i .u8, .i .i64, .i .u8, .i .u8, .i .u8, .i .u8, .i .u8, .i .u8, .i .u8, .i .u8, .i .u8, .i .u8, .i .u8, .i .u8, .i .u8, .i .u8, .i .u8, .i .u8, .i .i64, .i .u64, .i .u64, .i .u16, .i .i64, .i .i64] := ⟨by kernel_rfl⟩
instance : TZero Try.prog 80 [.int .u8 0, .int .u8 0, .int .u8 0, .int .u8 0, .int .u8 0, .int .u8 0, .int .u8 0, .int .u8 0, .int .u8 0, .int .u8 0, .int .u8 0, .int .u8 0, .int .u8 0, .int .u8 0, .int .u8 0, .int .u8 0, .int .i64 0, .int .u8 0, .int .u8 0, .int .u8 0, .int .u8 0, .int .u8 0, .int .u8 0, .int .u8 0, .int .u8 0, .int .u8 0, .int .u8 0, .int .u8 0, .int .u8 0, .int .u8 0, .int .u8 0, .int .u8 0, .int .u8 0, .int .i64 0, .int .u64 0, .int .u64 0, .int .u16 0, .int .i64 0, .int .i64 0] := ⟨by kernel_rfl⟩
instance : TSz Try.prog 81 39 := ⟨by kernel_rfl⟩
instance : TAgg Try.prog 81 39 := ⟨by kernel_rfl⟩
instance : TFldT Try.prog 81 0 0 47 := ⟨by kernel_rfl⟩
instance : TFld Try.prog 81 0 0 := ⟨by kernel_rfl⟩
instance : TFldT Try.prog 81 1 35 45 := ⟨by kernel_rfl⟩
instance : TFld Try.prog 81 1 35 := ⟨by kernel_rfl⟩
instance : TFldT Try.prog 81 2 36 50 := ⟨by kernel_rfl⟩
instance : TFld Try.prog 81 2 36 := ⟨by kernel_rfl⟩
instance : TFldT Try.prog 81 3 38 3 := ⟨by kernel_rfl⟩
instance : TFld Try.prog 81 3 38 := ⟨by kernel_rfl⟩
instance : TLay Try.prog 81 [(0, 35), (35, 1), (36, 2), (38, 1)] := ⟨by kernel_rfl⟩
instance : TEl Try.prog 81 39 88 := ⟨by kernel_rfl⟩
instance : TEq Try.prog 81 [.i .u8, .i .u8, .i .u8, .i .u8, .i .u8, .i .u8, .i .u8, .i .u8, .i .u8, .i .u8, .i .u8, .i .u8, .i .u8, .i .u8, .i .u8, .i .u8, .i .i64, .i .u8, .i .u8, .i .u8, .i .u8, .i .u8, .i .u8, .i .u8, .i .u8, .i .u8, .i .u8, .i .u8, .i .u8, .i .u8, .i .u8, .i .u8, .i .u8, .i .i64, .i .u64, .i .u64, .i .u16, .i .i64, .i .i64] := ⟨by kernel_rfl⟩
instance : TZero Try.prog 81 [.int .u8 0, .int .u8 0, .int .u8 0, .int .u8 0, .int .u8 0, .int .u8 0, .int .u8 0, .int .u8 0, .int .u8 0, .int .u8 0, .int .u8 0, .int .u8 0, .int .u8 0, .int .u8 0, .int .u8 0, .int .u8 0, .int .i64 0, .int .u8 0, .int .u8 0, .int .u8 0, .int .u8 0, .int .u8 0, .int .u8 0, .int .u8 0, .int .u8 0, .int .u8 0, .int .u8 0, .int .u8 0, .int .u8 0, .int .u8 0, .int .u8 0, .int .u8 0, .int .u8 0, .int .i64 0, .int .u64 0, .int .u64 0, .int .u16 0, .int .i64 0, .int .i64 0] := ⟨by kernel_rfl⟩
instance : TOne Try.prog 82 := ⟨by kernel_rfl⟩
instance : TSz Try.prog 82 1 := ⟨by kernel_rfl⟩
instance : TZero Try.prog 82 [.nilFunc] := ⟨by kernel_rfl⟩
instance : TOne Try.prog 83 := ⟨by kernel_rfl⟩
instance : TSz Try.prog 83 1 := ⟨by kernel_rfl⟩
instance : TZero Try.prog 83 [.nilFunc] := ⟨by kernel_rfl⟩
instance : TOne Try.prog 84 := ⟨by kernel_rfl⟩
instance : TSz Try.prog 84 1 := ⟨by kernel_rfl⟩
instance : TZero Try.prog 84 [.nilFunc] := ⟨by kernel_rfl⟩
instance : TSz Try.prog 85 2 := ⟨by kernel_rfl⟩
instance : TAgg Try.prog 85 2 := ⟨by kernel_rfl⟩
instance : TFldT Try.prog 85 0 0 25 := ⟨by kernel_rfl⟩
instance : TFld Try.prog 85 0 0 := ⟨by kernel_rfl⟩
instance : TFldT Try.prog 85 1 1 3 := ⟨by kernel_rfl⟩
instance : TFld Try.prog 85 1 1 := ⟨by kernel_rfl⟩
instance : TLay Try.prog 85 [(0, 1), (1, 1)] := ⟨by kernel_rfl⟩
instance : TEl Try.prog 85 2 32 := ⟨by kernel_rfl⟩
instance : TZero Try.prog 85 [.slice none 0 0, .int .i64 0] := ⟨by kernel_rfl⟩
instance : TSz Try.prog 86 2 := ⟨by kernel_rfl⟩
instance : TAgg Try.prog 86 2 := ⟨by kernel_rfl⟩
instance : TFldT Try.prog 86 0 0 25 := ⟨by kernel_rfl⟩
instance : TFld Try.prog 86 0 0 := ⟨by kernel_rfl⟩
instance : TFldT Try.prog 86 1 1 3 := ⟨by kernel_rfl⟩
instance : TFld Try.prog 86 1 1 := ⟨by kernel_rfl⟩
instance : TLay Try.prog 86 [(0, 1), (1, 1)] := ⟨by kernel_rfl⟩
instance : TEl Try.prog 86 2 32 := ⟨by kernel_rfl⟩
instance : TZero Try.prog 86 [.slice none 0 0, .int .i64 0] := ⟨by kernel_rfl⟩
instance : TOne Try.prog 87 := ⟨by kernel_rfl⟩
instance : TSz Try.prog 87 1 := ⟨by kernel_rfl⟩
instance : TZero Try.prog 87 [.nilFunc] := ⟨by kernel_rfl⟩
instance : TOne Try.prog 88 := ⟨by kernel_rfl⟩
instance : TSz Try.prog 88 1 := ⟨by kernel_rfl⟩
instance : TZero Try.prog 88 [.nilFunc] := ⟨by kernel_rfl⟩
instance : TOne Try.prog 89 := ⟨by kernel_rfl⟩
instance : TSz Try.prog 89 1 := ⟨by kernel_rfl⟩
instance : TZero Try.prog 89 [.nilFunc] := ⟨by kernel_rfl⟩
instance : TU Try.prog 90 (TypeDesc.pointer 52) := ⟨Try.underlying90⟩
instance : TSz Try.prog 90 1 := ⟨by kernel_rfl⟩
instance : TOne Try.prog 90 := ⟨by kernel_rfl⟩
instance : TEl Try.prog 90 1 8 := ⟨by kernel_rfl⟩
instance : TZero Try.prog 90 [.pointer none] := ⟨by kernel_rfl⟩
instance : TU Try.prog 91 (TypeDesc.map 47 50) := ⟨Try.underlying91⟩
instance : TSz Try.prog 91 1 := ⟨by kernel_rfl⟩
instance : TOne Try.prog 91 := ⟨by kernel_rfl⟩
instance : TEl Try.prog 91 1 8 := ⟨by kernel_rfl⟩
instance : TZero Try.prog 91 [.map none] := ⟨by kernel_rfl⟩
instance : TOne Try.prog 92 := ⟨by kernel_rfl⟩
instance : TSz Try.prog 92 1 := ⟨by kernel_rfl⟩
instance : TZero Try.prog 92 [.nilFunc] := ⟨by kernel_rfl⟩
instance : TOne Try.prog 94 := ⟨by kernel_rfl⟩
instance : TSz Try.prog 94 1 := ⟨by kernel_rfl⟩
instance : TZero Try.prog 94 [.nilFunc] := ⟨by kernel_rfl⟩
instance : TOne Try.prog 95 := ⟨by kernel_rfl⟩
instance : TSz Try.prog 95 1 := ⟨by kernel_rfl⟩
instance : TZero Try.prog 95 [.nilFunc] := ⟨by kernel_rfl⟩
instance : TOne Try.prog 96 := ⟨by kernel_rfl⟩
instance : TSz Try.prog 96 1 := ⟨by kernel_rfl⟩
instance : TZero Try.prog 96 [.nilFunc] := ⟨by kernel_rfl⟩
instance : TOne Try.prog 97 := ⟨by kernel_rfl⟩
instance : TSz Try.prog 97 1 := ⟨by kernel_rfl⟩
instance : TZero Try.prog 97 [.nilFunc] := ⟨by kernel_rfl⟩
instance : TOne Try.prog 98 := ⟨by kernel_rfl⟩
instance : TSz Try.prog 98 1 := ⟨by kernel_rfl⟩
instance : TZero Try.prog 98 [.nilFunc] := ⟨by kernel_rfl⟩
instance : TOne Try.prog 99 := ⟨by kernel_rfl⟩
instance : TSz Try.prog 99 1 := ⟨by kernel_rfl⟩
instance : TZero Try.prog 99 [.nilFunc] := ⟨by kernel_rfl⟩
instance : TOne Try.prog 100 := ⟨by kernel_rfl⟩
instance : TSz Try.prog 100 1 := ⟨by kernel_rfl⟩
instance : TZero Try.prog 100 [.nilFunc] := ⟨by kernel_rfl⟩
instance : TOne Try.prog 101 := ⟨by kernel_rfl⟩
instance : TSz Try.prog 101 1 := ⟨by kernel_rfl⟩
instance : TZero Try.prog 101 [.nilFunc] := ⟨by kernel_rfl⟩
instance : TU Try.prog 102 (TypeDesc.int IntKind.u64) := ⟨Try.underlying102⟩
instance : TSz Try.prog 102 1 := ⟨by kernel_rfl⟩
instance : TOne Try.prog 102 := ⟨by kernel_rfl⟩
instance : TEl Try.prog 102 1 8 := ⟨by kernel_rfl⟩
instance : TZero Try.prog 102 [.int .u64 0] := ⟨by kernel_rfl⟩
instance : TOne Try.prog 103 := ⟨by kernel_rfl⟩
instance : TSz Try.prog 103 1 := ⟨by kernel_rfl⟩
instance : TZero Try.prog 103 [.nilFunc] := ⟨by kernel_rfl⟩
instance : TOne Try.prog 104 := ⟨by kernel_rfl⟩
instance : TSz Try.prog 104 1 := ⟨by kernel_rfl⟩
instance : TZero Try.prog 104 [.nilFunc] := ⟨by kernel_rfl⟩
instance : TOne Try.prog 105 := ⟨by kernel_rfl⟩
instance : TSz Try.prog 105 1 := ⟨by kernel_rfl⟩
instance : TZero Try.prog 105 [.nilFunc] := ⟨by kernel_rfl⟩
instance : TOne Try.prog 106 := ⟨by kernel_rfl⟩
instance : TSz Try.prog 106 1 := ⟨by kernel_rfl⟩
instance : TZero Try.prog 106 [.nilFunc] := ⟨by kernel_rfl⟩
instance : TOne Try.prog 107 := ⟨by kernel_rfl⟩
instance : TSz Try.prog 107 1 := ⟨by kernel_rfl⟩
instance : TZero Try.prog 107 [.nilFunc] := ⟨by kernel_rfl⟩
instance : TOne Try.prog 108 := ⟨by kernel_rfl⟩
instance : TSz Try.prog 108 1 := ⟨by kernel_rfl⟩
instance : TZero Try.prog 108 [.nilFunc] := ⟨by kernel_rfl⟩
instance : TOne Try.prog 109 := ⟨by kernel_rfl⟩
instance : TSz Try.prog 109 1 := ⟨by kernel_rfl⟩
instance : TZero Try.prog 109 [.nilFunc] := ⟨by kernel_rfl⟩
instance : TOne Try.prog 111 := ⟨by kernel_rfl⟩
instance : TSz Try.prog 111 1 := ⟨by kernel_rfl⟩
instance : TZero Try.prog 111 [.nilFunc] := ⟨by kernel_rfl⟩
instance : TOne Try.prog 112 := ⟨by kernel_rfl⟩
instance : TSz Try.prog 112 1 := ⟨by kernel_rfl⟩
instance : TZero Try.prog 112 [.nilFunc] := ⟨by kernel_rfl⟩
instance : TOne Try.prog 113 := ⟨by kernel_rfl⟩
instance : TSz Try.prog 113 1 := ⟨by kernel_rfl⟩
instance : TZero Try.prog 113 [.nilFunc] := ⟨by kernel_rfl⟩
instance : TOne Try.prog 114 := ⟨by kernel_rfl⟩
instance : TSz Try.prog 114 1 := ⟨by kernel_rfl⟩
instance : TZero Try.prog 114 [.nilFunc] := ⟨by kernel_rfl⟩
instance : TOne Try.prog 115 := ⟨by kernel_rfl⟩
instance : TSz Try.prog 115 1 := ⟨by kernel_rfl⟩
instance : TZero Try.prog 115 [.nilFunc] := ⟨by kernel_rfl⟩
instance : TU Try.prog 116 (TypeDesc.slice 140) := ⟨Try.underlying116⟩
instance : TSz Try.prog 116 1 := ⟨by kernel_rfl⟩
instance : TOne Try.prog 116 := ⟨by kernel_rfl⟩
instance : TEl Try.prog 116 1 24 := ⟨by kernel_rfl⟩
instance : TNI Try.prog 116 := ⟨by kernel_rfl⟩
instance : TZero Try.prog 116 [.slice none 0 0] := ⟨by kernel_rfl⟩
instance : TOne Try.prog 117 := ⟨by kernel_rfl⟩
instance : TSz Try.prog 117 1 := ⟨by kernel_rfl⟩
instance : TZero Try.prog 117 [.nilFunc] := ⟨by kernel_rfl⟩
instance : TOne Try.prog 118 := ⟨by kernel_rfl⟩
instance : TSz Try.prog 118 1 := ⟨by kernel_rfl⟩
instance : TZero Try.prog 118 [.nilFunc] := ⟨by kernel_rfl⟩
instance : TU Try.prog 119 (TypeDesc.map 45 3) := ⟨Try.underlying119⟩
instance : TSz Try.prog 119 1 := ⟨by kernel_rfl⟩
instance : TOne Try.prog 119 := ⟨by kernel_rfl⟩
instance : TEl Try.prog 119 1 8 := ⟨by kernel_rfl⟩
instance : TZero Try.prog 119 [.map none] := ⟨by kernel_rfl⟩
instance : TU Try.prog 120 (TypeDesc.slice 47) := ⟨Try.underlying120⟩
instance : TSz Try.prog 120 1 := ⟨by kernel_rfl⟩
instance : TOne Try.prog 120 := ⟨by kernel_rfl⟩
instance : TEl Try.prog 120 1 24 := ⟨by kernel_rfl⟩
instance : TNI Try.prog 120 := ⟨by kernel_rfl⟩
instance : TZero Try.prog 120 [.slice none 0 0] := ⟨by kernel_rfl⟩
instance : TOne Try.prog 121 := ⟨by kernel_rfl⟩
instance : TSz Try.prog 121 1 := ⟨by kernel_rfl⟩
instance : TZero Try.prog 121 [.nilFunc] := ⟨by kernel_rfl⟩
instance : TU Try.prog 122 (TypeDesc.map 45 50) := ⟨Try.underlying122⟩
instance : TSz Try.prog 122 1 := ⟨by kernel_rfl⟩
instance : TOne Try.prog 122 := ⟨by kernel_rfl⟩
instance : TEl Try.prog 122 1 8 := ⟨by kernel_rfl⟩
instance : TZero Try.prog 122 [.map none] := ⟨by kernel_rfl⟩
instance : TOne Try.prog 123 := ⟨by kernel_rfl⟩
instance : TSz Try.prog 123 1 := ⟨by kernel_rfl⟩
instance : TZero Try.prog 123 [.nilFunc] := ⟨by kernel_rfl⟩
instance : TOne Try.prog 125 := ⟨by kernel_rfl⟩
instance : TSz Try.prog 125 1 := ⟨by kernel_rfl⟩
instance : TZero Try.prog 125 [.nilFunc] := ⟨by kernel_rfl⟩
instance : TOne Try.prog 126 := ⟨by kernel_rfl⟩
instance : TSz Try.prog 126 1 := ⟨by kernel_rfl⟩
instance : TZero Try.prog 126 [.nilFunc] := ⟨by kernel_rfl⟩
instance : TOne Try.prog 127 := ⟨by kernel_rfl⟩
instance : TSz Try.prog 127 1 := ⟨by kernel_rfl⟩
instance : TZero Try.prog 127 [.nilFunc] := ⟨by kernel_rfl⟩
instance : TOne Try.prog 128 := ⟨by kernel_rfl⟩
instance : TSz Try.prog 128 1 := ⟨by kernel_rfl⟩
instance : TZero Try.prog 128 [.nilFunc] := ⟨by kernel_rfl⟩
instance : TOne Try.prog 129 := ⟨by kernel_rfl⟩
instance : TSz Try.prog 129 1 := ⟨by kernel_rfl⟩
instance : TZero Try.prog 129 [.nilFunc] := ⟨by kernel_rfl⟩
instance : TOne Try.prog 130 := ⟨by kernel_rfl⟩
instance : TSz Try.prog 130 1 := ⟨by kernel_rfl⟩
instance : TZero Try.prog 130 [.nilFunc] := ⟨by kernel_rfl⟩
instance : TOne Try.prog 131 := ⟨by kernel_rfl⟩
instance : TSz Try.prog 131 1 := ⟨by kernel_rfl⟩
instance : TZero Try.prog 131 [.nilFunc] := ⟨by kernel_rfl⟩
instance : TU Try.prog 132 (TypeDesc.slice 5) := ⟨Try.underlying132⟩
instance : TSz Try.prog 132 1 := ⟨by kernel_rfl⟩
instance : TOne Try.prog 132 := ⟨by kernel_rfl⟩
instance : TEl Try.prog 132 1 24 := ⟨by kernel_rfl⟩
instance : TNI Try.prog 132 := ⟨by kernel_rfl⟩
instance : TZero Try.prog 132 [.slice none 0 0] := ⟨by kernel_rfl⟩
instance : TOne Try.prog 133 := ⟨by kernel_rfl⟩
instance : TSz Try.prog 133 1 := ⟨by kernel_rfl⟩
instance : TZero Try.prog 133 [.nilFunc] := ⟨by kernel_rfl⟩
instance : TOne Try.prog 134 := ⟨by kernel_rfl⟩
instance : TSz Try.prog 134 1 := ⟨by kernel_rfl⟩
instance : TZero Try.prog 134 [.nilFunc] := ⟨by kernel_rfl⟩
instance : TOne Try.prog 135 := ⟨by kernel_rfl⟩
instance : TSz Try.prog 135 1 := ⟨by kernel_rfl⟩
instance : TZero Try.prog 135 [.nilFunc] := ⟨by kernel_rfl⟩
instance : TOne Try.prog 136 := ⟨by kernel_rfl⟩
instance : TSz Try.prog 136 1 := ⟨by kernel_rfl⟩
instance : TZero Try.prog 136 [.nilFunc] := ⟨by kernel_rfl⟩
instance : TOne Try.prog 137 := ⟨by kernel_rfl⟩
instance : TSz Try.prog 137 1 := ⟨by kernel_rfl⟩
instance : TZero Try.prog 137 [.nilFunc] := ⟨by kernel_rfl⟩
instance : TOne Try.prog 138 := ⟨by kernel_rfl⟩
instance : TSz Try.prog 138 1 := ⟨by kernel_rfl⟩
instance : TZero Try.prog 138 [.nilFunc] := ⟨by kernel_rfl⟩
instance : TSz Try.prog 139 38 := ⟨by kernel_rfl⟩
instance : TAgg Try.prog 139 38 := ⟨by kernel_rfl⟩
instance : TFldT Try.prog 139 0 0 47 := ⟨by kernel_rfl⟩
instance : TFld Try.prog 139 0 0 := ⟨by kernel_rfl⟩
instance : TFldT Try.prog 139 1 35 50 := ⟨by kernel_rfl⟩
instance : TFld Try.prog 139 1 35 := ⟨by kernel_rfl⟩
instance : TFldT Try.prog 139 2 37 3 := ⟨by kernel_rfl⟩
instance : TFld Try.prog 139 2 37 := ⟨by kernel_rfl⟩
instance : TLay Try.prog 139 [(0, 35), (35, 2), (37, 1)] := ⟨by kernel_rfl⟩
instance : TEl Try.prog 139 38 80 := ⟨by kernel_rfl⟩
instance : TEq Try.prog 139 [.i .u8, .i .u8, .i .u8, .i .u8, .i .u8, .i .u8, .i .u8, .i .u8, .i .u8, .i .u8, .i .u8, .i .u8, .i .u8, .i .u8, .i .u8, .i .u8, .i .i64, .i .u8, .i .u8, .i .u8, .i .u8, .i .u8, .i .u8, .i .u8, .i .u8, .i .u8, .i .u8, .i .u8, .i .u8, .i .u8, .i .u8, .i .u8, .i .u8, .i .i64, .i .u64, .i .u16, .i .i64, .i .i64] := ⟨by kernel_rfl⟩
instance : TZero Try.prog 139 [.int .u8 0, .int .u8 0, .int .u8 0, .int .u8 0, .int .u8 0, .int .u8 0, .int .u8 0, .int .u8 0, .int .u8 0, .int .u8 0, .int .u8 0, .int .u8 0, .int .u8 0, .int .u8 0, .int .u8 0, .int .u8 0, .int .i64 0, .int .u8 0, .int .u8 0, .int .u8 0, .int .u8 0, .int .u8 0, .int .u8 0, .int .u8 0, .int .u8 0, .int .u8 0, .int .u8 0, .int .u8 0, .int .u8 0, .int .u8 0, .int .u8 0, .int .u8 0, .int .u8 0, .int .i64 0, .int .u64 0, .int .u16 0, .int .i64 0, .int .i64 0] := ⟨by kernel_rfl⟩
instance : TSz Try.prog 140 38 := ⟨by kernel_rfl⟩
instance : TAgg Try.prog 140 38 := ⟨by kernel_rfl⟩
instance : TFldT Try.prog 140 0 0 47 := ⟨by kernel_rfl⟩
instance : TFld Try.prog 140 0 0 := ⟨by kernel_rfl⟩
instance : TFldT Try.prog 140 1 35 50 := ⟨by kernel_rfl⟩
instance : TFld Try.prog 140 1 35 := ⟨by kernel_rfl⟩
instance : TFldT Try.prog 140 2 37 3 := ⟨by kernel_rfl⟩
instance : TFld Try.prog 140 2 37 := ⟨by kernel_rfl⟩
instance : TLay Try.prog 140 [(0, 35), (35, 2), (37, 1)] := ⟨by kernel_rfl⟩
instance : TEl Try.prog 140 38 80 := ⟨by kernel_rfl⟩
instance : TEq Try.prog 140 [.i .u8, .i .u8, .i .u8, .i .u8, .i .u8, .i .u8, .i .u8, .i .u8, .i .u8, .i .u8, .i .u8, .i .u8, .i .u8, .i .u8, .i .u8, .i .u8, .i .i64, .i .u8, .i .u8, .i .u8, .i .u8, .i .u8, .i .u8, .i .u8, .i .u8, .i .u8, .i .u8, .i .u8, .i .u8, .i .u8, .i .u8, .i .u8, .i .u8, .i .i64, .i .u64, .i .u16, .i .i64, .i .i64] := ⟨by kernel_rfl⟩
instance : TZero Try.prog 140 [.int .u8 0, .int .u8 0, .int .u8 0, .int .u8 0, .int .u8 0, .int .u8 0, .int .u8 0, .int .u8 0, .int .u8 0, .int .u8 0, .int .u8 0, .int .u8 0, .int .u8 0, .int .u8 0, .int .u8 0, .int .u8 0, .int .i64 0, .int .u8 0, .int .u8 0, .int .u8 0, .int .u8 0, .int .u8 0, .int .u8 0, .int .u8 0, .int .u8 0, .int .u8 0, .int .u8 0, .int .u8 0, .int .u8 0, .int .u8 0, .int .u8 0, .int .u8 0, .int .u8 0, .int .i64 0, .int .u64 0, .int .u16 0, .int .i64 0, .int .i64 0] := ⟨by kernel_rfl⟩
instance : TOne Try.prog 141 := ⟨by kernel_rfl⟩
instance : TSz Try.prog 141 1 := ⟨by kernel_rfl⟩
instance : TZero Try.prog 141 [.nilFunc] := ⟨by kernel_rfl⟩
instance : TOne Try.prog 142 := ⟨by kernel_rfl⟩
instance : TSz Try.prog 142 1 := ⟨by kernel_rfl⟩
instance : TZero Try.prog 142 [.nilFunc] := ⟨by kernel_rfl⟩
instance : TOne Try.prog 143 := ⟨by kernel_rfl⟩
instance : TSz Try.prog 143 1 := ⟨by kernel_rfl⟩
instance : TZero Try.prog 143 [.nilFunc] := ⟨by kernel_rfl⟩
instance : TOne Try.prog 144 := ⟨by kernel_rfl⟩
instance : TSz Try.prog 144 1 := ⟨by kernel_rfl⟩
instance : TZero Try.prog 144 [.nilFunc] := ⟨by kernel_rfl⟩
instance : TSz Try.prog 145 3 := ⟨by kernel_rfl⟩
instance : TAgg Try.prog 145 3 := ⟨by kernel_rfl⟩
instance : TFldT Try.prog 145 0 0 45 := ⟨by kernel_rfl⟩
instance : TFld Try.prog 145 0 0 := ⟨by kernel_rfl⟩
instance : TFldT Try.prog 145 1 1 3 := ⟨by kernel_rfl⟩
instance : TFld Try.prog 145 1 1 := ⟨by kernel_rfl⟩
instance : TFldT Try.prog 145 2 2 3 := ⟨by kernel_rfl⟩
instance : TFld Try.prog 145 2 2 := ⟨by kernel_rfl⟩
instance : TLay Try.prog 145 [(0, 1), (1, 1), (2, 1)] := ⟨by kernel_rfl⟩
instance : TEl Try.prog 145 3 24 := ⟨by kernel_rfl⟩
instance : TEq Try.prog 145 [.i .u64, .i .i64, .i .i64] := ⟨by kernel_rfl⟩
instance : TZero Try.prog 145 [.int .u64 0, .int .i64 0, .int .i64 0] := ⟨by kernel_rfl⟩
instance : TSz Try.prog 146 3 := ⟨by kernel_rfl⟩
instance : TAgg Try.prog 146 3 := ⟨by kernel_rfl⟩
instance : TFldT Try.prog 146 0 0 45 := ⟨by kernel_rfl⟩
instance : TFld Try.prog 146 0 0 := ⟨by kernel_rfl⟩
instance : TFldT Try.prog 146 1 1 3 := ⟨by kernel_rfl⟩
instance : TFld Try.prog 146 1 1 := ⟨by kernel_rfl⟩
instance : TFldT Try.prog 146 2 2 3 := ⟨by kernel_rfl⟩
instance : TFld Try.prog 146 2 2 := ⟨by kernel_rfl⟩
instance : TLay Try.prog 146 [(0, 1), (1, 1), (2, 1)] := ⟨by kernel_rfl⟩
instance : TEl Try.prog 146 3 24 := ⟨by kernel_rfl⟩
instance : TEq Try.prog 146 [.i .u64, .i .i64, .i .i64] := ⟨by kernel_rfl⟩
instance : TZero Try.prog 146 [.int .u64 0, .int .i64 0, .int .i64 0] := ⟨by kernel_rfl⟩
instance : TOne Try.prog 148 := ⟨by kernel_rfl⟩
instance : TSz Try.prog 148 1 := ⟨by kernel_rfl⟩
instance : TZero Try.prog 148 [.nilFunc] := ⟨by kernel_rfl⟩
instance : TOne Try.prog 149 := ⟨by kernel_rfl⟩
instance : TSz Try.prog 149 1 := ⟨by kernel_rfl⟩
instance : TZero Try.prog 149 [.nilFunc] := ⟨by kernel_rfl⟩
instance : TU Try.prog 150 (TypeDesc.int IntKind.i64) := ⟨Try.underlying150⟩
instance : TSz Try.prog 150 1 := ⟨by kernel_rfl⟩
instance : TOne Try.prog 150 := ⟨by kernel_rfl⟩
instance : TEl Try.prog 150 1 8 := ⟨by kernel_rfl⟩
instance : TZero Try.prog 150 [.int .i64 0] := ⟨by kernel_rfl⟩
instance : TOne Try.prog 152 := ⟨by kernel_rfl⟩
instance : TSz Try.prog 152 1 := ⟨by kernel_rfl⟩
instance : TZero Try.prog 152 [.nilFunc] := ⟨by kernel_rfl⟩
instance : TOne Try.prog 153 := ⟨by kernel_rfl⟩
instance : TSz Try.prog 153 1 := ⟨by kernel_rfl⟩
instance : TZero Try.prog 153 [.nilFunc] := ⟨by kernel_rfl⟩
instance : TOne Try.prog 154 := ⟨by kernel_rfl⟩
instance : TSz Try.prog 154 1 := ⟨by kernel_rfl⟩
instance : TZero Try.prog 154 [.nilFunc] := ⟨by kernel_rfl⟩
instance : TOne Try.prog 155 := ⟨by kernel_rfl⟩
instance : TSz Try.prog 155 1 := ⟨by kernel_rfl⟩
instance : TZero Try.prog 155 [.nilFunc] := ⟨by kernel_rfl⟩
instance : TOne Try.prog 156 := ⟨by kernel_rfl⟩
instance : TSz Try.prog 156 1 := ⟨by kernel_rfl⟩
instance : TZero Try.prog 156 [.nilFunc] := ⟨by kernel_rfl⟩
instance : TU Try.prog 157 (TypeDesc.int IntKind.u32) := ⟨Try.underlying157⟩
instance : TSz Try.prog 157 1 := ⟨by kernel_rfl⟩
instance : TOne Try.prog 157 := ⟨by kernel_rfl⟩
instance : TEl Try.prog 157 1 4 := ⟨by kernel_rfl⟩
instance : TZero Try.prog 157 [.int .u32 0] := ⟨by kernel_rfl⟩
instance : TOne Try.prog 158 := ⟨by kernel_rfl⟩
instance : TSz Try.prog 158 1 := ⟨by kernel_rfl⟩
instance : TZero Try.prog 158 [.nilFunc] := ⟨by kernel_rfl⟩
instance : TOne Try.prog 159 := ⟨by kernel_rfl⟩
instance : TSz Try.prog 159 1 := ⟨by kernel_rfl⟩
instance : TZero Try.prog 159 [.nilFunc] := ⟨by kernel_rfl⟩
instance : TOne Try.prog 160 := ⟨by kernel_rfl⟩
instance : TSz Try.prog 160 1 := ⟨by kernel_rfl⟩
instance : TZero Try.prog 160 [.nilFunc] := ⟨by kernel_rfl⟩
instance : TOne Try.prog 161 := ⟨by kernel_rfl⟩
instance : TSz Try.prog 161 1 := ⟨by kernel_rfl⟩
instance : TZero Try.prog 161 [.nilFunc] := ⟨by kernel_rfl⟩
instance : TOne Try.prog 162 := ⟨by kernel_rfl⟩
instance : TSz Try.prog 162 1 := ⟨by kernel_rfl⟩
instance : TZero Try.prog 162 [.nilFunc] := ⟨by kernel_rfl⟩
instance : TOne Try.prog 163 := ⟨by kernel_rfl⟩
instance : TSz Try.prog 163 1 := ⟨by kernel_rfl⟩
instance : TZero Try.prog 163 [.nilFunc] := ⟨by kernel_rfl⟩
instance : TU Try.prog 164 (TypeDesc.int IntKind.u64) := ⟨Try.underlying164⟩
instance : TSz Try.prog 164 1 := ⟨by kernel_rfl⟩
instance : TOne Try.prog 164 := ⟨by kernel_rfl⟩
instance : TEl Try.prog 164 1 8 := ⟨by kernel_rfl⟩
instance : TZero Try.prog 164 [.int .u64 0] := ⟨by kernel_rfl⟩
instance : TOne Try.prog 165 := ⟨by kernel_rfl⟩
instance : TSz Try.prog 165 1 := ⟨by kernel_rfl⟩
instance : TZero Try.prog 165 [.nilFunc] := ⟨by kernel_rfl⟩
instance : TOne Try.prog 166 := ⟨by kernel_rfl⟩
instance : TSz Try.prog 166 1 := ⟨by kernel_rfl⟩
instance : TZero Try.prog 166 [.nilFunc] := ⟨by kernel_rfl⟩
instance : TOne Try.prog 167 := ⟨by kernel_rfl⟩
instance : TSz Try.prog 167 1 := ⟨by kernel_rfl⟩
instance : TZero Try.prog 167 [.nilFunc] := ⟨by kernel_rfl⟩
instance : TU Try.prog 168 (TypeDesc.pointer 3) := ⟨Try.underlying168⟩
instance : TSz Try.prog 168 1 := ⟨by kernel_rfl⟩
instance : TOne Try.prog 168 := ⟨by kernel_rfl⟩
instance : TEl Try.prog 168 1 8 := ⟨by kernel_rfl⟩
instance : TZero Try.prog 168 [.pointer none] := ⟨by kernel_rfl⟩
instance : TOne Try.prog 169 := ⟨by kernel_rfl⟩
instance : TSz Try.prog 169 1 := ⟨by kernel_rfl⟩
instance : TZero Try.prog 169 [.nilFunc] := ⟨by kernel_rfl⟩
instance : TOne Try.prog 170 := ⟨by kernel_rfl⟩
instance : TSz Try.prog 170 1 := ⟨by kernel_rfl⟩
instance : TZero Try.prog 170 [.nilFunc] := ⟨by kernel_rfl⟩
instance : TOne Try.prog 171 := ⟨by kernel_rfl⟩
instance : TSz Try.prog 171 1 := ⟨by kernel_rfl⟩
instance : TZero Try.prog 171 [.nilFunc] := ⟨by kernel_rfl⟩
instance : TOne Try.prog 172 := ⟨by kernel_rfl⟩
instance : TSz Try.prog 172 1 := ⟨by kernel_rfl⟩
instance : TZero Try.prog 172 [.nilFunc] := ⟨by kernel_rfl⟩
instance : TOne Try.prog 173 := ⟨by kernel_rfl⟩
instance : TSz Try.prog 173 1 := ⟨by kernel_rfl⟩
instance : TZero Try.prog 173 [.nilFunc] := ⟨by kernel_rfl⟩
instance : TOne Try.prog 174 := ⟨by kernel_rfl⟩
instance : TSz Try.prog 174 1 := ⟨by kernel_rfl⟩
instance : TZero Try.prog 174 [.nilFunc] := ⟨by kernel_rfl⟩
instance : TOne Try.prog 175 := ⟨by kernel_rfl⟩
instance : TSz Try.prog 175 1 := ⟨by kernel_rfl⟩
instance : TZero Try.prog 175 [.nilFunc] := ⟨by kernel_rfl⟩
instance : TOne Try.prog 176 := ⟨by kernel_rfl⟩
instance : TSz Try.prog 176 1 := ⟨by kernel_rfl⟩
instance : TZero Try.prog 176 [.nilFunc] := ⟨by kernel_rfl⟩
instance : TU Try.prog 177 (TypeDesc.pointer 164) := ⟨Try.underlying177⟩
instance : TSz Try.prog 177 1 := ⟨by kernel_rfl⟩
instance : TOne Try.prog 177 := ⟨by kernel_rfl⟩
instance : TEl Try.prog 177 1 8 := ⟨by kernel_rfl⟩
instance : TZero Try.prog 177 [.pointer none] := ⟨by kernel_rfl⟩
instance : TOne Try.prog 179 := ⟨by kernel_rfl⟩
instance : TSz Try.prog 179 1 := ⟨by kernel_rfl⟩
instance : TZero Try.prog 179 [.nilFunc] := ⟨by kernel_rfl⟩
instance : TOne Try.prog 180 := ⟨by kernel_rfl⟩
instance : TSz Try.prog 180 1 := ⟨by kernel_rfl⟩
instance : TZero Try.prog 180 [.nilFunc] := ⟨by kernel_rfl⟩
instance : TOne Try.prog 181 := ⟨by kernel_rfl⟩
instance : TSz Try.prog 181 1 := ⟨by kernel_rfl⟩
instance : TZero Try.prog 181 [.nilFunc] := ⟨by kernel_rfl⟩
instance : TOne Try.prog 182 := ⟨by kernel_rfl⟩
instance : TSz Try.prog 182 1 := ⟨by kernel_rfl⟩
instance : TZero Try.prog 182 [.nilFunc] := ⟨by kernel_rfl⟩
instance : TOne Try.prog 183 := ⟨by kernel_rfl⟩
instance : TSz Try.prog 183 1 := ⟨by kernel_rfl⟩
instance : TZero Try.prog 183 [.nilFunc] := ⟨by kernel_rfl⟩
instance : TSz Try.prog 184 4 := ⟨by kernel_rfl⟩
instance : TAgg Try.prog 184 4 := ⟨by kernel_rfl⟩
instance : TFldT Try.prog 184 0 0 17 := ⟨by kernel_rfl⟩
instance : TFld Try.prog 184 0 0 := ⟨by kernel_rfl⟩
instance : TFldT Try.prog 184 1 1 17 := ⟨by kernel_rfl⟩
instance : TFld Try.prog 184 1 1 := ⟨by kernel_rfl⟩
instance : TFldT Try.prog 184 2 2 17 := ⟨by kernel_rfl⟩
instance : TFld Try.prog 184 2 2 := ⟨by kernel_rfl⟩
instance : TFldT Try.prog 184 3 3 9 := ⟨by kernel_rfl⟩
instance : TFld Try.prog 184 3 3 := ⟨by kernel_rfl⟩
instance : TLay Try.prog 184 [(0, 1), (1, 1), (2, 1), (3, 1)] := ⟨by kernel_rfl⟩
instance : TEl Try.prog 184 4 40 := ⟨by kernel_rfl⟩
instance : TZero Try.prog 184 [.pointer none, .pointer none, .pointer none, .string .empty] := ⟨by kernel_rfl⟩
instance : TSz Try.prog 185 4 := ⟨by kernel_rfl⟩
instance : TAgg Try.prog 185 4 := ⟨by kernel_rfl⟩
instance : TFldT Try.prog 185 0 0 17 := ⟨by kernel_rfl⟩
instance : TFld Try.prog 185 0 0 := ⟨by kernel_rfl⟩
instance : TFldT Try.prog 185 1 1 17 := ⟨by kernel_rfl⟩
instance : TFld Try.prog 185 1 1 := ⟨by kernel_rfl⟩
instance : TFldT Try.prog 185 2 2 17 := ⟨by kernel_rfl⟩
instance : TFld Try.prog 185 2 2 := ⟨by kernel_rfl⟩
instance : TFldT Try.prog 185 3 3 9 := ⟨by kernel_rfl⟩
instance : TFld Try.prog 185 3 3 := ⟨by kernel_rfl⟩
instance : TLay Try.prog 185 [(0, 1), (1, 1), (2, 1), (3, 1)] := ⟨by kernel_rfl⟩
instance : TEl Try.prog 185 4 40 := ⟨by kernel_rfl⟩
instance : TZero Try.prog 185 [.pointer none, .pointer none, .pointer none, .string .empty] := ⟨by kernel_rfl⟩
instance : TU Try.prog 186 (TypeDesc.array 0 16) := ⟨Try.underlying186⟩
instance : TSz Try.prog 186 0 := ⟨by kernel_rfl⟩
instance : TAgg Try.prog 186 0 := ⟨by kernel_rfl⟩
instance : TLay Try.prog 186 [] := ⟨by kernel_rfl⟩
instance : TEl Try.prog 186 0 0 := ⟨by kernel_rfl⟩
instance : TSz Try.prog 187 0 := ⟨by kernel_rfl⟩
instance : TAgg Try.prog 187 0 := ⟨by kernel_rfl⟩
instance : TFldT Try.prog 187 0 0 186 := ⟨by kernel_rfl⟩
instance : TLay Try.prog 187 [(0, 0)] := ⟨by kernel_rfl⟩
instance : TEl Try.prog 187 0 0 := ⟨by kernel_rfl⟩
instance : TSz Try.prog 188 0 := ⟨by kernel_rfl⟩
instance : TAgg Try.prog 188 0 := ⟨by kernel_rfl⟩
instance : TFldT Try.prog 188 0 0 186 := ⟨by kernel_rfl⟩
instance : TLay Try.prog 188 [(0, 0)] := ⟨by kernel_rfl⟩
instance : TEl Try.prog 188 0 0 := ⟨by kernel_rfl⟩
instance : TOne Try.prog 189 := ⟨by kernel_rfl⟩
instance : TSz Try.prog 189 1 := ⟨by kernel_rfl⟩
instance : TZero Try.prog 189 [.nilFunc] := ⟨by kernel_rfl⟩
instance : TU Try.prog 190 (TypeDesc.int IntKind.u8) := ⟨Try.underlying190⟩
instance : TSz Try.prog 190 1 := ⟨by kernel_rfl⟩
instance : TOne Try.prog 190 := ⟨by kernel_rfl⟩
instance : TEl Try.prog 190 1 1 := ⟨by kernel_rfl⟩
instance : TZero Try.prog 190 [.int .u8 0] := ⟨by kernel_rfl⟩
instance : TU Try.prog 191 (TypeDesc.int IntKind.u8) := ⟨Try.underlying191⟩
instance : TSz Try.prog 191 1 := ⟨by kernel_rfl⟩
instance : TOne Try.prog 191 := ⟨by kernel_rfl⟩
instance : TEl Try.prog 191 1 1 := ⟨by kernel_rfl⟩
instance : TZero Try.prog 191 [.int .u8 0] := ⟨by kernel_rfl⟩
instance : TOne Try.prog 192 := ⟨by kernel_rfl⟩
instance : TSz Try.prog 192 1 := ⟨by kernel_rfl⟩
instance : TZero Try.prog 192 [.nilFunc] := ⟨by kernel_rfl⟩
instance : TU Try.prog 193 (TypeDesc.pointer 5) := ⟨Try.underlying193⟩
instance : TSz Try.prog 193 1 := ⟨by kernel_rfl⟩
instance : TOne Try.prog 193 := ⟨by kernel_rfl⟩
instance : TEl Try.prog 193 1 8 := ⟨by kernel_rfl⟩
instance : TZero Try.prog 193 [.pointer none] := ⟨by kernel_rfl⟩
instance : TU Try.prog 194 (TypeDesc.int IntKind.i32) := ⟨Try.underlying194⟩
instance : TSz Try.prog 194 1 := ⟨by kernel_rfl⟩
instance : TOne Try.prog 194 := ⟨by kernel_rfl⟩
instance : TEl Try.prog 194 1 4 := ⟨by kernel_rfl⟩
instance : TZero Try.prog 194 [.int .i32 0] := ⟨by kernel_rfl⟩
instance : TU Try.prog 195 (TypeDesc.int IntKind.i32) := ⟨Try.underlying195⟩
instance : TSz Try.prog 195 1 := ⟨by kernel_rfl⟩
instance : TOne Try.prog 195 := ⟨by kernel_rfl⟩
instance : TEl Try.prog 195 1 4 := ⟨by kernel_rfl⟩
instance : TZero Try.prog 195 [.int .i32 0] := ⟨by kernel_rfl⟩
instance : TSz Try.prog 196 11 := ⟨by kernel_rfl⟩
instance : TAgg Try.prog 196 11 := ⟨by kernel_rfl⟩
instance : TFldT Try.prog 196 0 0 12 := ⟨by kernel_rfl⟩
instance : TFld Try.prog 196 0 0 := ⟨by kernel_rfl⟩
instance : TFldT Try.prog 196 1 1 12 := ⟨by kernel_rfl⟩
instance : TFld Try.prog 196 1 1 := ⟨by kernel_rfl⟩
instance : TFldT Try.prog 196 2 2 157 := ⟨by kernel_rfl⟩
instance : TFld Try.prog 196 2 2 := ⟨by kernel_rfl⟩
instance : TFldT Try.prog 196 3 3 190 := ⟨by kernel_rfl⟩
instance : TFld Try.prog 196 3 3 := ⟨by kernel_rfl⟩
instance : TFldT Try.prog 196 4 4 5 := ⟨by kernel_rfl⟩
instance : TFld Try.prog 196 4 4 := ⟨by kernel_rfl⟩
instance : TFldT Try.prog 196 5 5 5 := ⟨by kernel_rfl⟩
instance : TFld Try.prog 196 5 5 := ⟨by kernel_rfl⟩
instance : TFldT Try.prog 196 6 6 191 := ⟨by kernel_rfl⟩
instance : TFld Try.prog 196 6 6 := ⟨by kernel_rfl⟩
instance : TFldT Try.prog 196 7 7 192 := ⟨by kernel_rfl⟩
instance : TFld Try.prog 196 7 7 := ⟨by kernel_rfl⟩
instance : TFldT Try.prog 196 8 8 193 := ⟨by kernel_rfl⟩
instance : TFld Try.prog 196 8 8 := ⟨by kernel_rfl⟩
instance : TFldT Try.prog 196 9 9 194 := ⟨by kernel_rfl⟩
instance : TFld Try.prog 196 9 9 := ⟨by kernel_rfl⟩
instance : TFldT Try.prog 196 10 10 195 := ⟨by kernel_rfl⟩
instance : TFld Try.prog 196 10 10 := ⟨by kernel_rfl⟩
instance : TLay Try.prog 196 [(0, 1), (1, 1), (2, 1), (3, 1), (4, 1), (5, 1), (6, 1), (7, 1), (8, 1), (9, 1), (10, 1)] := ⟨by kernel_rfl⟩
instance : TEl Try.prog 196 11 48 := ⟨by kernel_rfl⟩
instance : TZero Try.prog 196 [.int .u64 0, .int .u64 0, .int .u32 0, .int .u8 0, .int .u8 0, .int .u8 0, .int .u8 0, .nilFunc, .pointer none, .int .i32 0, .int .i32 0] := ⟨by kernel_rfl⟩
instance : TSz Try.prog 197 11 := ⟨by kernel_rfl⟩
instance : TAgg Try.prog 197 11 := ⟨by kernel_rfl⟩
instance : TFldT Try.prog 197 0 0 12 := ⟨by kernel_rfl⟩
instance : TFld Try.prog 197 0 0 := ⟨by kernel_rfl⟩
instance : TFldT Try.prog 197 1 1 12 := ⟨by kernel_rfl⟩
instance : TFld Try.prog 197 1 1 := ⟨by kernel_rfl⟩
instance : TFldT Try.prog 197 2 2 157 := ⟨by kernel_rfl⟩
instance : TFld Try.prog 197 2 2 := ⟨by kernel_rfl⟩
instance : TFldT Try.prog 197 3 3 190 := ⟨by kernel_rfl⟩
instance : TFld Try.prog 197 3 3 := ⟨by kernel_rfl⟩
instance : TFldT Try.prog 197 4 4 5 := ⟨by kernel_rfl⟩
instance : TFld Try.prog 197 4 4 := ⟨by kernel_rfl⟩
instance : TFldT Try.prog 197 5 5 5 := ⟨by kernel_rfl⟩
instance : TFld Try.prog 197 5 5 := ⟨by kernel_rfl⟩
instance : TFldT Try.prog 197 6 6 191 := ⟨by kernel_rfl⟩
instance : TFld Try.prog 197 6 6 := ⟨by kernel_rfl⟩
instance : TFldT Try.prog 197 7 7 192 := ⟨by kernel_rfl⟩
instance : TFld Try.prog 197 7 7 := ⟨by kernel_rfl⟩
instance : TFldT Try.prog 197 8 8 193 := ⟨by kernel_rfl⟩
instance : TFld Try.prog 197 8 8 := ⟨by kernel_rfl⟩
instance : TFldT Try.prog 197 9 9 194 := ⟨by kernel_rfl⟩
instance : TFld Try.prog 197 9 9 := ⟨by kernel_rfl⟩
instance : TFldT Try.prog 197 10 10 195 := ⟨by kernel_rfl⟩
instance : TFld Try.prog 197 10 10 := ⟨by kernel_rfl⟩
instance : TLay Try.prog 197 [(0, 1), (1, 1), (2, 1), (3, 1), (4, 1), (5, 1), (6, 1), (7, 1), (8, 1), (9, 1), (10, 1)] := ⟨by kernel_rfl⟩
instance : TEl Try.prog 197 11 48 := ⟨by kernel_rfl⟩
instance : TZero Try.prog 197 [.int .u64 0, .int .u64 0, .int .u32 0, .int .u8 0, .int .u8 0, .int .u8 0, .int .u8 0, .nilFunc, .pointer none, .int .i32 0, .int .i32 0] := ⟨by kernel_rfl⟩
instance : TU Try.prog 198 (TypeDesc.unsafePointer) := ⟨Try.underlying198⟩
instance : TSz Try.prog 198 1 := ⟨by kernel_rfl⟩
instance : TOne Try.prog 198 := ⟨by kernel_rfl⟩
instance : TBody Try.prog 3 := ⟨by kernel_rfl⟩
instance : TBody Try.prog 4 := ⟨by kernel_rfl⟩
instance : TBody Try.prog 5 := ⟨by kernel_rfl⟩
instance : TBody Try.prog 6 := ⟨by kernel_rfl⟩
instance : TBody Try.prog 7 := ⟨by kernel_rfl⟩
instance : TBody Try.prog 8 := ⟨by kernel_rfl⟩
instance : TBody Try.prog 9 := ⟨by kernel_rfl⟩
instance : TBody Try.prog 10 := ⟨by kernel_rfl⟩
instance : TBody Try.prog 11 := ⟨by kernel_rfl⟩
instance : TBody Try.prog 12 := ⟨by kernel_rfl⟩
instance : TBody Try.prog 13 := ⟨by kernel_rfl⟩
instance : TBody Try.prog 14 := ⟨by kernel_rfl⟩
instance : TBody Try.prog 15 := ⟨by kernel_rfl⟩
instance : TBody Try.prog 16 := ⟨by kernel_rfl⟩
instance : TBody Try.prog 17 := ⟨by kernel_rfl⟩
instance : TBody Try.prog 18 := ⟨by kernel_rfl⟩
instance : TBody Try.prog 19 := ⟨by kernel_rfl⟩
instance : TBody Try.prog 20 := ⟨by kernel_rfl⟩
instance : TBody Try.prog 21 := ⟨by kernel_rfl⟩
instance : TBody Try.prog 22 := ⟨by kernel_rfl⟩
instance : TBody Try.prog 23 := ⟨by kernel_rfl⟩
instance : TBody Try.prog 24 := ⟨by kernel_rfl⟩
instance : TBody Try.prog 25 := ⟨by kernel_rfl⟩
instance : TBody Try.prog 26 := ⟨by kernel_rfl⟩
instance : TBody Try.prog 27 := ⟨by kernel_rfl⟩
instance : TBody Try.prog 28 := ⟨by kernel_rfl⟩
instance : TBody Try.prog 29 := ⟨by kernel_rfl⟩
instance : TBody Try.prog 30 := ⟨by kernel_rfl⟩
instance : TBody Try.prog 31 := ⟨by kernel_rfl⟩
instance : TBody Try.prog 32 := ⟨by kernel_rfl⟩
instance : TBody Try.prog 33 := ⟨by kernel_rfl⟩
instance : TBody Try.prog 34 := ⟨by kernel_rfl⟩
instance : TBody Try.prog 35 := ⟨by kernel_rfl⟩
instance : TBody Try.prog 36 := ⟨by kernel_rfl⟩
instance : TBody Try.prog 37 := ⟨by kernel_rfl⟩
instance : TBody Try.prog 38 := ⟨by kernel_rfl⟩
instance : TBody Try.prog 39 := ⟨by kernel_rfl⟩
instance : TBody Try.prog 40 := ⟨by kernel_rfl⟩
instance : TBody Try.prog 41 := ⟨by kernel_rfl⟩
instance : TBody Try.prog 42 := ⟨by kernel_rfl⟩
instance : TBody Try.prog 43 := ⟨by kernel_rfl⟩
instance : TBody Try.prog 44 := ⟨by kernel_rfl⟩
instance : TBody Try.prog 45 := ⟨by kernel_rfl⟩
instance : TBody Try.prog 46 := ⟨by kernel_rfl⟩
instance : TBody Try.prog 47 := ⟨by kernel_rfl⟩
instance : TBody Try.prog 48 := ⟨by kernel_rfl⟩
instance : TBody Try.prog 49 := ⟨by kernel_rfl⟩
instance : TBody Try.prog 50 := ⟨by kernel_rfl⟩
instance : TBody Try.prog 51 := ⟨by kernel_rfl⟩
instance : TBody Try.prog 52 := ⟨by kernel_rfl⟩
instance : TBody Try.prog 53 := ⟨by kernel_rfl⟩
instance : TBody Try.prog 54 := ⟨by kernel_rfl⟩
instance : TBody Try.prog 55 := ⟨by kernel_rfl⟩
instance : TBody Try.prog 56 := ⟨by kernel_rfl⟩
instance : TBody Try.prog 57 := ⟨by kernel_rfl⟩
instance : TBody Try.prog 58 := ⟨by kernel_rfl⟩
instance : TBody Try.prog 59 := ⟨by kernel_rfl⟩
instance : TBody Try.prog 60 := ⟨by kernel_rfl⟩
instance : TBody Try.prog 61 := ⟨by kernel_rfl⟩
instance : TBody Try.prog 62 := ⟨by kernel_rfl⟩
instance : TBody Try.prog 63 := ⟨by kernel_rfl⟩
instance : TBody Try.prog 64 := ⟨by kernel_rfl⟩
instance : TBody Try.prog 65 := ⟨by kernel_rfl⟩
instance : TBody Try.prog 66 := ⟨by kernel_rfl⟩
instance : TBody Try.prog 67 := ⟨by kernel_rfl⟩
instance : TBody Try.prog 68 := ⟨by kernel_rfl⟩
instance : TBody Try.prog 69 := ⟨by kernel_rfl⟩
instance : TBody Try.prog 70 := ⟨by kernel_rfl⟩
instance : TBody Try.prog 71 := ⟨by kernel_rfl⟩
instance : TBody Try.prog 72 := ⟨by kernel_rfl⟩
instance : TBody Try.prog 73 := ⟨by kernel_rfl⟩
instance : TBody Try.prog 74 := ⟨by kernel_rfl⟩
instance : TBody Try.prog 75 := ⟨by kernel_rfl⟩
instance : TBody Try.prog 76 := ⟨by kernel_rfl⟩
instance : TBody Try.prog 77 := ⟨by kernel_rfl⟩
instance : TBody Try.prog 78 := ⟨by kernel_rfl⟩
instance : TBody Try.prog 79 := ⟨by kernel_rfl⟩
instance : TBody Try.prog 80 := ⟨by kernel_rfl⟩
instance : TBody Try.prog 81 := ⟨by kernel_rfl⟩
instance : TBody Try.prog 82 := ⟨by kernel_rfl⟩
instance : TBody Try.prog 83 := ⟨by kernel_rfl⟩
instance : TBody Try.prog 84 := ⟨by kernel_rfl⟩
instance : TBody Try.prog 85 := ⟨by kernel_rfl⟩
instance : TBody Try.prog 86 := ⟨by kernel_rfl⟩
instance : TBody Try.prog 87 := ⟨by kernel_rfl⟩
instance : TBody Try.prog 88 := ⟨by kernel_rfl⟩
instance : TBody Try.prog 89 := ⟨by kernel_rfl⟩
instance : TBody Try.prog 90 := ⟨by kernel_rfl⟩
instance : TBody Try.prog 91 := ⟨by kernel_rfl⟩
instance : TBody Try.prog 92 := ⟨by kernel_rfl⟩
instance : TBody Try.prog 93 := ⟨by kernel_rfl⟩
instance : TBody Try.prog 94 := ⟨by kernel_rfl⟩
instance : TBody Try.prog 95 := ⟨by kernel_rfl⟩
instance : TBody Try.prog 96 := ⟨by kernel_rfl⟩
instance : TBody Try.prog 97 := ⟨by kernel_rfl⟩
instance : TBody Try.prog 98 := ⟨by kernel_rfl⟩
instance : TBody Try.prog 99 := ⟨by kernel_rfl⟩
instance : TBody Try.prog 100 := ⟨by kernel_rfl⟩
instance : TBody Try.prog 101 := ⟨by kernel_rfl⟩
instance : TBody Try.prog 102 := ⟨by kernel_rfl⟩
instance : TBody Try.prog 104 := ⟨by kernel_rfl⟩
instance : TBody Try.prog 105 := ⟨by kernel_rfl⟩
instance : TBody Try.prog 106 := ⟨by kernel_rfl⟩
instance : TBody Try.prog 107 := ⟨by kernel_rfl⟩
instance : TBody Try.prog 108 := ⟨by kernel_rfl⟩
instance : TBody Try.prog 109 := ⟨by kernel_rfl⟩
instance : TBody Try.prog 110 := ⟨by kernel_rfl⟩
instance : TBody Try.prog 111 := ⟨by kernel_rfl⟩
instance : TBody Try.prog 112 := ⟨by kernel_rfl⟩
instance : TBody Try.prog 113 := ⟨by kernel_rfl⟩
instance : TBody Try.prog 114 := ⟨by kernel_rfl⟩
instance : TBody Try.prog 115 := ⟨by kernel_rfl⟩
instance : TBody Try.prog 116 := ⟨by kernel_rfl⟩
instance : TBody Try.prog 117 := ⟨by kernel_rfl⟩
instance : TBody Try.prog 118 := ⟨by kernel_rfl⟩
instance : TBody Try.prog 119 := ⟨by kernel_rfl⟩
instance : TBody Try.prog 120 := ⟨by kernel_rfl⟩
instance : TBody Try.prog 121 := ⟨by kernel_rfl⟩
instance : TBody Try.prog 123 := ⟨by kernel_rfl⟩
instance : TBody Try.prog 124 := ⟨by kernel_rfl⟩
instance : TBody Try.prog 125 := ⟨by kernel_rfl⟩
instance : TBody Try.prog 126 := ⟨by kernel_rfl⟩
instance : TBody Try.prog 127 := ⟨by kernel_rfl⟩
instance : TBody Try.prog 128 := ⟨by kernel_rfl⟩
instance : TBody Try.prog 129 := ⟨by kernel_rfl⟩
instance : TBody Try.prog 130 := ⟨by kernel_rfl⟩
instance : TBody Try.prog 131 := ⟨by kernel_rfl⟩
instance : TBody Try.prog 132 := ⟨by kernel_rfl⟩
instance : TBody Try.prog 133 := ⟨by kernel_rfl⟩
instance : TBody Try.prog 134 := ⟨by kernel_rfl⟩
instance : TBody Try.prog 135 := ⟨by kernel_rfl⟩
instance : TBody Try.prog 136 := ⟨by kernel_rfl⟩
instance : TBody Try.prog 137 := ⟨by kernel_rfl⟩
instance : TBody Try.prog 138 := ⟨by kernel_rfl⟩
instance : TBody Try.prog 139 := ⟨by kernel_rfl⟩
instance : TBody Try.prog 140 := ⟨by kernel_rfl⟩
instance : TBody Try.prog 141 := ⟨by kernel_rfl⟩
instance : TBody Try.prog 142 := ⟨by kernel_rfl⟩
instance : TBody Try.prog 143 := ⟨by kernel_rfl⟩
instance : TBody Try.prog 144 := ⟨by kernel_rfl⟩
instance : TBody Try.prog 145 := ⟨by kernel_rfl⟩
instance : TBody Try.prog 146 := ⟨by kernel_rfl⟩
instance : TBody Try.prog 147 := ⟨by kernel_rfl⟩
instance : TBody Try.prog 148 := ⟨by kernel_rfl⟩
instance : TBody Try.prog 149 := ⟨by kernel_rfl⟩
instance : TBody Try.prog 150 := ⟨by kernel_rfl⟩
instance : TBody Try.prog 151 := ⟨by kernel_rfl⟩
end Go.Proofs.Ytilgoepokaaleaa
/-! LibN -/
namespace Go.Proofs.Ytilgoepokaaleaa
set_option linter.unusedVariables false
set_option linter.unusedSimpArgs false
open Go.RowKit
theorem Cal.to {P : Program} {f : FuncId} {args : Array Value} {w : World} {v v' : Value} {E : World → Prop} (h : Cal P f args w fun x w' => x = v ∧ E w') (e : v = v') : Cal P f args w fun x w' => x = v' ∧ E w' := e ▸ h
theorem put_all {xs ys : List Value} (h : xs.length = ys.length) : put xs 0 ys = some ys := by
  rw [put_of _ _ _ (by omega)]
  simp [splice, ← h]
/-- A block that came in: it may be named, as long as it is not turned. -/
theorem Mem.came {S : List Nat} {W w : World} {l : List (Nat × Obj)} (M : Mem S W w l) (hw : w = W) {b : Nat} {o : Obj} (hb : W.heap[b]? = some o) (hS : b ∈ S) (hn : ∀ p ∈ l, p.1 ≠ b) : Mem S W w ((b, o) :: l) :=
  M.cons (by rw [hw]; exact hb) hn (.inl hS)
/-- What came in has not been turned. -/
theorem Mem.back {S : List Nat} {W w : World} {l : List (Nat × Obj)} (M : Mem S W w l) (h : ∀ k ∈ S, ∃ o, Has l k o ∧ W.heap[k]? = some o) : Ext [] W w :=
  ⟨M.ext.os, M.ext.tape, M.ext.output, M.ext.size, M.ext.dr, fun k hk _ => by
    by_cases hS : k ∈ S
    · obtain ⟨o, h1, h2⟩ := h k hS
      rw [M.heap h1, h2]
    · exact M.ext.block k hk hS⟩
theorem Mem.back1 {b : Nat} {o : Obj} {W w : World} {l : List (Nat × Obj)} (M : Mem [b] W w l) (h : Has l b o) (hW : W.heap[b]? = some o) : Ext [] W w :=
  M.back fun k hk => by simp only [List.mem_singleton] at hk; subst hk; exact ⟨o, h, hW⟩
section
variable {P : Program} {ρ : Operand → Value} {w W0 : World} {S : List Nat} {l l' : List (Nat × Obj)} {R : Value → World → Prop} {d : Option Tmp} {ty : TypeId} {pos : String} {af : Array Edge} {g : Option (Nat × Bool)}
theorem run_copy {dT sT e : TypeId} {sz b o dLen dCap n : Nat} {xv : Value} {sLen : Nat} {cs cs' ys : List Value} {t' : TypeId} (hst : P.underlying dT = some (.slice e)) (hsz : sizeIs P e sz = true) (M : Mem S W0 w l) (hlen : (Builtin.lenOf xv).run P w = .ok sLen w) (hn : n = Nat.min sLen dLen)
    (hc : (Builtin.firstCells sz n xv).run P w = .ok ys.toArray w) (h1 : ∀ v ∈ ys, v.oneCell' = true) (hb : Has l b (.cells cs.toArray t' (0, 0))) (hp : put cs o ys = some cs') (hu : Upd l b (.cells cs.toArray t' (0, 0)) (.cells cs'.toArray t' (0, 0)) l') (tyy : TypeId) :
    ∃ w', (Builtin.copy_ #[dT, sT] tyy #[.slice (some ⟨b, o, none⟩) dLen dCap, xv]).run P w = .ok (.int .i64 n) w' ∧ Mem S W0 w' l' ∧ Ext [b] w w' := by
  obtain ⟨hle, rfl⟩ := put_splice _ _ _ _ hp
  obtain ⟨w', hr, he, hh⟩ := run_storeRow (P := P) (off := o) ys 0 cs w (M.heap hb) (by simpa using hle) h1
  refine ⟨w', ?_, M.turned hu he (by simpa using hh), he⟩
  subst hn
  simp [Builtin.copy_, run_underlying hst, hlen, run_sizeOf hsz, hc, hr, goInt]
/-- copy into a block of ours, out of a slice whose block is known -/
theorem o_copy {dT sT e : TypeId} {x y : Operand} {sz b o dLen dCap b' o' sLen sCap n : Nat} {cs cs' ds ys : List Value} {t' t'' : TypeId} {fz : Nat × Nat} [hst : TU P dT (.slice e)] [hsz : TSz P e sz] (M : Mem S W0 w l) (hx : ρ x = .slice (some ⟨b, o, none⟩) dLen dCap) (hy : ρ y = .slice (some ⟨b', o', none⟩) sLen sCap) (hn : n = Nat.min sLen dLen)
    (hs : Has l b' (.cells ds.toArray t'' fz)) (hv : seg ds o' (n * sz) = some ys) (h1 : ys.all (·.oneCell') = true) (hb : Has l b (.cells cs.toArray t' (0, 0))) (hp : put cs o ys = some cs') (hu : Upd l b (.cells cs.toArray t' (0, 0)) (.cells cs'.toArray t' (0, 0)) l')
    (h : ∀ w', Mem S W0 w' l' → R (.int .i64 n) w') : OpTo P ⟨d, .call ⟨.builtin .copy, #[x, y], #[dT, sT]⟩, ty, pos, af, g⟩ ρ w R := by
  have hsrc := (SrcOf.cells' (P := P) (m := n) (c := sCap) (sz := sz) (M.heap hs) hv h1).cells w.drawn
  have hc : (Builtin.firstCells sz n (.slice (some ⟨b', o', none⟩) sLen sCap)).run P w = .ok ys.toArray w := by
    simpa [Builtin.firstCells] using hsrc
  obtain ⟨w', hr, M', _⟩ := run_copy (sT := sT) (dLen := dLen) (dCap := dCap) (o := o) hst.h hsz.h M (by simp [Builtin.lenOf]) hn hc (fun v hv => List.all_eq_true.1 h1 v hv) hb hp hu ty
  exact OpTo.val (v := .int .i64 n) (w' := w') (by simp [execOp, resolve, invoke, builtin, hx, hy, hr]) (h _ M')
end
/-- a slice over the whole of a new block -/
def NewS (n0 len cap : Nat) (o : Obj) : Pred := fun v w => ∃ b, v = .slice (some ⟨b, 0, none⟩) len cap ∧ n0 ≤ b ∧ w.heap[b]? = some o
theorem NewS.stays (n0 len cap : Nat) (o : Obj) : Stays keepAll (NewS n0 len cap o) := fun v w w' ⟨b, h1, h2, h3⟩ h => ⟨b, h1, h2, by
  rw [Ext.block h b (Array.getElem?_eq_some_iff.1 h3).1 (by simp)]; exact h3⟩
end Go.Proofs.Ytilgoepokaaleaa
/-! LibO -/
namespace Go.Proofs.Ytilgoepokaaleaa
set_option linter.unusedVariables false
set_option linter.unusedSimpArgs false
open Go.RowKit
section
variable {P : Program} {ρ : Operand → Value} {w W0 : World} {S : List Nat} {l l' : List (Nat × Obj)} {R : Value → World → Prop} {d : Option Tmp} {ty : TypeId} {pos : String} {af : Array Edge} {g : Option (Nat × Bool)}
theorem o_storeP {t : TypeId} {x y : Operand} {b n : Nat} {cs cs' vs : List Value} {t' : TypeId} [hs : TAgg P t n] (hx : ρ x = ptrTo b) (hy : ρ y = .agg vs.toArray) (hn : vs.length = n) (h1 : vs.all (·.oneCell') = true) (hz : w.heap[b]? = some (.cells cs.toArray t' (0, 0))) (hp : put cs 0 vs = some cs') :
    OpTo P ⟨d, .store t x y, ty, pos, af, g⟩ ρ w fun _ w' => Ext [b] w w' ∧ w'.heap[b]? = some (.cells cs'.toArray t' (0, 0)) := by
  obtain ⟨hle, rfl⟩ := put_splice _ _ _ _ hp
  obtain ⟨w', hr, he, hh⟩ := run_storeRow (P := P) (off := 0) vs 0 cs w hz (by simpa using hle) (fun v hv => List.all_eq_true.1 h1 v hv)
  refine OpTo.skip (w' := w') ?_ ⟨he, by simpa using hh⟩
  simp only [execOp, Instr.storeAt, Instr.sureAddr, hx, hy, ptrTo, storeVar, Sem.run_bind, Sem.run_pure, Result.andThen_ok, run_sizeOf_agg hs.h, Value.cells]
  simp [hr, hn]
theorem o_eqlAT {t t' : TypeId} {x y : Operand} {ks : List LK} {xs ys : List Value} [ht : TEq P t ks] (hx : ρ x = .agg xs.toArray) (hy : ρ y = .agg ys.toArray) (fx : fitsK ks xs = true) (fy : fitsK ks ys = true) (he : eqVs xs ys = true) (h : R (.bool true) w) : OpTo P ⟨d, .binOp .eql t x y t', ty, pos, af, g⟩ ρ w R := o_eqlA hx hy fx fy (by rw [he]; exact h)
theorem o_eqlAF {t t' : TypeId} {x y : Operand} {ks : List LK} {xs ys : List Value} [ht : TEq P t ks] (hx : ρ x = .agg xs.toArray) (hy : ρ y = .agg ys.toArray) (fx : fitsK ks xs = true) (fy : fitsK ks ys = true) (he : eqVs xs ys = false) (h : R (.bool false) w) : OpTo P ⟨d, .binOp .eql t x y t', ty, pos, af, g⟩ ρ w R := o_eqlA hx hy fx fy (by rw [he]; exact h)
theorem o_neqAT {t t' : TypeId} {x y : Operand} {ks : List LK} {xs ys : List Value} [ht : TEq P t ks] (hx : ρ x = .agg xs.toArray) (hy : ρ y = .agg ys.toArray) (fx : fitsK ks xs = true) (fy : fitsK ks ys = true) (he : eqVs xs ys = false) (h : R (.bool true) w) : OpTo P ⟨d, .binOp .neq t x y t', ty, pos, af, g⟩ ρ w R := o_neqA hx hy fx fy (by rw [he]; exact h)
theorem o_neqAF {t t' : TypeId} {x y : Operand} {ks : List LK} {xs ys : List Value} [ht : TEq P t ks] (hx : ρ x = .agg xs.toArray) (hy : ρ y = .agg ys.toArray) (fx : fitsK ks xs = true) (fy : fitsK ks ys = true) (he : eqVs xs ys = true) (h : R (.bool false) w) : OpTo P ⟨d, .binOp .neq t x y t', ty, pos, af, g⟩ ρ w R := o_neqA hx hy fx fy (by rw [he]; exact h)
end
end Go.Proofs.Ytilgoepokaaleaa
/-! G1 -/
namespace Go.Proofs.Ytilgoepokaaleaa
set_option linter.unusedVariables false
set_option linter.unusedSimpArgs false
open Go.RowKit
section
set_option linter.unusedVariables false
set_option linter.unusedSimpArgs false
open Go.RowKit
attribute [local irreducible] OpTo wpListIn Code.wpIn MW Cal
def ipC (a : List Int) : List Value := a.map (Value.int .u8)
def clampB (b : Int) : Int := if 128 < (if b < 0 then 0 else b) then 128 else (if b < 0 then 0 else b)
def keepN (n i : Int) : Int := if 8 < (if n - 8 * i < 0 then 0 else n - 8 * i) then 8 else (if n - 8 * i < 0 then 0 else n - 8 * i)
/-- byte i of a, of which the first n bits of all stay -/
def maskAt (a : List Int) (n : Int) (i : Nat) : Int := bitsOf .andNot .u8 (a.getD i 0) (Int.fdiv 255 (2 ^ min (keepN n i).toNat 8))
def mrow (a : List Int) (n : Int) (i : Nat) : List Value := (List.range 16).map (fun j => if j < i then .int .u8 (maskAt a n j) else .int .u8 0) ++ [.int .i64 n]
theorem nth_ip {a : List Int} {i : Nat} (h : i < a.length) : nth (ipC a) (0 + (i : Int).toNat * 1) = some (.int .u8 (a.getD i 0)) := by
  rw [nth_spec]; simp [ipC, h]
theorem put1 {xs : List Value} {off q : Nat} (v : Value) (h : off = q) (hq : q < xs.length) : put xs off [v] = some (xs.set q v) := by
  subst h
  rw [put_of _ _ _ (by simp; omega)]
  congr 1
  have := splice_set xs off v [] hq
  simp only [splice, List.length_nil, List.nil_append, Nat.add_zero, List.take_append_drop] at this
  exact this.symm
theorem put_mrow {a : List Int} {n : Int} {i : Nat} (h : i < 16) : put (mrow a n i) (0 + 0 + (i : Int).toNat * 1) [.int .u8 (maskAt a n i)] = some (mrow a n (i + 1)) := by
  rw [put1 (q := i) _ (by omega) (by simp [mrow]; omega)]
  congr 1
  unfold mrow
  rw [List.set_append_left _ _ (by simpa using h)]
  congr 1
  apply List.ext_getElem (by simp)
  intro j h1 h2
  simp only [List.getElem_set, List.getElem_map, List.getElem_range]
  split
  · subst_vars; simp
  · have : j < i ↔ j < i + 1 := by omega
    simp [this]
set_option maxHeartbeats 400000 in
theorem mask_c (a : List Int) (ha : a.length = 16) (bits : Int) (W : World) :
    Cal Try.prog 101 [.agg (ipC a).toArray, .int .i64 bits].toArray W fun v w' => v = .agg (mrow a (clampB bits) 16).toArray ∧ Ext [] W w' := by
  obtain ⟨ip, rfl⟩ : ∃ ip, ip = a := ⟨_, rfl⟩
  refine fn_ofM (n := 33) [] Try.func101 rfl rfl rfl ?_
  intro a w F M hwW
  refine c_seq ?_
  refine c_region ?_
  (refine stepD rfl F rfl (o_box M (F.ev rfl) rfl ?_); clear F; clear M; intro b1 w M a F)
  (refine stepD rfl F rfl (o_alloc M ?_); clear F; clear M; intro b2 w M a F)
  with_reducible refine l_nil ?_
  with_reducible refine q_then ?_
  with_reducible refine c_seq ?_
  with_reducible refine c_region ?_
  refine stepD rfl F rfl (o_move (F.ev rfl) ?_); clear F; clear a; intro a F
  refine stepD rfl F rfl (o_max (F.ev rfl) (F.ev rfl) ?_); clear F; clear a; intro a F
  refine stepD rfl F rfl (o_min (F.ev rfl) (F.ev rfl) ?_); clear F; clear a; intro a F
  refine stepD rfl F rfl (o_build F rfl rfl ?_); clear F; clear a; intro a F
  (refine stepD rfl F rfl (o_alloc M ?_); clear F; clear M; intro b3 w M a F)
  (refine stepN rfl F (o_storeA M (F.ev rfl) (F.ev rfl) (by rfl) (by rfl) (by repeat (first | exact .here | apply Has.there)) (by rfl) (by repeat (first | exact .here | apply Upd.there)) ?_); clear F; clear M; intro w M a F)
  with_reducible refine l_nil ?_
  with_reducible refine q_then ?_
  with_reducible refine c_seq ?_
  with_reducible refine c_seq ?_
  with_reducible refine c_region ?_
  refine stepD rfl F rfl (o_move (F.ev rfl) ?_); clear F; clear a; intro a F
  with_reducible refine l_nil ?_
  with_reducible refine q_then ?_
  with_reducible refine c_block ?_
  refine c_loop (fun k a w => ∃ i : Nat, k = 16 - i ∧ i ≤ 16 ∧ Frm a 33 [] [(12, .int .i64 i), (5, .pointer (some ⟨b3, 0, none⟩)), (4, .pointer (some ⟨b2, 0, none⟩)), (2, .pointer (some ⟨b1, 0, none⟩))] ∧ Mem [] W w [(b3, .cells (mrow ip (clampB bits) i).toArray 43 (0, 0)), (b2, .cells #[.int .u8 0, .int .u8 0, .int .u8 0, .int .u8 0, .int .u8 0, .int .u8 0, .int .u8 0, .int .u8 0, .int .u8 0, .int .u8 0, .int .u8 0, .int .u8 0, .int .u8 0, .int .u8 0, .int .u8 0, .int .u8 0, .int .i64 0] 43 (0, 0)), (b1, .cells (ipC ip).toArray 41 (0, 0))]) 16 ⟨0, rfl, by omega, F.only [12, 5, 4, 2] rfl, M⟩ ?_
  clear F M
  have hcb : 0 ≤ clampB bits ∧ clampB bits ≤ 128 := by unfold clampB; split <;> (try split) <;> omega
  rintro k a w ⟨i, hk, hi, F, M⟩
  with_reducible refine c_seq ?_
  with_reducible refine c_region ?_
  refine stepD rfl F rfl (o_lss (F.ev rfl) (F.ev rfl) ?_); clear F; clear a; intro a F
  with_reducible refine l_nil ?_
  with_reducible refine q_then ?_
  with_reducible refine c_seq ?_
  refine c_if F rfl (fun hc => ?_) (fun hc => ?_)
  · replace hc := of_decide_eq_true hc
    have hlt : i < 16 := by omega
    with_reducible refine c_skip ?_
    with_reducible refine q_then ?_
    with_reducible refine c_seq ?_
    with_reducible refine c_block ?_
    with_reducible refine c_seq ?_
    with_reducible refine c_region ?_
    refine stepD rfl F rfl (o_move (F.ev rfl) ?_); clear F; clear a; intro a F
    refine stepD rfl F rfl (o_assign (F.ev rfl) ?_); clear F; clear a; intro a F
    with_reducible refine l_nil ?_
    with_reducible refine q_then ?_
    with_reducible refine c_seq ?_
    with_reducible refine c_region ?_
    refine stepD rfl F rfl (o_fieldAddr (F.ev rfl) ?_); clear F; clear a; intro a F
    refine stepD rfl F rfl (o_load1 M (F.ev rfl) (by repeat (first | exact .here | apply Has.there)) (by first | assumption | rfl) ?_); clear F; clear a; intro a F
    refine stepD rfl F rfl (o_move (F.ev rfl) ?_); clear F; clear a; intro a F
    refine stepD rfl F rfl (o_mul (F.ev rfl) (F.ev rfl) (w_i64 (by omega) (by omega)) ?_); clear F; clear a; intro a F
    refine stepD rfl F rfl (o_sub (F.ev rfl) (F.ev rfl) (w_i64 (by omega) (by omega)) ?_); clear F; clear a; intro a F
    refine stepD rfl F rfl (o_max (F.ev rfl) (F.ev rfl) ?_); clear F; clear a; intro a F
    refine stepD rfl F rfl (o_min (F.ev rfl) (F.ev rfl) ?_); clear F; clear a; intro a F
    refine stepD rfl F rfl (o_assign (F.ev rfl) ?_); clear F; clear a; intro a F
    with_reducible refine l_nil ?_
    with_reducible refine q_then ?_
    replace F := F.only [6, 7, 12, 5, 4, 2] rfl
    refine c_draw 9 F (by kernel_rfl) ?_
    intro w1 hE hok
    have M1 := M.later hE
    refine mK hok rfl rfl (fun a' w' F' E' => o_move (F'.ev rfl) ⟨Ext.refl _ _, rfl⟩) ?_
    refine mK hok rfl rfl (fun a' w' F' E' => o_move (F'.ev rfl) ⟨Ext.refl _ _, rfl⟩) ?_
    refine mK hok rfl rfl (fun a' w' F' E' => o_indexArr (F'.ev rfl) (F'.ev rfl) (by omega) (by omega) ⟨Ext.refl _ _, rfl⟩) ?_
    (refine mK hok rfl rfl (fun a' w' F' E' => o_load1 (M1.later E') (F'.ev rfl) (by repeat (first | exact .here | apply Has.there)) (nth_ip (a := ip) (i := i) (by omega)) ⟨Ext.refl _ _, rfl⟩) ?_)
    refine mK hok rfl rfl (fun a' w' F' E' => o_move (F'.ev rfl) ⟨Ext.refl _ _, rfl⟩) ?_
    refine mK hok rfl rfl (fun a' w' F' E' => o_shr (F'.ev rfl) (F'.ev rfl) (by omega) rfl ⟨Ext.refl _ _, rfl⟩) ?_
    refine mK hok rfl rfl (fun a' w' F' E' => o_andNot (F'.ev rfl) (F'.ev rfl) rfl ⟨Ext.refl _ _, rfl⟩) ?_
    refine mK hok rfl rfl (fun a' w' F' E' => o_fieldAddr (F'.ev rfl) ⟨Ext.refl _ _, rfl⟩) ?_
    refine mK hok rfl rfl (fun a' w' F' E' => o_indexArr (F'.ev rfl) (F'.ev rfl) (by omega) (by omega) ⟨Ext.refl _ _, rfl⟩) ?_
    (refine mDone rfl rfl ?_; clear F; clear M; intro a w F hE2 hX hTT hDD hPP; have M := M1.later hE2; clear M1; clear hX; clear hE2; clear hok; clear hE; clear hTT; clear hDD; clear hPP; (try dsimp only at F))
    (refine stepN rfl F (o_store1 M (F.ev rfl) (F.ev rfl) rfl (by repeat (first | exact .here | apply Has.there)) (put_mrow hlt) (by repeat (first | exact .here | apply Upd.there)) ?_); clear F; clear M; intro w M a F)
    with_reducible refine l_nil ?_
    with_reducible refine q_inB ?_
    with_reducible refine q_then ?_
    with_reducible refine c_region ?_
    refine stepD rfl F rfl (o_add (F.ev rfl) (F.ev rfl) (w_i64 (by omega) (by omega)) ?_); clear F; clear a; intro a F
    refine stepD rfl F rfl (o_move (F.ev rfl) ?_); clear F; clear a; intro a F
    with_reducible refine l_nil ?_
    with_reducible refine q_then ?_
    exact ⟨_, by omega, i + 1, rfl, by omega, F.only [12, 5, 4, 2] rfl, M⟩
  · replace hc := of_decide_eq_false hc
    obtain rfl : i = 16 := by omega
    with_reducible refine c_exit ?_
    with_reducible refine q_thenX ?_
    with_reducible refine q_thenX ?_
    with_reducible refine q_inBX ?_
    with_reducible refine q_then ?_
    with_reducible refine c_seq ?_
    with_reducible refine c_region ?_
    refine stepD rfl F rfl (o_loadA M (F.ev rfl) (by repeat (first | exact .here | apply Has.there)) (by first | assumption | rfl) ?_); clear F; clear a; intro a F
    (refine stepN rfl F (o_storeA M (F.ev rfl) (F.ev rfl) (by rfl) (by rfl) (by repeat (first | exact .here | apply Has.there)) (by rfl) (by repeat (first | exact .here | apply Upd.there)) ?_); clear F; clear M; intro w M a F)
    with_reducible refine l_nil ?_
    with_reducible refine q_then ?_
    with_reducible refine c_ret ?_
    refine p_ret (F.only [4] rfl) rfl (.cons (.cell (F.ev rfl) (run_loadVar_agg TAgg.h (M.heap (.there .here)) rfl)) .nil) ⟨rfl, M.ext⟩
end
section
set_option linter.unusedVariables false
set_option linter.unusedSimpArgs false
open Go.RowKit
attribute [local irreducible] OpTo wpListIn Code.wpIn MW Cal
/-- the variable that strings.Index looks at holds some number -/
def GM (W : World) : Prop := ∃ m : Int, W.cell? ⟨0, 0, none⟩ = some (.int .i64 m)
theorem GM.later {W w : World} (h : GM W) (e : Ext [] W w) : GM w := by
  obtain ⟨m, hm⟩ := h
  have hlt : 0 < W.heap.size := by
    have := block_lt_of_cell hm
    simpa using this
  exact ⟨m, by rw [World.cell?_of_block (w := W) (e.block 0 hlt (by simp))]; exact hm⟩
end
section
set_option linter.unusedVariables false
set_option linter.unusedSimpArgs false
open Go.RowKit
attribute [local irreducible] OpTo wpListIn Code.wpIn MW Cal
structure IsIP (ip : List Int) : Prop where
  len : ip.length = 16
  bd : ∀ x ∈ ip, 0 ≤ x ∧ x < 256
theorem IsIP.at_ {ip : List Int} (h : IsIP ip) (i : Nat) : 0 ≤ ip.getD i 0 ∧ ip.getD i 0 < 256 := by
  rcases Nat.lt_or_ge i ip.length with hl | hl
  · rw [List.getD_eq_getElem?_getD, List.getElem?_eq_getElem hl]; exact h.bd _ (List.getElem_mem hl)
  · rw [List.getD_eq_getElem?_getD, List.getElem?_eq_none hl]; simp
end
section
set_option linter.unusedVariables false
set_option linter.unusedSimpArgs false
open Go.RowKit
attribute [local irreducible] OpTo wpListIn Code.wpIn MW Cal
/-- what the table of math/bits holds for 16 -/
def GT (W : World) : Prop := W.cell? ⟨5, 15, none⟩ = some (.int .u8 4)
theorem cell_later {W w : World} {a : Addr} {v : Value} (h : W.cell? a = some v) (e : Ext [] W w) : w.cell? a = some v := by
  have hlt := block_lt_of_cell h
  rw [World.cell?_of_block (w := W) (e.block a.block hlt (by simp))]; exact h
theorem GT.later {W w : World} (h : GT W) (e : Ext [] W w) : GT w := cell_later h e
end
section
set_option linter.unusedVariables false
set_option linter.unusedSimpArgs false
open Go.RowKit
attribute [local irreducible] OpTo wpListIn Code.wpIn MW Cal
theorem len16 {l : List Int} (h : l.length = 16) : ∃ x0 x1 x2 x3 x4 x5 x6 x7 x8 x9 x10 x11 x12 x13 x14 x15 : Int, l = [x0, x1, x2, x3, x4, x5, x6, x7, x8, x9, x10, x11, x12, x13, x14, x15] :=
  match l, h with
  | [x0, x1, x2, x3, x4, x5, x6, x7, x8, x9, x10, x11, x12, x13, x14, x15], _ => ⟨x0, x1, x2, x3, x4, x5, x6, x7, x8, x9, x10, x11, x12, x13, x14, x15, rfl⟩
def maskI (a : List Int) (n : Int) : List Int := (List.range 16).map (maskAt a n)
def pfC (a : List Int) (n : Int) : List Value := ipC a ++ [.int .i64 n]
def validP (a : List Int) (n : Int) : Bool := decide (0 ≤ n) && decide (n ≤ 128) && (maskI a n == a)
def containsP (p : List Int) (n : Int) (a : List Int) : Bool := validP p n && (maskI a n == p)
def coversP (p : List Int) (n : Int) (q : List Int) (m : Int) : Bool := validP q m && containsP p n q && decide (n ≤ m)
theorem maskI_len (a : List Int) (n : Int) : (maskI a n).length = 16 := by simp [maskI]
theorem mrow_pf (a : List Int) (n : Int) : mrow a n 16 = pfC (maskI a n) n := by
  unfold mrow pfC maskI ipC
  rw [List.map_map]
  congr 1
theorem eqVs_ip : ∀ a b : List Int, a.length = b.length → eqVs (ipC a) (ipC b) = (a == b)
  | [], [], _ => rfl
  | x :: a, y :: b, h => by
    have := eqVs_ip a b (by simpa using h)
    simp only [ipC] at this
    simp [ipC, eqVs, eqV, this]
theorem eqVs_pf {a b : List Int} {n m : Int} (h : a.length = b.length) : eqVs (pfC a n) (pfC b m) = (a == b && n == m) := by
  unfold pfC
  rw [eqVs_append _ _ _ _ (by simp [ipC, h]), eqVs_ip a b h]
  simp [eqVs, eqV]
/-- the remainder that is not negative -/
def modI (a n : Int) : Int := if a.tmod n < 0 then a.tmod n + n else a.tmod n
theorem mod_c (x n : Int) (hn : 0 < n) (hn2 : n ≤ 9223372036854775807) (W : World) : Cal Try.prog 34 [.int .i64 x, .int .i64 n].toArray W fun v w' => v = .int .i64 (modI x n) ∧ Ext [] W w' := by
  have hr := Int.tmod_lt_of_pos x hn
  have hr2 : -n < x.tmod n := by have := Int.tmod_lt_of_pos (-x) hn; rw [Int.neg_tmod] at this; omega
  unfold modI
  refine fn_ofM (n := 14) [] Try.func34 rfl rfl rfl ?_
  intro a w F M hwW
  with_reducible refine c_seq ?_
  with_reducible refine c_region ?_
  refine stepD rfl F rfl (o_assign (F.ev rfl) ?_); clear F; clear a; intro a F
  with_reducible refine l_nil ?_
  with_reducible refine q_then ?_
  with_reducible refine c_seq ?_
  with_reducible refine c_region ?_
  refine stepD rfl F rfl (o_move (F.ev rfl) ?_); clear F; clear a; intro a F
  refine stepD rfl F rfl (o_move (F.ev rfl) ?_); clear F; clear a; intro a F
  refine stepD rfl F rfl (o_rem (F.ev rfl) (F.ev rfl) (by omega) rfl ?_); clear F; clear a; intro a F
  refine stepD rfl F rfl (o_assign (F.ev rfl) ?_); clear F; clear a; intro a F
  with_reducible refine l_nil ?_
  with_reducible refine q_then ?_
  with_reducible refine c_seq ?_
  with_reducible refine c_seq ?_
  with_reducible refine c_region ?_
  refine stepD rfl F rfl (o_move (F.ev rfl) ?_); clear F; clear a; intro a F
  refine stepD rfl F rfl (o_lss (F.ev rfl) (F.ev rfl) ?_); clear F; clear a; intro a F
  with_reducible refine l_nil ?_
  with_reducible refine q_then ?_
  generalize x.tmod n = r at *
  refine c_if F rfl (fun hc => ?_) (fun hc => ?_)
  · replace hc := of_decide_eq_true hc
    rw [if_pos hc]
    with_reducible refine c_region ?_
    refine stepD rfl F rfl (o_move (F.ev rfl) ?_); clear F; clear a; intro a F
    refine stepD rfl F rfl (o_move (F.ev rfl) ?_); clear F; clear a; intro a F
    refine stepD rfl F rfl (o_add (F.ev rfl) (F.ev rfl) (w_i64 (by omega) (by omega)) ?_); clear F; clear a; intro a F
    refine stepD rfl F rfl (o_assign (F.ev rfl) ?_); clear F; clear a; intro a F
    with_reducible refine l_nil ?_
    with_reducible refine q_then ?_
    with_reducible refine c_seq ?_
    with_reducible refine c_region ?_
    refine stepD rfl F rfl (o_move (F.ev rfl) ?_); clear F; clear a; intro a F
    refine stepD rfl F rfl (o_assign (F.ev rfl) ?_); clear F; clear a; intro a F
    with_reducible refine l_nil ?_
    with_reducible refine q_then ?_
    with_reducible refine c_ret ?_
    refine p_ret F rfl (.cons (.tmp (F.ev rfl)) .nil) ?_
    exact ⟨rfl, M.ext⟩
  · replace hc := of_decide_eq_false hc
    rw [if_neg hc]
    with_reducible refine c_skip ?_
    with_reducible refine q_then ?_
    with_reducible refine c_seq ?_
    with_reducible refine c_region ?_
    refine stepD rfl F rfl (o_move (F.ev rfl) ?_); clear F; clear a; intro a F
    refine stepD rfl F rfl (o_assign (F.ev rfl) ?_); clear F; clear a; intro a F
    with_reducible refine l_nil ?_
    with_reducible refine q_then ?_
    with_reducible refine c_ret ?_
    refine p_ret F rfl (.cons (.tmp (F.ev rfl)) .nil) ?_
    exact ⟨rfl, M.ext⟩
theorem clamp_in {n : Int} (h0 : 0 ≤ n) (h1 : n ≤ 128) : clampB n = n := by unfold clampB; rw [if_neg (show ¬ n < 0 by omega), if_neg (by omega)]
theorem maskP_c (a : List Int) (ha : a.length = 16) (n : Int) (W : World) : Cal Try.prog 101 [.agg (ipC a).toArray, .int .i64 n].toArray W fun v w' => v = .agg (pfC (maskI a (clampB n)) (clampB n)).toArray ∧ Ext [] W w' :=
  (mask_c a ha n W).mono fun v w' h => ⟨by rw [h.1, mrow_pf], h.2⟩
theorem maskIn_c (a : List Int) (ha : a.length = 16) (n : Int) (h0 : 0 ≤ n) (h1 : n ≤ 128) (W : World) : Cal Try.prog 101 [.agg (ipC a).toArray, .int .i64 n].toArray W fun v w' => v = .agg (pfC (maskI a n) n).toArray ∧ Ext [] W w' :=
  (maskP_c a ha n W).mono fun v w' h => ⟨by rw [h.1, clamp_in h0 h1], h.2⟩
def pfK : List LK := [.i .u8, .i .u8, .i .u8, .i .u8, .i .u8, .i .u8, .i .u8, .i .u8, .i .u8, .i .u8, .i .u8, .i .u8, .i .u8, .i .u8, .i .u8, .i .u8, .i .i64]
theorem fits_pf {a : List Int} (ha : a.length = 16) (n : Int) : fitsK pfK (pfC a n) = true := by
  obtain ⟨x0, x1, x2, x3, x4, x5, x6, x7, x8, x9, x10, x11, x12, x13, x14, x15, rfl⟩ := len16 ha
  rfl
theorem seg_all {xs : List Value} {k : Nat} (h : xs.length = k) : seg xs 0 k = some xs := by
  have h1 := seg_of [] xs []
  rw [h] at h1
  simpa using h1
theorem pfC_len {a : List Int} (ha : a.length = 16) (n : Int) : (pfC a n).length = 17 := by simp [pfC, ipC, ha]
theorem ipC_len {a : List Int} (ha : a.length = 16) : (ipC a).length = 16 := by simp [ipC, ha]
theorem seg_pf {a : List Int} (ha : a.length = 16) (n : Int) : seg (pfC a n) 0 17 = some (pfC a n) := seg_all (pfC_len ha n)
theorem seg_pf0 {a : List Int} (ha : a.length = 16) (n : Int) : seg (pfC a n) 0 16 = some (ipC a) := by
  have h1 := seg_of [] (ipC a) [.int .i64 n]
  rw [ipC_len ha] at h1
  simpa [pfC] using h1
theorem nth_pf {a : List Int} (ha : a.length = 16) (n : Int) : nth (pfC a n) 16 = some (.int .i64 n) := by
  rw [nth_spec]; simp [pfC, ipC, ha]
set_option maxHeartbeats 2000000 in
theorem validPrefix_c (p : List Int) (n : Int) (hp : p.length = 16) (W : World) : Cal Try.prog 100 [.agg (pfC p n).toArray].toArray W fun v w' => v = .bool (validP p n) ∧ Ext [] W w' := by
  have e1 := seg_pf hp n
  have e2 := seg_pf0 hp n
  have e3 := nth_pf hp n
  have e4 := fits_pf hp n
  have e5 := fits_pf (maskI_len p n) n
  refine fn_ofM (n := 20) [] Try.func100 rfl rfl rfl ?_
  intro a w F M hwW
  refine c_seq ?_
  refine c_region ?_
  (refine stepD rfl F rfl (o_box M (F.ev rfl) rfl ?_); clear F; clear M; intro b1 w M a F)
  refine stepD rfl F rfl (o_assign (F.ev rfl) ?_); clear F; clear a; intro a F
  with_reducible refine l_nil ?_
  with_reducible refine q_then ?_
  with_reducible refine c_seq ?_
  replace F := F.only [1] rfl
  by_cases h0 : 0 ≤ n
  · by_cases h1 : n ≤ 128
    · refine c_draw 18 F (by kernel_rfl) ?_
      intro w1 hE hok
      have M1 := M.later hE
      refine mK hok rfl rfl (fun a' w' F' E' => o_fieldAddr (F'.ev rfl) ⟨Ext.refl _ _, rfl⟩) ?_
      refine mK hok rfl rfl (fun a' w' F' E' => o_load1 (M1.later E') (F'.ev rfl) (by repeat (first | exact .here | apply Has.there)) (by first | assumption | rfl) ⟨Ext.refl _ _, rfl⟩) ?_
      refine mK hok rfl rfl (fun a' w' F' E' => o_geqT (F'.ev rfl) (F'.ev rfl) (by omega) ⟨Ext.refl _ _, rfl⟩) ?_
      refine mK hok rfl rfl (fun a' w' F' E' => o_move (F'.ev rfl) ⟨Ext.refl _ _, rfl⟩) ?_
      refine mKG hok rfl rfl rfl rfl (fun a' w' F' E' => o_fieldAddr (F'.ev rfl) ⟨Ext.refl _ _, rfl⟩) ?_
      refine mKG hok rfl rfl rfl rfl (fun a' w' F' E' => o_load1 (M1.later E') (F'.ev rfl) (by repeat (first | exact .here | apply Has.there)) (by first | assumption | rfl) ⟨Ext.refl _ _, rfl⟩) ?_
      refine mKG hok rfl rfl rfl rfl (fun a' w' F' E' => o_leqT (F'.ev rfl) (F'.ev rfl) (by omega) ⟨Ext.refl _ _, rfl⟩) ?_
      refine mK hok rfl rfl (fun a' w' F' E' => o_pickT (F'.ev rfl) (F'.ev rfl) ⟨Ext.refl _ _, rfl⟩) ?_
      refine mK hok rfl rfl (fun a' w' F' E' => o_move (F'.ev rfl) ⟨Ext.refl _ _, rfl⟩) ?_
      refine mKG hok rfl rfl rfl rfl (fun a' w' F' E' => o_fieldAddr (F'.ev rfl) ⟨Ext.refl _ _, rfl⟩) ?_
      refine mKG hok rfl rfl rfl rfl (fun a' w' F' E' => o_loadA (M1.later E') (F'.ev rfl) (by repeat (first | exact .here | apply Has.there)) (by first | assumption | rfl) ⟨Ext.refl _ _, rfl⟩) ?_
      refine mKG hok rfl rfl rfl rfl (fun a' w' F' E' => o_fieldAddr (F'.ev rfl) ⟨Ext.refl _ _, rfl⟩) ?_
      refine mKG hok rfl rfl rfl rfl (fun a' w' F' E' => o_load1 (M1.later E') (F'.ev rfl) (by repeat (first | exact .here | apply Has.there)) (by first | assumption | rfl) ⟨Ext.refl _ _, rfl⟩) ?_
      (refine mKG hok rfl rfl rfl rfl (fun a' w' F' E' => o_call (F'.ev rfl) (F'.evs rfl) (Cal.mono (maskIn_c p hp n h0 h1 _) fun _ _ hh => ⟨hh.2, hh.1⟩)) ?_)
      refine mKG hok rfl rfl rfl rfl (fun a' w' F' E' => o_loadA (M1.later E') (F'.ev rfl) (by repeat (first | exact .here | apply Has.there)) (by first | assumption | rfl) ⟨Ext.refl _ _, rfl⟩) ?_
      refine mKG hok rfl rfl rfl rfl (fun a' w' F' E' => o_eqlA (F'.ev rfl) (F'.ev rfl) (by first | assumption | rfl) (by first | assumption | rfl) ⟨Ext.refl _ _, rfl⟩) ?_
      refine mK hok rfl rfl (fun a' w' F' E' => o_pickT (F'.ev rfl) (F'.ev rfl) ⟨Ext.refl _ _, rfl⟩) ?_
      refine mK hok rfl rfl (fun a' w' F' E' => o_assign (F'.ev rfl) ⟨Ext.refl _ _, rfl⟩) ?_
      (refine mDone rfl rfl ?_; clear F; clear M; intro a w F hE2 hX hTT hDD hPP; have M := M1.later hE2; clear M1; clear hX; clear hE2; clear hok; clear hE; clear hTT; clear hDD; clear hPP; (try dsimp only at F))
      with_reducible refine l_nil ?_
      with_reducible refine q_then ?_
      with_reducible refine c_ret ?_
      refine p_ret F rfl (.cons (.tmp (F.ev rfl)) .nil) ?_
      refine ⟨?_, M.ext⟩
      show Value.bool _ = Value.bool _
      rw [eqVs_pf (by rw [maskI_len, hp])]
      simp [validP, h0, h1]
    · refine c_draw 18 F (by kernel_rfl) ?_
      intro w1 hE hok
      have M1 := M.later hE
      refine mK hok rfl rfl (fun a' w' F' E' => o_fieldAddr (F'.ev rfl) ⟨Ext.refl _ _, rfl⟩) ?_
      refine mK hok rfl rfl (fun a' w' F' E' => o_load1 (M1.later E') (F'.ev rfl) (by repeat (first | exact .here | apply Has.there)) (by first | assumption | rfl) ⟨Ext.refl _ _, rfl⟩) ?_
      refine mK hok rfl rfl (fun a' w' F' E' => o_geqT (F'.ev rfl) (F'.ev rfl) (by omega) ⟨Ext.refl _ _, rfl⟩) ?_
      refine mK hok rfl rfl (fun a' w' F' E' => o_move (F'.ev rfl) ⟨Ext.refl _ _, rfl⟩) ?_
      refine mKG hok rfl rfl rfl rfl (fun a' w' F' E' => o_fieldAddr (F'.ev rfl) ⟨Ext.refl _ _, rfl⟩) ?_
      refine mKG hok rfl rfl rfl rfl (fun a' w' F' E' => o_load1 (M1.later E') (F'.ev rfl) (by repeat (first | exact .here | apply Has.there)) (by first | assumption | rfl) ⟨Ext.refl _ _, rfl⟩) ?_
      refine mKG hok rfl rfl rfl rfl (fun a' w' F' E' => o_leqF (F'.ev rfl) (F'.ev rfl) (by omega) ⟨Ext.refl _ _, rfl⟩) ?_
      refine mK hok rfl rfl (fun a' w' F' E' => o_pickT (F'.ev rfl) (F'.ev rfl) ⟨Ext.refl _ _, rfl⟩) ?_
      refine mK hok rfl rfl (fun a' w' F' E' => o_move (F'.ev rfl) ⟨Ext.refl _ _, rfl⟩) ?_
      refine mOff hok rfl rfl rfl rfl rfl ?_
      refine mOff hok rfl rfl rfl rfl rfl ?_
      refine mOff hok rfl rfl rfl rfl rfl ?_
      refine mOff hok rfl rfl rfl rfl rfl ?_
      refine mOff hok rfl rfl rfl rfl rfl ?_
      refine mOff hok rfl rfl rfl rfl rfl ?_
      refine mOff hok rfl rfl rfl rfl rfl ?_
      refine mK hok rfl rfl (fun a' w' F' E' => o_pickF (F'.ev rfl) (F'.ev rfl) ⟨Ext.refl _ _, rfl⟩) ?_
      refine mK hok rfl rfl (fun a' w' F' E' => o_assign (F'.ev rfl) ⟨Ext.refl _ _, rfl⟩) ?_
      (refine mDone rfl rfl ?_; clear F; clear M; intro a w F hE2 hX hTT hDD hPP; have M := M1.later hE2; clear M1; clear hX; clear hE2; clear hok; clear hE; clear hTT; clear hDD; clear hPP; (try dsimp only at F))
      with_reducible refine l_nil ?_
      with_reducible refine q_then ?_
      with_reducible refine c_ret ?_
      refine p_ret F rfl (.cons (.tmp (F.ev rfl)) .nil) ?_
      exact ⟨by show Value.bool _ = Value.bool _; simp [validP, h1], M.ext⟩
  · refine c_draw 18 F (by kernel_rfl) ?_
    intro w1 hE hok
    have M1 := M.later hE
    refine mK hok rfl rfl (fun a' w' F' E' => o_fieldAddr (F'.ev rfl) ⟨Ext.refl _ _, rfl⟩) ?_
    refine mK hok rfl rfl (fun a' w' F' E' => o_load1 (M1.later E') (F'.ev rfl) (by repeat (first | exact .here | apply Has.there)) (by first | assumption | rfl) ⟨Ext.refl _ _, rfl⟩) ?_
    refine mK hok rfl rfl (fun a' w' F' E' => o_geqF (F'.ev rfl) (F'.ev rfl) (by omega) ⟨Ext.refl _ _, rfl⟩) ?_
    refine mK hok rfl rfl (fun a' w' F' E' => o_move (F'.ev rfl) ⟨Ext.refl _ _, rfl⟩) ?_
    refine mOff hok rfl rfl rfl rfl rfl ?_
    refine mOff hok rfl rfl rfl rfl rfl ?_
    refine mOff hok rfl rfl rfl rfl rfl ?_
    refine mK hok rfl rfl (fun a' w' F' E' => o_pickF (F'.ev rfl) (F'.ev rfl) ⟨Ext.refl _ _, rfl⟩) ?_
    refine mK hok rfl rfl (fun a' w' F' E' => o_move (F'.ev rfl) ⟨Ext.refl _ _, rfl⟩) ?_
    refine mOff hok rfl rfl rfl rfl rfl ?_
    refine mOff hok rfl rfl rfl rfl rfl ?_
    refine mOff hok rfl rfl rfl rfl rfl ?_
    refine mOff hok rfl rfl rfl rfl rfl ?_
    refine mOff hok rfl rfl rfl rfl rfl ?_
    refine mOff hok rfl rfl rfl rfl rfl ?_
    refine mOff hok rfl rfl rfl rfl rfl ?_
    refine mK hok rfl rfl (fun a' w' F' E' => o_pickF (F'.ev rfl) (F'.ev rfl) ⟨Ext.refl _ _, rfl⟩) ?_
    refine mK hok rfl rfl (fun a' w' F' E' => o_assign (F'.ev rfl) ⟨Ext.refl _ _, rfl⟩) ?_
    (refine mDone rfl rfl ?_; clear F; clear M; intro a w F hE2 hX hTT hDD hPP; have M := M1.later hE2; clear M1; clear hX; clear hE2; clear hok; clear hE; clear hTT; clear hDD; clear hPP; (try dsimp only at F))
    with_reducible refine l_nil ?_
    with_reducible refine q_then ?_
    with_reducible refine c_ret ?_
    refine p_ret F rfl (.cons (.tmp (F.ev rfl)) .nil) ?_
    exact ⟨by show Value.bool _ = Value.bool _; simp [validP, h0], M.ext⟩
end
section
set_option linter.unusedVariables false
set_option linter.unusedSimpArgs false
open Go.RowKit
attribute [local irreducible] OpTo wpListIn Code.wpIn MW Cal
theorem validP_bd {a : List Int} {n : Int} (h : validP a n = true) : 0 ≤ n ∧ n ≤ 128 := by
  simp only [validP, Bool.and_eq_true, decide_eq_true_eq] at h
  exact h.1
set_option maxHeartbeats 2000000 in
theorem contains_c (p : List Int) (n : Int) (hp : p.length = 16) (b : List Int) (hb : b.length = 16) (W : World) : Cal Try.prog 62 [.agg (pfC p n).toArray, .agg (ipC b).toArray].toArray W fun v w' => v = .bool (containsP p n b) ∧ Ext [] W w' := by
  have e1 := seg_pf hp n
  have e2 := seg_pf0 hp n
  have e3 := nth_pf hp n
  have e4 := fits_pf hp n
  have e5 := fits_pf (maskI_len b n) n
  have e6 := seg_all (ipC_len hb)
  refine fn_ofM (n := 15) [] Try.func62 rfl rfl rfl ?_
  intro a w F M hwW
  refine c_seq ?_
  refine c_region ?_
  (refine stepD rfl F rfl (o_box M (F.ev rfl) rfl ?_); clear F; clear M; intro b1 w M a F)
  (refine stepD rfl F rfl (o_box M (F.ev rfl) rfl ?_); clear F; clear M; intro b2 w M a F)
  refine stepD rfl F rfl (o_assign (F.ev rfl) ?_); clear F; clear a; intro a F
  with_reducible refine l_nil ?_
  with_reducible refine q_then ?_
  with_reducible refine c_seq ?_
  replace F := F.only [2, 3] rfl
  by_cases hv : validP p n = true
  · obtain ⟨h0, h1⟩ := validP_bd hv
    refine c_draw 11 F (by kernel_rfl) ?_
    intro w1 hE hok
    have M1 := M.later hE
    refine mK hok rfl rfl (fun a' w' F' E' => o_loadA (M1.later E') (F'.ev rfl) (by repeat (first | exact .here | apply Has.there)) (by first | assumption | rfl) ⟨Ext.refl _ _, rfl⟩) ?_
    (refine mK hok rfl rfl (fun a' w' F' E' => o_call (F'.ev rfl) (F'.evs rfl) (Cal.mono (validPrefix_c p n hp _) fun _ _ hh => ⟨hh.2, hh.1⟩)) ?_)
    rw [hv]
    refine mK hok rfl rfl (fun a' w' F' E' => o_move (F'.ev rfl) ⟨Ext.refl _ _, rfl⟩) ?_
    refine mKG hok rfl rfl rfl rfl (fun a' w' F' E' => o_loadA (M1.later E') (F'.ev rfl) (by repeat (first | exact .here | apply Has.there)) (by first | assumption | rfl) ⟨Ext.refl _ _, rfl⟩) ?_
    refine mKG hok rfl rfl rfl rfl (fun a' w' F' E' => o_fieldAddr (F'.ev rfl) ⟨Ext.refl _ _, rfl⟩) ?_
    refine mKG hok rfl rfl rfl rfl (fun a' w' F' E' => o_load1 (M1.later E') (F'.ev rfl) (by repeat (first | exact .here | apply Has.there)) (by first | assumption | rfl) ⟨Ext.refl _ _, rfl⟩) ?_
    (refine mKG hok rfl rfl rfl rfl (fun a' w' F' E' => o_call (F'.ev rfl) (F'.evs rfl) (Cal.mono (maskIn_c b hb n h0 h1 _) fun _ _ hh => ⟨hh.2, hh.1⟩)) ?_)
    refine mKG hok rfl rfl rfl rfl (fun a' w' F' E' => o_loadA (M1.later E') (F'.ev rfl) (by repeat (first | exact .here | apply Has.there)) (by first | assumption | rfl) ⟨Ext.refl _ _, rfl⟩) ?_
    refine mKG hok rfl rfl rfl rfl (fun a' w' F' E' => o_eqlA (F'.ev rfl) (F'.ev rfl) (by first | assumption | rfl) (by first | assumption | rfl) ⟨Ext.refl _ _, rfl⟩) ?_
    refine mK hok rfl rfl (fun a' w' F' E' => o_pickT (F'.ev rfl) (F'.ev rfl) ⟨Ext.refl _ _, rfl⟩) ?_
    refine mK hok rfl rfl (fun a' w' F' E' => o_assign (F'.ev rfl) ⟨Ext.refl _ _, rfl⟩) ?_
    (refine mDone rfl rfl ?_; clear F; clear M; intro a w F hE2 hX hTT hDD hPP; have M := M1.later hE2; clear M1; clear hX; clear hE2; clear hok; clear hE; clear hTT; clear hDD; clear hPP; (try dsimp only at F))
    with_reducible refine l_nil ?_
    with_reducible refine q_then ?_
    with_reducible refine c_ret ?_
    refine p_ret F rfl (.cons (.tmp (F.ev rfl)) .nil) ?_
    refine ⟨?_, M.ext⟩
    show Value.bool _ = Value.bool _
    rw [eqVs_pf (by rw [maskI_len, hp])]
    simp [containsP, hv]
  · replace hv : validP p n = false := by simpa using hv
    refine c_draw 11 F (by kernel_rfl) ?_
    intro w1 hE hok
    have M1 := M.later hE
    refine mK hok rfl rfl (fun a' w' F' E' => o_loadA (M1.later E') (F'.ev rfl) (by repeat (first | exact .here | apply Has.there)) (by first | assumption | rfl) ⟨Ext.refl _ _, rfl⟩) ?_
    (refine mK hok rfl rfl (fun a' w' F' E' => o_call (F'.ev rfl) (F'.evs rfl) (Cal.mono (validPrefix_c p n hp _) fun _ _ hh => ⟨hh.2, hh.1⟩)) ?_)
    rw [hv]
    refine mK hok rfl rfl (fun a' w' F' E' => o_move (F'.ev rfl) ⟨Ext.refl _ _, rfl⟩) ?_
    refine mOff hok rfl rfl rfl rfl rfl ?_
    refine mOff hok rfl rfl rfl rfl rfl ?_
    refine mOff hok rfl rfl rfl rfl rfl ?_
    refine mOff hok rfl rfl rfl rfl rfl ?_
    refine mOff hok rfl rfl rfl rfl rfl ?_
    refine mOff hok rfl rfl rfl rfl rfl ?_
    refine mK hok rfl rfl (fun a' w' F' E' => o_pickF (F'.ev rfl) (F'.ev rfl) ⟨Ext.refl _ _, rfl⟩) ?_
    refine mK hok rfl rfl (fun a' w' F' E' => o_assign (F'.ev rfl) ⟨Ext.refl _ _, rfl⟩) ?_
    (refine mDone rfl rfl ?_; clear F; clear M; intro a w F hE2 hX hTT hDD hPP; have M := M1.later hE2; clear M1; clear hX; clear hE2; clear hok; clear hE; clear hTT; clear hDD; clear hPP; (try dsimp only at F))
    with_reducible refine l_nil ?_
    with_reducible refine q_then ?_
    with_reducible refine c_ret ?_
    refine p_ret F rfl (.cons (.tmp (F.ev rfl)) .nil) ?_
    exact ⟨by show Value.bool _ = Value.bool _; simp [containsP, hv], M.ext⟩
end
section
set_option linter.unusedVariables false
set_option linter.unusedSimpArgs false
open Go.RowKit
attribute [local irreducible] OpTo wpListIn Code.wpIn MW Cal
end
section
set_option linter.unusedVariables false
set_option linter.unusedSimpArgs false
open Go.RowKit
theorem modI_bd (x : Int) {n : Int} (hn : 0 < n) : 0 ≤ modI x n ∧ modI x n < n := by
  have h1 := Int.tmod_lt_of_pos x hn
  have h2 : -n < x.tmod n := by have := Int.tmod_lt_of_pos (-x) hn; rw [Int.neg_tmod] at this; omega
  unfold modI
  split <;> omega
end
section
set_option linter.unusedVariables false
set_option linter.unusedSimpArgs false
open Go.RowKit
end
section
set_option linter.unusedVariables false
set_option linter.unusedSimpArgs false
open Go.RowKit
attribute [local irreducible] OpTo wpListIn Code.wpIn MW Cal
end
section
set_option linter.unusedVariables false
set_option linter.unusedSimpArgs false
open Go.RowKit
attribute [local irreducible] OpTo wpListIn Code.wpIn MW Cal
end
section
set_option linter.unusedVariables false
set_option linter.unusedSimpArgs false
open Go.RowKit
attribute [local irreducible] OpTo wpListIn Code.wpIn MW Cal
end
section
set_option linter.unusedVariables false
set_option linter.unusedSimpArgs false
open Go.RowKit
attribute [local irreducible] OpTo wpListIn Code.wpIn MW Cal
end
section
set_option linter.unusedVariables false
set_option linter.unusedSimpArgs false
open Go.RowKit
attribute [local irreducible] OpTo wpListIn Code.wpIn MW Cal
def i64C (xs : List Int) : List Value := xs.map (Value.int .i64)
/-- what its numbers are -/
structure TapeS (W : World) (bt : Nat) (p : Option Addr) (len : Nat) (xs : List Int) : Prop where
  lenE : xs.length = len
  small : len ≤ 400
  bd : ∀ x ∈ xs, -9223372036854775808 ≤ x ∧ x ≤ 9223372036854775807
  mem : 0 < len → ∃ b o cs t fz, p = some ⟨b, o, none⟩ ∧ b ≠ bt ∧ W.heap[b]? = some (.cells cs t fz) ∧ seg cs.toList o len = some (i64C xs)
theorem TapeS.later {W w : World} {bt : Nat} {p : Option Addr} {len : Nat} {xs : List Int} (h : TapeS W bt p len xs) (E : Ext [bt] W w) : TapeS w bt p len xs :=
  ⟨h.lenE, h.small, h.bd, fun hl => by
    obtain ⟨b, o, cs, t, fz, h1, h2, h3, h4⟩ := h.mem hl
    exact ⟨b, o, cs, t, fz, h1, h2, by rw [E.block b (Array.getElem?_eq_some_iff.1 h3).1 (by simpa using h2)]; exact h3, h4⟩⟩
end
section
set_option linter.unusedVariables false
set_option linter.unusedSimpArgs false
open Go.RowKit
attribute [local irreducible] OpTo wpListIn Code.wpIn MW Cal
/-- a slice of int that came in: its numbers -/
structure IntsAt (W : World) (v : Value) (xs : List Int) : Prop where
  ex : ∃ p cap, v = .slice p xs.length cap ∧ xs.length ≤ cap ∧ (0 < xs.length → ∃ b o cs t fz, p = some ⟨b, o, none⟩ ∧ W.heap[b]? = some (.cells cs t fz) ∧ seg cs.toList o xs.length = some (i64C xs))
  bd : ∀ x ∈ xs, -9223372036854775808 ≤ x ∧ x ≤ 9223372036854775807
  small : xs.length ≤ 9223372036854775807
theorem IntsAt.later {W w : World} {v : Value} {xs : List Int} (h : IntsAt W v xs) (E : Ext [] W w) : IntsAt w v xs := by
  refine ⟨?_, h.bd, h.small⟩
  obtain ⟨p, cap, h1, h2, h3⟩ := h.ex
  refine ⟨p, cap, h1, h2, fun hl => ?_⟩
  obtain ⟨b, o, cs, t, fz, g1, g2, g3⟩ := h3 hl
  exact ⟨b, o, cs, t, fz, g1, by rw [E.block b (Array.getElem?_eq_some_iff.1 g2).1 (by simp)]; exact g2, g3⟩
end
section
set_option linter.unusedVariables false
set_option linter.unusedSimpArgs false
open Go.RowKit
attribute [local irreducible] OpTo wpListIn Code.wpIn MW Cal
def cmpV (x y : Int) : Int := if x < y then -1 else if y < x then 1 else 0
theorem nan_int (x : Int) (W : World) : Cal Try.prog 123 [.int .i64 x].toArray W fun v w' => v = .bool false ∧ Ext [] W w' := by
  refine fn_ofM (n := 6) [] Try.func123 rfl rfl rfl ?_
  intro a w F M hwW
  with_reducible refine c_seq ?_
  with_reducible refine c_region ?_
  refine stepD rfl F rfl (o_assign (F.ev rfl) ?_); clear F; clear a; intro a F
  with_reducible refine l_nil ?_
  with_reducible refine q_then ?_
  with_reducible refine c_seq ?_
  with_reducible refine c_region ?_
  refine stepD rfl F rfl (o_move (F.ev rfl) ?_); clear F; clear a; intro a F
  refine stepD rfl F rfl (o_move (F.ev rfl) ?_); clear F; clear a; intro a F
  refine stepD rfl F rfl (o_neqF (F.ev rfl) (F.ev rfl) (by omega) ?_); clear F; clear a; intro a F
  refine stepD rfl F rfl (o_assign (F.ev rfl) ?_); clear F; clear a; intro a F
  with_reducible refine l_nil ?_
  with_reducible refine q_then ?_
  with_reducible refine c_ret ?_
  refine p_ret F rfl (.cons (.tmp (F.ev rfl)) .nil) ?_
  exact ⟨rfl, M.ext⟩
set_option maxHeartbeats 400000 in
theorem cmp_int (x y : Int) (W : World) : Cal Try.prog 94 [.int .i64 x, .int .i64 y].toArray W fun v w' => v = .int .i64 (cmpV x y) ∧ Ext [] W w' := by
  have hcase : x < y ∨ y < x ∨ x = y := by omega
  unfold cmpV
  rcases hcase with h | h | h
  · rw [if_pos h]
    refine fn_ofM (n := 20) [] Try.func94 rfl rfl rfl ?_
    intro a w F M hwW
    with_reducible refine c_seq ?_
    with_reducible refine c_region ?_
    refine stepD rfl F rfl (o_assign (F.ev rfl) ?_); clear F; clear a; intro a F
    with_reducible refine l_nil ?_
    with_reducible refine q_then ?_
    with_reducible refine c_seq ?_
    with_reducible refine c_region ?_
    refine stepD rfl F rfl (o_move (F.ev rfl) ?_); clear F; clear a; intro a F
    (refine stepD rfl F rfl (o_call (F.ev rfl) (F.evs rfl) (Cal.mono (nan_int x _) ?_)); clear F; clear a; rintro _ w ⟨rfl, hE⟩ a F; replace M := M.later hE; clear hE)
    refine stepD rfl F rfl (o_assign (F.ev rfl) ?_); clear F; clear a; intro a F
    with_reducible refine l_nil ?_
    with_reducible refine q_then ?_
    with_reducible refine c_seq ?_
    with_reducible refine c_region ?_
    refine stepD rfl F rfl (o_move (F.ev rfl) ?_); clear F; clear a; intro a F
    (refine stepD rfl F rfl (o_call (F.ev rfl) (F.evs rfl) (Cal.mono (nan_int y _) ?_)); clear F; clear a; rintro _ w ⟨rfl, hE⟩ a F; replace M := M.later hE; clear hE)
    refine stepD rfl F rfl (o_assign (F.ev rfl) ?_); clear F; clear a; intro a F
    with_reducible refine l_nil ?_
    with_reducible refine q_then ?_
    with_reducible refine c_seq ?_
    with_reducible refine c_seq ?_
    with_reducible refine c_region ?_
    refine stepD rfl F rfl (o_move (F.ev rfl) ?_); clear F; clear a; intro a F
    with_reducible refine l_nil ?_
    with_reducible refine q_then ?_
    refine c_false F rfl rfl ?_
    with_reducible refine c_skip ?_
    with_reducible refine q_then ?_
    with_reducible refine c_seq ?_
    with_reducible refine c_seq ?_
    with_reducible refine c_region ?_
    refine stepD rfl F rfl (o_move (F.ev rfl) ?_); clear F; clear a; intro a F
    with_reducible refine l_nil ?_
    with_reducible refine q_then ?_
    refine c_false F rfl rfl ?_
    with_reducible refine c_skip ?_
    with_reducible refine q_then ?_
    with_reducible refine c_seq ?_
    with_reducible refine c_seq ?_
    with_reducible refine c_region ?_
    refine stepD rfl F rfl (o_move (F.ev rfl) ?_); clear F; clear a; intro a F
    refine stepD rfl F rfl (o_move (F.ev rfl) ?_); clear F; clear a; intro a F
    refine stepD rfl F rfl (o_lssT (F.ev rfl) (F.ev rfl) (by omega) ?_); clear F; clear a; intro a F
    with_reducible refine l_nil ?_
    with_reducible refine q_then ?_
    refine c_true F rfl rfl ?_
    with_reducible refine c_seq ?_
    with_reducible refine c_region ?_
    refine stepD rfl F rfl (o_assign (F.ev rfl) ?_); clear F; clear a; intro a F
    with_reducible refine l_nil ?_
    with_reducible refine q_then ?_
    with_reducible refine c_ret ?_
    with_reducible refine q_thenR ?_
    refine p_ret F rfl (.cons (.tmp (F.ev rfl)) .nil) ?_
    exact ⟨rfl, M.ext⟩
  · rw [if_neg (by omega), if_pos h]
    refine fn_ofM (n := 20) [] Try.func94 rfl rfl rfl ?_
    intro a w F M hwW
    with_reducible refine c_seq ?_
    with_reducible refine c_region ?_
    refine stepD rfl F rfl (o_assign (F.ev rfl) ?_); clear F; clear a; intro a F
    with_reducible refine l_nil ?_
    with_reducible refine q_then ?_
    with_reducible refine c_seq ?_
    with_reducible refine c_region ?_
    refine stepD rfl F rfl (o_move (F.ev rfl) ?_); clear F; clear a; intro a F
    (refine stepD rfl F rfl (o_call (F.ev rfl) (F.evs rfl) (Cal.mono (nan_int x _) ?_)); clear F; clear a; rintro _ w ⟨rfl, hE⟩ a F; replace M := M.later hE; clear hE)
    refine stepD rfl F rfl (o_assign (F.ev rfl) ?_); clear F; clear a; intro a F
    with_reducible refine l_nil ?_
    with_reducible refine q_then ?_
    with_reducible refine c_seq ?_
    with_reducible refine c_region ?_
    refine stepD rfl F rfl (o_move (F.ev rfl) ?_); clear F; clear a; intro a F
    (refine stepD rfl F rfl (o_call (F.ev rfl) (F.evs rfl) (Cal.mono (nan_int y _) ?_)); clear F; clear a; rintro _ w ⟨rfl, hE⟩ a F; replace M := M.later hE; clear hE)
    refine stepD rfl F rfl (o_assign (F.ev rfl) ?_); clear F; clear a; intro a F
    with_reducible refine l_nil ?_
    with_reducible refine q_then ?_
    with_reducible refine c_seq ?_
    with_reducible refine c_seq ?_
    with_reducible refine c_region ?_
    refine stepD rfl F rfl (o_move (F.ev rfl) ?_); clear F; clear a; intro a F
    with_reducible refine l_nil ?_
    with_reducible refine q_then ?_
    refine c_false F rfl rfl ?_
    with_reducible refine c_skip ?_
    with_reducible refine q_then ?_
    with_reducible refine c_seq ?_
    with_reducible refine c_seq ?_
    with_reducible refine c_region ?_
    refine stepD rfl F rfl (o_move (F.ev rfl) ?_); clear F; clear a; intro a F
    with_reducible refine l_nil ?_
    with_reducible refine q_then ?_
    refine c_false F rfl rfl ?_
    with_reducible refine c_skip ?_
    with_reducible refine q_then ?_
    with_reducible refine c_seq ?_
    with_reducible refine c_seq ?_
    with_reducible refine c_region ?_
    refine stepD rfl F rfl (o_move (F.ev rfl) ?_); clear F; clear a; intro a F
    refine stepD rfl F rfl (o_move (F.ev rfl) ?_); clear F; clear a; intro a F
    refine stepD rfl F rfl (o_lssF (F.ev rfl) (F.ev rfl) (by omega) ?_); clear F; clear a; intro a F
    with_reducible refine l_nil ?_
    with_reducible refine q_then ?_
    refine c_false F rfl rfl ?_
    with_reducible refine c_skip ?_
    with_reducible refine q_then ?_
    with_reducible refine c_seq ?_
    with_reducible refine c_seq ?_
    with_reducible refine c_region ?_
    refine stepD rfl F rfl (o_move (F.ev rfl) ?_); clear F; clear a; intro a F
    refine stepD rfl F rfl (o_move (F.ev rfl) ?_); clear F; clear a; intro a F
    refine stepD rfl F rfl (o_gtrT (F.ev rfl) (F.ev rfl) (by omega) ?_); clear F; clear a; intro a F
    with_reducible refine l_nil ?_
    with_reducible refine q_then ?_
    refine c_true F rfl rfl ?_
    with_reducible refine c_seq ?_
    with_reducible refine c_region ?_
    refine stepD rfl F rfl (o_assign (F.ev rfl) ?_); clear F; clear a; intro a F
    with_reducible refine l_nil ?_
    with_reducible refine q_then ?_
    with_reducible refine c_ret ?_
    with_reducible refine q_thenR ?_
    refine p_ret F rfl (.cons (.tmp (F.ev rfl)) .nil) ?_
    exact ⟨rfl, M.ext⟩
  · rw [if_neg (by omega), if_neg (by omega)]
    refine fn_ofM (n := 20) [] Try.func94 rfl rfl rfl ?_
    intro a w F M hwW
    with_reducible refine c_seq ?_
    with_reducible refine c_region ?_
    refine stepD rfl F rfl (o_assign (F.ev rfl) ?_); clear F; clear a; intro a F
    with_reducible refine l_nil ?_
    with_reducible refine q_then ?_
    with_reducible refine c_seq ?_
    with_reducible refine c_region ?_
    refine stepD rfl F rfl (o_move (F.ev rfl) ?_); clear F; clear a; intro a F
    (refine stepD rfl F rfl (o_call (F.ev rfl) (F.evs rfl) (Cal.mono (nan_int x _) ?_)); clear F; clear a; rintro _ w ⟨rfl, hE⟩ a F; replace M := M.later hE; clear hE)
    refine stepD rfl F rfl (o_assign (F.ev rfl) ?_); clear F; clear a; intro a F
    with_reducible refine l_nil ?_
    with_reducible refine q_then ?_
    with_reducible refine c_seq ?_
    with_reducible refine c_region ?_
    refine stepD rfl F rfl (o_move (F.ev rfl) ?_); clear F; clear a; intro a F
    (refine stepD rfl F rfl (o_call (F.ev rfl) (F.evs rfl) (Cal.mono (nan_int y _) ?_)); clear F; clear a; rintro _ w ⟨rfl, hE⟩ a F; replace M := M.later hE; clear hE)
    refine stepD rfl F rfl (o_assign (F.ev rfl) ?_); clear F; clear a; intro a F
    with_reducible refine l_nil ?_
    with_reducible refine q_then ?_
    with_reducible refine c_seq ?_
    with_reducible refine c_seq ?_
    with_reducible refine c_region ?_
    refine stepD rfl F rfl (o_move (F.ev rfl) ?_); clear F; clear a; intro a F
    with_reducible refine l_nil ?_
    with_reducible refine q_then ?_
    refine c_false F rfl rfl ?_
    with_reducible refine c_skip ?_
    with_reducible refine q_then ?_
    with_reducible refine c_seq ?_
    with_reducible refine c_seq ?_
    with_reducible refine c_region ?_
    refine stepD rfl F rfl (o_move (F.ev rfl) ?_); clear F; clear a; intro a F
    with_reducible refine l_nil ?_
    with_reducible refine q_then ?_
    refine c_false F rfl rfl ?_
    with_reducible refine c_skip ?_
    with_reducible refine q_then ?_
    with_reducible refine c_seq ?_
    with_reducible refine c_seq ?_
    with_reducible refine c_region ?_
    refine stepD rfl F rfl (o_move (F.ev rfl) ?_); clear F; clear a; intro a F
    refine stepD rfl F rfl (o_move (F.ev rfl) ?_); clear F; clear a; intro a F
    refine stepD rfl F rfl (o_lssF (F.ev rfl) (F.ev rfl) (by omega) ?_); clear F; clear a; intro a F
    with_reducible refine l_nil ?_
    with_reducible refine q_then ?_
    refine c_false F rfl rfl ?_
    with_reducible refine c_skip ?_
    with_reducible refine q_then ?_
    with_reducible refine c_seq ?_
    with_reducible refine c_seq ?_
    with_reducible refine c_region ?_
    refine stepD rfl F rfl (o_move (F.ev rfl) ?_); clear F; clear a; intro a F
    refine stepD rfl F rfl (o_move (F.ev rfl) ?_); clear F; clear a; intro a F
    refine stepD rfl F rfl (o_gtrF (F.ev rfl) (F.ev rfl) (by omega) ?_); clear F; clear a; intro a F
    with_reducible refine l_nil ?_
    with_reducible refine q_then ?_
    refine c_false F rfl rfl ?_
    with_reducible refine c_skip ?_
    with_reducible refine q_then ?_
    with_reducible refine c_seq ?_
    with_reducible refine c_region ?_
    refine stepD rfl F rfl (o_assign (F.ev rfl) ?_); clear F; clear a; intro a F
    with_reducible refine l_nil ?_
    with_reducible refine q_then ?_
    with_reducible refine c_ret ?_
    refine p_ret F rfl (.cons (.tmp (F.ev rfl)) .nil) ?_
    exact ⟨rfl, M.ext⟩
theorem nan_eui (x : Int) (W : World) : Cal Try.prog 124 [.int .u64 x].toArray W fun v w' => v = .bool false ∧ Ext [] W w' := by
  refine fn_ofM (n := 6) [] Try.func124 rfl rfl rfl ?_
  intro a w F M hwW
  with_reducible refine c_seq ?_
  with_reducible refine c_region ?_
  refine stepD rfl F rfl (o_assign (F.ev rfl) ?_); clear F; clear a; intro a F
  with_reducible refine l_nil ?_
  with_reducible refine q_then ?_
  with_reducible refine c_seq ?_
  with_reducible refine c_region ?_
  refine stepD rfl F rfl (o_move (F.ev rfl) ?_); clear F; clear a; intro a F
  refine stepD rfl F rfl (o_move (F.ev rfl) ?_); clear F; clear a; intro a F
  refine stepD rfl F rfl (o_neqF (F.ev rfl) (F.ev rfl) (by omega) ?_); clear F; clear a; intro a F
  refine stepD rfl F rfl (o_assign (F.ev rfl) ?_); clear F; clear a; intro a F
  with_reducible refine l_nil ?_
  with_reducible refine q_then ?_
  with_reducible refine c_ret ?_
  refine p_ret F rfl (.cons (.tmp (F.ev rfl)) .nil) ?_
  exact ⟨rfl, M.ext⟩
set_option maxHeartbeats 400000 in
theorem cmp_eui (x y : Int) (W : World) : Cal Try.prog 95 [.int .u64 x, .int .u64 y].toArray W fun v w' => v = .int .i64 (cmpV x y) ∧ Ext [] W w' := by
  have hcase : x < y ∨ y < x ∨ x = y := by omega
  unfold cmpV
  rcases hcase with h | h | h
  · rw [if_pos h]
    refine fn_ofM (n := 20) [] Try.func95 rfl rfl rfl ?_
    intro a w F M hwW
    with_reducible refine c_seq ?_
    with_reducible refine c_region ?_
    refine stepD rfl F rfl (o_assign (F.ev rfl) ?_); clear F; clear a; intro a F
    with_reducible refine l_nil ?_
    with_reducible refine q_then ?_
    with_reducible refine c_seq ?_
    with_reducible refine c_region ?_
    refine stepD rfl F rfl (o_move (F.ev rfl) ?_); clear F; clear a; intro a F
    (refine stepD rfl F rfl (o_call (F.ev rfl) (F.evs rfl) (Cal.mono (nan_eui x _) ?_)); clear F; clear a; rintro _ w ⟨rfl, hE⟩ a F; replace M := M.later hE; clear hE)
    refine stepD rfl F rfl (o_assign (F.ev rfl) ?_); clear F; clear a; intro a F
    with_reducible refine l_nil ?_
    with_reducible refine q_then ?_
    with_reducible refine c_seq ?_
    with_reducible refine c_region ?_
    refine stepD rfl F rfl (o_move (F.ev rfl) ?_); clear F; clear a; intro a F
    (refine stepD rfl F rfl (o_call (F.ev rfl) (F.evs rfl) (Cal.mono (nan_eui y _) ?_)); clear F; clear a; rintro _ w ⟨rfl, hE⟩ a F; replace M := M.later hE; clear hE)
    refine stepD rfl F rfl (o_assign (F.ev rfl) ?_); clear F; clear a; intro a F
    with_reducible refine l_nil ?_
    with_reducible refine q_then ?_
    with_reducible refine c_seq ?_
    with_reducible refine c_seq ?_
    with_reducible refine c_region ?_
    refine stepD rfl F rfl (o_move (F.ev rfl) ?_); clear F; clear a; intro a F
    with_reducible refine l_nil ?_
    with_reducible refine q_then ?_
    refine c_false F rfl rfl ?_
    with_reducible refine c_skip ?_
    with_reducible refine q_then ?_
    with_reducible refine c_seq ?_
    with_reducible refine c_seq ?_
    with_reducible refine c_region ?_
    refine stepD rfl F rfl (o_move (F.ev rfl) ?_); clear F; clear a; intro a F
    with_reducible refine l_nil ?_
    with_reducible refine q_then ?_
    refine c_false F rfl rfl ?_
    with_reducible refine c_skip ?_
    with_reducible refine q_then ?_
    with_reducible refine c_seq ?_
    with_reducible refine c_seq ?_
    with_reducible refine c_region ?_
    refine stepD rfl F rfl (o_move (F.ev rfl) ?_); clear F; clear a; intro a F
    refine stepD rfl F rfl (o_move (F.ev rfl) ?_); clear F; clear a; intro a F
    refine stepD rfl F rfl (o_lssT (F.ev rfl) (F.ev rfl) (by omega) ?_); clear F; clear a; intro a F
    with_reducible refine l_nil ?_
    with_reducible refine q_then ?_
    refine c_true F rfl rfl ?_
    with_reducible refine c_seq ?_
    with_reducible refine c_region ?_
    refine stepD rfl F rfl (o_assign (F.ev rfl) ?_); clear F; clear a; intro a F
    with_reducible refine l_nil ?_
    with_reducible refine q_then ?_
    with_reducible refine c_ret ?_
    with_reducible refine q_thenR ?_
    refine p_ret F rfl (.cons (.tmp (F.ev rfl)) .nil) ?_
    exact ⟨rfl, M.ext⟩
  · rw [if_neg (by omega), if_pos h]
    refine fn_ofM (n := 20) [] Try.func95 rfl rfl rfl ?_
    intro a w F M hwW
    with_reducible refine c_seq ?_
    with_reducible refine c_region ?_
    refine stepD rfl F rfl (o_assign (F.ev rfl) ?_); clear F; clear a; intro a F
    with_reducible refine l_nil ?_
    with_reducible refine q_then ?_
    with_reducible refine c_seq ?_
    with_reducible refine c_region ?_
    refine stepD rfl F rfl (o_move (F.ev rfl) ?_); clear F; clear a; intro a F
    (refine stepD rfl F rfl (o_call (F.ev rfl) (F.evs rfl) (Cal.mono (nan_eui x _) ?_)); clear F; clear a; rintro _ w ⟨rfl, hE⟩ a F; replace M := M.later hE; clear hE)
    refine stepD rfl F rfl (o_assign (F.ev rfl) ?_); clear F; clear a; intro a F
    with_reducible refine l_nil ?_
    with_reducible refine q_then ?_
    with_reducible refine c_seq ?_
    with_reducible refine c_region ?_
    refine stepD rfl F rfl (o_move (F.ev rfl) ?_); clear F; clear a; intro a F
    (refine stepD rfl F rfl (o_call (F.ev rfl) (F.evs rfl) (Cal.mono (nan_eui y _) ?_)); clear F; clear a; rintro _ w ⟨rfl, hE⟩ a F; replace M := M.later hE; clear hE)
    refine stepD rfl F rfl (o_assign (F.ev rfl) ?_); clear F; clear a; intro a F
    with_reducible refine l_nil ?_
    with_reducible refine q_then ?_
    with_reducible refine c_seq ?_
    with_reducible refine c_seq ?_
    with_reducible refine c_region ?_
    refine stepD rfl F rfl (o_move (F.ev rfl) ?_); clear F; clear a; intro a F
    with_reducible refine l_nil ?_
    with_reducible refine q_then ?_
    refine c_false F rfl rfl ?_
    with_reducible refine c_skip ?_
    with_reducible refine q_then ?_
    with_reducible refine c_seq ?_
    with_reducible refine c_seq ?_
    with_reducible refine c_region ?_
    refine stepD rfl F rfl (o_move (F.ev rfl) ?_); clear F; clear a; intro a F
    with_reducible refine l_nil ?_
    with_reducible refine q_then ?_
    refine c_false F rfl rfl ?_
    with_reducible refine c_skip ?_
    with_reducible refine q_then ?_
    with_reducible refine c_seq ?_
    with_reducible refine c_seq ?_
    with_reducible refine c_region ?_
    refine stepD rfl F rfl (o_move (F.ev rfl) ?_); clear F; clear a; intro a F
    refine stepD rfl F rfl (o_move (F.ev rfl) ?_); clear F; clear a; intro a F
    refine stepD rfl F rfl (o_lssF (F.ev rfl) (F.ev rfl) (by omega) ?_); clear F; clear a; intro a F
    with_reducible refine l_nil ?_
    with_reducible refine q_then ?_
    refine c_false F rfl rfl ?_
    with_reducible refine c_skip ?_
    with_reducible refine q_then ?_
    with_reducible refine c_seq ?_
    with_reducible refine c_seq ?_
    with_reducible refine c_region ?_
    refine stepD rfl F rfl (o_move (F.ev rfl) ?_); clear F; clear a; intro a F
    refine stepD rfl F rfl (o_move (F.ev rfl) ?_); clear F; clear a; intro a F
    refine stepD rfl F rfl (o_gtrT (F.ev rfl) (F.ev rfl) (by omega) ?_); clear F; clear a; intro a F
    with_reducible refine l_nil ?_
    with_reducible refine q_then ?_
    refine c_true F rfl rfl ?_
    with_reducible refine c_seq ?_
    with_reducible refine c_region ?_
    refine stepD rfl F rfl (o_assign (F.ev rfl) ?_); clear F; clear a; intro a F
    with_reducible refine l_nil ?_
    with_reducible refine q_then ?_
    with_reducible refine c_ret ?_
    with_reducible refine q_thenR ?_
    refine p_ret F rfl (.cons (.tmp (F.ev rfl)) .nil) ?_
    exact ⟨rfl, M.ext⟩
  · rw [if_neg (by omega), if_neg (by omega)]
    refine fn_ofM (n := 20) [] Try.func95 rfl rfl rfl ?_
    intro a w F M hwW
    with_reducible refine c_seq ?_
    with_reducible refine c_region ?_
    refine stepD rfl F rfl (o_assign (F.ev rfl) ?_); clear F; clear a; intro a F
    with_reducible refine l_nil ?_
    with_reducible refine q_then ?_
    with_reducible refine c_seq ?_
    with_reducible refine c_region ?_
    refine stepD rfl F rfl (o_move (F.ev rfl) ?_); clear F; clear a; intro a F
    (refine stepD rfl F rfl (o_call (F.ev rfl) (F.evs rfl) (Cal.mono (nan_eui x _) ?_)); clear F; clear a; rintro _ w ⟨rfl, hE⟩ a F; replace M := M.later hE; clear hE)
    refine stepD rfl F rfl (o_assign (F.ev rfl) ?_); clear F; clear a; intro a F
    with_reducible refine l_nil ?_
    with_reducible refine q_then ?_
    with_reducible refine c_seq ?_
    with_reducible refine c_region ?_
    refine stepD rfl F rfl (o_move (F.ev rfl) ?_); clear F; clear a; intro a F
    (refine stepD rfl F rfl (o_call (F.ev rfl) (F.evs rfl) (Cal.mono (nan_eui y _) ?_)); clear F; clear a; rintro _ w ⟨rfl, hE⟩ a F; replace M := M.later hE; clear hE)
    refine stepD rfl F rfl (o_assign (F.ev rfl) ?_); clear F; clear a; intro a F
    with_reducible refine l_nil ?_
    with_reducible refine q_then ?_
    with_reducible refine c_seq ?_
    with_reducible refine c_seq ?_
    with_reducible refine c_region ?_
    refine stepD rfl F rfl (o_move (F.ev rfl) ?_); clear F; clear a; intro a F
    with_reducible refine l_nil ?_
    with_reducible refine q_then ?_
    refine c_false F rfl rfl ?_
    with_reducible refine c_skip ?_
    with_reducible refine q_then ?_
    with_reducible refine c_seq ?_
    with_reducible refine c_seq ?_
    with_reducible refine c_region ?_
    refine stepD rfl F rfl (o_move (F.ev rfl) ?_); clear F; clear a; intro a F
    with_reducible refine l_nil ?_
    with_reducible refine q_then ?_
    refine c_false F rfl rfl ?_
    with_reducible refine c_skip ?_
    with_reducible refine q_then ?_
    with_reducible refine c_seq ?_
    with_reducible refine c_seq ?_
    with_reducible refine c_region ?_
    refine stepD rfl F rfl (o_move (F.ev rfl) ?_); clear F; clear a; intro a F
    refine stepD rfl F rfl (o_move (F.ev rfl) ?_); clear F; clear a; intro a F
    refine stepD rfl F rfl (o_lssF (F.ev rfl) (F.ev rfl) (by omega) ?_); clear F; clear a; intro a F
    with_reducible refine l_nil ?_
    with_reducible refine q_then ?_
    refine c_false F rfl rfl ?_
    with_reducible refine c_skip ?_
    with_reducible refine q_then ?_
    with_reducible refine c_seq ?_
    with_reducible refine c_seq ?_
    with_reducible refine c_region ?_
    refine stepD rfl F rfl (o_move (F.ev rfl) ?_); clear F; clear a; intro a F
    refine stepD rfl F rfl (o_move (F.ev rfl) ?_); clear F; clear a; intro a F
    refine stepD rfl F rfl (o_gtrF (F.ev rfl) (F.ev rfl) (by omega) ?_); clear F; clear a; intro a F
    with_reducible refine l_nil ?_
    with_reducible refine q_then ?_
    refine c_false F rfl rfl ?_
    with_reducible refine c_skip ?_
    with_reducible refine q_then ?_
    with_reducible refine c_seq ?_
    with_reducible refine c_region ?_
    refine stepD rfl F rfl (o_assign (F.ev rfl) ?_); clear F; clear a; intro a F
    with_reducible refine l_nil ?_
    with_reducible refine q_then ?_
    with_reducible refine c_ret ?_
    refine p_ret F rfl (.cons (.tmp (F.ev rfl)) .nil) ?_
    exact ⟨rfl, M.ext⟩
/-- the first that is not 0 -/
def orV : List Int → Int
  | [] => 0
  | x :: xs => if x = 0 then orV xs else x
theorem seg_int {cs : List Value} {off n i : Nat} {xs : List Int} (h : seg cs off n = some (i64C xs)) (hi : i < n) {q : Nat} (hq : q = off + i) : nth cs q = some (.int .i64 (xs.getD i 0)) := by
  obtain ⟨h1, h2⟩ := seg_spec _ _ _ _ h
  have := h2 i hi
  subst hq
  rw [nth_spec, this]
  have hxn : xs.length = n := by simpa [i64C] using h1
  have hl : i < xs.length := by omega
  simp [i64C, hl]
set_option maxHeartbeats 400000 in
theorem or_c {b : Nat} {t : TypeId} {fz : Nat × Nat} (xs : List Int) (n : Nat) (hn : xs.length = n) (hn2 : n ≤ 1000) (W : World) (hb : W.heap[b]? = some (.cells (i64C xs).toArray t fz)) : Cal Try.prog 92 [.slice (some ⟨b, 0, none⟩) n n].toArray W fun v w' => v = .int .i64 (orV xs) ∧ Ext [] W w' := by
  have hs : seg (i64C xs) 0 n = some (i64C xs) := seg_all (by simp [i64C, hn])
  refine fn_ofM (n := 18) [b] Try.func92 rfl rfl rfl ?_
  intro a w F M hwW
  replace M := M.came hwW hb (by simp) (by simp)
  with_reducible refine c_seq ?_
  with_reducible refine c_region ?_
  refine stepD rfl F rfl (o_assign (F.ev rfl) ?_); clear F; clear a; intro a F
  with_reducible refine l_nil ?_
  with_reducible refine q_then ?_
  with_reducible refine c_seq ?_
  with_reducible refine c_region ?_
  refine stepD rfl F rfl (o_assign (F.ev rfl) ?_); clear F; clear a; intro a F
  with_reducible refine l_nil ?_
  with_reducible refine q_then ?_
  with_reducible refine c_seq ?_
  with_reducible refine c_seq ?_
  with_reducible refine c_region ?_
  refine stepD rfl F rfl (o_move (F.ev rfl) ?_); clear F; clear a; intro a F
  refine stepD rfl F rfl (o_lenSl (F.ev rfl) ?_); clear F; clear a; intro a F
  refine stepD rfl F rfl (o_move (F.ev rfl) ?_); clear F; clear a; intro a F
  with_reducible refine l_nil ?_
  with_reducible refine q_then ?_
  with_reducible refine c_block ?_
  refine c_loop (fun k a w => ∃ i : Nat, k = n - i ∧ i ≤ n ∧ orV xs = orV (xs.drop i) ∧ Frm a 18 [] [(8, .int .i64 i), (7, .int .i64 n), (6, .slice (some ⟨b, 0, none⟩) n n), (3, .int .i64 0)] ∧ Mem [b] W w [(b, .cells (i64C xs).toArray t fz)]) n ⟨0, rfl, by omega, rfl, F.only [8, 7, 6, 3] rfl, M⟩ ?_
  clear F M
  rintro k a w ⟨i, hk, hi, hor, F, M⟩
  by_cases hlt : i < n
  · have e1 := seg_int hs hlt (q := 0 + (i : Int).toNat * 1) (by omega)
    have hd : xs.drop i = xs.getD i 0 :: xs.drop (i + 1) := by
      rw [List.drop_eq_getElem_cons (by omega), List.getD_eq_getElem?_getD, List.getElem?_eq_getElem (by omega)]; rfl
    rw [hd] at hor
    by_cases h0 : xs.getD i 0 = 0
    · with_reducible refine c_seq ?_
      with_reducible refine c_region ?_
      refine stepD rfl F rfl (o_lssT (F.ev rfl) (F.ev rfl) (by omega) ?_); clear F; clear a; intro a F
      with_reducible refine l_nil ?_
      with_reducible refine q_then ?_
      with_reducible refine c_seq ?_
      refine c_true F rfl rfl ?_
      with_reducible refine c_skip ?_
      with_reducible refine q_then ?_
      with_reducible refine c_seq ?_
      with_reducible refine c_block ?_
      with_reducible refine c_seq ?_
      with_reducible refine c_region ?_
      refine stepD rfl F rfl (o_indexSl (F.ev rfl) (F.ev rfl) (by omega) (by omega) ?_); clear F; clear a; intro a F
      refine stepD rfl F rfl (o_load1 M (F.ev rfl) (by repeat (first | exact .here | apply Has.there)) (by first | assumption | rfl) ?_); clear F; clear a; intro a F
      refine stepD rfl F rfl (o_assign (F.ev rfl) ?_); clear F; clear a; intro a F
      with_reducible refine l_nil ?_
      with_reducible refine q_then ?_
      with_reducible refine c_seq ?_
      with_reducible refine c_region ?_
      refine stepD rfl F rfl (o_move (F.ev rfl) ?_); clear F; clear a; intro a F
      refine stepD rfl F rfl (o_move (F.ev rfl) ?_); clear F; clear a; intro a F
      refine stepD rfl F rfl (o_neqF (F.ev rfl) (F.ev rfl) (by omega) ?_); clear F; clear a; intro a F
      with_reducible refine l_nil ?_
      with_reducible refine q_then ?_
      refine c_false F rfl rfl ?_
      with_reducible refine c_skip ?_
      with_reducible refine q_inB ?_
      with_reducible refine q_then ?_
      with_reducible refine c_region ?_
      refine stepD rfl F rfl (o_add (F.ev rfl) (F.ev rfl) (w_i64 (by omega) (by omega)) ?_); clear F; clear a; intro a F
      refine stepD rfl F rfl (o_move (F.ev rfl) ?_); clear F; clear a; intro a F
      with_reducible refine l_nil ?_
      with_reducible refine q_then ?_
      exact ⟨_, by omega, i + 1, rfl, by omega, by rw [hor]; simp only [orV, h0, if_true], F.only [8, 7, 6, 3] rfl, M⟩
    · with_reducible refine c_seq ?_
      with_reducible refine c_region ?_
      refine stepD rfl F rfl (o_lssT (F.ev rfl) (F.ev rfl) (by omega) ?_); clear F; clear a; intro a F
      with_reducible refine l_nil ?_
      with_reducible refine q_then ?_
      with_reducible refine c_seq ?_
      refine c_true F rfl rfl ?_
      with_reducible refine c_skip ?_
      with_reducible refine q_then ?_
      with_reducible refine c_seq ?_
      with_reducible refine c_block ?_
      with_reducible refine c_seq ?_
      with_reducible refine c_region ?_
      refine stepD rfl F rfl (o_indexSl (F.ev rfl) (F.ev rfl) (by omega) (by omega) ?_); clear F; clear a; intro a F
      refine stepD rfl F rfl (o_load1 M (F.ev rfl) (by repeat (first | exact .here | apply Has.there)) (by first | assumption | rfl) ?_); clear F; clear a; intro a F
      refine stepD rfl F rfl (o_assign (F.ev rfl) ?_); clear F; clear a; intro a F
      with_reducible refine l_nil ?_
      with_reducible refine q_then ?_
      with_reducible refine c_seq ?_
      with_reducible refine c_region ?_
      refine stepD rfl F rfl (o_move (F.ev rfl) ?_); clear F; clear a; intro a F
      refine stepD rfl F rfl (o_move (F.ev rfl) ?_); clear F; clear a; intro a F
      refine stepD rfl F rfl (o_neqT (F.ev rfl) (F.ev rfl) (by omega) ?_); clear F; clear a; intro a F
      with_reducible refine l_nil ?_
      with_reducible refine q_then ?_
      refine c_true F rfl rfl ?_
      with_reducible refine c_seq ?_
      with_reducible refine c_region ?_
      refine stepD rfl F rfl (o_move (F.ev rfl) ?_); clear F; clear a; intro a F
      refine stepD rfl F rfl (o_assign (F.ev rfl) ?_); clear F; clear a; intro a F
      with_reducible refine l_nil ?_
      with_reducible refine q_then ?_
      with_reducible refine c_ret ?_
      with_reducible refine q_inBR ?_
      with_reducible refine q_thenR ?_
      with_reducible refine q_thenR ?_
      with_reducible refine q_inBR ?_
      with_reducible refine q_thenR ?_
      refine p_ret F rfl (.cons (.tmp (F.ev rfl)) .nil) ?_
      exact ⟨by rw [hor]; simp only [orV, h0, if_false]; rfl, M.back1 .here hb⟩
  · obtain rfl : i = n := by omega
    rw [List.drop_of_length_le (by omega)] at hor
    with_reducible refine c_seq ?_
    with_reducible refine c_region ?_
    refine stepD rfl F rfl (o_lssF (F.ev rfl) (F.ev rfl) (by omega) ?_); clear F; clear a; intro a F
    with_reducible refine l_nil ?_
    with_reducible refine q_then ?_
    with_reducible refine c_seq ?_
    refine c_false F rfl rfl ?_
    with_reducible refine c_exit ?_
    with_reducible refine q_thenX ?_
    with_reducible refine q_thenX ?_
    with_reducible refine q_inBX ?_
    with_reducible refine q_then ?_
    with_reducible refine c_seq ?_
    with_reducible refine c_region ?_
    refine stepD rfl F rfl (o_move (F.ev rfl) ?_); clear F; clear a; intro a F
    refine stepD rfl F rfl (o_assign (F.ev rfl) ?_); clear F; clear a; intro a F
    with_reducible refine l_nil ?_
    with_reducible refine q_then ?_
    with_reducible refine c_ret ?_
    refine p_ret F rfl (.cons (.tmp (F.ev rfl)) .nil) ?_
    exact ⟨by rw [hor]; rfl, M.back1 .here hb⟩
end
section
set_option linter.unusedVariables false
set_option linter.unusedSimpArgs false
open Go.RowKit
attribute [local irreducible] OpTo wpListIn Code.wpIn MW Cal
end
section
set_option linter.unusedVariables false
set_option linter.unusedSimpArgs false
open Go.RowKit
end
section
set_option linter.unusedVariables false
set_option linter.unusedSimpArgs false
open Go.RowKit
attribute [local irreducible] OpTo wpListIn Code.wpIn MW Cal
end
section
set_option linter.unusedVariables false
set_option linter.unusedSimpArgs false
open Go.RowKit
attribute [local irreducible] OpTo wpListIn Code.wpIn MW Cal
end
section
set_option linter.unusedVariables false
set_option linter.unusedSimpArgs false
open Go.RowKit
attribute [local irreducible] OpTo wpListIn Code.wpIn MW Cal
end
section
set_option linter.unusedVariables false
set_option linter.unusedSimpArgs false
open Go.RowKit
attribute [local irreducible] OpTo wpListIn Code.wpIn MW Cal
theorem IsIP.set {ip : List Int} (h : IsIP ip) (i : Nat) {x : Int} (h0 : 0 ≤ x) (h1 : x < 256) : IsIP (ip.set i x) :=
  ⟨by rw [List.length_set]; exact h.len, fun y hy => by
    rcases List.mem_or_eq_of_mem_set hy with hy | rfl
    · exact h.bd y hy
    · exact ⟨h0, h1⟩⟩
end
section
set_option linter.unusedVariables false
set_option linter.unusedSimpArgs false
open Go.RowKit
end
section
set_option linter.unusedVariables false
set_option linter.unusedSimpArgs false
open Go.RowKit
attribute [local irreducible] OpTo wpListIn Code.wpIn MW Cal
end
end Go.Proofs.Ytilgoepokaaleaa
/-! LibQ -/
namespace Go.Proofs.Ytilgoepokaaleaa
set_option linter.unusedVariables false
set_option linter.unusedSimpArgs false
open Go.RowKit
theorem sg_eq : ∀ (cs : List Value) (off n : Nat), seg cs off n = if off + n ≤ cs.length then some ((cs.drop off).take n) else none
  | [], 0, 0 => by simp [seg]
  | [], 0, n + 1 => by simp [seg]
  | [], off + 1, n => by simp [seg]
  | x :: xs, 0, 0 => by simp [seg]
  | x :: xs, 0, n + 1 => by
    rw [seg, sg_eq xs 0 n]
    by_cases h : n ≤ xs.length
    · rw [if_pos (by omega), if_pos (by simp; omega)]; simp
    · rw [if_neg (by omega), if_neg (by simp; omega)]
  | x :: xs, off + 1, n => by
    rw [seg, sg_eq xs off n]
    by_cases h : off + n ≤ xs.length
    · rw [if_pos h, if_pos (by simp; omega)]; simp
    · rw [if_neg h, if_neg (by simp; omega)]
theorem sg_seg {cs ys zs : List Value} {o n off k q : Nat} (h : seg cs o n = some ys) (h2 : seg ys off k = some zs) (hq : q = o + off) : seg cs q k = some zs := by
  subst hq
  rw [sg_eq] at *
  split at h
  · rename_i h1
    simp only [Option.some.injEq] at h
    subst h
    split at h2
    · rename_i h3
      simp only [List.length_take, List.length_drop] at h3
      simp only [Option.some.injEq] at h2
      subst h2
      rw [if_pos (by omega)]
      congr 1
      rw [List.drop_take, List.take_take, List.drop_drop]
      congr 1
      omega
    · cases h2
  · cases h
theorem sg_nth {cs ys : List Value} {o n off q : Nat} {v : Value} (h : seg cs o n = some ys) (h2 : nth ys off = some v) (hq : q = o + off) : nth cs q = some v := by
  subst hq
  obtain ⟨h3, h4⟩ := seg_spec _ _ _ _ h
  rw [nth_spec] at *
  have hlt : off < n := by rw [← h3]; exact (List.getElem?_eq_some_iff.1 h2).1
  rw [h4 off hlt, h2]
theorem sg_all {xs : List Value} {k : Nat} (h : xs.length = k) : seg xs 0 k = some xs := by
  rw [sg_eq, if_pos (by omega)]; simp [← h]
/-- the cells of a list of elements -/
def encL {α : Type} (enc : α → List Value) (ls : List α) : List Value := ls.flatMap enc
theorem encL_app {α : Type} (enc : α → List Value) (xs ys : List α) : encL enc (xs ++ ys) = encL enc xs ++ encL enc ys := by simp [encL]
theorem encL_cons {α : Type} (enc : α → List Value) (x : α) (ys : List α) : encL enc (x :: ys) = enc x ++ encL enc ys := by simp [encL]
theorem encL_one {α : Type} (enc : α → List Value) (x : α) : encL enc [x] = enc x := by simp [encL]
theorem encL_len {α : Type} {enc : α → List Value} {sz : Nat} {ls : List α} (h : ∀ x ∈ ls, (enc x).length = sz) : (encL enc ls).length = ls.length * sz := by
  induction ls with
  | nil => simp [encL]
  | cons x ls ih =>
    rw [encL_cons, List.length_append, h x (by simp), ih fun y hy => h y (by simp [hy]), List.length_cons, Nat.add_mul]; omega
theorem encL_take {α : Type} {enc : α → List Value} {sz : Nat} {ls : List α} (h : ∀ x ∈ ls, (enc x).length = sz) (i : Nat) : (encL enc ls).take (i * sz) = encL enc (ls.take i) := by
  rcases Nat.lt_or_ge i ls.length with hi | hi
  · conv => lhs; rw [← List.take_append_drop i ls, encL_app]
    have := encL_len (ls := ls.take i) (sz := sz) (enc := enc) fun x hx => h x (List.mem_of_mem_take hx)
    rw [List.length_take, Nat.min_eq_left (by omega)] at this
    rw [← this, List.take_left']
    rfl
  · rw [List.take_of_length_le hi, List.take_of_length_le]
    rw [encL_len h]; exact Nat.mul_le_mul_right _ hi
theorem encL_drop {α : Type} {enc : α → List Value} {sz : Nat} {ls : List α} (h : ∀ x ∈ ls, (enc x).length = sz) (i : Nat) : (encL enc ls).drop (i * sz) = encL enc (ls.drop i) := by
  have h1 := List.take_append_drop (i * sz) (encL enc ls)
  have h2 : encL enc (ls.take i) ++ encL enc (ls.drop i) = encL enc ls := by rw [← encL_app, List.take_append_drop]
  rw [encL_take h] at h1
  exact List.append_cancel_left (h1.trans h2.symm)
theorem encL_all {α : Type} {enc : α → List Value} {ls : List α} (h : ∀ x ∈ ls, (enc x).all (·.oneCell') = true) : (encL enc ls).all (·.oneCell') = true := by
  simp only [encL, List.all_eq_true, List.mem_flatMap] at *
  rintro v ⟨x, hx, hv⟩
  exact h x hx v hv
theorem seg_el {α : Type} {enc : α → List Value} {sz : Nat} {ls : List α} (hsz : ∀ x ∈ ls, (enc x).length = sz) {cs : List Value} {o n : Nat} (h : seg cs o (n * sz) = some (encL enc ls)) {i : Nat} (hi : i < ls.length) {q : Nat} (hq : q = o + i * sz) : seg cs q sz = some (enc ls[i]) := by
  refine sg_seg h ?_ hq
  have hl := encL_len hsz
  have hi' : i * sz + sz ≤ ls.length * sz := by rw [← Nat.succ_mul]; exact Nat.mul_le_mul_right _ hi
  rw [sg_eq, if_pos (by omega), encL_drop hsz, List.drop_eq_getElem_cons hi, encL_cons]
  congr 1
  rw [← hsz ls[i] (List.getElem_mem hi), List.take_left']
  rfl
/-- v: a slice of n elements (sz cells each), whose cells are xs -/
def SlAt (W : World) (sz : Nat) (v : Value) (n : Nat) (xs : List Value) : Prop :=
  ∃ p cap, v = .slice p n cap ∧ n ≤ cap ∧ (∀ a : Addr, p = some a → True) ∧ xs.length = n * sz ∧ (0 < n → ∃ b o cs t fz, p = some ⟨b, o, none⟩ ∧ W.heap[b]? = some (.cells (List.toArray cs) t fz) ∧ seg cs o (n * sz) = some xs)
theorem SlAt.later {W w : World} {sz : Nat} {v : Value} {n : Nat} {xs : List Value} (h : SlAt W sz v n xs) (E : Ext [] W w) : SlAt w sz v n xs := by
  obtain ⟨p, cap, h1, h2, h3, h4, h5⟩ := h
  refine ⟨p, cap, h1, h2, h3, h4, fun hn => ?_⟩
  obtain ⟨b, o, cs, t, fz, h6, h7, h8⟩ := h5 hn
  exact ⟨b, o, cs, t, fz, h6, by rw [E.block b (Array.getElem?_eq_some_iff.1 h7).1 (by simp)]; exact h7, h8⟩
theorem SlAt.nil (W : World) (sz : Nat) : SlAt W sz (.slice none 0 0) 0 [] := ⟨none, 0, rfl, Nat.le_refl _, by simp, by simp, fun h => absurd h (by omega)⟩
theorem OwnS.slAt {e : TypeId} {sz : Nat} {v : Value} {n : Nat} {xs : List Value} {ent : List (Nat × Obj)} (h : OwnS e sz v n xs ent) {S : List Nat} {W0 w : World} {l : List (Nat × Obj)} (M : Mem S W0 w l) (hs : ∀ p ∈ ent, p ∈ l) : SlAt w sz v n xs := by
  rcases h with ⟨rfl, rfl, rfl, rfl⟩ | ⟨b, cap, junk, rfl, rfl, hxl, hjl, hnc⟩
  · exact SlAt.nil _ _
  · refine ⟨_, _, rfl, hnc, by simp, hxl, fun _ => ⟨b, 0, xs ++ junk, e, (0, 0), rfl, M.at_ (b, _) (hs _ (by simp)), ?_⟩⟩
    have := seg_of [] xs junk
    simpa [hxl] using this
/-- the elements' slice as a whole new list of them -/
theorem SlAt.src {P : Program} {W : World} {sz : Nat} {v : Value} {n : Nat} {xs : List Value} (h : SlAt W sz v n xs) (h1 : xs.all (·.oneCell') = true) : SrcOf P W v n sz xs := by
  obtain ⟨p, cap, rfl, h2, h3, h4, h5⟩ := h
  rcases Nat.eq_zero_or_pos n with hn | hn
  · subst hn
    have : xs = [] := List.length_eq_zero_iff.1 (by simpa using h4)
    subst this
    refine ⟨by simp [Builtin.lenOf], fun d => ?_, by simp, by simp⟩
    cases p with
    | none => simp [Builtin.firstCells]
    | some a => exact run_firstCells_some _ sz 0 _ _ _ [] (by simp) (fun j v hj => by simp at hj)
  · obtain ⟨b, o, cs, t, fz, rfl, h7, h8⟩ := h5 hn
    exact SrcOf.cells' h7 h8 h1
section
variable {P : Program} {ρ : Operand → Value} {w W0 : World} {S : List Nat} {l l' : List (Nat × Obj)} {R : Value → World → Prop} {d : Option Tmp} {ty : TypeId} {pos : String} {af : Array Edge} {g : Option (Nat × Bool)}
/-- a load out of what there was when the call began -/
theorem o_loadW1 {t : TypeId} {x : Operand} {b off : Nat} {cs : List Value} {t' : TypeId} {fz : Nat × Nat} {v : Value} [ht : TOne P t] (M : Mem [] W0 w l) (hx : ρ x = .pointer (some ⟨b, off, none⟩)) (hb : W0.heap[b]? = some (.cells cs.toArray t' fz)) (hv : nth cs off = some v) (h : R v w) : OpTo P ⟨d, .load t x, ty, pos, af, g⟩ ρ w R :=
  o_load hx (run_loadVar_one ht.h (cell_at ((M.ext.block b (Array.getElem?_eq_some_iff.1 hb).1 (by simp)).trans hb) (by rw [nth_spec] at hv; simpa using hv))) h
theorem o_loadWA {t : TypeId} {x : Operand} {b off n : Nat} {cs : List Value} {t' : TypeId} {fz : Nat × Nat} {vs : List Value} [ht : TAgg P t n] (M : Mem [] W0 w l) (hx : ρ x = .pointer (some ⟨b, off, none⟩)) (hb : W0.heap[b]? = some (.cells cs.toArray t' fz)) (hv : seg cs off n = some vs) (h : R (.agg vs.toArray) w) : OpTo P ⟨d, .load t x, ty, pos, af, g⟩ ρ w R :=
  o_load hx (run_loadVar_agg ht.h ((M.ext.block b (Array.getElem?_eq_some_iff.1 hb).1 (by simp)).trans hb) (by simpa using hv)) h
theorem o_capSl {x : Operand} {t e : TypeId} {p : Option Addr} {n c : Nat} (hx : ρ x = .slice p n c) [ht : TU P t (.slice e)] (h : R (.int .i64 c) w) : OpTo P ⟨d, .call ⟨.builtin .cap, #[x], #[t]⟩, ty, pos, af, g⟩ ρ w R :=
  OpTo.val (v := .int .i64 c) (w' := w) (by simp [execOp, resolve, invoke, builtin, hx, Builtin.cap_, run_underlying ht.h, goInt]) h
/-- x[i:] of a slice, i below its capacity -/
theorem o_slL {t e : TypeId} {x i : Operand} {k : IntKind} {b o len cap : Nat} {m : Int} (hx : ρ x = .slice (some ⟨b, o, none⟩) len cap) (hi : ρ i = .int k m) [ht : TU P t (.slice e)] {sz : Nat} [hs : TSz P e sz] (h0 : 0 ≤ m) (h1 : m ≤ len) (h3 : m < cap) (h : R (.slice (some ⟨b, o + m.toNat * sz, none⟩) (len - m.toNat) (cap - m.toNat)) w) : OpTo P ⟨d, .slice t x (some i) none none, ty, pos, af, g⟩ ρ w R := by
  have h6 : ¬ cap = m.toNat := by omega
  exact OpTo.val (v := .slice (some ⟨b, o + m.toNat * sz, none⟩) (len - m.toNat) (cap - m.toNat)) (w' := w) (by simp [execOp, Instr.sliceAt, Instr.slice, Instr.sliceBounds, Instr.sliceBound, asIntOf, hx, hi, run_underlying ht.h, run_sizeOf hs.h, h0, h1, h6, addr_add]) h
/-- x[i:] of a slice, whose place is not looked at -/
theorem o_slLany {t e : TypeId} {x i : Operand} {k : IntKind} {p : Option Addr} {len cap : Nat} {m : Int} (hx : ρ x = .slice p len cap) (hi : ρ i = .int k m) [ht : TU P t (.slice e)] {sz : Nat} [hs : TSz P e sz] (h0 : 0 ≤ m) (h1 : m ≤ len) (h : ∀ q, R (.slice q (len - m.toNat) (cap - m.toNat)) w) : OpTo P ⟨d, .slice t x (some i) none none, ty, pos, af, g⟩ ρ w R := by
  exact OpTo.val (v := .slice (if cap = m.toNat then p else p.map (·.add (m.toNat * sz))) (len - m.toNat) (cap - m.toNat)) (w' := w) (by simp [execOp, Instr.sliceAt, Instr.slice, Instr.sliceBounds, Instr.sliceBound, asIntOf, hx, hi, run_underlying ht.h, run_sizeOf hs.h, h0, h1]) (h _)
/-! entries of the model -/
theorem o_entry {c : Operand} {f : FuncId} {fn : Func} {e : Array Value → Sem Value} {xs : Array Operand} {ts : Array TypeId} {vs : Array Value} {v : Value} (hc : ρ c = .func (.func f) #[] #[]) (hf : P.funcs[f]? = some fn) (hname : (fn.name == "runtime.NumGoroutine") = false)
    (hb : fn.body.isNone = true) (hn : Extern.findNext fn = none) (he : Extern.find fn = some e) (ha : xs.map ρ = vs) (hr : (e vs).run P w = .ok v w) (h : R v w) : OpTo P ⟨d, .call ⟨.value c, xs, ts⟩, ty, pos, af, g⟩ ρ w R := by
  refine OpTo.val (v := v) (w' := w) ?_ h
  have := run_callFunc_extern hf hname hb hn he vs w
  rw [hr] at this
  simp [execOp, resolve, invoke, Deferred.ofValue, hc, ha, this]
end
/-! bytes compared -/
def cmpL : List Int → List Int → Int
  | [], [] => 0
  | [], _ :: _ => -1
  | _ :: _, [] => 1
  | x :: xs, y :: ys => if x < y then -1 else if y < x then 1 else cmpL xs ys
theorem find_range_succ (n : Nat) (p : Nat → Bool) : (List.range (n + 1)).find? p = if p 0 then some 0 else ((List.range n).find? fun i => p (i + 1)).map (· + 1) := by
  rw [List.range_succ_eq_map, List.find?_cons]
  cases h : p 0 with
  | true => simp
  | false => simp [List.find?_map]; rfl
theorem ba_get (bs : List UInt8) (i : Nat) : (⟨bs.toArray⟩ : ByteArray)[i]! = bs.getD i default := by
  rw [getElem!_def]
  rcases Nat.lt_or_ge i bs.length with h | h
  · rw [mkS_get h]; simp [h]
  · have : (⟨bs.toArray⟩ : ByteArray)[i]? = none := by
      rw [getElem?_neg]
      rw [mkS_size]; omega
    rw [this]; simp [h]
theorem cmp_cmpL : ∀ (xs ys : List UInt8), Extern.BytealgCompare.cmp ⟨xs.toArray⟩ ⟨ys.toArray⟩ = cmpL (xs.map fun c => (c.toNat : Int)) (ys.map fun c => (c.toNat : Int))
  | [], [] => by decide
  | [], y :: ys => by
    unfold Extern.BytealgCompare.cmp
    rw [mkS_size, mkS_size]
    simp [cmpL]
  | x :: xs, [] => by
    unfold Extern.BytealgCompare.cmp
    rw [mkS_size, mkS_size]
    simp [cmpL]
  | x :: xs, y :: ys => by
    have ih := cmp_cmpL xs ys
    unfold Extern.BytealgCompare.cmp at *
    rw [mkS_size, mkS_size] at *
    simp only [List.length_cons] at *
    have hm : min (xs.length + 1) (ys.length + 1) = min xs.length ys.length + 1 := by omega
    rw [hm, find_range_succ]
    have hg0 : ∀ (z : UInt8) (zs : List UInt8), (⟨(z :: zs).toArray⟩ : ByteArray)[0]! = z := fun z zs => by rw [ba_get]; rfl
    have hg1 : ∀ (z : UInt8) (zs : List UInt8) (i : Nat), (⟨(z :: zs).toArray⟩ : ByteArray)[i + 1]! = (⟨zs.toArray⟩ : ByteArray)[i]! := by
      intro z zs i
      rw [ba_get, ba_get]; simp
    simp only [hg0, hg1]
    by_cases hxy : x = y
    · subst hxy
      simp only [bne_self_eq_false, Bool.false_eq_true, if_false, List.map_cons, cmpL, Int.lt_irrefl]
      rw [← ih]
      cases List.find? (fun i => (⟨xs.toArray⟩ : ByteArray)[i]! != (⟨ys.toArray⟩ : ByteArray)[i]!) (List.range (min xs.length ys.length)) with
      | none => simp
      | some i => simp [hg1]
    · have hne : (x != y) = true := by simpa using hxy
      simp only [hne, if_true, hg0, List.map_cons, cmpL]
      have hnn : x.toNat ≠ y.toNat := fun h => hxy (UInt8.toNat_inj.1 h)
      by_cases hlt : x < y
      · have : x.toNat < y.toNat := hlt
        rw [if_pos hlt, if_pos (by omega)]
      · have : ¬ x.toNat < y.toNat := hlt
        rw [if_neg hlt, if_neg (by omega), if_pos (by omega)]
theorem cmpL_self : ∀ xs : List Int, cmpL xs xs = 0
  | [] => rfl
  | x :: xs => by simp [cmpL, cmpL_self xs]
theorem cmpL_anti : ∀ xs ys : List Int, cmpL ys xs = - cmpL xs ys
  | [], [] => rfl
  | [], _ :: _ => rfl
  | _ :: _, [] => rfl
  | x :: xs, y :: ys => by
    simp only [cmpL]
    rcases Int.lt_trichotomy x y with h | h | h
    · rw [if_neg (by omega), if_pos h, if_pos h]; rfl
    · subst h; simp [cmpL_anti xs ys]
    · rw [if_pos h, if_neg (by omega), if_pos h]
theorem cmpL_zero : ∀ {xs ys : List Int}, cmpL xs ys = 0 → xs = ys
  | [], [], _ => rfl
  | [], _ :: _, h => by simp [cmpL] at h
  | _ :: _, [], h => by simp [cmpL] at h
  | x :: xs, y :: ys, h => by
    simp only [cmpL] at h
    split at h
    · cases h
    · split at h
      · cases h
      · rw [cmpL_zero h, show x = y by omega]
theorem cmpL_lt_trans : ∀ {xs ys zs : List Int}, cmpL xs ys < 0 → cmpL ys zs < 0 → cmpL xs zs < 0
  | [], [], _, h, _ => by simp [cmpL] at h
  | [], _ :: _, [], _, h => by simp [cmpL] at h
  | [], _ :: _, _ :: _, _, _ => by simp [cmpL]
  | _ :: _, [], _, h, _ => by simp [cmpL] at h
  | _ :: _, _ :: _, [], _, h => by simp [cmpL] at h
  | x :: xs, y :: ys, z :: zs, h, k => by
    simp only [cmpL] at *
    rcases Int.lt_trichotomy x y with h1 | h1 | h1
    · rcases Int.lt_trichotomy y z with k1 | k1 | k1
      · rw [if_pos (by omega)]; omega
      · subst k1; rw [if_pos h1]; omega
      · rw [if_neg (by omega), if_pos k1] at k; omega
    · subst h1
      rw [if_neg (by omega), if_neg (by omega)] at h
      rcases Int.lt_trichotomy x z with k1 | k1 | k1
      · rw [if_pos k1]; omega
      · subst k1
        rw [if_neg (by omega), if_neg (by omega)] at *
        exact cmpL_lt_trans h k
      · rw [if_neg (by omega), if_pos k1] at k; omega
    · rw [if_neg (by omega), if_pos h1] at h; omega
/-- a slice of bytes -/
theorem run_bytesOf {P : Program} {w : World} {v : Value} {n : Nat} {xs : List Int} (h : SlAt w 1 v n (xs.map (Value.int .u8))) : (Extern.Bytes.bytesOf v).run P w = .ok ⟨(Lib.bytesOf xs).toArray⟩ w := by
  obtain ⟨p, cap, rfl, h2, h3, h4, h5⟩ := h
  simp only [List.length_map, Nat.mul_one] at h4
  rcases Nat.eq_zero_or_pos n with hn | hn
  · have : xs = [] := List.length_eq_zero_iff.1 (by omega)
    subst this; subst hn
    cases p with
    | none => simp [Extern.Bytes.bytesOf, Lib.bytesOf]; rfl
    | some a => simp [Extern.Bytes.bytesOf, Lib.bytesOf, Extern.Bytes.loadBytes]; rfl
  · obtain ⟨b, o, cs, t, fz, rfl, h7, h8⟩ := h5 hn
    have := Lib.run_loadBytesX (P := P) w xs ⟨b, o, none⟩ .empty (fun j x hj => by
      obtain ⟨h9, h10⟩ := seg_spec _ _ _ _ h8
      have hjl : j < xs.length := (List.getElem?_eq_some_iff.1 hj).1
      have := h10 j (by omega)
      rw [addr_add]
      refine cell_at h7 ?_
      simp only [List.getElem?_toArray, this]
      simp [hj])
    simp only [Extern.Bytes.bytesOf, ← h4]
    rw [this]
    simp [ByteArray.empty, ByteArray.emptyWithCapacity]
    rfl
theorem bytes_nums {xs : List Int} (h : ∀ x ∈ xs, 0 ≤ x ∧ x < 256) : (Lib.bytesOf xs).map (fun c => (c.toNat : Int)) = xs := by
  induction xs with
  | nil => rfl
  | cons x xs ih =>
    have h1 := h x (by simp)
    have e : (Lib.bytesOf (x :: xs)) = x.toNat.toUInt8 :: Lib.bytesOf xs := by simp [Lib.bytesOf]
    rw [e, List.map_cons, ih fun y hy => h y (by simp [hy])]
    congr 1
    simp only [Nat.toUInt8, UInt8.toNat_ofNat']
    omega
theorem run_compare {P : Program} {w : World} {v u : Value} {n m : Nat} {xs ys : List Int} (h : SlAt w 1 v n (xs.map (Value.int .u8))) (k : SlAt w 1 u m (ys.map (Value.int .u8))) (hx : ∀ x ∈ xs, 0 ≤ x ∧ x < 256) (hy : ∀ x ∈ ys, 0 ≤ x ∧ x < 256) :
    (Extern.BytealgCompare.compare #[v, u]).run P w = .ok (.int .i64 (cmpL xs ys)) w := by
  change Sem.run P (do pure (goInt (Extern.BytealgCompare.cmp (← Extern.Bytes.bytesOf v) (← Extern.Bytes.bytesOf u)))) w = _
  simp only [Sem.run_bind, run_bytesOf h, run_bytesOf k, Result.andThen_ok, Sem.run_pure, cmp_cmpL, bytes_nums hx, bytes_nums hy, goInt]
section
variable {P : Program} {ρ : Operand → Value} {w W0 : World} {S : List Nat} {l l' : List (Nat × Obj)} {R : Value → World → Prop} {d : Option Tmp} {ty : TypeId} {pos : String} {af : Array Edge} {g : Option (Nat × Bool)}
theorem run_ov {tS tR e : TypeId} {sz vb b o1 o2 la ca lb cb : Nat} {ys cs : List Value} {tA tB : TypeId} (ht : P.underlying tS = some (.slice e)) (hz : sizeIs P e sz = true) (hne : vb ≠ b) (ha : w.heap[vb]? = some (.cells ys.toArray tA (0, 0))) (hb : w.heap[b]? = some (.cells cs.toArray tB (0, 0))) (hk : cs.length ≠ 0) :
    (Extern.SlicesOverlaps.overlaps #[tS, tS] #[tR] #[.slice (some ⟨vb, o1, none⟩) la ca, .slice (some ⟨b, o2, none⟩) lb cb]).run P w = .ok (.bool false) w :=
  Lib.run_overlaps_apart w tS tR e ht sz (fun w => run_sizeOf hz) ⟨vb, o1, none⟩ ⟨b, o2, none⟩ la ca lb cb hne tA tB ys.length cs.length (by simp [World.shape?, ha]) (by simp [World.shape?, hb]) hk (by simp [World.frozen?, ha]) (by simp [World.frozen?, ha])
/-- append(x, make(..)...), where there is no room -/
theorem o_appendZ {st tn e : TypeId} {x y : Operand} {sz by_ i k cap : Nat} {p : Option Addr} {xs : List Value} [hst : TU P st (.slice e)] [htn : TU P tn (.int .i64)] [hel : TEl P e sz by_] (M : Mem S W0 w l) (hX : SrcOf P w (.slice p i cap) i sz xs)
    (hx : ρ x = .slice p i cap) (hy : ρ y = .int .i64 (k : Int)) (hgt : cap < i + k) (hci : i ≤ cap) (hsz : 0 < sz) (hbd : (i + k) * by_ ≤ 140737488355328) (hln : i + k ≤ 9223372036854775807)
    (h : ∀ b cap' zs w', zs.length = (cap' - i) * sz → i + k ≤ cap' → Mem S W0 w' ((b, .cells (xs ++ zs).toArray e (0, 0)) :: l) → R (.slice (some ⟨b, 0, none⟩) (i + k) cap') w') : OpTo P ⟨d, .call ⟨.builtin .append, #[x, y], #[st, tn]⟩, ty, pos, af, g⟩ ρ w R := by
  obtain ⟨inf, z, hi, rfl, rfl, hz, hzs⟩ := elB_spec hel.h
  have hw : IntKind.i64.wrap (k : Int) = k := w_i64 (by omega) (by omega)
  have hkb : k * inf.bytes ≤ 281474976710656 := by
    have : k * inf.bytes ≤ (i + k) * inf.bytes := Nat.mul_le_mul_right _ (by omega)
    omega
  have h48i : ¬ (281474976710656 < (k : Int) * (inf.bytes : Int)) := by
    rw [← Int.natCast_mul]; omega
  have hneg : ¬ ((k : Int) < 0) := by omega
  have hk0 : k ≠ 0 := by omega
  have hns : ¬ (k * inf.size = 0) := Nat.mul_ne_zero hk0 (by omega)
  have hn : ¬ (i + k ≤ cap) := by omega
  have h63' : ¬ (9223372036854775807 < ((i : Int) + (k : Int))) := by omega
  have h48 : ¬ (281474976710656 < Builtin.nextslicecap (i + k) cap * inf.bytes) := by
    have := growslice_fits (need := i + k) (old := cap) (bytes := inf.bytes) (by omega) hbd
    omega
  have hold := hX.cells (w.drawn + 1)
  have hnc : i + k ≤ grownCap w (i + k) cap e := grownCap_ge w _ _ _
  have hrun : (Builtin.append_ #[st, tn] ty #[.slice p i cap, .int .i64 (k : Int)]).run P w = .ok (.slice (some ⟨w.heap.size, 0, none⟩) (i + k) (grownCap w (i + k) cap e)) (w.drew.alloc (.cells (xs.toArray ++ Builtin.zeroCells z.cells k ++ Builtin.zeroCells z.cells (grownCap w (i + k) cap e - (i + k))) e)) := by
    have hold' : (Builtin.firstCells inf.size i (.slice p i cap)).run P w.drew = .ok xs.toArray w.drew := hold
    simp [Builtin.append_, run_underlying hst.h, run_underlying htn.h, sizeOf, typeInfo, zeroValue, hi, hz, asInt, asIntOf, hw, hk0, hneg, hns, h63', h48, h48i, hn, Question.forced, hold', newRow, grownCap] <;> (congr 2; apply Array.ext'; simp)
  have e1 : (xs.toArray ++ Builtin.zeroCells z.cells k ++ Builtin.zeroCells z.cells (grownCap w (i + k) cap e - (i + k))) = (xs ++ ((Builtin.zeroCells z.cells k).toList ++ (Builtin.zeroCells z.cells (grownCap w (i + k) cap e - (i + k))).toList)).toArray := by
    apply Array.ext'; simp
  rw [e1] at hrun
  have hzl : ((Builtin.zeroCells z.cells k).toList ++ (Builtin.zeroCells z.cells (grownCap w (i + k) cap e - (i + k))).toList).length = (grownCap w (i + k) cap e - i) * inf.size := by
    rw [List.length_append, Array.length_toList, Array.length_toList, size_zeroCells, size_zeroCells, hzs, ← Nat.add_mul]
    congr 1
    omega
  generalize (Builtin.zeroCells z.cells k).toList ++ (Builtin.zeroCells z.cells (grownCap w (i + k) cap e - (i + k))).toList = zs at *
  refine OpTo.val (v := .slice (some ⟨w.heap.size, 0, none⟩) (i + k) (grownCap w (i + k) cap e)) (w' := w.drew.alloc (.cells (xs ++ zs).toArray e (0, 0))) ?_ (h _ _ zs _ hzl hnc ((M.later (Ext.drawn w (w.drawn + 1) (Nat.le_succ _))).alloc (.cells (xs ++ zs).toArray e (0, 0))))
  simp [execOp, resolve, invoke, builtin, hx, hy, hrun]
end
end Go.Proofs.Ytilgoepokaaleaa
/-! LibR -/
namespace Go.Proofs.Ytilgoepokaaleaa
set_option linter.unusedVariables false
set_option linter.unusedSimpArgs false
open Go.RowKit
/-- Of what lies below n0 only the blocks B are turned; what lies above keeps its kind and length. -/
structure Sh (n0 : Nat) (B : List Nat) (w w' : World) : Prop where
  os : w'.os = w.os
  tape : w'.tape = w.tape
  output : w'.output = w.output
  size : w.heap.size ≤ w'.heap.size
  dr : w.drawn ≤ w'.drawn
  old : ∀ k, k < n0 → k < w.heap.size → k ∉ B → w'.heap[k]? = w.heap[k]?
  new : ∀ k cs t, n0 ≤ k → w.heap[k]? = some (.cells cs t (0, 0)) → ∃ cs', w'.heap[k]? = some (.cells cs' t (0, 0)) ∧ cs'.size = cs.size
theorem Sh.of_ext {n0 : Nat} {B : List Nat} {w w' : World} (h : Ext [] w w') : Sh n0 B w w' :=
  ⟨h.os, h.tape, h.output, h.size, h.dr, fun k _ hk _ => h.block k hk (by simp), fun k cs t _ hb => ⟨cs, by rw [h.block k (Array.getElem?_eq_some_iff.1 hb).1 (by simp)]; exact hb, rfl⟩⟩
theorem Sh.trans {n0 : Nat} {B : List Nat} {a b c : World} (h : Sh n0 B a b) (k : Sh n0 B b c) : Sh n0 B a c :=
  ⟨k.os.trans h.os, k.tape.trans h.tape, k.output.trans h.output, Nat.le_trans h.size k.size, Nat.le_trans h.dr k.dr, fun i hi hs hb => (k.old i hi (Nat.lt_of_lt_of_le hs h.size) hb).trans (h.old i hi hs hb), fun i cs t hn hb => by
    obtain ⟨cs1, h1, h2⟩ := h.new i cs t hn hb
    obtain ⟨cs2, h3, h4⟩ := k.new i cs1 t hn h1
    exact ⟨cs2, h3, h4.trans h2⟩⟩
def keepSh (n0 : Nat) (B : List Nat) : Keep := ⟨Ext [], Sh n0 B, fun w => Ext.refl [] w, Sh.of_ext, Sh.trans, fun h => h.size⟩
theorem Sh.ext {B : List Nat} {w w' : World} (h : Sh w.heap.size B w w') : Ext B w w' := ⟨h.os, h.tape, h.output, h.size, h.dr, fun k hk hb => h.old k hk hk hb⟩
/-- a pointer to a new block of this kind and length -/
def AlS (n0 : Nat) (t : TypeId) (len : Nat) : Pred := fun v w => ∃ b cs, v = ptrTo b ∧ n0 ≤ b ∧ w.heap[b]? = some (.cells cs t (0, 0)) ∧ cs.size = len
theorem AlS.stays (n0 : Nat) (B : List Nat) (t : TypeId) (len : Nat) : Stays (keepSh n0 B) (AlS n0 t len) := fun v w w' ⟨b, cs, h1, h2, h3, h4⟩ h => by
  obtain ⟨cs', h5, h6⟩ := Sh.new h b cs t h2 h3
  exact ⟨b, cs', h1, h2, h5, h6.trans h4⟩
section
variable {c : RC} {fr : List (Nat × Value)} {Vs : List Pred} {T T' : SPred} {rest : List Oper} {d : Nat} {op : Op} {ty : TypeId} {pos : String} {af : Array Edge} {ix : Nat}
end
section
variable {P : Program} {ρ : Operand → Value} {w : World} {R : Value → World → Prop} {d : Option Tmp} {ty : TypeId} {pos : String} {af : Array Edge} {g : Option (Nat × Bool)}
end
end Go.Proofs.Ytilgoepokaaleaa
/-! LibS -/
namespace Go.Proofs.Ytilgoepokaaleaa
set_option linter.unusedVariables false
set_option linter.unusedSimpArgs false
open Go.RowKit
/-- new blocks -/
structure NewM (n0 : Nat) (w : World) (l : List (Nat × Obj)) : Prop where
  at_ : ∀ p ∈ l, w.heap[p.1]? = some p.2
  nd : (l.map (·.1)).Nodup
  ge : ∀ p ∈ l, n0 ≤ p.1
theorem NewM.lt {n0 : Nat} {w : World} {l : List (Nat × Obj)} (h : NewM n0 w l) {p : Nat × Obj} (hp : p ∈ l) : p.1 < w.heap.size := (Array.getElem?_eq_some_iff.1 (h.at_ p hp)).1
theorem NewM.later {n0 : Nat} {w w' : World} {l : List (Nat × Obj)} (h : NewM n0 w l) (E : Ext [] w w') : NewM n0 w' l :=
  ⟨fun p hp => by rw [E.block _ (h.lt hp) (by simp)]; exact h.at_ p hp, h.nd, h.ge⟩
theorem Mem.new {n0 : Nat} {w w' : World} {l : List (Nat × Obj)} (M : Mem [] w w' l) (h : n0 ≤ w.heap.size) : NewM n0 w' l :=
  ⟨M.at_, M.nd, fun p hp => Nat.le_trans h ((M.own p hp).resolve_left (by simp))⟩
theorem NewM.app {n0 : Nat} {w w' : World} {l new : List (Nat × Obj)} (h : NewM n0 w l) (M : Mem [] w w' new) (hn : n0 ≤ w.heap.size) : NewM n0 w' (new ++ l) := by
  have h' := h.later M.ext
  have h2 := M.new hn
  refine ⟨fun p hp => (List.mem_append.1 hp).elim (h2.at_ p) (h'.at_ p), ?_, fun p hp => (List.mem_append.1 hp).elim (h2.ge p) (h'.ge p)⟩
  rw [List.map_append, List.nodup_append]
  refine ⟨h2.nd, h'.nd, ?_⟩
  rintro a ha b hb rfl
  obtain ⟨p, hp, rfl⟩ := List.mem_map.1 ha
  obtain ⟨q, hq, e⟩ := List.mem_map.1 hb
  have h3 := h.lt hq
  have h4 := (M.own p hp).resolve_left (by simp)
  omega
theorem Mem.joinNew {S : List Nat} {W0 w1 w : World} {l new : List (Nat × Obj)} (M : Mem S W0 w l) (M1 : Mem S W0 w1 l) (N : NewM w1.heap.size w new) : Mem S W0 w (new ++ l) := by
  refine ⟨M.ext, fun p hp => (List.mem_append.1 hp).elim (N.at_ p) (M.at_ p), ?_, fun p hp => (List.mem_append.1 hp).elim (fun h => .inr (Nat.le_trans M1.ext.size (N.ge p h))) (M.own p)⟩
  rw [List.map_append, List.nodup_append]
  refine ⟨N.nd, M.nd, ?_⟩
  rintro a ha b hb rfl
  obtain ⟨p, hp, rfl⟩ := List.mem_map.1 ha
  obtain ⟨q, hq, e⟩ := List.mem_map.1 hb
  have h3 := M1.lt hq
  have h4 := N.ge p hp
  omega
/-- an answer and the new blocks that belong to it -/
def NewP (n0 : Nat) (Φ : Value → List (Nat × Obj) → Prop) : Pred := fun v w => ∃ ent, Φ v ent ∧ NewM n0 w ent
theorem NewP.stays (n0 : Nat) (Φ : Value → List (Nat × Obj) → Prop) : Stays keepAll (NewP n0 Φ) := fun _ _ _ ⟨ent, h, N⟩ E => ⟨ent, h, N.later E⟩
theorem newP_of {w1 w w' : World} {x : Value} {Φ : Value → List (Nat × Obj) → Prop} (E : Ext [] w1 w) (h : ∃ ent, Φ x ent ∧ Mem [] w w' ent) : Ext [] w w' ∧ NewP w1.heap.size Φ x w' :=
  h.elim fun ent hh => ⟨hh.2.ext, ent, hh.1, hh.2.new E.size⟩
/-! elements of a list in place -/
theorem put_in {A B C C' Y : List Value} {off q : Nat} (hq : q = A.length + off) (h : put C off Y = some C') : put (A ++ (C ++ B)) q Y = some (A ++ (C' ++ B)) := by
  subst hq
  obtain ⟨h1, rfl⟩ := put_splice _ _ _ _ h
  rw [put_of _ _ _ (by simp; omega)]
  congr 1
  unfold splice
  rw [List.take_append, List.drop_append, List.take_of_length_le (by omega), List.drop_of_length_le (by omega), List.nil_append, show A.length + off - A.length = off by omega, show A.length + off + Y.length - A.length = off + Y.length by omega, List.take_append_of_le_length (by omega), List.drop_append_of_le_length (by omega)]
  simp only [List.append_assoc]
theorem encL_put {α : Type} {enc : α → List Value} {sz : Nat} {ls : List α} (hsz : ∀ x ∈ ls, (enc x).length = sz) (junk : List Value) {i : Nat} (hi : i < ls.length) {off q : Nat} {Y : List Value} {x' : α} (h : put (enc ls[i]) off Y = some (enc x')) (hq : q = i * sz + off) :
    put (encL enc ls ++ junk) q Y = some (encL enc (ls.set i x') ++ junk) := by
  have e1 : ls = ls.take i ++ ls[i] :: ls.drop (i + 1) := by rw [List.getElem_cons_drop, List.take_append_drop]
  have e2 : ls.set i x' = ls.take i ++ x' :: ls.drop (i + 1) := by rw [List.set_eq_take_append_cons_drop, if_pos hi]
  have hA : (encL enc (ls.take i)).length = i * sz := by
    rw [encL_len fun x hx => hsz x (List.mem_of_mem_take hx), List.length_take, Nat.min_eq_left (by omega)]
  have f1 : encL enc ls ++ junk = encL enc (ls.take i) ++ (enc ls[i] ++ (encL enc (ls.drop (i + 1)) ++ junk)) := by
    conv => lhs; rw [e1]
    rw [encL_app, encL_cons]
    simp only [List.append_assoc]
  have f2 : encL enc (ls.set i x') ++ junk = encL enc (ls.take i) ++ (enc x' ++ (encL enc (ls.drop (i + 1)) ++ junk)) := by
    rw [e2, encL_app, encL_cons]
    simp only [List.append_assoc]
  rw [f1, f2]
  exact put_in (by rw [hA]; omega) h
theorem own_seg {e : TypeId} {sz n : Nat} {α : Type} {enc : α → List Value} {ls : List α} {junk : List Value} (h : (encL enc ls).length = n * sz) : seg (encL enc ls ++ junk) 0 (n * sz) = some (encL enc ls) := by
  have := seg_of [] (encL enc ls) junk
  simpa [h] using this
theorem own_el {sz : Nat} {α : Type} {enc : α → List Value} {ls : List α} (hsz : ∀ x ∈ ls, (enc x).length = sz) (junk : List Value) {i : Nat} (hi : i < ls.length) {q : Nat} (hq : q = i * sz) : seg (encL enc ls ++ junk) q sz = some (enc ls[i]) :=
  seg_el hsz (o := 0) (n := ls.length) (own_seg (e := 0) (encL_len hsz)) hi (by omega)
/-- a slice over a block from n0 on, or none -/
def NewV (n0 : Nat) (v : Value) : Prop := ∀ b o s n c, v = .slice (some ⟨b, o, s⟩) n c → n0 ≤ b
theorem NewV.nil (n0 n c : Nat) : NewV n0 (.slice none n c) := fun _ _ _ _ _ h => by cases h
end Go.Proofs.Ytilgoepokaaleaa
/-! H1 -/
namespace Go.Proofs.Ytilgoepokaaleaa
set_option linter.unusedVariables false
set_option linter.unusedSimpArgs false
open Go.RowKit
section
set_option linter.unusedVariables false
set_option linter.unusedSimpArgs false
open Go.RowKit
attribute [local irreducible] OpTo wpListIn Code.wpIn MW Cal
def isTime (t : Int) : Bool := decide (0 ≤ t) && decide (t ≤ 1099511627776)
def laterV (a d : Int) : Int := if 1099511627776 < a + d then 1099511627776 else a + d
theorem bytesCompare_c {v u : Value} {n m : Nat} {xs ys : List Int} (W : World) (h : SlAt W 1 v n (ipC xs)) (k : SlAt W 1 u m (ipC ys)) (hx : ∀ x ∈ xs, 0 ≤ x ∧ x < 256) (hy : ∀ x ∈ ys, 0 ≤ x ∧ x < 256) :
    Cal Try.prog 93 [v, u].toArray W fun x w' => x = .int .i64 (cmpL xs ys) ∧ Ext [] W w' := by
  refine fn_ofM (n := 8) [] Try.func93 rfl rfl rfl ?_
  intro a w F M hwW
  with_reducible refine c_seq ?_
  with_reducible refine c_region ?_
  refine stepD rfl F rfl (o_assign (F.ev rfl) ?_); clear F; clear a; intro a F
  with_reducible refine l_nil ?_
  with_reducible refine q_then ?_
  with_reducible refine c_seq ?_
  with_reducible refine c_region ?_
  refine stepD rfl F rfl (o_move (F.ev rfl) ?_); clear F; clear a; intro a F
  refine stepD rfl F rfl (o_move (F.ev rfl) ?_); clear F; clear a; intro a F
  (refine stepD rfl F rfl (o_entry (F.ev rfl) Try.func122 (by kernel_rfl) (by kernel_rfl) (by kernel_rfl) (e := Extern.BytealgCompare.compare) (by kernel_rfl) (F.evs rfl) (run_compare (h.later M.ext) (k.later M.ext) hx hy) ?_); clear F; clear a; intro a F)
  refine stepD rfl F rfl (o_assign (F.ev rfl) ?_); clear F; clear a; intro a F
  with_reducible refine l_nil ?_
  with_reducible refine q_then ?_
  with_reducible refine c_ret ?_
  refine p_ret F rfl (.cons (.tmp (F.ev rfl)) .nil) ?_
  exact ⟨rfl, M.ext⟩
def overlapP (p : List Int) (n : Int) (q : List Int) (m : Int) : Bool := coversP p n q m || coversP q m p n
end
section
set_option linter.unusedVariables false
set_option linter.unusedSimpArgs false
open Go.RowKit
attribute [local irreducible] OpTo wpListIn Code.wpIn MW Cal
structure Lease where
  ip : List Int
  bits : Int
  own : Int
  til : Int
end
section
set_option linter.unusedVariables false
set_option linter.unusedSimpArgs false
open Go.RowKit
attribute [local irreducible] OpTo wpListIn Code.wpIn MW Cal
theorem put_mid {A B C Y : List Value} {off : Nat} (ho : off = A.length) (hl : B.length = Y.length) : put (A ++ (B ++ C)) off Y = some (A ++ (Y ++ C)) := by
  subst ho
  rw [put_of _ _ _ (by simp; omega), splice]
  congr 1
  rw [List.take_left' rfl, List.drop_append, List.drop_eq_nil_of_le (by omega), List.nil_append, show A.length + Y.length - A.length = Y.length by omega, ← hl, List.drop_left' rfl]
theorem seg_mid {A B C : List Value} {off n : Nat} (ho : off = A.length) (hn : n = B.length) : seg (A ++ (B ++ C)) off n = some B := by
  subst ho; subst hn; exact seg_of A B C
theorem has_other {lr : List (Nat × Obj)} {b vb : Nat} {o o' o2 : Obj} (h : Has (lr ++ [(b, o)]) vb o2) (hne : vb ≠ b) : Has (lr ++ [(b, o')]) vb o2 := by
  induction lr with
  | nil =>
    cases h with
    | here => exact absurd rfl hne
    | there h => cases h
  | cons p lr ih =>
    cases h with
    | here => exact .here
    | there h => exact .there (ih h)
end
section
set_option linter.unusedVariables false
set_option linter.unusedSimpArgs false
open Go.RowKit
attribute [local irreducible] OpTo wpListIn Code.wpIn MW Cal
structure LeaseOk (p : List Int) (n : Int) (l : Lease) : Prop where
  ip : IsIP l.ip
  own0 : l.own ≠ 0
  own1 : 0 ≤ l.own ∧ l.own ≤ 18446744073709551615
  til : isTime l.til = true
  bits : l.bits ≤ 64
  cov : coversP p n l.ip l.bits = true
structure PoolOk (p : List Int) (n : Int) (ls : List Lease) : Prop where
  ip : IsIP p
  pre : validP p n = true
  bits : n ≤ 64
  len : ls.length ≤ 64
  each : ∀ l ∈ ls, LeaseOk p n l
  pw : ls.Pairwise fun x y => cmpL x.ip y.ip < 0 ∧ overlapP x.ip x.bits y.ip y.bits = false
end
section
set_option linter.unusedVariables false
set_option linter.unusedSimpArgs false
open Go.RowKit
attribute [local irreducible] OpTo wpListIn Code.wpIn MW Cal
end
section
set_option linter.unusedVariables false
set_option linter.unusedSimpArgs false
open Go.RowKit
attribute [local irreducible] OpTo wpListIn Code.wpIn MW Cal
theorem PoolOk.filter {p : List Int} {n : Int} {ls : List Lease} (h : PoolOk p n ls) (f : Lease → Bool) : PoolOk p n (ls.filter f) :=
  ⟨h.ip, h.pre, h.bits, Nat.le_trans (List.length_filter_le _ _) h.len, fun l hl => h.each l (List.mem_filter.1 hl).1, h.pw.filter _⟩
end
section
set_option linter.unusedVariables false
set_option linter.unusedSimpArgs false
open Go.RowKit
attribute [local irreducible] OpTo wpListIn Code.wpIn MW Cal
end
section
set_option linter.unusedVariables false
set_option linter.unusedSimpArgs false
open Go.RowKit
structure PInf where
  ip : List Int
  bits : Int
  onl : Bool
  aut : Bool
  life : Int
  deriving DecidableEq
def piC (o : PInf) : List Value := pfC o.ip o.bits ++ ([.bool o.onl, .bool o.aut, .int .u32 o.life])
def IsPi (o : PInf) : Prop := IsIP o.ip
abbrev pisC (l : List PInf) : List Value := encL piC l
structure CInf where
  id : Int
  ip : List Int
  bits : Int
  cmp : Bool
  life : Int
  deriving DecidableEq
def ciC (o : CInf) : List Value := [.int .i64 o.id] ++ (pfC o.ip o.bits ++ ([.bool o.cmp, .int .u16 o.life]))
def IsCi (o : CInf) : Prop := IsIP o.ip
abbrev cisC (l : List CInf) : List Value := encL ciC l
structure OffH where
  rt : List Int
  ver : Int
  til : Int
  deriving DecidableEq
def ofC (o : OffH) (ps : Value) (cs : Value) : List Value := ipC o.rt ++ ([.int .i64 o.ver, .int .i64 o.til, ps, cs])
def IsOf (o : OffH) : Prop := IsIP o.rt
end
section
set_option linter.unusedVariables false
set_option linter.unusedSimpArgs false
open Go.RowKit
attribute [local irreducible] OpTo wpListIn Code.wpIn MW Cal
/-- an offer -/
structure Off where
  h : OffH
  ps : List PInf
  cs : List CInf
  deriving DecidableEq
def IsOff (o : Off) : Prop := IsOf o.h ∧ (∀ p ∈ o.ps, IsPi p) ∧ ∀ c ∈ o.cs, IsCi c
/-- .. with the values of its lists -/
structure OV where
  o : Off
  u : Value
  v : Value
def ovC (x : OV) : List Value := ofC x.o.h x.u x.v
def OffAt (W : World) (x : OV) : Prop := SlAt W 20 x.u x.o.ps.length (pisC x.o.ps) ∧ SlAt W 20 x.v x.o.cs.length (cisC x.o.cs)
theorem OffAt.later {W w : World} {x : OV} (h : OffAt W x) (E : Ext [] W w) : OffAt w x := ⟨h.1.later E, h.2.later E⟩
end
section
set_option linter.unusedVariables false
set_option linter.unusedSimpArgs false
open Go.RowKit
attribute [local irreducible] OpTo wpListIn Code.wpIn MW Cal
end
section
set_option linter.unusedVariables false
set_option linter.unusedSimpArgs false
open Go.RowKit
attribute [local irreducible] OpTo wpListIn Code.wpIn MW Cal
def insO (o : Off) : List Off → Option (List Off)
  | [] => some [o]
  | y :: ys =>
    if cmpL y.h.rt o.h.rt < 0 then (insO o ys).map (y :: ·)
    else if cmpL y.h.rt o.h.rt = 0 then
      (if o.h.ver < y.h.ver then none else if y.h.ver = o.h.ver then some ({ y with h := { y.h with til := if y.h.til < o.h.til then o.h.til else y.h.til } } :: ys) else some (o :: ys))
    else some (o :: y :: ys)
def Asc (os : List Off) : Prop := os.Pairwise fun a b => cmpL a.h.rt b.h.rt < 0
theorem Asc.filter {os : List Off} (h : Asc os) (f : Off → Bool) : Asc (os.filter f) := List.Pairwise.filter _ h
def OffsAt (W : World) (s : Value) (os : List Off) : Prop := ∃ zs : List OV, zs.map (·.o) = os ∧ SlAt W 20 s zs.length (encL ovC zs) ∧ ∀ z ∈ zs, OffAt W z
theorem OffsAt.nil (W : World) : OffsAt W (.slice none 0 0) [] := ⟨[], rfl, SlAt.nil W 20, by simp⟩
theorem OffsAt.later {W w : World} {s : Value} {os : List Off} (h : OffsAt W s os) (E : Ext [] W w) : OffsAt w s os := by
  obtain ⟨zs, h1, h2, h3⟩ := h
  exact ⟨zs, h1, h2.later E, fun z hz => (h3 z hz).later E⟩
/-- .. in new memory -/
def OffsN (n0 : Nat) (W : World) (s : Value) (os : List Off) : Prop := ∃ zs : List OV, zs.map (·.o) = os ∧ SlAt W 20 s zs.length (encL ovC zs) ∧ (∀ z ∈ zs, OffAt W z) ∧ NewV n0 s ∧ ∀ z ∈ zs, NewV n0 z.u ∧ NewV n0 z.v
theorem OffsN.nil (n0 : Nat) (W : World) : OffsN n0 W (.slice none 0 0) [] := ⟨[], rfl, SlAt.nil W 20, by simp, NewV.nil _ _ _, by simp⟩
theorem OffsN.at {n0 : Nat} {W : World} {s : Value} {os : List Off} (h : OffsN n0 W s os) : OffsAt W s os := by
  obtain ⟨zs, h1, h2, h3, _⟩ := h
  exact ⟨zs, h1, h2, h3⟩
end
section
set_option linter.unusedVariables false
set_option linter.unusedSimpArgs false
open Go.RowKit
attribute [local irreducible] OpTo wpListIn Code.wpIn MW Cal
/-- how far the reference has come -/
def Pl (o : Off) (placed : Bool) (out pre rest : List Off) : Prop :=
  if placed then insO o (pre ++ rest) = some (out ++ rest) ∧ ∀ y ∈ rest, 0 < cmpL y.h.rt o.h.rt
  else out = pre ∧ ∀ y ∈ pre, cmpL y.h.rt o.h.rt < 0
theorem insO_pre {o : Off} : ∀ {pre : List Off} (r : List Off), (∀ y ∈ pre, cmpL y.h.rt o.h.rt < 0) → insO o (pre ++ r) = (insO o r).map (pre ++ ·)
  | [], r, _ => by simp
  | y :: pre, r, h => by
    have ih := insO_pre r fun z hz => h z (List.mem_cons_of_mem _ hz)
    simp only [List.cons_append, insO, if_pos (h y List.mem_cons_self), ih, Option.map_map]
    rfl
theorem cmpL_pos {a b c : List Int} (h1 : 0 ≤ cmpL a c) (h2 : cmpL a b < 0) : 0 < cmpL b c := by
  rcases Int.lt_trichotomy (cmpL b c) 0 with h | h | h
  · exact absurd (cmpL_lt_trans h2 h) (by omega)
  · rw [cmpL_zero h] at h2; omega
  · exact h
theorem Pl.new {o y : Off} {out pre rest : List Off} (h : Pl o false out pre (y :: rest)) (ha : Asc (y :: rest)) (hk : cmpL y.h.rt o.h.rt = 0) (hv : ¬ o.h.ver < y.h.ver) (hv2 : ¬ y.h.ver = o.h.ver) : Pl o true (out ++ [o]) (pre ++ [y]) rest := by
  simp only [Pl, Bool.false_eq_true, if_false, if_true] at *
  refine ⟨?_, fun z hz => cmpL_pos (by omega) ((List.pairwise_cons.1 ha).1 z hz)⟩
  rw [List.append_assoc, insO_pre _ h.2, h.1]
  simp [insO, hk, hv, hv2]
theorem Pl.on {o y : Off} {out pre rest : List Off} (h : Pl o true out pre (y :: rest)) : Pl o true (out ++ [y]) (pre ++ [y]) rest := by
  simp only [Pl, if_true] at *
  exact ⟨by simpa using h.1, fun z hz => h.2 z (List.mem_cons_of_mem _ hz)⟩
end
section
set_option linter.unusedVariables false
set_option linter.unusedSimpArgs false
open Go.RowKit
attribute [local irreducible] OpTo wpListIn Code.wpIn MW Cal
end
section
set_option linter.unusedVariables false
set_option linter.unusedSimpArgs false
open Go.RowKit
attribute [local irreducible] OpTo wpListIn Code.wpIn MW Cal
end
section
set_option linter.unusedVariables false
set_option linter.unusedSimpArgs false
open Go.RowKit
attribute [local irreducible] OpTo wpListIn Code.wpIn MW Cal
end
section
set_option linter.unusedVariables false
set_option linter.unusedSimpArgs false
open Go.RowKit
attribute [local irreducible] OpTo wpListIn Code.wpIn MW Cal
/-- an offer in new memory -/
def OffNew (n0 : Nat) (W : World) (x : OV) : Prop := OffAt W x ∧ NewV n0 x.u ∧ NewV n0 x.v
end
section
set_option linter.unusedVariables false
set_option linter.unusedSimpArgs false
open Go.RowKit
attribute [local irreducible] OpTo wpListIn Code.wpIn MW Cal
theorem NewV.mono {n0 n1 : Nat} {v : Value} (h : NewV n1 v) (hle : n0 ≤ n1) : NewV n0 v := fun b o s n c e => Nat.le_trans hle (h b o s n c e)
theorem NewV.notIn {n0 bt : Nat} {v : Value} (h : NewV n0 v) (hbt : bt < n0) : ∀ b o s k c, v = .slice (some ⟨b, o, s⟩) k c → b ∉ [bt] := fun b o s k c e hb => by
  have := h b o s k c e
  simp only [List.mem_singleton] at hb
  omega
theorem OffNew.mono {n0 n1 : Nat} {W : World} {x : OV} (h : OffNew n1 W x) (hle : n0 ≤ n1) : OffNew n0 W x := ⟨h.1, h.2.1.mono hle, h.2.2.mono hle⟩
theorem OffsN.mono {n0 n1 : Nat} {W : World} {v : Value} {os : List Off} (h : OffsN n1 W v os) (hle : n0 ≤ n1) : OffsN n0 W v os := by
  obtain ⟨zs, h1, h2, h3, h4, h5⟩ := h
  exact ⟨zs, h1, h2, h3, h4.mono hle, fun z hz => ⟨(h5 z hz).1.mono hle, (h5 z hz).2.mono hle⟩⟩
/-- offers off the tape -/
structure OffsO (n0 : Nat) (W : World) (v : Value) (os : List Off) : Prop where
  at_ : OffsN n0 W v os
  is : ∀ o ∈ os, IsOff o
  len : os.length ≤ 8
  small : ∀ o ∈ os, o.ps.length ≤ 16 ∧ o.cs.length ≤ 16
/-- the memory, seen from here on -/
theorem Mem.re {S : List Nat} {W w : World} {l : List (Nat × Obj)} (M : Mem S W w l) (h : ∀ p ∈ l, p.1 ∈ S) : Mem S w w l := ⟨Ext.refl _ _, M.at_, M.nd, fun p hp => .inl (h p hp)⟩
end
section
set_option linter.unusedVariables false
set_option linter.unusedSimpArgs false
open Go.RowKit
attribute [local irreducible] OpTo wpListIn Code.wpIn MW Cal
theorem OffsO.mono {n0 n1 : Nat} {W : World} {v : Value} {os : List Off} (h : OffsO n1 W v os) (hle : n0 ≤ n1) : OffsO n0 W v os := ⟨h.at_.mono hle, h.is, h.len, h.small⟩
end
section
set_option linter.unusedVariables false
set_option linter.unusedSimpArgs false
open Go.RowKit
structure Msg where
  ty : Int
  hops : Int
  life : Int
  tgt : List Int
  sm : Int
  ss : Int
  se : Int
  oe : Int
  os : Int
  ost : Int
  ol : Int
  ho : Bool
  bv : Int
  bl : Int
  br : List Int
  hb : Bool
  deriving DecidableEq
/-- a message and the values of its lists -/
structure MV where
  m : Msg
  ps : List PInf
  cs : List CInf
  u : Value
  v : Value
def MsAt (W : World) (x : MV) : Prop := SlAt W 20 x.u x.ps.length (pisC x.ps) ∧ SlAt W 20 x.v x.cs.length (cisC x.cs)
theorem MsAt.later {W w : World} {x : MV} (h : MsAt W x) (E : Ext [] W w) : MsAt w x := ⟨h.1.later E, h.2.later E⟩
end
section
set_option linter.unusedVariables false
set_option linter.unusedSimpArgs false
open Go.RowKit
attribute [local irreducible] OpTo wpListIn Code.wpIn MW Cal
/-- offers in memory -/
def LSt (W : World) (v : Value) (zs : List OV) : Prop := SlAt W 20 v zs.length (encL ovC zs) ∧ ∀ z ∈ zs, OffAt W z
theorem LSt.later {W w : World} {v : Value} {zs : List OV} (h : LSt W v zs) (E : Ext [] W w) : LSt w v zs := ⟨h.1.later E, fun z hz => (h.2 z hz).later E⟩
end
end Go.Proofs.Ytilgoepokaaleaa
/-! UOpen -/
namespace Go.Proofs.Ytilgoepokaaleaa
set_option linter.unusedVariables false
set_option linter.unusedSimpArgs false
open Go.ChangeShapes Go.WideShapes Go.ChangeAt Go.RowKit
def loK : IntKind → Int
  | .i64 => -9223372036854775808 | .u64 => 0 | .u32 => 0 | .u16 => 0 | .u8 => 0 | .i32 => -2147483648 | k => k.min
def hiK : IntKind → Int
  | .i64 => 9223372036854775807 | .u64 => 18446744073709551615 | .u32 => 4294967295 | .u16 => 65535 | .u8 => 255 | .i32 => 2147483647 | k => k.max
theorem int_bd {k : IntKind} {n : Int} (h : (Lit.int k n).wf = true) : loK k ≤ n ∧ n ≤ hiK k := by
  have := wf_bd h
  cases k <;> simp [IntKind.min, IntKind.max, IntKind.signed, IntKind.bits, loK, hiK] at this ⊢ <;> omega
theorem wfV_int {k : IntKind} {v : Value} (h : wfV (.i k) v = true) : ∃ n, v = .int k n ∧ loK k ≤ n ∧ n ≤ hiK k := by
  cases v <;> simp [wfV] at h
  rename_i k' n
  obtain ⟨rfl, hw⟩ := h
  exact ⟨n, rfl, int_bd hw⟩
theorem wfK_cons {k : LK} {ks : List LK} {xs : List Value} (h : wfK (k :: ks) xs = true) : ∃ x ys, xs = x :: ys ∧ wfV k x = true ∧ wfK ks ys = true := by
  cases xs with
  | nil => cases h
  | cons x ys => simp only [wfK, Bool.and_eq_true] at h; exact ⟨x, ys, rfl, h.1, h.2⟩
theorem wfK_nil {xs : List Value} (h : wfK [] xs = true) : xs = [] := by
  cases xs with
  | nil => rfl
  | cons x ys => cases h
section
variable {H : Type} {enc : TypeId × Value → H} {w : World} {r : Reach} {b0 base : Nat} {sp : Nat → Bool} {held : Bool} {v : Value} {d : DataW H} {p : List MemPlace}
end
end Go.Proofs.Ytilgoepokaaleaa
/-! Y0 -/
namespace Go.Proofs.Ytilgoepokaaleaa
set_option linter.unusedVariables false
set_option linter.unusedSimpArgs false
open Go.RowKit
/-! DstV -/
structure DstV where
  dip : List Int
  dbits : Int
  sip : List Int
  sbits : Int
  rt : Int
  deriving DecidableEq
def dvC (o : DstV) : List Value := pfC o.dip o.dbits ++ (pfC o.sip o.sbits ++ ([.int .u64 o.rt]))
def IsDv (o : DstV) : Prop := IsIP o.dip ∧ IsIP o.sip
theorem dv_len {o : DstV} (h : IsDv o) : (dvC o).length = 35 := by
  obtain ⟨f_dip, f_dbits, f_sip, f_sbits, f_rt⟩ := o
  obtain ⟨x0_0, x0_1, x0_2, x0_3, x0_4, x0_5, x0_6, x0_7, x0_8, x0_9, x0_10, x0_11, x0_12, x0_13, x0_14, x0_15, e0⟩ := len16 (show f_dip.length = 16 from (h.1).len)
  obtain ⟨x1_0, x1_1, x1_2, x1_3, x1_4, x1_5, x1_6, x1_7, x1_8, x1_9, x1_10, x1_11, x1_12, x1_13, x1_14, x1_15, e1⟩ := len16 (show f_sip.length = 16 from (h.2).len)
  subst e0
  subst e1
  rfl
theorem dv_all {o : DstV} (h : IsDv o) : seg (dvC o) 0 35 = some (dvC o) := sg_all (dv_len h)
theorem dv_dst {o : DstV} (h : IsDv o) : seg (dvC o) 0 17 = some (pfC o.dip o.dbits) := by
  obtain ⟨f_dip, f_dbits, f_sip, f_sbits, f_rt⟩ := o
  obtain ⟨x0_0, x0_1, x0_2, x0_3, x0_4, x0_5, x0_6, x0_7, x0_8, x0_9, x0_10, x0_11, x0_12, x0_13, x0_14, x0_15, e0⟩ := len16 (show f_dip.length = 16 from (h.1).len)
  obtain ⟨x1_0, x1_1, x1_2, x1_3, x1_4, x1_5, x1_6, x1_7, x1_8, x1_9, x1_10, x1_11, x1_12, x1_13, x1_14, x1_15, e1⟩ := len16 (show f_sip.length = 16 from (h.2).len)
  subst e0
  subst e1
  rfl
theorem dv_dip {o : DstV} (h : IsDv o) : seg (dvC o) 0 16 = some (ipC o.dip) := by
  obtain ⟨f_dip, f_dbits, f_sip, f_sbits, f_rt⟩ := o
  obtain ⟨x0_0, x0_1, x0_2, x0_3, x0_4, x0_5, x0_6, x0_7, x0_8, x0_9, x0_10, x0_11, x0_12, x0_13, x0_14, x0_15, e0⟩ := len16 (show f_dip.length = 16 from (h.1).len)
  obtain ⟨x1_0, x1_1, x1_2, x1_3, x1_4, x1_5, x1_6, x1_7, x1_8, x1_9, x1_10, x1_11, x1_12, x1_13, x1_14, x1_15, e1⟩ := len16 (show f_sip.length = 16 from (h.2).len)
  subst e0
  subst e1
  rfl
theorem dv_dbits {o : DstV} (h : IsDv o) : nth (dvC o) 16 = some (.int .i64 o.dbits) := by
  obtain ⟨f_dip, f_dbits, f_sip, f_sbits, f_rt⟩ := o
  obtain ⟨x0_0, x0_1, x0_2, x0_3, x0_4, x0_5, x0_6, x0_7, x0_8, x0_9, x0_10, x0_11, x0_12, x0_13, x0_14, x0_15, e0⟩ := len16 (show f_dip.length = 16 from (h.1).len)
  obtain ⟨x1_0, x1_1, x1_2, x1_3, x1_4, x1_5, x1_6, x1_7, x1_8, x1_9, x1_10, x1_11, x1_12, x1_13, x1_14, x1_15, e1⟩ := len16 (show f_sip.length = 16 from (h.2).len)
  subst e0
  subst e1
  rfl
theorem dv_src {o : DstV} (h : IsDv o) : seg (dvC o) 17 17 = some (pfC o.sip o.sbits) := by
  obtain ⟨f_dip, f_dbits, f_sip, f_sbits, f_rt⟩ := o
  obtain ⟨x0_0, x0_1, x0_2, x0_3, x0_4, x0_5, x0_6, x0_7, x0_8, x0_9, x0_10, x0_11, x0_12, x0_13, x0_14, x0_15, e0⟩ := len16 (show f_dip.length = 16 from (h.1).len)
  obtain ⟨x1_0, x1_1, x1_2, x1_3, x1_4, x1_5, x1_6, x1_7, x1_8, x1_9, x1_10, x1_11, x1_12, x1_13, x1_14, x1_15, e1⟩ := len16 (show f_sip.length = 16 from (h.2).len)
  subst e0
  subst e1
  rfl
theorem dv_sip {o : DstV} (h : IsDv o) : seg (dvC o) 17 16 = some (ipC o.sip) := by
  obtain ⟨f_dip, f_dbits, f_sip, f_sbits, f_rt⟩ := o
  obtain ⟨x0_0, x0_1, x0_2, x0_3, x0_4, x0_5, x0_6, x0_7, x0_8, x0_9, x0_10, x0_11, x0_12, x0_13, x0_14, x0_15, e0⟩ := len16 (show f_dip.length = 16 from (h.1).len)
  obtain ⟨x1_0, x1_1, x1_2, x1_3, x1_4, x1_5, x1_6, x1_7, x1_8, x1_9, x1_10, x1_11, x1_12, x1_13, x1_14, x1_15, e1⟩ := len16 (show f_sip.length = 16 from (h.2).len)
  subst e0
  subst e1
  rfl
theorem dv_sbits {o : DstV} (h : IsDv o) : nth (dvC o) 33 = some (.int .i64 o.sbits) := by
  obtain ⟨f_dip, f_dbits, f_sip, f_sbits, f_rt⟩ := o
  obtain ⟨x0_0, x0_1, x0_2, x0_3, x0_4, x0_5, x0_6, x0_7, x0_8, x0_9, x0_10, x0_11, x0_12, x0_13, x0_14, x0_15, e0⟩ := len16 (show f_dip.length = 16 from (h.1).len)
  obtain ⟨x1_0, x1_1, x1_2, x1_3, x1_4, x1_5, x1_6, x1_7, x1_8, x1_9, x1_10, x1_11, x1_12, x1_13, x1_14, x1_15, e1⟩ := len16 (show f_sip.length = 16 from (h.2).len)
  subst e0
  subst e1
  rfl
theorem dv_rt {o : DstV} (h : IsDv o) : nth (dvC o) 34 = some (.int .u64 o.rt) := by
  obtain ⟨f_dip, f_dbits, f_sip, f_sbits, f_rt⟩ := o
  obtain ⟨x0_0, x0_1, x0_2, x0_3, x0_4, x0_5, x0_6, x0_7, x0_8, x0_9, x0_10, x0_11, x0_12, x0_13, x0_14, x0_15, e0⟩ := len16 (show f_dip.length = 16 from (h.1).len)
  obtain ⟨x1_0, x1_1, x1_2, x1_3, x1_4, x1_5, x1_6, x1_7, x1_8, x1_9, x1_10, x1_11, x1_12, x1_13, x1_14, x1_15, e1⟩ := len16 (show f_sip.length = 16 from (h.2).len)
  subst e0
  subst e1
  rfl
theorem dv_one (o : DstV) : (dvC o).all (·.oneCell') = true := by
  simp [pfC, ipC, dvC, Value.oneCell']
def dvZ : List Value := [.int .u8 0, .int .u8 0, .int .u8 0, .int .u8 0, .int .u8 0, .int .u8 0, .int .u8 0, .int .u8 0, .int .u8 0, .int .u8 0, .int .u8 0, .int .u8 0, .int .u8 0, .int .u8 0, .int .u8 0, .int .u8 0, .int .i64 0, .int .u8 0, .int .u8 0, .int .u8 0, .int .u8 0, .int .u8 0, .int .u8 0, .int .u8 0, .int .u8 0, .int .u8 0, .int .u8 0, .int .u8 0, .int .u8 0, .int .u8 0, .int .u8 0, .int .u8 0, .int .u8 0, .int .i64 0, .int .u64 0]
theorem dv_build1 {o : DstV} (h : IsDv o) : putAll (placesL 1 35) (zerosL dvZ (1 * 35)) [(0, dvC o)] = some (dvC o) := by
  obtain ⟨f_dip, f_dbits, f_sip, f_sbits, f_rt⟩ := o
  obtain ⟨x0_0, x0_1, x0_2, x0_3, x0_4, x0_5, x0_6, x0_7, x0_8, x0_9, x0_10, x0_11, x0_12, x0_13, x0_14, x0_15, e0⟩ := len16 (show f_dip.length = 16 from (h.1).len)
  obtain ⟨x1_0, x1_1, x1_2, x1_3, x1_4, x1_5, x1_6, x1_7, x1_8, x1_9, x1_10, x1_11, x1_12, x1_13, x1_14, x1_15, e1⟩ := len16 (show f_sip.length = 16 from (h.2).len)
  subst e0
  subst e1
  rfl
abbrev dvK : List LK := [.i .u8, .i .u8, .i .u8, .i .u8, .i .u8, .i .u8, .i .u8, .i .u8, .i .u8, .i .u8, .i .u8, .i .u8, .i .u8, .i .u8, .i .u8, .i .u8, .i .i64, .i .u8, .i .u8, .i .u8, .i .u8, .i .u8, .i .u8, .i .u8, .i .u8, .i .u8, .i .u8, .i .u8, .i .u8, .i .u8, .i .u8, .i .u8, .i .u8, .i .i64, .i .u64]
theorem dv_fits {o : DstV} (h : IsDv o) : fitsK dvK (dvC o) = true := by
  obtain ⟨f_dip, f_dbits, f_sip, f_sbits, f_rt⟩ := o
  obtain ⟨x0_0, x0_1, x0_2, x0_3, x0_4, x0_5, x0_6, x0_7, x0_8, x0_9, x0_10, x0_11, x0_12, x0_13, x0_14, x0_15, e0⟩ := len16 (show f_dip.length = 16 from (h.1).len)
  obtain ⟨x1_0, x1_1, x1_2, x1_3, x1_4, x1_5, x1_6, x1_7, x1_8, x1_9, x1_10, x1_11, x1_12, x1_13, x1_14, x1_15, e1⟩ := len16 (show f_sip.length = 16 from (h.2).len)
  subst e0
  subst e1
  rfl
theorem dv_eq {a b : DstV} (ha : IsDv a) (hb : IsDv b) : eqVs (dvC a) (dvC b) = decide (a = b) := by
  have l0 : a.dip.length = b.dip.length := by rw [(ha.1).len, (hb.1).len]
  have l1 : a.sip.length = b.sip.length := by rw [(ha.2).len, (hb.2).len]
  rw [Bool.eq_iff_iff, decide_eq_true_eq]
  obtain ⟨a_dip, a_dbits, a_sip, a_sbits, a_rt⟩ := a
  obtain ⟨b_dip, b_dbits, b_sip, b_sbits, b_rt⟩ := b
  dsimp only at l0 l1
  simp only [dvC, DstV.mk.injEq]
  rw [eqVs_append _ _ _ _ (by first | rfl | assumption | (simp [pfC, ipC]; assumption))]
  rw [eqVs_append _ _ _ _ (by first | rfl | assumption | (simp [pfC, ipC]; assumption))]
  rw [eqVs_pf l0]
  rw [eqVs_pf l1]
  simp [eqVs, eqV, Bool.and_eq_true, beq_iff_eq, Bool.and_true, and_assoc, decide_eq_true_eq, List.cons_append, List.nil_append]
abbrev dvsC (l : List DstV) : List Value := encL dvC l
/-! DisV -/
structure DisV where
  seq : Int
  met : Int
  deriving DecidableEq
def diC (o : DisV) : List Value := [.int .u16 o.seq, .int .i64 o.met]
def IsDi (o : DisV) : Prop := True
theorem di_len {o : DisV} (h : IsDi o) : (diC o).length = 2 := by
  obtain ⟨f_seq, f_met⟩ := o
  rfl
theorem di_all {o : DisV} (h : IsDi o) : seg (diC o) 0 2 = some (diC o) := sg_all (di_len h)
theorem di_seq {o : DisV} (h : IsDi o) : nth (diC o) 0 = some (.int .u16 o.seq) := by
  obtain ⟨f_seq, f_met⟩ := o
  rfl
theorem di_met {o : DisV} (h : IsDi o) : nth (diC o) 1 = some (.int .i64 o.met) := by
  obtain ⟨f_seq, f_met⟩ := o
  rfl
theorem di_put_met {o : DisV} (h : IsDi o) (z : Int) : put (diC o) 1 [.int .i64 z] = some (diC { o with met := z }) := by
  obtain ⟨f_seq, f_met⟩ := o
  rfl
theorem di_one (o : DisV) : (diC o).all (·.oneCell') = true := by
  simp [pfC, ipC, diC, Value.oneCell']
abbrev diK : List LK := [.i .u16, .i .i64]
theorem di_fits {o : DisV} (h : IsDi o) : fitsK diK (diC o) = true := by
  obtain ⟨f_seq, f_met⟩ := o
  rfl
theorem di_eq {a b : DisV} (ha : IsDi a) (hb : IsDi b) : eqVs (diC a) (diC b) = decide (a = b) := by
  rw [Bool.eq_iff_iff, decide_eq_true_eq]
  obtain ⟨a_seq, a_met⟩ := a
  obtain ⟨b_seq, b_met⟩ := b
  simp only [diC, DisV.mk.injEq]
  simp [eqVs, eqV, Bool.and_eq_true, beq_iff_eq, Bool.and_true, and_assoc, decide_eq_true_eq, List.cons_append, List.nil_append]
/-! AdvV -/
structure AdvV where
  to : DstV
  own : DisV
  deriving DecidableEq
/-! InsV -/
structure InsV where
  to : DstV
  nb : Int
  own : DisV
  btn : Int
  til : Int
  deriving DecidableEq
def inC (o : InsV) : List Value := dvC o.to ++ ([.int .u64 o.nb] ++ (diC o.own ++ ([.int .i64 o.btn, .int .i64 o.til])))
def IsIn (o : InsV) : Prop := IsDv o.to ∧ IsDi o.own
theorem in_len {o : InsV} (h : IsIn o) : (inC o).length = 40 := by
  obtain ⟨⟨f_to_dip, f_to_dbits, f_to_sip, f_to_sbits, f_to_rt⟩, f_nb, ⟨f_own_seq, f_own_met⟩, f_btn, f_til⟩ := o
  obtain ⟨x0_0, x0_1, x0_2, x0_3, x0_4, x0_5, x0_6, x0_7, x0_8, x0_9, x0_10, x0_11, x0_12, x0_13, x0_14, x0_15, e0⟩ := len16 (show f_to_dip.length = 16 from (h.1.1).len)
  obtain ⟨x1_0, x1_1, x1_2, x1_3, x1_4, x1_5, x1_6, x1_7, x1_8, x1_9, x1_10, x1_11, x1_12, x1_13, x1_14, x1_15, e1⟩ := len16 (show f_to_sip.length = 16 from (h.1.2).len)
  subst e0
  subst e1
  rfl
theorem in_all {o : InsV} (h : IsIn o) : seg (inC o) 0 40 = some (inC o) := sg_all (in_len h)
theorem in_to {o : InsV} (h : IsIn o) : seg (inC o) 0 35 = some (dvC o.to) := by
  obtain ⟨⟨f_to_dip, f_to_dbits, f_to_sip, f_to_sbits, f_to_rt⟩, f_nb, ⟨f_own_seq, f_own_met⟩, f_btn, f_til⟩ := o
  obtain ⟨x0_0, x0_1, x0_2, x0_3, x0_4, x0_5, x0_6, x0_7, x0_8, x0_9, x0_10, x0_11, x0_12, x0_13, x0_14, x0_15, e0⟩ := len16 (show f_to_dip.length = 16 from (h.1.1).len)
  obtain ⟨x1_0, x1_1, x1_2, x1_3, x1_4, x1_5, x1_6, x1_7, x1_8, x1_9, x1_10, x1_11, x1_12, x1_13, x1_14, x1_15, e1⟩ := len16 (show f_to_sip.length = 16 from (h.1.2).len)
  subst e0
  subst e1
  rfl
theorem in_to_dst {o : InsV} (h : IsIn o) : seg (inC o) 0 17 = some (pfC o.to.dip o.to.dbits) := by
  obtain ⟨⟨f_to_dip, f_to_dbits, f_to_sip, f_to_sbits, f_to_rt⟩, f_nb, ⟨f_own_seq, f_own_met⟩, f_btn, f_til⟩ := o
  obtain ⟨x0_0, x0_1, x0_2, x0_3, x0_4, x0_5, x0_6, x0_7, x0_8, x0_9, x0_10, x0_11, x0_12, x0_13, x0_14, x0_15, e0⟩ := len16 (show f_to_dip.length = 16 from (h.1.1).len)
  obtain ⟨x1_0, x1_1, x1_2, x1_3, x1_4, x1_5, x1_6, x1_7, x1_8, x1_9, x1_10, x1_11, x1_12, x1_13, x1_14, x1_15, e1⟩ := len16 (show f_to_sip.length = 16 from (h.1.2).len)
  subst e0
  subst e1
  rfl
theorem in_to_src {o : InsV} (h : IsIn o) : seg (inC o) 17 17 = some (pfC o.to.sip o.to.sbits) := by
  obtain ⟨⟨f_to_dip, f_to_dbits, f_to_sip, f_to_sbits, f_to_rt⟩, f_nb, ⟨f_own_seq, f_own_met⟩, f_btn, f_til⟩ := o
  obtain ⟨x0_0, x0_1, x0_2, x0_3, x0_4, x0_5, x0_6, x0_7, x0_8, x0_9, x0_10, x0_11, x0_12, x0_13, x0_14, x0_15, e0⟩ := len16 (show f_to_dip.length = 16 from (h.1.1).len)
  obtain ⟨x1_0, x1_1, x1_2, x1_3, x1_4, x1_5, x1_6, x1_7, x1_8, x1_9, x1_10, x1_11, x1_12, x1_13, x1_14, x1_15, e1⟩ := len16 (show f_to_sip.length = 16 from (h.1.2).len)
  subst e0
  subst e1
  rfl
theorem in_nb {o : InsV} (h : IsIn o) : nth (inC o) 35 = some (.int .u64 o.nb) := by
  obtain ⟨⟨f_to_dip, f_to_dbits, f_to_sip, f_to_sbits, f_to_rt⟩, f_nb, ⟨f_own_seq, f_own_met⟩, f_btn, f_til⟩ := o
  obtain ⟨x0_0, x0_1, x0_2, x0_3, x0_4, x0_5, x0_6, x0_7, x0_8, x0_9, x0_10, x0_11, x0_12, x0_13, x0_14, x0_15, e0⟩ := len16 (show f_to_dip.length = 16 from (h.1.1).len)
  obtain ⟨x1_0, x1_1, x1_2, x1_3, x1_4, x1_5, x1_6, x1_7, x1_8, x1_9, x1_10, x1_11, x1_12, x1_13, x1_14, x1_15, e1⟩ := len16 (show f_to_sip.length = 16 from (h.1.2).len)
  subst e0
  subst e1
  rfl
theorem in_own {o : InsV} (h : IsIn o) : seg (inC o) 36 2 = some (diC o.own) := by
  obtain ⟨⟨f_to_dip, f_to_dbits, f_to_sip, f_to_sbits, f_to_rt⟩, f_nb, ⟨f_own_seq, f_own_met⟩, f_btn, f_til⟩ := o
  obtain ⟨x0_0, x0_1, x0_2, x0_3, x0_4, x0_5, x0_6, x0_7, x0_8, x0_9, x0_10, x0_11, x0_12, x0_13, x0_14, x0_15, e0⟩ := len16 (show f_to_dip.length = 16 from (h.1.1).len)
  obtain ⟨x1_0, x1_1, x1_2, x1_3, x1_4, x1_5, x1_6, x1_7, x1_8, x1_9, x1_10, x1_11, x1_12, x1_13, x1_14, x1_15, e1⟩ := len16 (show f_to_sip.length = 16 from (h.1.2).len)
  subst e0
  subst e1
  rfl
theorem in_own_seq {o : InsV} (h : IsIn o) : nth (inC o) 36 = some (.int .u16 o.own.seq) := by
  obtain ⟨⟨f_to_dip, f_to_dbits, f_to_sip, f_to_sbits, f_to_rt⟩, f_nb, ⟨f_own_seq, f_own_met⟩, f_btn, f_til⟩ := o
  obtain ⟨x0_0, x0_1, x0_2, x0_3, x0_4, x0_5, x0_6, x0_7, x0_8, x0_9, x0_10, x0_11, x0_12, x0_13, x0_14, x0_15, e0⟩ := len16 (show f_to_dip.length = 16 from (h.1.1).len)
  obtain ⟨x1_0, x1_1, x1_2, x1_3, x1_4, x1_5, x1_6, x1_7, x1_8, x1_9, x1_10, x1_11, x1_12, x1_13, x1_14, x1_15, e1⟩ := len16 (show f_to_sip.length = 16 from (h.1.2).len)
  subst e0
  subst e1
  rfl
theorem in_own_met {o : InsV} (h : IsIn o) : nth (inC o) 37 = some (.int .i64 o.own.met) := by
  obtain ⟨⟨f_to_dip, f_to_dbits, f_to_sip, f_to_sbits, f_to_rt⟩, f_nb, ⟨f_own_seq, f_own_met⟩, f_btn, f_til⟩ := o
  obtain ⟨x0_0, x0_1, x0_2, x0_3, x0_4, x0_5, x0_6, x0_7, x0_8, x0_9, x0_10, x0_11, x0_12, x0_13, x0_14, x0_15, e0⟩ := len16 (show f_to_dip.length = 16 from (h.1.1).len)
  obtain ⟨x1_0, x1_1, x1_2, x1_3, x1_4, x1_5, x1_6, x1_7, x1_8, x1_9, x1_10, x1_11, x1_12, x1_13, x1_14, x1_15, e1⟩ := len16 (show f_to_sip.length = 16 from (h.1.2).len)
  subst e0
  subst e1
  rfl
theorem in_btn {o : InsV} (h : IsIn o) : nth (inC o) 38 = some (.int .i64 o.btn) := by
  obtain ⟨⟨f_to_dip, f_to_dbits, f_to_sip, f_to_sbits, f_to_rt⟩, f_nb, ⟨f_own_seq, f_own_met⟩, f_btn, f_til⟩ := o
  obtain ⟨x0_0, x0_1, x0_2, x0_3, x0_4, x0_5, x0_6, x0_7, x0_8, x0_9, x0_10, x0_11, x0_12, x0_13, x0_14, x0_15, e0⟩ := len16 (show f_to_dip.length = 16 from (h.1.1).len)
  obtain ⟨x1_0, x1_1, x1_2, x1_3, x1_4, x1_5, x1_6, x1_7, x1_8, x1_9, x1_10, x1_11, x1_12, x1_13, x1_14, x1_15, e1⟩ := len16 (show f_to_sip.length = 16 from (h.1.2).len)
  subst e0
  subst e1
  rfl
theorem in_til {o : InsV} (h : IsIn o) : nth (inC o) 39 = some (.int .i64 o.til) := by
  obtain ⟨⟨f_to_dip, f_to_dbits, f_to_sip, f_to_sbits, f_to_rt⟩, f_nb, ⟨f_own_seq, f_own_met⟩, f_btn, f_til⟩ := o
  obtain ⟨x0_0, x0_1, x0_2, x0_3, x0_4, x0_5, x0_6, x0_7, x0_8, x0_9, x0_10, x0_11, x0_12, x0_13, x0_14, x0_15, e0⟩ := len16 (show f_to_dip.length = 16 from (h.1.1).len)
  obtain ⟨x1_0, x1_1, x1_2, x1_3, x1_4, x1_5, x1_6, x1_7, x1_8, x1_9, x1_10, x1_11, x1_12, x1_13, x1_14, x1_15, e1⟩ := len16 (show f_to_sip.length = 16 from (h.1.2).len)
  subst e0
  subst e1
  rfl
theorem in_one (o : InsV) : (inC o).all (·.oneCell') = true := by
  simp [pfC, ipC, inC, dvC, diC, Value.oneCell']
def inZ : List Value := [.int .u8 0, .int .u8 0, .int .u8 0, .int .u8 0, .int .u8 0, .int .u8 0, .int .u8 0, .int .u8 0, .int .u8 0, .int .u8 0, .int .u8 0, .int .u8 0, .int .u8 0, .int .u8 0, .int .u8 0, .int .u8 0, .int .i64 0, .int .u8 0, .int .u8 0, .int .u8 0, .int .u8 0, .int .u8 0, .int .u8 0, .int .u8 0, .int .u8 0, .int .u8 0, .int .u8 0, .int .u8 0, .int .u8 0, .int .u8 0, .int .u8 0, .int .u8 0, .int .u8 0, .int .i64 0, .int .u64 0, .int .u64 0, .int .u16 0, .int .i64 0, .int .i64 0, .int .i64 0]
theorem in_build1 {o : InsV} (h : IsIn o) : putAll (placesL 1 40) (zerosL inZ (1 * 40)) [(0, inC o)] = some (inC o) := by
  obtain ⟨⟨f_to_dip, f_to_dbits, f_to_sip, f_to_sbits, f_to_rt⟩, f_nb, ⟨f_own_seq, f_own_met⟩, f_btn, f_til⟩ := o
  obtain ⟨x0_0, x0_1, x0_2, x0_3, x0_4, x0_5, x0_6, x0_7, x0_8, x0_9, x0_10, x0_11, x0_12, x0_13, x0_14, x0_15, e0⟩ := len16 (show f_to_dip.length = 16 from (h.1.1).len)
  obtain ⟨x1_0, x1_1, x1_2, x1_3, x1_4, x1_5, x1_6, x1_7, x1_8, x1_9, x1_10, x1_11, x1_12, x1_13, x1_14, x1_15, e1⟩ := len16 (show f_to_sip.length = 16 from (h.1.2).len)
  subst e0
  subst e1
  rfl
abbrev inK : List LK := [.i .u8, .i .u8, .i .u8, .i .u8, .i .u8, .i .u8, .i .u8, .i .u8, .i .u8, .i .u8, .i .u8, .i .u8, .i .u8, .i .u8, .i .u8, .i .u8, .i .i64, .i .u8, .i .u8, .i .u8, .i .u8, .i .u8, .i .u8, .i .u8, .i .u8, .i .u8, .i .u8, .i .u8, .i .u8, .i .u8, .i .u8, .i .u8, .i .u8, .i .i64, .i .u64, .i .u64, .i .u16, .i .i64, .i .i64, .i .i64]
theorem in_fits {o : InsV} (h : IsIn o) : fitsK inK (inC o) = true := by
  obtain ⟨⟨f_to_dip, f_to_dbits, f_to_sip, f_to_sbits, f_to_rt⟩, f_nb, ⟨f_own_seq, f_own_met⟩, f_btn, f_til⟩ := o
  obtain ⟨x0_0, x0_1, x0_2, x0_3, x0_4, x0_5, x0_6, x0_7, x0_8, x0_9, x0_10, x0_11, x0_12, x0_13, x0_14, x0_15, e0⟩ := len16 (show f_to_dip.length = 16 from (h.1.1).len)
  obtain ⟨x1_0, x1_1, x1_2, x1_3, x1_4, x1_5, x1_6, x1_7, x1_8, x1_9, x1_10, x1_11, x1_12, x1_13, x1_14, x1_15, e1⟩ := len16 (show f_to_sip.length = 16 from (h.1.2).len)
  subst e0
  subst e1
  rfl
theorem in_eq {a b : InsV} (ha : IsIn a) (hb : IsIn b) : eqVs (inC a) (inC b) = decide (a = b) := by
  have l0 := dv_eq (ha.1) (hb.1)
  have m0 : (dvC a.to).length = (dvC b.to).length := by rw [dv_len (ha.1), dv_len (hb.1)]
  have l1 := di_eq (ha.2) (hb.2)
  have m1 : (diC a.own).length = (diC b.own).length := by rw [di_len (ha.2), di_len (hb.2)]
  rw [Bool.eq_iff_iff, decide_eq_true_eq]
  obtain ⟨a_to, a_nb, a_own, a_btn, a_til⟩ := a
  obtain ⟨b_to, b_nb, b_own, b_btn, b_til⟩ := b
  dsimp only at l0 l1 m0 m1
  simp only [inC, InsV.mk.injEq]
  rw [eqVs_append _ _ _ _ (by first | rfl | assumption | (simp [pfC, ipC]; assumption))]
  rw [eqVs_append _ _ _ _ (by first | rfl | assumption | (simp [pfC, ipC]; assumption))]
  rw [eqVs_append _ _ _ _ (by first | rfl | assumption | (simp [pfC, ipC]; assumption))]
  rw [l0]
  rw [l1]
  simp [eqVs, eqV, Bool.and_eq_true, beq_iff_eq, Bool.and_true, and_assoc, decide_eq_true_eq, List.cons_append, List.nil_append]
abbrev insC (l : List InsV) : List Value := encL inC l
theorem ins_len {l : List InsV} (h : ∀ x ∈ l, IsIn x) : ∀ x ∈ l, (inC x).length = 40 := fun x hx => in_len (h x hx)
end Go.Proofs.Ytilgoepokaaleaa
/-! Y1 -/
namespace Go.Proofs.Ytilgoepokaaleaa
set_option linter.unusedVariables false
set_option linter.unusedSimpArgs false
def keyD (d : DstV) : List Int := d.dip ++ (d.dbits :: (d.sip ++ [d.sbits, d.rt]))
def cmpD (a b : DstV) : Int := cmpL (keyD a) (keyD b)
theorem cmpD_self (a : DstV) : cmpD a a = 0 := cmpL_self _
theorem cmpD_anti (a b : DstV) : cmpD b a = - cmpD a b := cmpL_anti _ _
theorem cmpD_trans {a b c : DstV} (h : cmpD a b < 0) (k : cmpD b c < 0) : cmpD a c < 0 := cmpL_lt_trans h k
theorem cmpD_zero {a b : DstV} (ha : IsDv a) (hb : IsDv b) (h : cmpD a b = 0) : a = b := by
  have h1 := cmpL_zero h
  obtain ⟨d1, d2, s1, s2, r⟩ := a
  obtain ⟨e1, e2, t1, t2, q⟩ := b
  simp only [keyD] at h1
  obtain ⟨h2, h3⟩ := List.append_inj h1 (by rw [(show IsIP d1 from ha.1).len, (show IsIP e1 from hb.1).len])
  simp only [List.cons.injEq] at h3
  obtain ⟨h4, h5⟩ := List.append_inj h3.2 (by rw [(show IsIP s1 from ha.2).len, (show IsIP t1 from hb.2).len])
  simp only [List.cons.injEq, and_true] at h5
  rw [h2, h3.1, h4, h5.1, h5.2]
/-- the parts in their order -/
def cmpI (a b : Int) : Int := if a < b then -1 else if b < a then 1 else 0
def orI (a b : Int) : Int := if a = 0 then b else a
theorem cmpL_cons (x y : Int) (xs ys : List Int) : cmpL (x :: xs) (y :: ys) = orI (cmpI x y) (cmpL xs ys) := by
  simp only [cmpL, orI, cmpI]
  split
  · rfl
  · split <;> rfl
theorem cmpL_two : ∀ (xs ys us vs : List Int), xs.length = ys.length → cmpL (xs ++ us) (ys ++ vs) = orI (cmpL xs ys) (cmpL us vs)
  | [], [], _, _, _ => rfl
  | x :: xs, y :: ys, us, vs, h => by
    rw [List.cons_append, List.cons_append, cmpL_cons, cmpL_cons, cmpL_two xs ys us vs (by simpa using h)]
    simp only [orI]
    split <;> simp_all
  | [], _ :: _, _, _, h => by cases h
  | _ :: _, [], _, _, h => by cases h
theorem cmpD_or {a b : DstV} (ha : IsDv a) (hb : IsDv b) : cmpD a b = orI (cmpL a.dip b.dip) (orI (cmpI a.dbits b.dbits) (orI (cmpL a.sip b.sip) (orI (cmpI a.sbits b.sbits) (cmpI a.rt b.rt)))) := by
  unfold cmpD keyD
  rw [cmpL_two _ _ _ _ (by rw [ha.1.len, hb.1.len]), cmpL_cons, cmpL_two _ _ _ _ (by rw [ha.2.len, hb.2.len]), cmpL_cons, cmpL_cons]
  congr 4
  simp only [cmpL, orI, cmpI]
  split <;> simp_all
/-! strictly ascending lists over their keys -/
section asc
variable {α : Type} (key : α → DstV)
def AscK (l : List α) : Prop := l.Pairwise fun a b => cmpD (key a) (key b) < 0
theorem ascK_unique : ∀ (az bs : List α), AscK key az → AscK key bs → (∀ x, x ∈ az ↔ x ∈ bs) → az = bs
  | [], bs, _, _, h => by
    cases bs with
    | nil => rfl
    | cons b bs => have := (h b).2 (by simp); cases this
  | a :: az, [], _, _, h => by have := (h a).1 (by simp); cases this
  | a :: az, b :: bs, ha, hb, h => by
    obtain ⟨ha1, ha2⟩ := List.pairwise_cons.1 ha
    obtain ⟨hb1, hb2⟩ := List.pairwise_cons.1 hb
    have hab : a = b := by
      rcases List.mem_cons.1 ((h a).1 (by simp)) with h1 | h1
      · exact h1
      · rcases List.mem_cons.1 ((h b).2 (by simp)) with h2 | h2
        · exact h2.symm
        · have h3 := hb1 a h1
          have h4 := ha1 b h2
          have := cmpD_anti (key a) (key b)
          omega
    subst hab
    have hne : ∀ x, cmpD (key a) (key x) < 0 → x ≠ a := fun x hx e => by rw [e, cmpD_self] at hx; omega
    rw [ascK_unique az bs ha2 hb2 fun x => ⟨fun hx => by
      rcases List.mem_cons.1 ((h x).1 (by simp [hx])) with h1 | h1
      · exact absurd h1 (hne x (ha1 x hx))
      · exact h1, fun hx => by
      rcases List.mem_cons.1 ((h x).2 (by simp [hx])) with h1 | h1
      · exact absurd h1 (hne x (hb1 x hx))
      · exact h1⟩]
variable {key}
theorem AscK.sub {l m : List α} (h : AscK key l) (hs : m.Sublist l) : AscK key m := List.Pairwise.sublist hs h
theorem AscK.filter {l : List α} (h : AscK key l) (f : α → Bool) : AscK key (l.filter f) := h.sub List.filter_sublist
end asc
/-! what is announced -/
def inf : Int := 65535
/-- all of them behind a destination -/
def Lo (d : DstV) (l : List AdvV) : Prop := ∀ x ∈ l, cmpD d x.to < 0
theorem Lo.trans {d e : DstV} {l : List AdvV} (h : Lo e l) (k : cmpD d e < 0) : Lo d l := fun x hx => cmpD_trans k (h x hx)
end Go.Proofs.Ytilgoepokaaleaa
/-! Y2 -/
namespace Go.Proofs.Ytilgoepokaaleaa
set_option linter.unusedVariables false
set_option linter.unusedSimpArgs false
/-! validity -/
def validT (d : DstV) : Bool := validP d.dip d.dbits && validP d.sip d.sbits && !decide (d.rt = 0)
def validM (m : Int) : Bool := decide (0 ≤ m) && decide (m ≤ 65535)
theorem validM_inf : validM inf = true := rfl
end Go.Proofs.Ytilgoepokaaleaa
