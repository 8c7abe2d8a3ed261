/-
  Texts joined: Types, LibN, LibO, G1, LibQ, LibR, LibS.
-/
import Derived.Test.YtilgoepokaaleaaGreatTables1
import Derived.Test.YtilgoepokaaleaaGreatProg
import Derived.KernelRfl
import Derived.Laws.MakeOwn
import Derived.Lib.BitFns
import Derived.Laws.Externs
import Derived.Lib.Overlaps
import Derived.Lib.BytesEntry
/-! Types -/
namespace Go.Proofs.YtilgoepokaaleaaGreat
set_option linter.unusedVariables false
instance : TMix Tryz.prog := ⟨by kernel_rfl⟩
instance : TOne Tryz.prog 1 := ⟨by kernel_rfl⟩
instance : TSz Tryz.prog 1 1 := ⟨by kernel_rfl⟩
instance : TZero Tryz.prog 1 [.nilFunc] := ⟨by kernel_rfl⟩
instance : TU Tryz.prog 2 (TypeDesc.int IntKind.i64) := ⟨Tryz.underlying2⟩
instance : TSz Tryz.prog 2 1 := ⟨by kernel_rfl⟩
instance : TOne Tryz.prog 2 := ⟨by kernel_rfl⟩
instance : TEl Tryz.prog 2 1 8 := ⟨by kernel_rfl⟩
instance : TZero Tryz.prog 2 [.int .i64 0] := ⟨by kernel_rfl⟩
instance : TU Tryz.prog 3 (TypeDesc.int IntKind.i64) := ⟨Tryz.underlying3⟩
instance : TSz Tryz.prog 3 1 := ⟨by kernel_rfl⟩
instance : TOne Tryz.prog 3 := ⟨by kernel_rfl⟩
instance : TEl Tryz.prog 3 1 8 := ⟨by kernel_rfl⟩
instance : TZero Tryz.prog 3 [.int .i64 0] := ⟨by kernel_rfl⟩
instance : TU Tryz.prog 4 (TypeDesc.bool) := ⟨Tryz.underlying4⟩
instance : TSz Tryz.prog 4 1 := ⟨by kernel_rfl⟩
instance : TOne Tryz.prog 4 := ⟨by kernel_rfl⟩
instance : TEl Tryz.prog 4 1 1 := ⟨by kernel_rfl⟩
instance : TZero Tryz.prog 4 [.bool false] := ⟨by kernel_rfl⟩
instance : TU Tryz.prog 5 (TypeDesc.int IntKind.u8) := ⟨Tryz.underlying5⟩
instance : TSz Tryz.prog 5 1 := ⟨by kernel_rfl⟩
instance : TOne Tryz.prog 5 := ⟨by kernel_rfl⟩
instance : TEl Tryz.prog 5 1 1 := ⟨by kernel_rfl⟩
instance : TZero Tryz.prog 5 [.int .u8 0] := ⟨by kernel_rfl⟩
instance : TU Tryz.prog 6 (TypeDesc.int IntKind.u8) := ⟨Tryz.underlying6⟩
instance : TSz Tryz.prog 6 1 := ⟨by kernel_rfl⟩
instance : TOne Tryz.prog 6 := ⟨by kernel_rfl⟩
instance : TEl Tryz.prog 6 1 1 := ⟨by kernel_rfl⟩
instance : TZero Tryz.prog 6 [.int .u8 0] := ⟨by kernel_rfl⟩
instance : TSz Tryz.prog 7 4 := ⟨by kernel_rfl⟩
instance : TAgg Tryz.prog 7 4 := ⟨by kernel_rfl⟩
instance : TFldT Tryz.prog 7 0 0 2 := ⟨by kernel_rfl⟩
instance : TFld Tryz.prog 7 0 0 := ⟨by kernel_rfl⟩
instance : TFldT Tryz.prog 7 1 1 3 := ⟨by kernel_rfl⟩
instance : TFld Tryz.prog 7 1 1 := ⟨by kernel_rfl⟩
instance : TFldT Tryz.prog 7 2 2 4 := ⟨by kernel_rfl⟩
instance : TFld Tryz.prog 7 2 2 := ⟨by kernel_rfl⟩
instance : TFldT Tryz.prog 7 3 3 6 := ⟨by kernel_rfl⟩
instance : TFld Tryz.prog 7 3 3 := ⟨by kernel_rfl⟩
instance : TLay Tryz.prog 7 [(0, 1), (1, 1), (2, 1), (3, 1)] := ⟨by kernel_rfl⟩
instance : TEl Tryz.prog 7 4 24 := ⟨by kernel_rfl⟩
instance : TEq Tryz.prog 7 [.i .i64, .i .i64, .b, .i .u8] := ⟨by kernel_rfl⟩
instance : TZero Tryz.prog 7 [.int .i64 0, .int .i64 0, .bool false, .int .u8 0] := ⟨by kernel_rfl⟩
instance : TSz Tryz.prog 8 4 := ⟨by kernel_rfl⟩
instance : TAgg Tryz.prog 8 4 := ⟨by kernel_rfl⟩
instance : TFldT Tryz.prog 8 0 0 2 := ⟨by kernel_rfl⟩
instance : TFld Tryz.prog 8 0 0 := ⟨by kernel_rfl⟩
instance : TFldT Tryz.prog 8 1 1 3 := ⟨by kernel_rfl⟩
instance : TFld Tryz.prog 8 1 1 := ⟨by kernel_rfl⟩
instance : TFldT Tryz.prog 8 2 2 4 := ⟨by kernel_rfl⟩
instance : TFld Tryz.prog 8 2 2 := ⟨by kernel_rfl⟩
instance : TFldT Tryz.prog 8 3 3 6 := ⟨by kernel_rfl⟩
instance : TFld Tryz.prog 8 3 3 := ⟨by kernel_rfl⟩
instance : TLay Tryz.prog 8 [(0, 1), (1, 1), (2, 1), (3, 1)] := ⟨by kernel_rfl⟩
instance : TEl Tryz.prog 8 4 24 := ⟨by kernel_rfl⟩
instance : TEq Tryz.prog 8 [.i .i64, .i .i64, .b, .i .u8] := ⟨by kernel_rfl⟩
instance : TZero Tryz.prog 8 [.int .i64 0, .int .i64 0, .bool false, .int .u8 0] := ⟨by kernel_rfl⟩
instance : TU Tryz.prog 9 (TypeDesc.string) := ⟨Tryz.underlying9⟩
instance : TSz Tryz.prog 9 1 := ⟨by kernel_rfl⟩
instance : TOne Tryz.prog 9 := ⟨by kernel_rfl⟩
instance : TEl Tryz.prog 9 1 16 := ⟨by kernel_rfl⟩
instance : TNI Tryz.prog 9 := ⟨by kernel_rfl⟩
instance : TZero Tryz.prog 9 [.string .empty] := ⟨by kernel_rfl⟩
instance : TU Tryz.prog 10 (TypeDesc.string) := ⟨Tryz.underlying10⟩
instance : TSz Tryz.prog 10 1 := ⟨by kernel_rfl⟩
instance : TOne Tryz.prog 10 := ⟨by kernel_rfl⟩
instance : TEl Tryz.prog 10 1 16 := ⟨by kernel_rfl⟩
instance : TNI Tryz.prog 10 := ⟨by kernel_rfl⟩
instance : TZero Tryz.prog 10 [.string .empty] := ⟨by kernel_rfl⟩
instance : TU Tryz.prog 11 (TypeDesc.string) := ⟨Tryz.underlying11⟩
instance : TSz Tryz.prog 11 1 := ⟨by kernel_rfl⟩
instance : TOne Tryz.prog 11 := ⟨by kernel_rfl⟩
instance : TEl Tryz.prog 11 1 16 := ⟨by kernel_rfl⟩
instance : TNI Tryz.prog 11 := ⟨by kernel_rfl⟩
instance : TZero Tryz.prog 11 [.string .empty] := ⟨by kernel_rfl⟩
instance : TU Tryz.prog 12 (TypeDesc.int IntKind.u64) := ⟨Tryz.underlying12⟩
instance : TSz Tryz.prog 12 1 := ⟨by kernel_rfl⟩
instance : TOne Tryz.prog 12 := ⟨by kernel_rfl⟩
instance : TEl Tryz.prog 12 1 8 := ⟨by kernel_rfl⟩
instance : TZero Tryz.prog 12 [.int .u64 0] := ⟨by kernel_rfl⟩
instance : TSz Tryz.prog 13 2 := ⟨by kernel_rfl⟩
instance : TAgg Tryz.prog 13 2 := ⟨by kernel_rfl⟩
instance : TFldT Tryz.prog 13 0 0 9 := ⟨by kernel_rfl⟩
instance : TFld Tryz.prog 13 0 0 := ⟨by kernel_rfl⟩
instance : TFldT Tryz.prog 13 1 1 12 := ⟨by kernel_rfl⟩
instance : TFld Tryz.prog 13 1 1 := ⟨by kernel_rfl⟩
instance : TLay Tryz.prog 13 [(0, 1), (1, 1)] := ⟨by kernel_rfl⟩
instance : TEl Tryz.prog 13 2 24 := ⟨by kernel_rfl⟩
instance : TZero Tryz.prog 13 [.string .empty, .int .u64 0] := ⟨by kernel_rfl⟩
instance : TSz Tryz.prog 14 2 := ⟨by kernel_rfl⟩
instance : TAgg Tryz.prog 14 2 := ⟨by kernel_rfl⟩
instance : TFldT Tryz.prog 14 0 0 9 := ⟨by kernel_rfl⟩
instance : TFld Tryz.prog 14 0 0 := ⟨by kernel_rfl⟩
instance : TFldT Tryz.prog 14 1 1 12 := ⟨by kernel_rfl⟩
instance : TFld Tryz.prog 14 1 1 := ⟨by kernel_rfl⟩
instance : TLay Tryz.prog 14 [(0, 1), (1, 1)] := ⟨by kernel_rfl⟩
instance : TEl Tryz.prog 14 2 24 := ⟨by kernel_rfl⟩
instance : TZero Tryz.prog 14 [.string .empty, .int .u64 0] := ⟨by kernel_rfl⟩
instance : TU Tryz.prog 15 (TypeDesc.pointer 188) := ⟨Tryz.underlying15⟩
instance : TSz Tryz.prog 15 1 := ⟨by kernel_rfl⟩
instance : TOne Tryz.prog 15 := ⟨by kernel_rfl⟩
instance : TEl Tryz.prog 15 1 8 := ⟨by kernel_rfl⟩
instance : TZero Tryz.prog 15 [.pointer none] := ⟨by kernel_rfl⟩
instance : TU Tryz.prog 16 (TypeDesc.pointer 191) := ⟨Tryz.underlying16⟩
instance : TSz Tryz.prog 16 1 := ⟨by kernel_rfl⟩
instance : TOne Tryz.prog 16 := ⟨by kernel_rfl⟩
instance : TEl Tryz.prog 16 1 8 := ⟨by kernel_rfl⟩
instance : TZero Tryz.prog 16 [.pointer none] := ⟨by kernel_rfl⟩
instance : TU Tryz.prog 17 (TypeDesc.pointer 200) := ⟨Tryz.underlying17⟩
instance : TSz Tryz.prog 17 1 := ⟨by kernel_rfl⟩
instance : TOne Tryz.prog 17 := ⟨by kernel_rfl⟩
instance : TEl Tryz.prog 17 1 8 := ⟨by kernel_rfl⟩
instance : TZero Tryz.prog 17 [.pointer none] := ⟨by kernel_rfl⟩
instance : TSz Tryz.prog 18 1 := ⟨by kernel_rfl⟩
instance : TAgg Tryz.prog 18 1 := ⟨by kernel_rfl⟩
instance : TFldT Tryz.prog 18 0 0 17 := ⟨by kernel_rfl⟩
instance : TFld Tryz.prog 18 0 0 := ⟨by kernel_rfl⟩
instance : TLay Tryz.prog 18 [(0, 1)] := ⟨by kernel_rfl⟩
instance : TEl Tryz.prog 18 1 8 := ⟨by kernel_rfl⟩
instance : TZero Tryz.prog 18 [.pointer none] := ⟨by kernel_rfl⟩
instance : TSz Tryz.prog 19 1 := ⟨by kernel_rfl⟩
instance : TAgg Tryz.prog 19 1 := ⟨by kernel_rfl⟩
instance : TFldT Tryz.prog 19 0 0 17 := ⟨by kernel_rfl⟩
instance : TFld Tryz.prog 19 0 0 := ⟨by kernel_rfl⟩
instance : TLay Tryz.prog 19 [(0, 1)] := ⟨by kernel_rfl⟩
instance : TEl Tryz.prog 19 1 8 := ⟨by kernel_rfl⟩
instance : TZero Tryz.prog 19 [.pointer none] := ⟨by kernel_rfl⟩
instance : TU Tryz.prog 21 (TypeDesc.int IntKind.i32) := ⟨Tryz.underlying21⟩
instance : TSz Tryz.prog 21 1 := ⟨by kernel_rfl⟩
instance : TOne Tryz.prog 21 := ⟨by kernel_rfl⟩
instance : TEl Tryz.prog 21 1 4 := ⟨by kernel_rfl⟩
instance : TZero Tryz.prog 21 [.int .i32 0] := ⟨by kernel_rfl⟩
instance : TU Tryz.prog 22 (TypeDesc.slice 3) := ⟨Tryz.underlying22⟩
instance : TSz Tryz.prog 22 1 := ⟨by kernel_rfl⟩
instance : TOne Tryz.prog 22 := ⟨by kernel_rfl⟩
instance : TEl Tryz.prog 22 1 24 := ⟨by kernel_rfl⟩
instance : TNI Tryz.prog 22 := ⟨by kernel_rfl⟩
instance : TZero Tryz.prog 22 [.slice none 0 0] := ⟨by kernel_rfl⟩
instance : TU Tryz.prog 23 (TypeDesc.pointer 95) := ⟨Tryz.underlying23⟩
instance : TSz Tryz.prog 23 1 := ⟨by kernel_rfl⟩
instance : TOne Tryz.prog 23 := ⟨by kernel_rfl⟩
instance : TEl Tryz.prog 23 1 8 := ⟨by kernel_rfl⟩
instance : TZero Tryz.prog 23 [.pointer none] := ⟨by kernel_rfl⟩
instance : TOne Tryz.prog 24 := ⟨by kernel_rfl⟩
instance : TSz Tryz.prog 24 1 := ⟨by kernel_rfl⟩
instance : TZero Tryz.prog 24 [.nilFunc] := ⟨by kernel_rfl⟩
instance : TOne Tryz.prog 25 := ⟨by kernel_rfl⟩
instance : TSz Tryz.prog 25 1 := ⟨by kernel_rfl⟩
instance : TZero Tryz.prog 25 [.nilFunc] := ⟨by kernel_rfl⟩
instance : TU Tryz.prog 26 (TypeDesc.slice 53) := ⟨Tryz.underlying26⟩
instance : TSz Tryz.prog 26 1 := ⟨by kernel_rfl⟩
instance : TOne Tryz.prog 26 := ⟨by kernel_rfl⟩
instance : TEl Tryz.prog 26 1 24 := ⟨by kernel_rfl⟩
instance : TNI Tryz.prog 26 := ⟨by kernel_rfl⟩
instance : TZero Tryz.prog 26 [.slice none 0 0] := ⟨by kernel_rfl⟩
instance : TOne Tryz.prog 27 := ⟨by kernel_rfl⟩
instance : TSz Tryz.prog 27 1 := ⟨by kernel_rfl⟩
instance : TZero Tryz.prog 27 [.nilFunc] := ⟨by kernel_rfl⟩
instance : TU Tryz.prog 28 (TypeDesc.slice 133) := ⟨Tryz.underlying28⟩
instance : TSz Tryz.prog 28 1 := ⟨by kernel_rfl⟩
instance : TOne Tryz.prog 28 := ⟨by kernel_rfl⟩
instance : TEl Tryz.prog 28 1 24 := ⟨by kernel_rfl⟩
instance : TNI Tryz.prog 28 := ⟨by kernel_rfl⟩
instance : TZero Tryz.prog 28 [.slice none 0 0] := ⟨by kernel_rfl⟩
instance : TOne Tryz.prog 29 := ⟨by kernel_rfl⟩
instance : TSz Tryz.prog 29 1 := ⟨by kernel_rfl⟩
instance : TZero Tryz.prog 29 [.nilFunc] := ⟨by kernel_rfl⟩
instance : TU Tryz.prog 30 (TypeDesc.slice 55) := ⟨Tryz.underlying30⟩
instance : TSz Tryz.prog 30 1 := ⟨by kernel_rfl⟩
instance : TOne Tryz.prog 30 := ⟨by kernel_rfl⟩
instance : TEl Tryz.prog 30 1 24 := ⟨by kernel_rfl⟩
instance : TNI Tryz.prog 30 := ⟨by kernel_rfl⟩
instance : TZero Tryz.prog 30 [.slice none 0 0] := ⟨by kernel_rfl⟩
instance : TOne Tryz.prog 31 := ⟨by kernel_rfl⟩
instance : TSz Tryz.prog 31 1 := ⟨by kernel_rfl⟩
instance : TZero Tryz.prog 31 [.nilFunc] := ⟨by kernel_rfl⟩
instance : TOne Tryz.prog 32 := ⟨by kernel_rfl⟩
instance : TSz Tryz.prog 32 1 := ⟨by kernel_rfl⟩
instance : TZero Tryz.prog 32 [.nilFunc] := ⟨by kernel_rfl⟩
instance : TU Tryz.prog 33 (TypeDesc.slice 50) := ⟨Tryz.underlying33⟩
instance : TSz Tryz.prog 33 1 := ⟨by kernel_rfl⟩
instance : TOne Tryz.prog 33 := ⟨by kernel_rfl⟩
instance : TEl Tryz.prog 33 1 24 := ⟨by kernel_rfl⟩
instance : TNI Tryz.prog 33 := ⟨by kernel_rfl⟩
instance : TZero Tryz.prog 33 [.slice none 0 0] := ⟨by kernel_rfl⟩
instance : TU Tryz.prog 34 (TypeDesc.int IntKind.i64) := ⟨Tryz.underlying34⟩
instance : TSz Tryz.prog 34 1 := ⟨by kernel_rfl⟩
instance : TOne Tryz.prog 34 := ⟨by kernel_rfl⟩
instance : TEl Tryz.prog 34 1 8 := ⟨by kernel_rfl⟩
instance : TZero Tryz.prog 34 [.int .i64 0] := ⟨by kernel_rfl⟩
instance : TOne Tryz.prog 36 := ⟨by kernel_rfl⟩
instance : TSz Tryz.prog 36 1 := ⟨by kernel_rfl⟩
instance : TZero Tryz.prog 36 [.nilFunc] := ⟨by kernel_rfl⟩
instance : TOne Tryz.prog 37 := ⟨by kernel_rfl⟩
instance : TSz Tryz.prog 37 1 := ⟨by kernel_rfl⟩
instance : TZero Tryz.prog 37 [.nilFunc] := ⟨by kernel_rfl⟩
instance : TU Tryz.prog 38 (TypeDesc.array 16 5) := ⟨Tryz.underlying38⟩
instance : TSz Tryz.prog 38 16 := ⟨by kernel_rfl⟩
instance : TAgg Tryz.prog 38 16 := ⟨by kernel_rfl⟩
instance : TLay Tryz.prog 38 [(0, 1), (1, 1), (2, 1), (3, 1), (4, 1), (5, 1), (6, 1), (7, 1), (8, 1), (9, 1), (10, 1), (11, 1), (12, 1), (13, 1), (14, 1), (15, 1)] := ⟨by kernel_rfl⟩
instance : TEl Tryz.prog 38 16 16 := ⟨by kernel_rfl⟩
instance : TEq Tryz.prog 38 [.i .u8, .i .u8, .i .u8, .i .u8, .i .u8, .i .u8, .i .u8, .i .u8, .i .u8, .i .u8, .i .u8, .i .u8, .i .u8, .i .u8, .i .u8, .i .u8] := ⟨by kernel_rfl⟩
instance : TZero Tryz.prog 38 [.int .u8 0, .int .u8 0, .int .u8 0, .int .u8 0, .int .u8 0, .int .u8 0, .int .u8 0, .int .u8 0, .int .u8 0, .int .u8 0, .int .u8 0, .int .u8 0, .int .u8 0, .int .u8 0, .int .u8 0, .int .u8 0] := ⟨by kernel_rfl⟩
instance : TU Tryz.prog 39 (TypeDesc.array 16 5) := ⟨Tryz.underlying39⟩
instance : TSz Tryz.prog 39 16 := ⟨by kernel_rfl⟩
instance : TAgg Tryz.prog 39 16 := ⟨by kernel_rfl⟩
instance : TLay Tryz.prog 39 [(0, 1), (1, 1), (2, 1), (3, 1), (4, 1), (5, 1), (6, 1), (7, 1), (8, 1), (9, 1), (10, 1), (11, 1), (12, 1), (13, 1), (14, 1), (15, 1)] := ⟨by kernel_rfl⟩
instance : TEl Tryz.prog 39 16 16 := ⟨by kernel_rfl⟩
instance : TEq Tryz.prog 39 [.i .u8, .i .u8, .i .u8, .i .u8, .i .u8, .i .u8, .i .u8, .i .u8, .i .u8, .i .u8, .i .u8, .i .u8, .i .u8, .i .u8, .i .u8, .i .u8] := ⟨by kernel_rfl⟩
instance : TZero Tryz.prog 39 [.int .u8 0, .int .u8 0, .int .u8 0, .int .u8 0, .int .u8 0, .int .u8 0, .int .u8 0, .int .u8 0, .int .u8 0, .int .u8 0, .int .u8 0, .int .u8 0, .int .u8 0, .int .u8 0, .int .u8 0, .int .u8 0] := ⟨by kernel_rfl⟩
instance : TSz Tryz.prog 40 17 := ⟨by kernel_rfl⟩
instance : TAgg Tryz.prog 40 17 := ⟨by kernel_rfl⟩
instance : TFldT Tryz.prog 40 0 0 39 := ⟨by kernel_rfl⟩
instance : TFld Tryz.prog 40 0 0 := ⟨by kernel_rfl⟩
instance : TFldT Tryz.prog 40 1 16 3 := ⟨by kernel_rfl⟩
instance : TFld Tryz.prog 40 1 16 := ⟨by kernel_rfl⟩
instance : TLay Tryz.prog 40 [(0, 16), (16, 1)] := ⟨by kernel_rfl⟩
instance : TEl Tryz.prog 40 17 24 := ⟨by kernel_rfl⟩
instance : TEq Tryz.prog 40 [.i .u8, .i .u8, .i .u8, .i .u8, .i .u8, .i .u8, .i .u8, .i .u8, .i .u8, .i .u8, .i .u8, .i .u8, .i .u8, .i .u8, .i .u8, .i .u8, .i .i64] := ⟨by kernel_rfl⟩
instance : TZero Tryz.prog 40 [.int .u8 0, .int .u8 0, .int .u8 0, .int .u8 0, .int .u8 0, .int .u8 0, .int .u8 0, .int .u8 0, .int .u8 0, .int .u8 0, .int .u8 0, .int .u8 0, .int .u8 0, .int .u8 0, .int .u8 0, .int .u8 0, .int .i64 0] := ⟨by kernel_rfl⟩
instance : TSz Tryz.prog 41 17 := ⟨by kernel_rfl⟩
instance : TAgg Tryz.prog 41 17 := ⟨by kernel_rfl⟩
instance : TFldT Tryz.prog 41 0 0 39 := ⟨by kernel_rfl⟩
instance : TFld Tryz.prog 41 0 0 := ⟨by kernel_rfl⟩
instance : TFldT Tryz.prog 41 1 16 3 := ⟨by kernel_rfl⟩
instance : TFld Tryz.prog 41 1 16 := ⟨by kernel_rfl⟩
instance : TLay Tryz.prog 41 [(0, 16), (16, 1)] := ⟨by kernel_rfl⟩
instance : TEl Tryz.prog 41 17 24 := ⟨by kernel_rfl⟩
instance : TEq Tryz.prog 41 [.i .u8, .i .u8, .i .u8, .i .u8, .i .u8, .i .u8, .i .u8, .i .u8, .i .u8, .i .u8, .i .u8, .i .u8, .i .u8, .i .u8, .i .u8, .i .u8, .i .i64] := ⟨by kernel_rfl⟩
instance : TZero Tryz.prog 41 [.int .u8 0, .int .u8 0, .int .u8 0, .int .u8 0, .int .u8 0, .int .u8 0, .int .u8 0, .int .u8 0, .int .u8 0, .int .u8 0, .int .u8 0, .int .u8 0, .int .u8 0, .int .u8 0, .int .u8 0, .int .u8 0, .int .i64 0] := ⟨by kernel_rfl⟩
instance : TU Tryz.prog 42 (TypeDesc.int IntKind.u64) := ⟨Tryz.underlying42⟩
instance : TSz Tryz.prog 42 1 := ⟨by kernel_rfl⟩
instance : TOne Tryz.prog 42 := ⟨by kernel_rfl⟩
instance : TEl Tryz.prog 42 1 8 := ⟨by kernel_rfl⟩
instance : TZero Tryz.prog 42 [.int .u64 0] := ⟨by kernel_rfl⟩
instance : TU Tryz.prog 43 (TypeDesc.int IntKind.u64) := ⟨Tryz.underlying43⟩
instance : TSz Tryz.prog 43 1 := ⟨by kernel_rfl⟩
instance : TOne Tryz.prog 43 := ⟨by kernel_rfl⟩
instance : TEl Tryz.prog 43 1 8 := ⟨by kernel_rfl⟩
instance : TZero Tryz.prog 43 [.int .u64 0] := ⟨by kernel_rfl⟩
instance : TSz Tryz.prog 44 35 := ⟨by kernel_rfl⟩
instance : TAgg Tryz.prog 44 35 := ⟨by kernel_rfl⟩
instance : TFldT Tryz.prog 44 0 0 41 := ⟨by kernel_rfl⟩
instance : TFld Tryz.prog 44 0 0 := ⟨by kernel_rfl⟩
instance : TFldT Tryz.prog 44 1 17 41 := ⟨by kernel_rfl⟩
instance : TFld Tryz.prog 44 1 17 := ⟨by kernel_rfl⟩
instance : TFldT Tryz.prog 44 2 34 43 := ⟨by kernel_rfl⟩
instance : TFld Tryz.prog 44 2 34 := ⟨by kernel_rfl⟩
instance : TLay Tryz.prog 44 [(0, 17), (17, 17), (34, 1)] := ⟨by kernel_rfl⟩
instance : TEl Tryz.prog 44 35 56 := ⟨by kernel_rfl⟩
instance : TEq Tryz.prog 44 [.i .u8, .i .u8, .i .u8, .i .u8, .i .u8, .i .u8, .i .u8, .i .u8, .i .u8, .i .u8, .i .u8, .i .u8, .i .u8, .i .u8, .i .u8, .i .u8, .i .i64, .i .u8, .i .u8, .i .u8, .i .u8, .i .u8, .i .u8, .i .u8, .i .u8, .i .u8, .i .u8, .i .u8, .i .u8, .i .u8, .i .u8, .i .u8, .i .u8, .i .i64, .i .u64] := ⟨by kernel_rfl⟩
instance : TZero Tryz.prog 44 [.int .u8 0, .int .u8 0, .int .u8 0, .int .u8 0, .int .u8 0, .int .u8 0, .int .u8 0, .int .u8 0, .int .u8 0, .int .u8 0, .int .u8 0, .int .u8 0, .int .u8 0, .int .u8 0, .int .u8 0, .int .u8 0, .int .i64 0, .int .u8 0, .int .u8 0, .int .u8 0, .int .u8 0, .int .u8 0, .int .u8 0, .int .u8 0, .int .u8 0, .int .u8 0, .int .u8 0, .int .u8 0, .int .u8 0, .int .u8 0, .int .u8 0, .int .u8 0, .int .u8 0, .int .i64 0, .int .u64 0] := ⟨by kernel_rfl⟩
instance : TSz Tryz.prog 45 35 := ⟨by kernel_rfl⟩
instance : TAgg Tryz.prog 45 35 := ⟨by kernel_rfl⟩
instance : TFldT Tryz.prog 45 0 0 41 := ⟨by kernel_rfl⟩
instance : TFld Tryz.prog 45 0 0 := ⟨by kernel_rfl⟩
instance : TFldT Tryz.prog 45 1 17 41 := ⟨by kernel_rfl⟩
instance : TFld Tryz.prog 45 1 17 := ⟨by kernel_rfl⟩
instance : TFldT Tryz.prog 45 2 34 43 := ⟨by kernel_rfl⟩
instance : TFld Tryz.prog 45 2 34 := ⟨by kernel_rfl⟩
instance : TLay Tryz.prog 45 [(0, 17), (17, 17), (34, 1)] := ⟨by kernel_rfl⟩
instance : TEl Tryz.prog 45 35 56 := ⟨by kernel_rfl⟩
instance : TEq Tryz.prog 45 [.i .u8, .i .u8, .i .u8, .i .u8, .i .u8, .i .u8, .i .u8, .i .u8, .i .u8, .i .u8, .i .u8, .i .u8, .i .u8, .i .u8, .i .u8, .i .u8, .i .i64, .i .u8, .i .u8, .i .u8, .i .u8, .i .u8, .i .u8, .i .u8, .i .u8, .i .u8, .i .u8, .i .u8, .i .u8, .i .u8, .i .u8, .i .u8, .i .u8, .i .i64, .i .u64] := ⟨by kernel_rfl⟩
instance : TZero Tryz.prog 45 [.int .u8 0, .int .u8 0, .int .u8 0, .int .u8 0, .int .u8 0, .int .u8 0, .int .u8 0, .int .u8 0, .int .u8 0, .int .u8 0, .int .u8 0, .int .u8 0, .int .u8 0, .int .u8 0, .int .u8 0, .int .u8 0, .int .i64 0, .int .u8 0, .int .u8 0, .int .u8 0, .int .u8 0, .int .u8 0, .int .u8 0, .int .u8 0, .int .u8 0, .int .u8 0, .int .u8 0, .int .u8 0, .int .u8 0, .int .u8 0, .int .u8 0, .int .u8 0, .int .u8 0, .int .i64 0, .int .u64 0] := ⟨by kernel_rfl⟩
instance : TU Tryz.prog 46 (TypeDesc.int IntKind.u16) := ⟨Tryz.underlying46⟩
instance : TSz Tryz.prog 46 1 := ⟨by kernel_rfl⟩
instance : TOne Tryz.prog 46 := ⟨by kernel_rfl⟩
instance : TEl Tryz.prog 46 1 2 := ⟨by kernel_rfl⟩
instance : TZero Tryz.prog 46 [.int .u16 0] := ⟨by kernel_rfl⟩
instance : TSz Tryz.prog 47 2 := ⟨by kernel_rfl⟩
instance : TAgg Tryz.prog 47 2 := ⟨by kernel_rfl⟩
instance : TFldT Tryz.prog 47 0 0 46 := ⟨by kernel_rfl⟩
instance : TFld Tryz.prog 47 0 0 := ⟨by kernel_rfl⟩
instance : TFldT Tryz.prog 47 1 1 3 := ⟨by kernel_rfl⟩
instance : TFld Tryz.prog 47 1 1 := ⟨by kernel_rfl⟩
instance : TLay Tryz.prog 47 [(0, 1), (1, 1)] := ⟨by kernel_rfl⟩
instance : TEl Tryz.prog 47 2 16 := ⟨by kernel_rfl⟩
instance : TEq Tryz.prog 47 [.i .u16, .i .i64] := ⟨by kernel_rfl⟩
instance : TZero Tryz.prog 47 [.int .u16 0, .int .i64 0] := ⟨by kernel_rfl⟩
instance : TSz Tryz.prog 48 2 := ⟨by kernel_rfl⟩
instance : TAgg Tryz.prog 48 2 := ⟨by kernel_rfl⟩
instance : TFldT Tryz.prog 48 0 0 46 := ⟨by kernel_rfl⟩
instance : TFld Tryz.prog 48 0 0 := ⟨by kernel_rfl⟩
instance : TFldT Tryz.prog 48 1 1 3 := ⟨by kernel_rfl⟩
instance : TFld Tryz.prog 48 1 1 := ⟨by kernel_rfl⟩
instance : TLay Tryz.prog 48 [(0, 1), (1, 1)] := ⟨by kernel_rfl⟩
instance : TEl Tryz.prog 48 2 16 := ⟨by kernel_rfl⟩
instance : TEq Tryz.prog 48 [.i .u16, .i .i64] := ⟨by kernel_rfl⟩
instance : TZero Tryz.prog 48 [.int .u16 0, .int .i64 0] := ⟨by kernel_rfl⟩
instance : TSz Tryz.prog 49 40 := ⟨by kernel_rfl⟩
instance : TAgg Tryz.prog 49 40 := ⟨by kernel_rfl⟩
instance : TFldT Tryz.prog 49 0 0 45 := ⟨by kernel_rfl⟩
instance : TFld Tryz.prog 49 0 0 := ⟨by kernel_rfl⟩
instance : TFldT Tryz.prog 49 1 35 43 := ⟨by kernel_rfl⟩
instance : TFld Tryz.prog 49 1 35 := ⟨by kernel_rfl⟩
instance : TFldT Tryz.prog 49 2 36 48 := ⟨by kernel_rfl⟩
instance : TFld Tryz.prog 49 2 36 := ⟨by kernel_rfl⟩
instance : TFldT Tryz.prog 49 3 38 3 := ⟨by kernel_rfl⟩
instance : TFld Tryz.prog 49 3 38 := ⟨by kernel_rfl⟩
instance : TFldT Tryz.prog 49 4 39 3 := ⟨by kernel_rfl⟩
instance : TFld Tryz.prog 49 4 39 := ⟨by kernel_rfl⟩
instance : TLay Tryz.prog 49 [(0, 35), (35, 1), (36, 2), (38, 1), (39, 1)] := ⟨by kernel_rfl⟩
instance : TEl Tryz.prog 49 40 96 := ⟨by kernel_rfl⟩
instance : TEq Tryz.prog 49 [.i .u8, .i .u8, .i .u8, .i .u8, .i .u8, .i .u8, .i .u8, .i .u8, .i .u8, .i .u8, .i .u8, .i .u8, .i .u8, .i .u8, .i .u8, .i .u8, .i .i64, .i .u8, .i .u8, .i .u8, .i .u8, .i .u8, .i .u8, .i .u8, .i .u8, .i .u8, .i .u8, .i .u8, .i .u8, .i .u8, .i .u8, .i .u8, .i .u8, .i .i64, .i .u64, .i .u64, .i .u16, .i .i64, .i .i64, .i .i64] := ⟨by kernel_rfl⟩
instance : TZero Tryz.prog 49 [.int .u8 0, .int .u8 0, .int .u8 0, .int .u8 0, .int .u8 0, .int .u8 0, .int .u8 0, .int .u8 0, .int .u8 0, .int .u8 0, .int .u8 0, .int .u8 0, .int .u8 0, .int .u8 0, .int .u8 0, .int .u8 0, .int .i64 0, .int .u8 0, .int .u8 0, .int .u8 0, .int .u8 0, .int .u8 0, .int .u8 0, .int .u8 0, .int .u8 0, .int .u8 0, .int .u8 0, .int .u8 0, .int .u8 0, .int .u8 0, .int .u8 0, .int .u8 0, .int .u8 0, .int .i64 0, .int .u64 0, .int .u64 0, .int .u16 0, .int .i64 0, .int .i64 0, .int .i64 0] := ⟨by kernel_rfl⟩
instance : TSz Tryz.prog 50 40 := ⟨by kernel_rfl⟩
instance : TAgg Tryz.prog 50 40 := ⟨by kernel_rfl⟩
instance : TFldT Tryz.prog 50 0 0 45 := ⟨by kernel_rfl⟩
instance : TFld Tryz.prog 50 0 0 := ⟨by kernel_rfl⟩
instance : TFldT Tryz.prog 50 1 35 43 := ⟨by kernel_rfl⟩
instance : TFld Tryz.prog 50 1 35 := ⟨by kernel_rfl⟩
instance : TFldT Tryz.prog 50 2 36 48 := ⟨by kernel_rfl⟩
instance : TFld Tryz.prog 50 2 36 := ⟨by kernel_rfl⟩
instance : TFldT Tryz.prog 50 3 38 3 := ⟨by kernel_rfl⟩
instance : TFld Tryz.prog 50 3 38 := ⟨by kernel_rfl⟩
instance : TFldT Tryz.prog 50 4 39 3 := ⟨by kernel_rfl⟩
instance : TFld Tryz.prog 50 4 39 := ⟨by kernel_rfl⟩
instance : TLay Tryz.prog 50 [(0, 35), (35, 1), (36, 2), (38, 1), (39, 1)] := ⟨by kernel_rfl⟩
instance : TEl Tryz.prog 50 40 96 := ⟨by kernel_rfl⟩
instance : TEq Tryz.prog 50 [.i .u8, .i .u8, .i .u8, .i .u8, .i .u8, .i .u8, .i .u8, .i .u8, .i .u8, .i .u8, .i .u8, .i .u8, .i .u8, .i .u8, .i .u8, .i .u8, .i .i64, .i .u8, .i .u8, .i .u8, .i .u8, .i .u8, .i .u8, .i .u8, .i .u8, .i .u8, .i .u8, .i .u8, .i .u8, .i .u8, .i .u8, .i .u8, .i .u8, .i .i64, .i .u64, .i .u64, .i .u16, .i .i64, .i .i64, .i .i64] := ⟨by kernel_rfl⟩
instance : TZero Tryz.prog 50 [.int .u8 0, .int .u8 0, .int .u8 0, .int .u8 0, .int .u8 0, .int .u8 0, .int .u8 0, .int .u8 0, .int .u8 0, .int .u8 0, .int .u8 0, .int .u8 0, .int .u8 0, .int .u8 0, .int .u8 0, .int .u8 0, .int .i64 0, .int .u8 0, .int .u8 0, .int .u8 0, .int .u8 0, .int .u8 0, .int .u8 0, .int .u8 0, .int .u8 0, .int .u8 0, .int .u8 0, .int .u8 0, .int .u8 0, .int .u8 0, .int .u8 0, .int .u8 0, .int .u8 0, .int .i64 0, .int .u64 0, .int .u64 0, .int .u16 0, .int .i64 0, .int .i64 0, .int .i64 0] := ⟨by kernel_rfl⟩
instance : TOne Tryz.prog 51 := ⟨by kernel_rfl⟩
instance : TSz Tryz.prog 51 1 := ⟨by kernel_rfl⟩
instance : TZero Tryz.prog 51 [.nilFunc] := ⟨by kernel_rfl⟩
instance : TSz Tryz.prog 52 39 := ⟨by kernel_rfl⟩
instance : TAgg Tryz.prog 52 39 := ⟨by kernel_rfl⟩
instance : TFldT Tryz.prog 52 0 0 45 := ⟨by kernel_rfl⟩
instance : TFld Tryz.prog 52 0 0 := ⟨by kernel_rfl⟩
instance : TFldT Tryz.prog 52 1 35 43 := ⟨by kernel_rfl⟩
instance : TFld Tryz.prog 52 1 35 := ⟨by kernel_rfl⟩
instance : TFldT Tryz.prog 52 2 36 48 := ⟨by kernel_rfl⟩
instance : TFld Tryz.prog 52 2 36 := ⟨by kernel_rfl⟩
instance : TFldT Tryz.prog 52 3 38 3 := ⟨by kernel_rfl⟩
instance : TFld Tryz.prog 52 3 38 := ⟨by kernel_rfl⟩
instance : TLay Tryz.prog 52 [(0, 35), (35, 1), (36, 2), (38, 1)] := ⟨by kernel_rfl⟩
instance : TEl Tryz.prog 52 39 88 := ⟨by kernel_rfl⟩
instance : TEq Tryz.prog 52 [.i .u8, .i .u8, .i .u8, .i .u8, .i .u8, .i .u8, .i .u8, .i .u8, .i .u8, .i .u8, .i .u8, .i .u8, .i .u8, .i .u8, .i .u8, .i .u8, .i .i64, .i .u8, .i .u8, .i .u8, .i .u8, .i .u8, .i .u8, .i .u8, .i .u8, .i .u8, .i .u8, .i .u8, .i .u8, .i .u8, .i .u8, .i .u8, .i .u8, .i .i64, .i .u64, .i .u64, .i .u16, .i .i64, .i .i64] := ⟨by kernel_rfl⟩
instance : TZero Tryz.prog 52 [.int .u8 0, .int .u8 0, .int .u8 0, .int .u8 0, .int .u8 0, .int .u8 0, .int .u8 0, .int .u8 0, .int .u8 0, .int .u8 0, .int .u8 0, .int .u8 0, .int .u8 0, .int .u8 0, .int .u8 0, .int .u8 0, .int .i64 0, .int .u8 0, .int .u8 0, .int .u8 0, .int .u8 0, .int .u8 0, .int .u8 0, .int .u8 0, .int .u8 0, .int .u8 0, .int .u8 0, .int .u8 0, .int .u8 0, .int .u8 0, .int .u8 0, .int .u8 0, .int .u8 0, .int .i64 0, .int .u64 0, .int .u64 0, .int .u16 0, .int .i64 0, .int .i64 0] := ⟨by kernel_rfl⟩
instance : TSz Tryz.prog 53 39 := ⟨by kernel_rfl⟩
instance : TAgg Tryz.prog 53 39 := ⟨by kernel_rfl⟩
instance : TFldT Tryz.prog 53 0 0 45 := ⟨by kernel_rfl⟩
instance : TFld Tryz.prog 53 0 0 := ⟨by kernel_rfl⟩
instance : TFldT Tryz.prog 53 1 35 43 := ⟨by kernel_rfl⟩
instance : TFld Tryz.prog 53 1 35 := ⟨by kernel_rfl⟩
instance : TFldT Tryz.prog 53 2 36 48 := ⟨by kernel_rfl⟩
instance : TFld Tryz.prog 53 2 36 := ⟨by kernel_rfl⟩
instance : TFldT Tryz.prog 53 3 38 3 := ⟨by kernel_rfl⟩
instance : TFld Tryz.prog 53 3 38 := ⟨by kernel_rfl⟩
instance : TLay Tryz.prog 53 [(0, 35), (35, 1), (36, 2), (38, 1)] := ⟨by kernel_rfl⟩
instance : TEl Tryz.prog 53 39 88 := ⟨by kernel_rfl⟩
instance : TEq Tryz.prog 53 [.i .u8, .i .u8, .i .u8, .i .u8, .i .u8, .i .u8, .i .u8, .i .u8, .i .u8, .i .u8, .i .u8, .i .u8, .i .u8, .i .u8, .i .u8, .i .u8, .i .i64, .i .u8, .i .u8, .i .u8, .i .u8, .i .u8, .i .u8, .i .u8, .i .u8, .i .u8, .i .u8, .i .u8, .i .u8, .i .u8, .i .u8, .i .u8, .i .u8, .i .i64, .i .u64, .i .u64, .i .u16, .i .i64, .i .i64] := ⟨by kernel_rfl⟩
instance : TZero Tryz.prog 53 [.int .u8 0, .int .u8 0, .int .u8 0, .int .u8 0, .int .u8 0, .int .u8 0, .int .u8 0, .int .u8 0, .int .u8 0, .int .u8 0, .int .u8 0, .int .u8 0, .int .u8 0, .int .u8 0, .int .u8 0, .int .u8 0, .int .i64 0, .int .u8 0, .int .u8 0, .int .u8 0, .int .u8 0, .int .u8 0, .int .u8 0, .int .u8 0, .int .u8 0, .int .u8 0, .int .u8 0, .int .u8 0, .int .u8 0, .int .u8 0, .int .u8 0, .int .u8 0, .int .u8 0, .int .i64 0, .int .u64 0, .int .u64 0, .int .u16 0, .int .i64 0, .int .i64 0] := ⟨by kernel_rfl⟩
instance : TSz Tryz.prog 54 2 := ⟨by kernel_rfl⟩
instance : TAgg Tryz.prog 54 2 := ⟨by kernel_rfl⟩
instance : TFldT Tryz.prog 54 0 0 43 := ⟨by kernel_rfl⟩
instance : TFld Tryz.prog 54 0 0 := ⟨by kernel_rfl⟩
instance : TFldT Tryz.prog 54 1 1 3 := ⟨by kernel_rfl⟩
instance : TFld Tryz.prog 54 1 1 := ⟨by kernel_rfl⟩
instance : TLay Tryz.prog 54 [(0, 1), (1, 1)] := ⟨by kernel_rfl⟩
instance : TEl Tryz.prog 54 2 16 := ⟨by kernel_rfl⟩
instance : TEq Tryz.prog 54 [.i .u64, .i .i64] := ⟨by kernel_rfl⟩
instance : TZero Tryz.prog 54 [.int .u64 0, .int .i64 0] := ⟨by kernel_rfl⟩
instance : TSz Tryz.prog 55 2 := ⟨by kernel_rfl⟩
instance : TAgg Tryz.prog 55 2 := ⟨by kernel_rfl⟩
instance : TFldT Tryz.prog 55 0 0 43 := ⟨by kernel_rfl⟩
instance : TFld Tryz.prog 55 0 0 := ⟨by kernel_rfl⟩
instance : TFldT Tryz.prog 55 1 1 3 := ⟨by kernel_rfl⟩
instance : TFld Tryz.prog 55 1 1 := ⟨by kernel_rfl⟩
instance : TLay Tryz.prog 55 [(0, 1), (1, 1)] := ⟨by kernel_rfl⟩
instance : TEl Tryz.prog 55 2 16 := ⟨by kernel_rfl⟩
instance : TEq Tryz.prog 55 [.i .u64, .i .i64] := ⟨by kernel_rfl⟩
instance : TZero Tryz.prog 55 [.int .u64 0, .int .i64 0] := ⟨by kernel_rfl⟩
instance : TOne Tryz.prog 56 := ⟨by kernel_rfl⟩
instance : TSz Tryz.prog 56 1 := ⟨by kernel_rfl⟩
instance : TZero Tryz.prog 56 [.nilFunc] := ⟨by kernel_rfl⟩
instance : TOne Tryz.prog 57 := ⟨by kernel_rfl⟩
instance : TSz Tryz.prog 57 1 := ⟨by kernel_rfl⟩
instance : TZero Tryz.prog 57 [.nilFunc] := ⟨by kernel_rfl⟩
instance : TOne Tryz.prog 58 := ⟨by kernel_rfl⟩
instance : TSz Tryz.prog 58 1 := ⟨by kernel_rfl⟩
instance : TZero Tryz.prog 58 [.nilFunc] := ⟨by kernel_rfl⟩
instance : TOne Tryz.prog 59 := ⟨by kernel_rfl⟩
instance : TSz Tryz.prog 59 1 := ⟨by kernel_rfl⟩
instance : TZero Tryz.prog 59 [.nilFunc] := ⟨by kernel_rfl⟩
instance : TOne Tryz.prog 60 := ⟨by kernel_rfl⟩
instance : TSz Tryz.prog 60 1 := ⟨by kernel_rfl⟩
instance : TZero Tryz.prog 60 [.nilFunc] := ⟨by kernel_rfl⟩
instance : TOne Tryz.prog 61 := ⟨by kernel_rfl⟩
instance : TSz Tryz.prog 61 1 := ⟨by kernel_rfl⟩
instance : TZero Tryz.prog 61 [.nilFunc] := ⟨by kernel_rfl⟩
instance : TOne Tryz.prog 62 := ⟨by kernel_rfl⟩
instance : TSz Tryz.prog 62 1 := ⟨by kernel_rfl⟩
instance : TZero Tryz.prog 62 [.nilFunc] := ⟨by kernel_rfl⟩
instance : TOne Tryz.prog 63 := ⟨by kernel_rfl⟩
instance : TSz Tryz.prog 63 1 := ⟨by kernel_rfl⟩
instance : TZero Tryz.prog 63 [.nilFunc] := ⟨by kernel_rfl⟩
instance : TOne Tryz.prog 64 := ⟨by kernel_rfl⟩
instance : TSz Tryz.prog 64 1 := ⟨by kernel_rfl⟩
instance : TZero Tryz.prog 64 [.nilFunc] := ⟨by kernel_rfl⟩
instance : TOne Tryz.prog 65 := ⟨by kernel_rfl⟩
instance : TSz Tryz.prog 65 1 := ⟨by kernel_rfl⟩
instance : TZero Tryz.prog 65 [.nilFunc] := ⟨by kernel_rfl⟩
instance : TOne Tryz.prog 67 := ⟨by kernel_rfl⟩
instance : TSz Tryz.prog 67 1 := ⟨by kernel_rfl⟩
instance : TZero Tryz.prog 67 [.nilFunc] := ⟨by kernel_rfl⟩
instance : TOne Tryz.prog 68 := ⟨by kernel_rfl⟩
instance : TSz Tryz.prog 68 1 := ⟨by kernel_rfl⟩
instance : TZero Tryz.prog 68 [.nilFunc] := ⟨by kernel_rfl⟩
instance : TOne Tryz.prog 69 := ⟨by kernel_rfl⟩
instance : TSz Tryz.prog 69 1 := ⟨by kernel_rfl⟩
instance : TZero Tryz.prog 69 [.nilFunc] := ⟨by kernel_rfl⟩
instance : TOne Tryz.prog 70 := ⟨by kernel_rfl⟩
instance : TSz Tryz.prog 70 1 := ⟨by kernel_rfl⟩
instance : TZero Tryz.prog 70 [.nilFunc] := ⟨by kernel_rfl⟩
instance : TOne Tryz.prog 71 := ⟨by kernel_rfl⟩
instance : TSz Tryz.prog 71 1 := ⟨by kernel_rfl⟩
instance : TZero Tryz.prog 71 [.nilFunc] := ⟨by kernel_rfl⟩
instance : TOne Tryz.prog 72 := ⟨by kernel_rfl⟩
instance : TSz Tryz.prog 72 1 := ⟨by kernel_rfl⟩
instance : TZero Tryz.prog 72 [.nilFunc] := ⟨by kernel_rfl⟩
instance : TU Tryz.prog 73 (TypeDesc.slice 26) := ⟨Tryz.underlying73⟩
instance : TSz Tryz.prog 73 1 := ⟨by kernel_rfl⟩
instance : TOne Tryz.prog 73 := ⟨by kernel_rfl⟩
instance : TEl Tryz.prog 73 1 24 := ⟨by kernel_rfl⟩
instance : TNI Tryz.prog 73 := ⟨by kernel_rfl⟩
instance : TZero Tryz.prog 73 [.slice none 0 0] := ⟨by kernel_rfl⟩
instance : TU Tryz.prog 74 (TypeDesc.slice 28) := ⟨Tryz.underlying74⟩
instance : TSz Tryz.prog 74 1 := ⟨by kernel_rfl⟩
instance : TOne Tryz.prog 74 := ⟨by kernel_rfl⟩
instance : TEl Tryz.prog 74 1 24 := ⟨by kernel_rfl⟩
instance : TNI Tryz.prog 74 := ⟨by kernel_rfl⟩
instance : TZero Tryz.prog 74 [.slice none 0 0] := ⟨by kernel_rfl⟩
instance : TU Tryz.prog 75 (TypeDesc.slice 33) := ⟨Tryz.underlying75⟩
instance : TSz Tryz.prog 75 1 := ⟨by kernel_rfl⟩
instance : TOne Tryz.prog 75 := ⟨by kernel_rfl⟩
instance : TEl Tryz.prog 75 1 24 := ⟨by kernel_rfl⟩
instance : TNI Tryz.prog 75 := ⟨by kernel_rfl⟩
instance : TZero Tryz.prog 75 [.slice none 0 0] := ⟨by kernel_rfl⟩
instance : TU Tryz.prog 76 (TypeDesc.slice 78) := ⟨Tryz.underlying76⟩
instance : TSz Tryz.prog 76 1 := ⟨by kernel_rfl⟩
instance : TOne Tryz.prog 76 := ⟨by kernel_rfl⟩
instance : TEl Tryz.prog 76 1 24 := ⟨by kernel_rfl⟩
instance : TNI Tryz.prog 76 := ⟨by kernel_rfl⟩
instance : TZero Tryz.prog 76 [.slice none 0 0] := ⟨by kernel_rfl⟩
instance : TU Tryz.prog 77 (TypeDesc.slice 22) := ⟨Tryz.underlying77⟩
instance : TSz Tryz.prog 77 1 := ⟨by kernel_rfl⟩
instance : TOne Tryz.prog 77 := ⟨by kernel_rfl⟩
instance : TEl Tryz.prog 77 1 24 := ⟨by kernel_rfl⟩
instance : TNI Tryz.prog 77 := ⟨by kernel_rfl⟩
instance : TZero Tryz.prog 77 [.slice none 0 0] := ⟨by kernel_rfl⟩
instance : TU Tryz.prog 78 (TypeDesc.slice 48) := ⟨Tryz.underlying78⟩
instance : TSz Tryz.prog 78 1 := ⟨by kernel_rfl⟩
instance : TOne Tryz.prog 78 := ⟨by kernel_rfl⟩
instance : TEl Tryz.prog 78 1 24 := ⟨by kernel_rfl⟩
instance : TNI Tryz.prog 78 := ⟨by kernel_rfl⟩
instance : TZero Tryz.prog 78 [.slice none 0 0] := ⟨by kernel_rfl⟩
instance : TOne Tryz.prog 80 := ⟨by kernel_rfl⟩
instance : TSz Tryz.prog 80 1 := ⟨by kernel_rfl⟩
instance : TZero Tryz.prog 80 [.nilFunc] := ⟨by kernel_rfl⟩
instance : TOne Tryz.prog 81 := ⟨by kernel_rfl⟩
instance : TSz Tryz.prog 81 1 := ⟨by kernel_rfl⟩
instance : TZero Tryz.prog 81 [.nilFunc] := ⟨by kernel_rfl⟩
instance : TOne Tryz.prog 82 := ⟨by kernel_rfl⟩
instance : TSz Tryz.prog 82 1 := ⟨by kernel_rfl⟩
instance : TZero Tryz.prog 82 [.nilFunc] := ⟨by kernel_rfl⟩
instance : TOne Tryz.prog 83 := ⟨by kernel_rfl⟩
instance : TSz Tryz.prog 83 1 := ⟨by kernel_rfl⟩
instance : TZero Tryz.prog 83 [.nilFunc] := ⟨by kernel_rfl⟩
instance : TOne Tryz.prog 84 := ⟨by kernel_rfl⟩
instance : TSz Tryz.prog 84 1 := ⟨by kernel_rfl⟩
instance : TZero Tryz.prog 84 [.nilFunc] := ⟨by kernel_rfl⟩
instance : TOne Tryz.prog 86 := ⟨by kernel_rfl⟩
instance : TSz Tryz.prog 86 1 := ⟨by kernel_rfl⟩
instance : TZero Tryz.prog 86 [.nilFunc] := ⟨by kernel_rfl⟩
instance : TOne Tryz.prog 87 := ⟨by kernel_rfl⟩
instance : TSz Tryz.prog 87 1 := ⟨by kernel_rfl⟩
instance : TZero Tryz.prog 87 [.nilFunc] := ⟨by kernel_rfl⟩
instance : TOne Tryz.prog 88 := ⟨by kernel_rfl⟩
instance : TSz Tryz.prog 88 1 := ⟨by kernel_rfl⟩
instance : TZero Tryz.prog 88 [.nilFunc] := ⟨by kernel_rfl⟩
instance : TOne Tryz.prog 89 := ⟨by kernel_rfl⟩
instance : TSz Tryz.prog 89 1 := ⟨by kernel_rfl⟩
instance : TZero Tryz.prog 89 [.nilFunc] := ⟨by kernel_rfl⟩
instance : TOne Tryz.prog 90 := ⟨by kernel_rfl⟩
instance : TSz Tryz.prog 90 1 := ⟨by kernel_rfl⟩
instance : TZero Tryz.prog 90 [.nilFunc] := ⟨by kernel_rfl⟩
instance : TOne Tryz.prog 91 := ⟨by kernel_rfl⟩
instance : TSz Tryz.prog 91 1 := ⟨by kernel_rfl⟩
instance : TZero Tryz.prog 91 [.nilFunc] := ⟨by kernel_rfl⟩
instance : TOne Tryz.prog 92 := ⟨by kernel_rfl⟩
instance : TSz Tryz.prog 92 1 := ⟨by kernel_rfl⟩
instance : TZero Tryz.prog 92 [.nilFunc] := ⟨by kernel_rfl⟩
instance : TOne Tryz.prog 93 := ⟨by kernel_rfl⟩
instance : TSz Tryz.prog 93 1 := ⟨by kernel_rfl⟩
instance : TZero Tryz.prog 93 [.nilFunc] := ⟨by kernel_rfl⟩
instance : TSz Tryz.prog 94 2 := ⟨by kernel_rfl⟩
instance : TAgg Tryz.prog 94 2 := ⟨by kernel_rfl⟩
instance : TFldT Tryz.prog 94 0 0 22 := ⟨by kernel_rfl⟩
instance : TFld Tryz.prog 94 0 0 := ⟨by kernel_rfl⟩
instance : TFldT Tryz.prog 94 1 1 3 := ⟨by kernel_rfl⟩
instance : TFld Tryz.prog 94 1 1 := ⟨by kernel_rfl⟩
instance : TLay Tryz.prog 94 [(0, 1), (1, 1)] := ⟨by kernel_rfl⟩
instance : TEl Tryz.prog 94 2 32 := ⟨by kernel_rfl⟩
instance : TZero Tryz.prog 94 [.slice none 0 0, .int .i64 0] := ⟨by kernel_rfl⟩
instance : TSz Tryz.prog 95 2 := ⟨by kernel_rfl⟩
instance : TAgg Tryz.prog 95 2 := ⟨by kernel_rfl⟩
instance : TFldT Tryz.prog 95 0 0 22 := ⟨by kernel_rfl⟩
instance : TFld Tryz.prog 95 0 0 := ⟨by kernel_rfl⟩
instance : TFldT Tryz.prog 95 1 1 3 := ⟨by kernel_rfl⟩
instance : TFld Tryz.prog 95 1 1 := ⟨by kernel_rfl⟩
instance : TLay Tryz.prog 95 [(0, 1), (1, 1)] := ⟨by kernel_rfl⟩
instance : TEl Tryz.prog 95 2 32 := ⟨by kernel_rfl⟩
instance : TZero Tryz.prog 95 [.slice none 0 0, .int .i64 0] := ⟨by kernel_rfl⟩
instance : TOne Tryz.prog 96 := ⟨by kernel_rfl⟩
instance : TSz Tryz.prog 96 1 := ⟨by kernel_rfl⟩
instance : TZero Tryz.prog 96 [.nilFunc] := ⟨by kernel_rfl⟩
instance : TOne Tryz.prog 97 := ⟨by kernel_rfl⟩
instance : TSz Tryz.prog 97 1 := ⟨by kernel_rfl⟩
instance : TZero Tryz.prog 97 [.nilFunc] := ⟨by kernel_rfl⟩
instance : TOne Tryz.prog 98 := ⟨by kernel_rfl⟩
instance : TSz Tryz.prog 98 1 := ⟨by kernel_rfl⟩
instance : TZero Tryz.prog 98 [.nilFunc] := ⟨by kernel_rfl⟩
instance : TOne Tryz.prog 99 := ⟨by kernel_rfl⟩
instance : TSz Tryz.prog 99 1 := ⟨by kernel_rfl⟩
instance : TZero Tryz.prog 99 [.nilFunc] := ⟨by kernel_rfl⟩
instance : TU Tryz.prog 100 (TypeDesc.map 43 3) := ⟨Tryz.underlying100⟩
instance : TSz Tryz.prog 100 1 := ⟨by kernel_rfl⟩
instance : TOne Tryz.prog 100 := ⟨by kernel_rfl⟩
instance : TEl Tryz.prog 100 1 8 := ⟨by kernel_rfl⟩
instance : TZero Tryz.prog 100 [.map none] := ⟨by kernel_rfl⟩
instance : TU Tryz.prog 101 (TypeDesc.slice 45) := ⟨Tryz.underlying101⟩
instance : TSz Tryz.prog 101 1 := ⟨by kernel_rfl⟩
instance : TOne Tryz.prog 101 := ⟨by kernel_rfl⟩
instance : TEl Tryz.prog 101 1 24 := ⟨by kernel_rfl⟩
instance : TNI Tryz.prog 101 := ⟨by kernel_rfl⟩
instance : TZero Tryz.prog 101 [.slice none 0 0] := ⟨by kernel_rfl⟩
instance : TOne Tryz.prog 102 := ⟨by kernel_rfl⟩
instance : TSz Tryz.prog 102 1 := ⟨by kernel_rfl⟩
instance : TZero Tryz.prog 102 [.nilFunc] := ⟨by kernel_rfl⟩
instance : TU Tryz.prog 103 (TypeDesc.map 43 48) := ⟨Tryz.underlying103⟩
instance : TSz Tryz.prog 103 1 := ⟨by kernel_rfl⟩
instance : TOne Tryz.prog 103 := ⟨by kernel_rfl⟩
instance : TEl Tryz.prog 103 1 8 := ⟨by kernel_rfl⟩
instance : TZero Tryz.prog 103 [.map none] := ⟨by kernel_rfl⟩
instance : TOne Tryz.prog 105 := ⟨by kernel_rfl⟩
instance : TSz Tryz.prog 105 1 := ⟨by kernel_rfl⟩
instance : TZero Tryz.prog 105 [.nilFunc] := ⟨by kernel_rfl⟩
instance : TOne Tryz.prog 106 := ⟨by kernel_rfl⟩
instance : TSz Tryz.prog 106 1 := ⟨by kernel_rfl⟩
instance : TZero Tryz.prog 106 [.nilFunc] := ⟨by kernel_rfl⟩
instance : TOne Tryz.prog 107 := ⟨by kernel_rfl⟩
instance : TSz Tryz.prog 107 1 := ⟨by kernel_rfl⟩
instance : TZero Tryz.prog 107 [.nilFunc] := ⟨by kernel_rfl⟩
instance : TOne Tryz.prog 109 := ⟨by kernel_rfl⟩
instance : TSz Tryz.prog 109 1 := ⟨by kernel_rfl⟩
instance : TZero Tryz.prog 109 [.nilFunc] := ⟨by kernel_rfl⟩
instance : TOne Tryz.prog 110 := ⟨by kernel_rfl⟩
instance : TSz Tryz.prog 110 1 := ⟨by kernel_rfl⟩
instance : TZero Tryz.prog 110 [.nilFunc] := ⟨by kernel_rfl⟩
instance : TOne Tryz.prog 112 := ⟨by kernel_rfl⟩
instance : TSz Tryz.prog 112 1 := ⟨by kernel_rfl⟩
instance : TZero Tryz.prog 112 [.nilFunc] := ⟨by kernel_rfl⟩
instance : TOne Tryz.prog 113 := ⟨by kernel_rfl⟩
instance : TSz Tryz.prog 113 1 := ⟨by kernel_rfl⟩
instance : TZero Tryz.prog 113 [.nilFunc] := ⟨by kernel_rfl⟩
instance : TOne Tryz.prog 114 := ⟨by kernel_rfl⟩
instance : TSz Tryz.prog 114 1 := ⟨by kernel_rfl⟩
instance : TZero Tryz.prog 114 [.nilFunc] := ⟨by kernel_rfl⟩
instance : TU Tryz.prog 115 (TypeDesc.int IntKind.u64) := ⟨Tryz.underlying115⟩
instance : TSz Tryz.prog 115 1 := ⟨by kernel_rfl⟩
instance : TOne Tryz.prog 115 := ⟨by kernel_rfl⟩
instance : TEl Tryz.prog 115 1 8 := ⟨by kernel_rfl⟩
instance : TZero Tryz.prog 115 [.int .u64 0] := ⟨by kernel_rfl⟩
instance : TOne Tryz.prog 116 := ⟨by kernel_rfl⟩
instance : TSz Tryz.prog 116 1 := ⟨by kernel_rfl⟩
instance : TZero Tryz.prog 116 [.nilFunc] := ⟨by kernel_rfl⟩
instance : TU Tryz.prog 117 (TypeDesc.pointer 50) := ⟨Tryz.underlying117⟩
instance : TSz Tryz.prog 117 1 := ⟨by kernel_rfl⟩
instance : TOne Tryz.prog 117 := ⟨by kernel_rfl⟩
instance : TEl Tryz.prog 117 1 8 := ⟨by kernel_rfl⟩
instance : TZero Tryz.prog 117 [.pointer none] := ⟨by kernel_rfl⟩
instance : TOne Tryz.prog 118 := ⟨by kernel_rfl⟩
instance : TSz Tryz.prog 118 1 := ⟨by kernel_rfl⟩
instance : TZero Tryz.prog 118 [.nilFunc] := ⟨by kernel_rfl⟩
instance : TOne Tryz.prog 119 := ⟨by kernel_rfl⟩
instance : TSz Tryz.prog 119 1 := ⟨by kernel_rfl⟩
instance : TZero Tryz.prog 119 [.nilFunc] := ⟨by kernel_rfl⟩
instance : TOne Tryz.prog 120 := ⟨by kernel_rfl⟩
instance : TSz Tryz.prog 120 1 := ⟨by kernel_rfl⟩
instance : TZero Tryz.prog 120 [.nilFunc] := ⟨by kernel_rfl⟩
instance : TOne Tryz.prog 121 := ⟨by kernel_rfl⟩
instance : TSz Tryz.prog 121 1 := ⟨by kernel_rfl⟩
instance : TZero Tryz.prog 121 [.nilFunc] := ⟨by kernel_rfl⟩
instance : TOne Tryz.prog 122 := ⟨by kernel_rfl⟩
instance : TSz Tryz.prog 122 1 := ⟨by kernel_rfl⟩
instance : TZero Tryz.prog 122 [.nilFunc] := ⟨by kernel_rfl⟩
instance : TU Tryz.prog 123 (TypeDesc.pointer 53) := ⟨Tryz.underlying123⟩
instance : TSz Tryz.prog 123 1 := ⟨by kernel_rfl⟩
instance : TOne Tryz.prog 123 := ⟨by kernel_rfl⟩
instance : TEl Tryz.prog 123 1 8 := ⟨by kernel_rfl⟩
instance : TZero Tryz.prog 123 [.pointer none] := ⟨by kernel_rfl⟩
instance : TOne Tryz.prog 124 := ⟨by kernel_rfl⟩
instance : TSz Tryz.prog 124 1 := ⟨by kernel_rfl⟩
instance : TZero Tryz.prog 124 [.nilFunc] := ⟨by kernel_rfl⟩
instance : TOne Tryz.prog 125 := ⟨by kernel_rfl⟩
instance : TSz Tryz.prog 125 1 := ⟨by kernel_rfl⟩
instance : TZero Tryz.prog 125 [.nilFunc] := ⟨by kernel_rfl⟩
instance : TOne Tryz.prog 126 := ⟨by kernel_rfl⟩
instance : TSz Tryz.prog 126 1 := ⟨by kernel_rfl⟩
instance : TZero Tryz.prog 126 [.nilFunc] := ⟨by kernel_rfl⟩
instance : TOne Tryz.prog 127 := ⟨by kernel_rfl⟩
instance : TSz Tryz.prog 127 1 := ⟨by kernel_rfl⟩
instance : TZero Tryz.prog 127 [.nilFunc] := ⟨by kernel_rfl⟩
instance : TOne Tryz.prog 128 := ⟨by kernel_rfl⟩
instance : TSz Tryz.prog 128 1 := ⟨by kernel_rfl⟩
instance : TZero Tryz.prog 128 [.nilFunc] := ⟨by kernel_rfl⟩
instance : TOne Tryz.prog 129 := ⟨by kernel_rfl⟩
instance : TSz Tryz.prog 129 1 := ⟨by kernel_rfl⟩
instance : TZero Tryz.prog 129 [.nilFunc] := ⟨by kernel_rfl⟩
instance : TOne Tryz.prog 130 := ⟨by kernel_rfl⟩
instance : TSz Tryz.prog 130 1 := ⟨by kernel_rfl⟩
instance : TZero Tryz.prog 130 [.nilFunc] := ⟨by kernel_rfl⟩
instance : TOne Tryz.prog 131 := ⟨by kernel_rfl⟩
instance : TSz Tryz.prog 131 1 := ⟨by kernel_rfl⟩
instance : TZero Tryz.prog 131 [.nilFunc] := ⟨by kernel_rfl⟩
instance : TSz Tryz.prog 132 38 := ⟨by kernel_rfl⟩
instance : TAgg Tryz.prog 132 38 := ⟨by kernel_rfl⟩
instance : TFldT Tryz.prog 132 0 0 45 := ⟨by kernel_rfl⟩
instance : TFld Tryz.prog 132 0 0 := ⟨by kernel_rfl⟩
instance : TFldT Tryz.prog 132 1 35 48 := ⟨by kernel_rfl⟩
instance : TFld Tryz.prog 132 1 35 := ⟨by kernel_rfl⟩
instance : TFldT Tryz.prog 132 2 37 3 := ⟨by kernel_rfl⟩
instance : TFld Tryz.prog 132 2 37 := ⟨by kernel_rfl⟩
instance : TLay Tryz.prog 132 [(0, 35), (35, 2), (37, 1)] := ⟨by kernel_rfl⟩
instance : TEl Tryz.prog 132 38 80 := ⟨by kernel_rfl⟩
instance : TEq Tryz.prog 132 [.i .u8, .i .u8, .i .u8, .i .u8, .i .u8, .i .u8, .i .u8, .i .u8, .i .u8, .i .u8, .i .u8, .i .u8, .i .u8, .i .u8, .i .u8, .i .u8, .i .i64, .i .u8, .i .u8, .i .u8, .i .u8, .i .u8, .i .u8, .i .u8, .i .u8, .i .u8, .i .u8, .i .u8, .i .u8, .i .u8, .i .u8, .i .u8, .i .u8, .i .i64, .i .u64, .i .u16, .i .i64, .i .i64] := ⟨by kernel_rfl⟩
instance : TZero Tryz.prog 132 [.int .u8 0, .int .u8 0, .int .u8 0, .int .u8 0, .int .u8 0, .int .u8 0, .int .u8 0, .int .u8 0, .int .u8 0, .int .u8 0, .int .u8 0, .int .u8 0, .int .u8 0, .int .u8 0, .int .u8 0, .int .u8 0, .int .i64 0, .int .u8 0, .int .u8 0, .int .u8 0, .int .u8 0, .int .u8 0, .int .u8 0, .int .u8 0, .int .u8 0, .int .u8 0, .int .u8 0, .int .u8 0, .int .u8 0, .int .u8 0, .int .u8 0, .int .u8 0, .int .u8 0, .int .i64 0, .int .u64 0, .int .u16 0, .int .i64 0, .int .i64 0] := ⟨by kernel_rfl⟩
instance : TSz Tryz.prog 133 38 := ⟨by kernel_rfl⟩
instance : TAgg Tryz.prog 133 38 := ⟨by kernel_rfl⟩
instance : TFldT Tryz.prog 133 0 0 45 := ⟨by kernel_rfl⟩
instance : TFld Tryz.prog 133 0 0 := ⟨by kernel_rfl⟩
instance : TFldT Tryz.prog 133 1 35 48 := ⟨by kernel_rfl⟩
instance : TFld Tryz.prog 133 1 35 := ⟨by kernel_rfl⟩
instance : TFldT Tryz.prog 133 2 37 3 := ⟨by kernel_rfl⟩
instance : TFld Tryz.prog 133 2 37 := ⟨by kernel_rfl⟩
instance : TLay Tryz.prog 133 [(0, 35), (35, 2), (37, 1)] := ⟨by kernel_rfl⟩
instance : TEl Tryz.prog 133 38 80 := ⟨by kernel_rfl⟩
instance : TEq Tryz.prog 133 [.i .u8, .i .u8, .i .u8, .i .u8, .i .u8, .i .u8, .i .u8, .i .u8, .i .u8, .i .u8, .i .u8, .i .u8, .i .u8, .i .u8, .i .u8, .i .u8, .i .i64, .i .u8, .i .u8, .i .u8, .i .u8, .i .u8, .i .u8, .i .u8, .i .u8, .i .u8, .i .u8, .i .u8, .i .u8, .i .u8, .i .u8, .i .u8, .i .u8, .i .i64, .i .u64, .i .u16, .i .i64, .i .i64] := ⟨by kernel_rfl⟩
instance : TZero Tryz.prog 133 [.int .u8 0, .int .u8 0, .int .u8 0, .int .u8 0, .int .u8 0, .int .u8 0, .int .u8 0, .int .u8 0, .int .u8 0, .int .u8 0, .int .u8 0, .int .u8 0, .int .u8 0, .int .u8 0, .int .u8 0, .int .u8 0, .int .i64 0, .int .u8 0, .int .u8 0, .int .u8 0, .int .u8 0, .int .u8 0, .int .u8 0, .int .u8 0, .int .u8 0, .int .u8 0, .int .u8 0, .int .u8 0, .int .u8 0, .int .u8 0, .int .u8 0, .int .u8 0, .int .u8 0, .int .i64 0, .int .u64 0, .int .u16 0, .int .i64 0, .int .i64 0] := ⟨by kernel_rfl⟩
instance : TOne Tryz.prog 134 := ⟨by kernel_rfl⟩
instance : TSz Tryz.prog 134 1 := ⟨by kernel_rfl⟩
instance : TZero Tryz.prog 134 [.nilFunc] := ⟨by kernel_rfl⟩
instance : TOne Tryz.prog 135 := ⟨by kernel_rfl⟩
instance : TSz Tryz.prog 135 1 := ⟨by kernel_rfl⟩
instance : TZero Tryz.prog 135 [.nilFunc] := ⟨by kernel_rfl⟩
instance : TOne Tryz.prog 136 := ⟨by kernel_rfl⟩
instance : TSz Tryz.prog 136 1 := ⟨by kernel_rfl⟩
instance : TZero Tryz.prog 136 [.nilFunc] := ⟨by kernel_rfl⟩
instance : TOne Tryz.prog 137 := ⟨by kernel_rfl⟩
instance : TSz Tryz.prog 137 1 := ⟨by kernel_rfl⟩
instance : TZero Tryz.prog 137 [.nilFunc] := ⟨by kernel_rfl⟩
instance : TOne Tryz.prog 138 := ⟨by kernel_rfl⟩
instance : TSz Tryz.prog 138 1 := ⟨by kernel_rfl⟩
instance : TZero Tryz.prog 138 [.nilFunc] := ⟨by kernel_rfl⟩
instance : TOne Tryz.prog 139 := ⟨by kernel_rfl⟩
instance : TSz Tryz.prog 139 1 := ⟨by kernel_rfl⟩
instance : TZero Tryz.prog 139 [.nilFunc] := ⟨by kernel_rfl⟩
instance : TSz Tryz.prog 140 3 := ⟨by kernel_rfl⟩
instance : TAgg Tryz.prog 140 3 := ⟨by kernel_rfl⟩
instance : TFldT Tryz.prog 140 0 0 43 := ⟨by kernel_rfl⟩
instance : TFld Tryz.prog 140 0 0 := ⟨by kernel_rfl⟩
instance : TFldT Tryz.prog 140 1 1 3 := ⟨by kernel_rfl⟩
instance : TFld Tryz.prog 140 1 1 := ⟨by kernel_rfl⟩
instance : TFldT Tryz.prog 140 2 2 3 := ⟨by kernel_rfl⟩
instance : TFld Tryz.prog 140 2 2 := ⟨by kernel_rfl⟩
instance : TLay Tryz.prog 140 [(0, 1), (1, 1), (2, 1)] := ⟨by kernel_rfl⟩
instance : TEl Tryz.prog 140 3 24 := ⟨by kernel_rfl⟩
instance : TEq Tryz.prog 140 [.i .u64, .i .i64, .i .i64] := ⟨by kernel_rfl⟩
instance : TZero Tryz.prog 140 [.int .u64 0, .int .i64 0, .int .i64 0] := ⟨by kernel_rfl⟩
instance : TSz Tryz.prog 141 3 := ⟨by kernel_rfl⟩
instance : TAgg Tryz.prog 141 3 := ⟨by kernel_rfl⟩
instance : TFldT Tryz.prog 141 0 0 43 := ⟨by kernel_rfl⟩
instance : TFld Tryz.prog 141 0 0 := ⟨by kernel_rfl⟩
instance : TFldT Tryz.prog 141 1 1 3 := ⟨by kernel_rfl⟩
instance : TFld Tryz.prog 141 1 1 := ⟨by kernel_rfl⟩
instance : TFldT Tryz.prog 141 2 2 3 := ⟨by kernel_rfl⟩
instance : TFld Tryz.prog 141 2 2 := ⟨by kernel_rfl⟩
instance : TLay Tryz.prog 141 [(0, 1), (1, 1), (2, 1)] := ⟨by kernel_rfl⟩
instance : TEl Tryz.prog 141 3 24 := ⟨by kernel_rfl⟩
instance : TEq Tryz.prog 141 [.i .u64, .i .i64, .i .i64] := ⟨by kernel_rfl⟩
instance : TZero Tryz.prog 141 [.int .u64 0, .int .i64 0, .int .i64 0] := ⟨by kernel_rfl⟩
instance : TOne Tryz.prog 143 := ⟨by kernel_rfl⟩
instance : TSz Tryz.prog 143 1 := ⟨by kernel_rfl⟩
instance : TZero Tryz.prog 143 [.nilFunc] := ⟨by kernel_rfl⟩
instance : TOne Tryz.prog 144 := ⟨by kernel_rfl⟩
instance : TSz Tryz.prog 144 1 := ⟨by kernel_rfl⟩
instance : TZero Tryz.prog 144 [.nilFunc] := ⟨by kernel_rfl⟩
instance : TOne Tryz.prog 145 := ⟨by kernel_rfl⟩
instance : TSz Tryz.prog 145 1 := ⟨by kernel_rfl⟩
instance : TZero Tryz.prog 145 [.nilFunc] := ⟨by kernel_rfl⟩
instance : TOne Tryz.prog 146 := ⟨by kernel_rfl⟩
instance : TSz Tryz.prog 146 1 := ⟨by kernel_rfl⟩
instance : TZero Tryz.prog 146 [.nilFunc] := ⟨by kernel_rfl⟩
instance : TOne Tryz.prog 147 := ⟨by kernel_rfl⟩
instance : TSz Tryz.prog 147 1 := ⟨by kernel_rfl⟩
instance : TZero Tryz.prog 147 [.nilFunc] := ⟨by kernel_rfl⟩
instance : TOne Tryz.prog 148 := ⟨by kernel_rfl⟩
instance : TSz Tryz.prog 148 1 := ⟨by kernel_rfl⟩
instance : TZero Tryz.prog 148 [.nilFunc] := ⟨by kernel_rfl⟩
instance : TOne Tryz.prog 149 := ⟨by kernel_rfl⟩
instance : TSz Tryz.prog 149 1 := ⟨by kernel_rfl⟩
instance : TZero Tryz.prog 149 [.nilFunc] := ⟨by kernel_rfl⟩
instance : TOne Tryz.prog 151 := ⟨by kernel_rfl⟩
instance : TSz Tryz.prog 151 1 := ⟨by kernel_rfl⟩
instance : TZero Tryz.prog 151 [.nilFunc] := ⟨by kernel_rfl⟩
instance : TU Tryz.prog 152 (TypeDesc.map 45 4) := ⟨Tryz.underlying152⟩
instance : TSz Tryz.prog 152 1 := ⟨by kernel_rfl⟩
instance : TOne Tryz.prog 152 := ⟨by kernel_rfl⟩
instance : TEl Tryz.prog 152 1 8 := ⟨by kernel_rfl⟩
instance : TZero Tryz.prog 152 [.map none] := ⟨by kernel_rfl⟩
instance : TOne Tryz.prog 153 := ⟨by kernel_rfl⟩
instance : TSz Tryz.prog 153 1 := ⟨by kernel_rfl⟩
instance : TZero Tryz.prog 153 [.nilFunc] := ⟨by kernel_rfl⟩
instance : TOne Tryz.prog 154 := ⟨by kernel_rfl⟩
instance : TSz Tryz.prog 154 1 := ⟨by kernel_rfl⟩
instance : TZero Tryz.prog 154 [.nilFunc] := ⟨by kernel_rfl⟩
instance : TOne Tryz.prog 155 := ⟨by kernel_rfl⟩
instance : TSz Tryz.prog 155 1 := ⟨by kernel_rfl⟩
instance : TZero Tryz.prog 155 [.nilFunc] := ⟨by kernel_rfl⟩
instance : TOne Tryz.prog 156 := ⟨by kernel_rfl⟩
instance : TSz Tryz.prog 156 1 := ⟨by kernel_rfl⟩
instance : TZero Tryz.prog 156 [.nilFunc] := ⟨by kernel_rfl⟩
instance : TOne Tryz.prog 157 := ⟨by kernel_rfl⟩
instance : TSz Tryz.prog 157 1 := ⟨by kernel_rfl⟩
instance : TZero Tryz.prog 157 [.nilFunc] := ⟨by kernel_rfl⟩
instance : TU Tryz.prog 158 (TypeDesc.slice 5) := ⟨Tryz.underlying158⟩
instance : TSz Tryz.prog 158 1 := ⟨by kernel_rfl⟩
instance : TOne Tryz.prog 158 := ⟨by kernel_rfl⟩
instance : TEl Tryz.prog 158 1 24 := ⟨by kernel_rfl⟩
instance : TNI Tryz.prog 158 := ⟨by kernel_rfl⟩
instance : TZero Tryz.prog 158 [.slice none 0 0] := ⟨by kernel_rfl⟩
instance : TOne Tryz.prog 159 := ⟨by kernel_rfl⟩
instance : TSz Tryz.prog 159 1 := ⟨by kernel_rfl⟩
instance : TZero Tryz.prog 159 [.nilFunc] := ⟨by kernel_rfl⟩
instance : TOne Tryz.prog 160 := ⟨by kernel_rfl⟩
instance : TSz Tryz.prog 160 1 := ⟨by kernel_rfl⟩
instance : TZero Tryz.prog 160 [.nilFunc] := ⟨by kernel_rfl⟩
instance : TOne Tryz.prog 161 := ⟨by kernel_rfl⟩
instance : TSz Tryz.prog 161 1 := ⟨by kernel_rfl⟩
instance : TZero Tryz.prog 161 [.nilFunc] := ⟨by kernel_rfl⟩
instance : TOne Tryz.prog 162 := ⟨by kernel_rfl⟩
instance : TSz Tryz.prog 162 1 := ⟨by kernel_rfl⟩
instance : TZero Tryz.prog 162 [.nilFunc] := ⟨by kernel_rfl⟩
instance : TOne Tryz.prog 163 := ⟨by kernel_rfl⟩
instance : TSz Tryz.prog 163 1 := ⟨by kernel_rfl⟩
instance : TZero Tryz.prog 163 [.nilFunc] := ⟨by kernel_rfl⟩
instance : TOne Tryz.prog 164 := ⟨by kernel_rfl⟩
instance : TSz Tryz.prog 164 1 := ⟨by kernel_rfl⟩
instance : TZero Tryz.prog 164 [.nilFunc] := ⟨by kernel_rfl⟩
instance : TOne Tryz.prog 165 := ⟨by kernel_rfl⟩
instance : TSz Tryz.prog 165 1 := ⟨by kernel_rfl⟩
instance : TZero Tryz.prog 165 [.nilFunc] := ⟨by kernel_rfl⟩
instance : TOne Tryz.prog 166 := ⟨by kernel_rfl⟩
instance : TSz Tryz.prog 166 1 := ⟨by kernel_rfl⟩
instance : TZero Tryz.prog 166 [.nilFunc] := ⟨by kernel_rfl⟩
instance : TOne Tryz.prog 167 := ⟨by kernel_rfl⟩
instance : TSz Tryz.prog 167 1 := ⟨by kernel_rfl⟩
instance : TZero Tryz.prog 167 [.nilFunc] := ⟨by kernel_rfl⟩
instance : TU Tryz.prog 168 (TypeDesc.int IntKind.i64) := ⟨Tryz.underlying168⟩
instance : TSz Tryz.prog 168 1 := ⟨by kernel_rfl⟩
instance : TOne Tryz.prog 168 := ⟨by kernel_rfl⟩
instance : TEl Tryz.prog 168 1 8 := ⟨by kernel_rfl⟩
instance : TZero Tryz.prog 168 [.int .i64 0] := ⟨by kernel_rfl⟩
instance : TOne Tryz.prog 170 := ⟨by kernel_rfl⟩
instance : TSz Tryz.prog 170 1 := ⟨by kernel_rfl⟩
instance : TZero Tryz.prog 170 [.nilFunc] := ⟨by kernel_rfl⟩
instance : TOne Tryz.prog 171 := ⟨by kernel_rfl⟩
instance : TSz Tryz.prog 171 1 := ⟨by kernel_rfl⟩
instance : TZero Tryz.prog 171 [.nilFunc] := ⟨by kernel_rfl⟩
instance : TOne Tryz.prog 172 := ⟨by kernel_rfl⟩
instance : TSz Tryz.prog 172 1 := ⟨by kernel_rfl⟩
instance : TZero Tryz.prog 172 [.nilFunc] := ⟨by kernel_rfl⟩
instance : TOne Tryz.prog 173 := ⟨by kernel_rfl⟩
instance : TSz Tryz.prog 173 1 := ⟨by kernel_rfl⟩
instance : TZero Tryz.prog 173 [.nilFunc] := ⟨by kernel_rfl⟩
instance : TOne Tryz.prog 174 := ⟨by kernel_rfl⟩
instance : TSz Tryz.prog 174 1 := ⟨by kernel_rfl⟩
instance : TZero Tryz.prog 174 [.nilFunc] := ⟨by kernel_rfl⟩
instance : TU Tryz.prog 175 (TypeDesc.int IntKind.u32) := ⟨Tryz.underlying175⟩
instance : TSz Tryz.prog 175 1 := ⟨by kernel_rfl⟩
instance : TOne Tryz.prog 175 := ⟨by kernel_rfl⟩
instance : TEl Tryz.prog 175 1 4 := ⟨by kernel_rfl⟩
instance : TZero Tryz.prog 175 [.int .u32 0] := ⟨by kernel_rfl⟩
instance : TOne Tryz.prog 176 := ⟨by kernel_rfl⟩
instance : TSz Tryz.prog 176 1 := ⟨by kernel_rfl⟩
instance : TZero Tryz.prog 176 [.nilFunc] := ⟨by kernel_rfl⟩
instance : TU Tryz.prog 177 (TypeDesc.int IntKind.u64) := ⟨Tryz.underlying177⟩
instance : TSz Tryz.prog 177 1 := ⟨by kernel_rfl⟩
instance : TOne Tryz.prog 177 := ⟨by kernel_rfl⟩
instance : TEl Tryz.prog 177 1 8 := ⟨by kernel_rfl⟩
instance : TZero Tryz.prog 177 [.int .u64 0] := ⟨by kernel_rfl⟩
instance : TOne Tryz.prog 178 := ⟨by kernel_rfl⟩
instance : TSz Tryz.prog 178 1 := ⟨by kernel_rfl⟩
instance : TZero Tryz.prog 178 [.nilFunc] := ⟨by kernel_rfl⟩
instance : TOne Tryz.prog 179 := ⟨by kernel_rfl⟩
instance : TSz Tryz.prog 179 1 := ⟨by kernel_rfl⟩
instance : TZero Tryz.prog 179 [.nilFunc] := ⟨by kernel_rfl⟩
instance : TOne Tryz.prog 180 := ⟨by kernel_rfl⟩
instance : TSz Tryz.prog 180 1 := ⟨by kernel_rfl⟩
instance : TZero Tryz.prog 180 [.nilFunc] := ⟨by kernel_rfl⟩
instance : TU Tryz.prog 181 (TypeDesc.pointer 3) := ⟨Tryz.underlying181⟩
instance : TSz Tryz.prog 181 1 := ⟨by kernel_rfl⟩
instance : TOne Tryz.prog 181 := ⟨by kernel_rfl⟩
instance : TEl Tryz.prog 181 1 8 := ⟨by kernel_rfl⟩
instance : TZero Tryz.prog 181 [.pointer none] := ⟨by kernel_rfl⟩
instance : TOne Tryz.prog 182 := ⟨by kernel_rfl⟩
instance : TSz Tryz.prog 182 1 := ⟨by kernel_rfl⟩
instance : TZero Tryz.prog 182 [.nilFunc] := ⟨by kernel_rfl⟩
instance : TU Tryz.prog 183 (TypeDesc.pointer 177) := ⟨Tryz.underlying183⟩
instance : TSz Tryz.prog 183 1 := ⟨by kernel_rfl⟩
instance : TOne Tryz.prog 183 := ⟨by kernel_rfl⟩
instance : TEl Tryz.prog 183 1 8 := ⟨by kernel_rfl⟩
instance : TZero Tryz.prog 183 [.pointer none] := ⟨by kernel_rfl⟩
instance : TOne Tryz.prog 185 := ⟨by kernel_rfl⟩
instance : TSz Tryz.prog 185 1 := ⟨by kernel_rfl⟩
instance : TZero Tryz.prog 185 [.nilFunc] := ⟨by kernel_rfl⟩
instance : TOne Tryz.prog 186 := ⟨by kernel_rfl⟩
instance : TSz Tryz.prog 186 1 := ⟨by kernel_rfl⟩
instance : TZero Tryz.prog 186 [.nilFunc] := ⟨by kernel_rfl⟩
instance : TSz Tryz.prog 187 4 := ⟨by kernel_rfl⟩
instance : TAgg Tryz.prog 187 4 := ⟨by kernel_rfl⟩
instance : TFldT Tryz.prog 187 0 0 17 := ⟨by kernel_rfl⟩
instance : TFld Tryz.prog 187 0 0 := ⟨by kernel_rfl⟩
instance : TFldT Tryz.prog 187 1 1 17 := ⟨by kernel_rfl⟩
instance : TFld Tryz.prog 187 1 1 := ⟨by kernel_rfl⟩
instance : TFldT Tryz.prog 187 2 2 17 := ⟨by kernel_rfl⟩
instance : TFld Tryz.prog 187 2 2 := ⟨by kernel_rfl⟩
instance : TFldT Tryz.prog 187 3 3 9 := ⟨by kernel_rfl⟩
instance : TFld Tryz.prog 187 3 3 := ⟨by kernel_rfl⟩
instance : TLay Tryz.prog 187 [(0, 1), (1, 1), (2, 1), (3, 1)] := ⟨by kernel_rfl⟩
instance : TEl Tryz.prog 187 4 40 := ⟨by kernel_rfl⟩
instance : TZero Tryz.prog 187 [.pointer none, .pointer none, .pointer none, .string .empty] := ⟨by kernel_rfl⟩
instance : TSz Tryz.prog 188 4 := ⟨by kernel_rfl⟩
instance : TAgg Tryz.prog 188 4 := ⟨by kernel_rfl⟩
instance : TFldT Tryz.prog 188 0 0 17 := ⟨by kernel_rfl⟩
instance : TFld Tryz.prog 188 0 0 := ⟨by kernel_rfl⟩
instance : TFldT Tryz.prog 188 1 1 17 := ⟨by kernel_rfl⟩
instance : TFld Tryz.prog 188 1 1 := ⟨by kernel_rfl⟩
instance : TFldT Tryz.prog 188 2 2 17 := ⟨by kernel_rfl⟩
instance : TFld Tryz.prog 188 2 2 := ⟨by kernel_rfl⟩
instance : TFldT Tryz.prog 188 3 3 9 := ⟨by kernel_rfl⟩
instance : TFld Tryz.prog 188 3 3 := ⟨by kernel_rfl⟩
instance : TLay Tryz.prog 188 [(0, 1), (1, 1), (2, 1), (3, 1)] := ⟨by kernel_rfl⟩
instance : TEl Tryz.prog 188 4 40 := ⟨by kernel_rfl⟩
instance : TZero Tryz.prog 188 [.pointer none, .pointer none, .pointer none, .string .empty] := ⟨by kernel_rfl⟩
instance : TU Tryz.prog 189 (TypeDesc.array 0 16) := ⟨Tryz.underlying189⟩
instance : TSz Tryz.prog 189 0 := ⟨by kernel_rfl⟩
instance : TAgg Tryz.prog 189 0 := ⟨by kernel_rfl⟩
instance : TLay Tryz.prog 189 [] := ⟨by kernel_rfl⟩
instance : TEl Tryz.prog 189 0 0 := ⟨by kernel_rfl⟩
instance : TSz Tryz.prog 190 0 := ⟨by kernel_rfl⟩
instance : TAgg Tryz.prog 190 0 := ⟨by kernel_rfl⟩
instance : TFldT Tryz.prog 190 0 0 189 := ⟨by kernel_rfl⟩
instance : TLay Tryz.prog 190 [(0, 0)] := ⟨by kernel_rfl⟩
instance : TEl Tryz.prog 190 0 0 := ⟨by kernel_rfl⟩
instance : TSz Tryz.prog 191 0 := ⟨by kernel_rfl⟩
instance : TAgg Tryz.prog 191 0 := ⟨by kernel_rfl⟩
instance : TFldT Tryz.prog 191 0 0 189 := ⟨by kernel_rfl⟩
instance : TLay Tryz.prog 191 [(0, 0)] := ⟨by kernel_rfl⟩
instance : TEl Tryz.prog 191 0 0 := ⟨by kernel_rfl⟩
instance : TOne Tryz.prog 192 := ⟨by kernel_rfl⟩
instance : TSz Tryz.prog 192 1 := ⟨by kernel_rfl⟩
instance : TZero Tryz.prog 192 [.nilFunc] := ⟨by kernel_rfl⟩
instance : TU Tryz.prog 193 (TypeDesc.int IntKind.u8) := ⟨Tryz.underlying193⟩
instance : TSz Tryz.prog 193 1 := ⟨by kernel_rfl⟩
instance : TOne Tryz.prog 193 := ⟨by kernel_rfl⟩
instance : TEl Tryz.prog 193 1 1 := ⟨by kernel_rfl⟩
instance : TZero Tryz.prog 193 [.int .u8 0] := ⟨by kernel_rfl⟩
instance : TU Tryz.prog 194 (TypeDesc.int IntKind.u8) := ⟨Tryz.underlying194⟩
instance : TSz Tryz.prog 194 1 := ⟨by kernel_rfl⟩
instance : TOne Tryz.prog 194 := ⟨by kernel_rfl⟩
instance : TEl Tryz.prog 194 1 1 := ⟨by kernel_rfl⟩
instance : TZero Tryz.prog 194 [.int .u8 0] := ⟨by kernel_rfl⟩
instance : TOne Tryz.prog 195 := ⟨by kernel_rfl⟩
instance : TSz Tryz.prog 195 1 := ⟨by kernel_rfl⟩
instance : TZero Tryz.prog 195 [.nilFunc] := ⟨by kernel_rfl⟩
instance : TU Tryz.prog 196 (TypeDesc.pointer 5) := ⟨Tryz.underlying196⟩
instance : TSz Tryz.prog 196 1 := ⟨by kernel_rfl⟩
instance : TOne Tryz.prog 196 := ⟨by kernel_rfl⟩
instance : TEl Tryz.prog 196 1 8 := ⟨by kernel_rfl⟩
instance : TZero Tryz.prog 196 [.pointer none] := ⟨by kernel_rfl⟩
instance : TU Tryz.prog 197 (TypeDesc.int IntKind.i32) := ⟨Tryz.underlying197⟩
instance : TSz Tryz.prog 197 1 := ⟨by kernel_rfl⟩
instance : TOne Tryz.prog 197 := ⟨by kernel_rfl⟩
instance : TEl Tryz.prog 197 1 4 := ⟨by kernel_rfl⟩
instance : TZero Tryz.prog 197 [.int .i32 0] := ⟨by kernel_rfl⟩
instance : TU Tryz.prog 198 (TypeDesc.int IntKind.i32) := ⟨Tryz.underlying198⟩
instance : TSz Tryz.prog 198 1 := ⟨by kernel_rfl⟩
instance : TOne Tryz.prog 198 := ⟨by kernel_rfl⟩
instance : TEl Tryz.prog 198 1 4 := ⟨by kernel_rfl⟩
instance : TZero Tryz.prog 198 [.int .i32 0] := ⟨by kernel_rfl⟩
instance : TSz Tryz.prog 199 11 := ⟨by kernel_rfl⟩
instance : TAgg Tryz.prog 199 11 := ⟨by kernel_rfl⟩
instance : TFldT Tryz.prog 199 0 0 12 := ⟨by kernel_rfl⟩
instance : TFld Tryz.prog 199 0 0 := ⟨by kernel_rfl⟩
instance : TFldT Tryz.prog 199 1 1 12 := ⟨by kernel_rfl⟩
instance : TFld Tryz.prog 199 1 1 := ⟨by kernel_rfl⟩
instance : TFldT Tryz.prog 199 2 2 175 := ⟨by kernel_rfl⟩
instance : TFld Tryz.prog 199 2 2 := ⟨by kernel_rfl⟩
instance : TFldT Tryz.prog 199 3 3 193 := ⟨by kernel_rfl⟩
instance : TFld Tryz.prog 199 3 3 := ⟨by kernel_rfl⟩
instance : TFldT Tryz.prog 199 4 4 5 := ⟨by kernel_rfl⟩
instance : TFld Tryz.prog 199 4 4 := ⟨by kernel_rfl⟩
instance : TFldT Tryz.prog 199 5 5 5 := ⟨by kernel_rfl⟩
instance : TFld Tryz.prog 199 5 5 := ⟨by kernel_rfl⟩
instance : TFldT Tryz.prog 199 6 6 194 := ⟨by kernel_rfl⟩
instance : TFld Tryz.prog 199 6 6 := ⟨by kernel_rfl⟩
instance : TFldT Tryz.prog 199 7 7 195 := ⟨by kernel_rfl⟩
instance : TFld Tryz.prog 199 7 7 := ⟨by kernel_rfl⟩
instance : TFldT Tryz.prog 199 8 8 196 := ⟨by kernel_rfl⟩
instance : TFld Tryz.prog 199 8 8 := ⟨by kernel_rfl⟩
instance : TFldT Tryz.prog 199 9 9 197 := ⟨by kernel_rfl⟩
instance : TFld Tryz.prog 199 9 9 := ⟨by kernel_rfl⟩
instance : TFldT Tryz.prog 199 10 10 198 := ⟨by kernel_rfl⟩
instance : TFld Tryz.prog 199 10 10 := ⟨by kernel_rfl⟩
instance : TLay Tryz.prog 199 [(0, 1), (1, 1), (2, 1), (3, 1), (4, 1), (5, 1), (6, 1), (7, 1), (8, 1), (9, 1), (10, 1)] := ⟨by kernel_rfl⟩
instance : TEl Tryz.prog 199 11 48 := ⟨by kernel_rfl⟩
instance : TZero Tryz.prog 199 [.int .u64 0, .int .u64 0, .int .u32 0, .int .u8 0, .int .u8 0, .int .u8 0, .int .u8 0, .nilFunc, .pointer none, .int .i32 0, .int .i32 0] := ⟨by kernel_rfl⟩
instance : TSz Tryz.prog 200 11 := ⟨by kernel_rfl⟩
instance : TAgg Tryz.prog 200 11 := ⟨by kernel_rfl⟩
instance : TFldT Tryz.prog 200 0 0 12 := ⟨by kernel_rfl⟩
instance : TFld Tryz.prog 200 0 0 := ⟨by kernel_rfl⟩
instance : TFldT Tryz.prog 200 1 1 12 := ⟨by kernel_rfl⟩
instance : TFld Tryz.prog 200 1 1 := ⟨by kernel_rfl⟩
instance : TFldT Tryz.prog 200 2 2 175 := ⟨by kernel_rfl⟩
instance : TFld Tryz.prog 200 2 2 := ⟨by kernel_rfl⟩
instance : TFldT Tryz.prog 200 3 3 193 := ⟨by kernel_rfl⟩
instance : TFld Tryz.prog 200 3 3 := ⟨by kernel_rfl⟩
instance : TFldT Tryz.prog 200 4 4 5 := ⟨by kernel_rfl⟩
instance : TFld Tryz.prog 200 4 4 := ⟨by kernel_rfl⟩
instance : TFldT Tryz.prog 200 5 5 5 := ⟨by kernel_rfl⟩
instance : TFld Tryz.prog 200 5 5 := ⟨by kernel_rfl⟩
instance : TFldT Tryz.prog 200 6 6 194 := ⟨by kernel_rfl⟩
instance : TFld Tryz.prog 200 6 6 := ⟨by kernel_rfl⟩
instance : TFldT Tryz.prog 200 7 7 195 := ⟨by kernel_rfl⟩
instance : TFld Tryz.prog 200 7 7 := ⟨by kernel_rfl⟩
instance : TFldT Tryz.prog 200 8 8 196 := ⟨by kernel_rfl⟩
instance : TFld Tryz.prog 200 8 8 := ⟨by kernel_rfl⟩
instance : TFldT Tryz.prog 200 9 9 197 := ⟨by kernel_rfl⟩
instance : TFld Tryz.prog 200 9 9 := ⟨by kernel_rfl⟩
instance : TFldT Tryz.prog 200 10 10 198 := ⟨by kernel_rfl⟩
instance : TFld Tryz.prog 200 10 10 := ⟨by kernel_rfl⟩
instance : TLay Tryz.prog 200 [(0, 1), (1, 1), (2, 1), (3, 1), (4, 1), (5, 1), (6, 1), (7, 1), (8, 1), (9, 1), (10, 1)] := ⟨by kernel_rfl⟩
instance : TEl Tryz.prog 200 11 48 := ⟨by kernel_rfl⟩
instance : TZero Tryz.prog 200 [.int .u64 0, .int .u64 0, .int .u32 0, .int .u8 0, .int .u8 0, .int .u8 0, .int .u8 0, .nilFunc, .pointer none, .int .i32 0, .int .i32 0] := ⟨by kernel_rfl⟩
instance : TU Tryz.prog 201 (TypeDesc.unsafePointer) := ⟨Tryz.underlying201⟩
instance : TSz Tryz.prog 201 1 := ⟨by kernel_rfl⟩
instance : TOne Tryz.prog 201 := ⟨by kernel_rfl⟩
instance : TBody Tryz.prog 3 := ⟨by kernel_rfl⟩
instance : TBody Tryz.prog 4 := ⟨by kernel_rfl⟩
instance : TBody Tryz.prog 5 := ⟨by kernel_rfl⟩
instance : TBody Tryz.prog 6 := ⟨by kernel_rfl⟩
instance : TBody Tryz.prog 7 := ⟨by kernel_rfl⟩
instance : TBody Tryz.prog 8 := ⟨by kernel_rfl⟩
instance : TBody Tryz.prog 9 := ⟨by kernel_rfl⟩
instance : TBody Tryz.prog 10 := ⟨by kernel_rfl⟩
instance : TBody Tryz.prog 11 := ⟨by kernel_rfl⟩
instance : TBody Tryz.prog 12 := ⟨by kernel_rfl⟩
instance : TBody Tryz.prog 13 := ⟨by kernel_rfl⟩
instance : TBody Tryz.prog 14 := ⟨by kernel_rfl⟩
instance : TBody Tryz.prog 15 := ⟨by kernel_rfl⟩
instance : TBody Tryz.prog 16 := ⟨by kernel_rfl⟩
instance : TBody Tryz.prog 17 := ⟨by kernel_rfl⟩
instance : TBody Tryz.prog 18 := ⟨by kernel_rfl⟩
instance : TBody Tryz.prog 19 := ⟨by kernel_rfl⟩
instance : TBody Tryz.prog 20 := ⟨by kernel_rfl⟩
instance : TBody Tryz.prog 21 := ⟨by kernel_rfl⟩
instance : TBody Tryz.prog 22 := ⟨by kernel_rfl⟩
instance : TBody Tryz.prog 23 := ⟨by kernel_rfl⟩
instance : TBody Tryz.prog 24 := ⟨by kernel_rfl⟩
instance : TBody Tryz.prog 25 := ⟨by kernel_rfl⟩
instance : TBody Tryz.prog 26 := ⟨by kernel_rfl⟩
instance : TBody Tryz.prog 27 := ⟨by kernel_rfl⟩
instance : TBody Tryz.prog 28 := ⟨by kernel_rfl⟩
instance : TBody Tryz.prog 29 := ⟨by kernel_rfl⟩
instance : TBody Tryz.prog 30 := ⟨by kernel_rfl⟩
instance : TBody Tryz.prog 31 := ⟨by kernel_rfl⟩
instance : TBody Tryz.prog 32 := ⟨by kernel_rfl⟩
instance : TBody Tryz.prog 33 := ⟨by kernel_rfl⟩
instance : TBody Tryz.prog 34 := ⟨by kernel_rfl⟩
instance : TBody Tryz.prog 35 := ⟨by kernel_rfl⟩
instance : TBody Tryz.prog 36 := ⟨by kernel_rfl⟩
instance : TBody Tryz.prog 37 := ⟨by kernel_rfl⟩
instance : TBody Tryz.prog 38 := ⟨by kernel_rfl⟩
instance : TBody Tryz.prog 39 := ⟨by kernel_rfl⟩
instance : TBody Tryz.prog 40 := ⟨by kernel_rfl⟩
instance : TBody Tryz.prog 41 := ⟨by kernel_rfl⟩
instance : TBody Tryz.prog 42 := ⟨by kernel_rfl⟩
instance : TBody Tryz.prog 43 := ⟨by kernel_rfl⟩
instance : TBody Tryz.prog 44 := ⟨by kernel_rfl⟩
instance : TBody Tryz.prog 45 := ⟨by kernel_rfl⟩
instance : TBody Tryz.prog 46 := ⟨by kernel_rfl⟩
instance : TBody Tryz.prog 47 := ⟨by kernel_rfl⟩
instance : TBody Tryz.prog 48 := ⟨by kernel_rfl⟩
instance : TBody Tryz.prog 49 := ⟨by kernel_rfl⟩
instance : TBody Tryz.prog 50 := ⟨by kernel_rfl⟩
instance : TBody Tryz.prog 51 := ⟨by kernel_rfl⟩
instance : TBody Tryz.prog 52 := ⟨by kernel_rfl⟩
instance : TBody Tryz.prog 53 := ⟨by kernel_rfl⟩
instance : TBody Tryz.prog 54 := ⟨by kernel_rfl⟩
instance : TBody Tryz.prog 55 := ⟨by kernel_rfl⟩
instance : TBody Tryz.prog 56 := ⟨by kernel_rfl⟩
instance : TBody Tryz.prog 57 := ⟨by kernel_rfl⟩
instance : TBody Tryz.prog 58 := ⟨by kernel_rfl⟩
instance : TBody Tryz.prog 59 := ⟨by kernel_rfl⟩
instance : TBody Tryz.prog 60 := ⟨by kernel_rfl⟩
instance : TBody Tryz.prog 61 := ⟨by kernel_rfl⟩
instance : TBody Tryz.prog 62 := ⟨by kernel_rfl⟩
instance : TBody Tryz.prog 63 := ⟨by kernel_rfl⟩
instance : TBody Tryz.prog 64 := ⟨by kernel_rfl⟩
instance : TBody Tryz.prog 65 := ⟨by kernel_rfl⟩
instance : TBody Tryz.prog 66 := ⟨by kernel_rfl⟩
instance : TBody Tryz.prog 67 := ⟨by kernel_rfl⟩
instance : TBody Tryz.prog 68 := ⟨by kernel_rfl⟩
instance : TBody Tryz.prog 69 := ⟨by kernel_rfl⟩
instance : TBody Tryz.prog 70 := ⟨by kernel_rfl⟩
instance : TBody Tryz.prog 71 := ⟨by kernel_rfl⟩
instance : TBody Tryz.prog 72 := ⟨by kernel_rfl⟩
instance : TBody Tryz.prog 73 := ⟨by kernel_rfl⟩
instance : TBody Tryz.prog 74 := ⟨by kernel_rfl⟩
instance : TBody Tryz.prog 75 := ⟨by kernel_rfl⟩
instance : TBody Tryz.prog 76 := ⟨by kernel_rfl⟩
instance : TBody Tryz.prog 77 := ⟨by kernel_rfl⟩
instance : TBody Tryz.prog 78 := ⟨by kernel_rfl⟩
instance : TBody Tryz.prog 79 := ⟨by kernel_rfl⟩
instance : TBody Tryz.prog 80 := ⟨by kernel_rfl⟩
instance : TBody Tryz.prog 81 := ⟨by kernel_rfl⟩
instance : TBody Tryz.prog 82 := ⟨by kernel_rfl⟩
instance : TBody Tryz.prog 83 := ⟨by kernel_rfl⟩
instance : TBody Tryz.prog 84 := ⟨by kernel_rfl⟩
instance : TBody Tryz.prog 85 := ⟨by kernel_rfl⟩
instance : TBody Tryz.prog 86 := ⟨by kernel_rfl⟩
instance : TBody Tryz.prog 87 := ⟨by kernel_rfl⟩
instance : TBody Tryz.prog 88 := ⟨by kernel_rfl⟩
instance : TBody Tryz.prog 89 := ⟨by kernel_rfl⟩
instance : TBody Tryz.prog 90 := ⟨by kernel_rfl⟩
instance : TBody Tryz.prog 91 := ⟨by kernel_rfl⟩
instance : TBody Tryz.prog 92 := ⟨by kernel_rfl⟩
instance : TBody Tryz.prog 93 := ⟨by kernel_rfl⟩
instance : TBody Tryz.prog 94 := ⟨by kernel_rfl⟩
instance : TBody Tryz.prog 95 := ⟨by kernel_rfl⟩
instance : TBody Tryz.prog 96 := ⟨by kernel_rfl⟩
instance : TBody Tryz.prog 97 := ⟨by kernel_rfl⟩
instance : TBody Tryz.prog 98 := ⟨by kernel_rfl⟩
instance : TBody Tryz.prog 99 := ⟨by kernel_rfl⟩
instance : TBody Tryz.prog 100 := ⟨by kernel_rfl⟩
instance : TBody Tryz.prog 101 := ⟨by kernel_rfl⟩
instance : TBody Tryz.prog 102 := ⟨by kernel_rfl⟩
instance : TBody Tryz.prog 103 := ⟨by kernel_rfl⟩
instance : TBody Tryz.prog 104 := ⟨by kernel_rfl⟩
instance : TBody Tryz.prog 105 := ⟨by kernel_rfl⟩
instance : TBody Tryz.prog 106 := ⟨by kernel_rfl⟩
instance : TBody Tryz.prog 107 := ⟨by kernel_rfl⟩
instance : TBody Tryz.prog 108 := ⟨by kernel_rfl⟩
instance : TBody Tryz.prog 109 := ⟨by kernel_rfl⟩
instance : TBody Tryz.prog 110 := ⟨by kernel_rfl⟩
instance : TBody Tryz.prog 111 := ⟨by kernel_rfl⟩
instance : TBody Tryz.prog 112 := ⟨by kernel_rfl⟩
instance : TBody Tryz.prog 113 := ⟨by kernel_rfl⟩
instance : TBody Tryz.prog 114 := ⟨by kernel_rfl⟩
instance : TBody Tryz.prog 115 := ⟨by kernel_rfl⟩
instance : TBody Tryz.prog 116 := ⟨by kernel_rfl⟩
instance : TBody Tryz.prog 117 := ⟨by kernel_rfl⟩
instance : TBody Tryz.prog 118 := ⟨by kernel_rfl⟩
instance : TBody Tryz.prog 119 := ⟨by kernel_rfl⟩
instance : TBody Tryz.prog 120 := ⟨by kernel_rfl⟩
instance : TBody Tryz.prog 121 := ⟨by kernel_rfl⟩
instance : TBody Tryz.prog 123 := ⟨by kernel_rfl⟩
instance : TBody Tryz.prog 124 := ⟨by kernel_rfl⟩
instance : TBody Tryz.prog 125 := ⟨by kernel_rfl⟩
instance : TBody Tryz.prog 126 := ⟨by kernel_rfl⟩
instance : TBody Tryz.prog 127 := ⟨by kernel_rfl⟩
instance : TBody Tryz.prog 128 := ⟨by kernel_rfl⟩
instance : TBody Tryz.prog 129 := ⟨by kernel_rfl⟩
instance : TBody Tryz.prog 130 := ⟨by kernel_rfl⟩
instance : TBody Tryz.prog 131 := ⟨by kernel_rfl⟩
instance : TBody Tryz.prog 132 := ⟨by kernel_rfl⟩
instance : TBody Tryz.prog 133 := ⟨by kernel_rfl⟩
instance : TBody Tryz.prog 134 := ⟨by kernel_rfl⟩
instance : TBody Tryz.prog 135 := ⟨by kernel_rfl⟩
instance : TBody Tryz.prog 136 := ⟨by kernel_rfl⟩
instance : TBody Tryz.prog 137 := ⟨by kernel_rfl⟩
instance : TBody Tryz.prog 138 := ⟨by kernel_rfl⟩
instance : TBody Tryz.prog 139 := ⟨by kernel_rfl⟩
instance : TBody Tryz.prog 140 := ⟨by kernel_rfl⟩
instance : TBody Tryz.prog 141 := ⟨by kernel_rfl⟩
instance : TBody Tryz.prog 142 := ⟨by kernel_rfl⟩
instance : TBody Tryz.prog 143 := ⟨by kernel_rfl⟩
instance : TBody Tryz.prog 145 := ⟨by kernel_rfl⟩
instance : TBody Tryz.prog 146 := ⟨by kernel_rfl⟩
instance : TBody Tryz.prog 147 := ⟨by kernel_rfl⟩
instance : TBody Tryz.prog 148 := ⟨by kernel_rfl⟩
instance : TBody Tryz.prog 149 := ⟨by kernel_rfl⟩
instance : TBody Tryz.prog 150 := ⟨by kernel_rfl⟩
instance : TBody Tryz.prog 151 := ⟨by kernel_rfl⟩
instance : TBody Tryz.prog 152 := ⟨by kernel_rfl⟩
instance : TBody Tryz.prog 153 := ⟨by kernel_rfl⟩
instance : TBody Tryz.prog 154 := ⟨by kernel_rfl⟩
instance : TBody Tryz.prog 155 := ⟨by kernel_rfl⟩
instance : TBody Tryz.prog 156 := ⟨by kernel_rfl⟩
instance : TBody Tryz.prog 157 := ⟨by kernel_rfl⟩
instance : TBody Tryz.prog 158 := ⟨by kernel_rfl⟩
instance : TBody Tryz.prog 159 := ⟨by kernel_rfl⟩
instance : TBody Tryz.prog 160 := ⟨by kernel_rfl⟩
instance : TBody Tryz.prog 161 := ⟨by kernel_rfl⟩
instance : TBody Tryz.prog 162 := ⟨by kernel_rfl⟩
instance : TBody Tryz.prog 163 := ⟨by kernel_rfl⟩
end Go.Proofs.YtilgoepokaaleaaGreat
/-! LibN -/
namespace Go.Proofs.YtilgoepokaaleaaGreat
set_option linter.unusedVariables false
set_option linter.unusedSimpArgs false
open Go.RowKit
theorem Cal.to {P : Program} {f : FuncId} {args : Array Value} {w : World} {v v' : Value} {E : World → Prop} (h : Cal P f args w fun x w' => x = v ∧ E w') (e : v = v') : Cal P f args w fun x w' => x = v' ∧ E w' := e ▸ h
theorem put_all {xs ys : List Value} (h : xs.length = ys.length) : put xs 0 ys = some ys := by
  rw [put_of _ _ _ (by omega)]
  simp [splice, ← h]
/-- A block that came in: it may be named, as long as it is not turned. -/
theorem Mem.came {S : List Nat} {W w : World} {l : List (Nat × Obj)} (M : Mem S W w l) (hw : w = W) {b : Nat} {o : Obj} (hb : W.heap[b]? = some o) (hS : b ∈ S) (hn : ∀ p ∈ l, p.1 ≠ b) : Mem S W w ((b, o) :: l) :=
  M.cons (by rw [hw]; exact hb) hn (.inl hS)
/-- What came in has not been turned. -/
theorem Mem.back {S : List Nat} {W w : World} {l : List (Nat × Obj)} (M : Mem S W w l) (h : ∀ k ∈ S, ∃ o, Has l k o ∧ W.heap[k]? = some o) : Ext [] W w :=
  ⟨M.ext.os, M.ext.tape, M.ext.output, M.ext.size, M.ext.dr, fun k hk _ => by
    by_cases hS : k ∈ S
    · obtain ⟨o, h1, h2⟩ := h k hS
      rw [M.heap h1, h2]
    · exact M.ext.block k hk hS⟩
theorem Mem.back1 {b : Nat} {o : Obj} {W w : World} {l : List (Nat × Obj)} (M : Mem [b] W w l) (h : Has l b o) (hW : W.heap[b]? = some o) : Ext [] W w :=
  M.back fun k hk => by simp only [List.mem_singleton] at hk; subst hk; exact ⟨o, h, hW⟩
section
variable {P : Program} {ρ : Operand → Value} {w W0 : World} {S : List Nat} {l l' : List (Nat × Obj)} {R : Value → World → Prop} {d : Option Tmp} {ty : TypeId} {pos : String} {af : Array Edge} {g : Option (Nat × Bool)}
theorem run_copy {dT sT e : TypeId} {sz b o dLen dCap n : Nat} {xv : Value} {sLen : Nat} {cs cs' ys : List Value} {t' : TypeId} (hst : P.underlying dT = some (.slice e)) (hsz : sizeIs P e sz = true) (M : Mem S W0 w l) (hlen : (Builtin.lenOf xv).run P w = .ok sLen w) (hn : n = Nat.min sLen dLen)
    (hc : (Builtin.firstCells sz n xv).run P w = .ok ys.toArray w) (h1 : ∀ v ∈ ys, v.oneCell' = true) (hb : Has l b (.cells cs.toArray t' (0, 0))) (hp : put cs o ys = some cs') (hu : Upd l b (.cells cs.toArray t' (0, 0)) (.cells cs'.toArray t' (0, 0)) l') (tyy : TypeId) :
    ∃ w', (Builtin.copy_ #[dT, sT] tyy #[.slice (some ⟨b, o, none⟩) dLen dCap, xv]).run P w = .ok (.int .i64 n) w' ∧ Mem S W0 w' l' ∧ Ext [b] w w' := by
  obtain ⟨hle, rfl⟩ := put_splice _ _ _ _ hp
  obtain ⟨w', hr, he, hh⟩ := run_storeRow (P := P) (off := o) ys 0 cs w (M.heap hb) (by simpa using hle) h1
  refine ⟨w', ?_, M.turned hu he (by simpa using hh), he⟩
  subst hn
  simp [Builtin.copy_, run_underlying hst, hlen, run_sizeOf hsz, hc, hr, goInt]
/-- copy into a block of ours, out of a slice whose block is known -/
theorem o_copy {dT sT e : TypeId} {x y : Operand} {sz b o dLen dCap b' o' sLen sCap n : Nat} {cs cs' ds ys : List Value} {t' t'' : TypeId} {fz : Nat × Nat} [hst : TU P dT (.slice e)] [hsz : TSz P e sz] (M : Mem S W0 w l) (hx : ρ x = .slice (some ⟨b, o, none⟩) dLen dCap) (hy : ρ y = .slice (some ⟨b', o', none⟩) sLen sCap) (hn : n = Nat.min sLen dLen)
    (hs : Has l b' (.cells ds.toArray t'' fz)) (hv : seg ds o' (n * sz) = some ys) (h1 : ys.all (·.oneCell') = true) (hb : Has l b (.cells cs.toArray t' (0, 0))) (hp : put cs o ys = some cs') (hu : Upd l b (.cells cs.toArray t' (0, 0)) (.cells cs'.toArray t' (0, 0)) l')
    (h : ∀ w', Mem S W0 w' l' → R (.int .i64 n) w') : OpTo P ⟨d, .call ⟨.builtin .copy, #[x, y], #[dT, sT]⟩, ty, pos, af, g⟩ ρ w R := by
  have hsrc := (SrcOf.cells' (P := P) (m := n) (c := sCap) (sz := sz) (M.heap hs) hv h1).cells w.drawn
  have hc : (Builtin.firstCells sz n (.slice (some ⟨b', o', none⟩) sLen sCap)).run P w = .ok ys.toArray w := by
    simpa [Builtin.firstCells] using hsrc
  obtain ⟨w', hr, M', _⟩ := run_copy (sT := sT) (dLen := dLen) (dCap := dCap) (o := o) hst.h hsz.h M (by simp [Builtin.lenOf]) hn hc (fun v hv => List.all_eq_true.1 h1 v hv) hb hp hu ty
  exact OpTo.val (v := .int .i64 n) (w' := w') (by simp [execOp, resolve, invoke, builtin, hx, hy, hr]) (h _ M')
end
/-- a slice over the whole of a new block -/
def NewS (n0 len cap : Nat) (o : Obj) : Pred := fun v w => ∃ b, v = .slice (some ⟨b, 0, none⟩) len cap ∧ n0 ≤ b ∧ w.heap[b]? = some o
theorem NewS.stays (n0 len cap : Nat) (o : Obj) : Stays keepAll (NewS n0 len cap o) := fun v w w' ⟨b, h1, h2, h3⟩ h => ⟨b, h1, h2, by
  rw [Ext.block h b (Array.getElem?_eq_some_iff.1 h3).1 (by simp)]; exact h3⟩
end Go.Proofs.YtilgoepokaaleaaGreat
/-! LibO -/
namespace Go.Proofs.YtilgoepokaaleaaGreat
set_option linter.unusedVariables false
set_option linter.unusedSimpArgs false
open Go.RowKit
section
variable {P : Program} {ρ : Operand → Value} {w W0 : World} {S : List Nat} {l l' : List (Nat × Obj)} {R : Value → World → Prop} {d : Option Tmp} {ty : TypeId} {pos : String} {af : Array Edge} {g : Option (Nat × Bool)}
theorem o_storeP {t : TypeId} {x y : Operand} {b n : Nat} {cs cs' vs : List Value} {t' : TypeId} [hs : TAgg P t n] (hx : ρ x = ptrTo b) (hy : ρ y = .agg vs.toArray) (hn : vs.length = n) (h1 : vs.all (·.oneCell') = true) (hz : w.heap[b]? = some (.cells cs.toArray t' (0, 0))) (hp : put cs 0 vs = some cs') :
    OpTo P ⟨d, .store t x y, ty, pos, af, g⟩ ρ w fun _ w' => Ext [b] w w' ∧ w'.heap[b]? = some (.cells cs'.toArray t' (0, 0)) := by
  obtain ⟨hle, rfl⟩ := put_splice _ _ _ _ hp
  obtain ⟨w', hr, he, hh⟩ := run_storeRow (P := P) (off := 0) vs 0 cs w hz (by simpa using hle) (fun v hv => List.all_eq_true.1 h1 v hv)
  refine OpTo.skip (w' := w') ?_ ⟨he, by simpa using hh⟩
  simp only [execOp, Instr.storeAt, Instr.sureAddr, hx, hy, ptrTo, storeVar, Sem.run_bind, Sem.run_pure, Result.andThen_ok, run_sizeOf_agg hs.h, Value.cells]
  simp [hr, hn]
theorem o_eqlBT {t t' : TypeId} {x y : Operand} {p q : Bool} (hx : ρ x = .bool p) (hy : ρ y = .bool q) [ht : TU P t .bool] (he : p = q) (h : R (.bool true) w) : OpTo P ⟨d, .binOp .eql t x y t', ty, pos, af, g⟩ ρ w R := o_eqlB hx hy (by subst he; cases p <;> exact h)
theorem o_eqlAT {t t' : TypeId} {x y : Operand} {ks : List LK} {xs ys : List Value} [ht : TEq P t ks] (hx : ρ x = .agg xs.toArray) (hy : ρ y = .agg ys.toArray) (fx : fitsK ks xs = true) (fy : fitsK ks ys = true) (he : eqVs xs ys = true) (h : R (.bool true) w) : OpTo P ⟨d, .binOp .eql t x y t', ty, pos, af, g⟩ ρ w R := o_eqlA hx hy fx fy (by rw [he]; exact h)
theorem o_eqlAF {t t' : TypeId} {x y : Operand} {ks : List LK} {xs ys : List Value} [ht : TEq P t ks] (hx : ρ x = .agg xs.toArray) (hy : ρ y = .agg ys.toArray) (fx : fitsK ks xs = true) (fy : fitsK ks ys = true) (he : eqVs xs ys = false) (h : R (.bool false) w) : OpTo P ⟨d, .binOp .eql t x y t', ty, pos, af, g⟩ ρ w R := o_eqlA hx hy fx fy (by rw [he]; exact h)
theorem o_neqAT {t t' : TypeId} {x y : Operand} {ks : List LK} {xs ys : List Value} [ht : TEq P t ks] (hx : ρ x = .agg xs.toArray) (hy : ρ y = .agg ys.toArray) (fx : fitsK ks xs = true) (fy : fitsK ks ys = true) (he : eqVs xs ys = false) (h : R (.bool true) w) : OpTo P ⟨d, .binOp .neq t x y t', ty, pos, af, g⟩ ρ w R := o_neqA hx hy fx fy (by rw [he]; exact h)
theorem o_neqAF {t t' : TypeId} {x y : Operand} {ks : List LK} {xs ys : List Value} [ht : TEq P t ks] (hx : ρ x = .agg xs.toArray) (hy : ρ y = .agg ys.toArray) (fx : fitsK ks xs = true) (fy : fitsK ks ys = true) (he : eqVs xs ys = true) (h : R (.bool false) w) : OpTo P ⟨d, .binOp .neq t x y t', ty, pos, af, g⟩ ρ w R := o_neqA hx hy fx fy (by rw [he]; exact h)
end
end Go.Proofs.YtilgoepokaaleaaGreat
/-! G1 -/
namespace Go.Proofs.YtilgoepokaaleaaGreat
set_option linter.unusedVariables false
set_option linter.unusedSimpArgs false
open Go.RowKit
section
set_option linter.unusedVariables false
set_option linter.unusedSimpArgs false
open Go.RowKit
attribute [local irreducible] OpTo wpListIn Code.wpIn MW Cal
def ipC (a : List Int) : List Value := a.map (Value.int .u8)
def clampB (b : Int) : Int := if 128 < (if b < 0 then 0 else b) then 128 else (if b < 0 then 0 else b)
def keepN (n i : Int) : Int := if 8 < (if n - 8 * i < 0 then 0 else n - 8 * i) then 8 else (if n - 8 * i < 0 then 0 else n - 8 * i)
/-- byte i of a, of which the first n bits of all stay -/
def maskAt (a : List Int) (n : Int) (i : Nat) : Int := bitsOf .andNot .u8 (a.getD i 0) (Int.fdiv 255 (2 ^ min (keepN n i).toNat 8))
def mrow (a : List Int) (n : Int) (i : Nat) : List Value := (List.range 16).map (fun j => if j < i then .int .u8 (maskAt a n j) else .int .u8 0) ++ [.int .i64 n]
theorem nth_ip {a : List Int} {i : Nat} (h : i < a.length) : nth (ipC a) (0 + (i : Int).toNat * 1) = some (.int .u8 (a.getD i 0)) := by
  rw [nth_spec]; simp [ipC, h]
theorem put1 {xs : List Value} {off q : Nat} (v : Value) (h : off = q) (hq : q < xs.length) : put xs off [v] = some (xs.set q v) := by
  subst h
  rw [put_of _ _ _ (by simp; omega)]
  congr 1
  have := splice_set xs off v [] hq
  simp only [splice, List.length_nil, List.nil_append, Nat.add_zero, List.take_append_drop] at this
  exact this.symm
theorem put_mrow {a : List Int} {n : Int} {i : Nat} (h : i < 16) : put (mrow a n i) (0 + 0 + (i : Int).toNat * 1) [.int .u8 (maskAt a n i)] = some (mrow a n (i + 1)) := by
  rw [put1 (q := i) _ (by omega) (by simp [mrow]; omega)]
  congr 1
  unfold mrow
  rw [List.set_append_left _ _ (by simpa using h)]
  congr 1
  apply List.ext_getElem (by simp)
  intro j h1 h2
  simp only [List.getElem_set, List.getElem_map, List.getElem_range]
  split
  · subst_vars; simp
  · have : j < i ↔ j < i + 1 := by omega
    simp [this]
set_option maxHeartbeats 400000 in
theorem mask_c (a : List Int) (ha : a.length = 16) (bits : Int) (W : World) :
    Cal Tryz.prog 136 [.agg (ipC a).toArray, .int .i64 bits].toArray W fun v w' => v = .agg (mrow a (clampB bits) 16).toArray ∧ Ext [] W w' := by
  obtain ⟨ip, rfl⟩ : ∃ ip, ip = a := ⟨_, rfl⟩
  refine fn_ofM (n := 33) [] Tryz.func136 rfl rfl rfl ?_
  intro a w F M hwW
  refine c_seq ?_
  refine c_region ?_
  (refine sD F (o_box M (F.ev rfl) rfl ?_); clear F M; intro b1 w M a F)
  (refine sD F (o_alloc M ?_); clear F M; intro b2 w M a F)
  with_reducible refine l_nil (q_then (c_seq (c_region ?_)))
  refine sD F (o_move (F.ev rfl) ?_); clear F a; intro a F
  refine sD F (o_max (F.ev rfl) (F.ev rfl) ?_); clear F a; intro a F
  refine sD F (o_min (F.ev rfl) (F.ev rfl) ?_); clear F a; intro a F
  refine sD F (o_build F rfl rfl ?_); clear F a; intro a F
  (refine sD F (o_alloc M ?_); clear F M; intro b3 w M a F)
  (refine stepN rfl F (o_storeA M (F.ev rfl) (F.ev rfl) (by rfl) (by rfl) (by repeat constructor) (by rfl) (by repeat constructor) ?_); clear F M; intro w M a F)
  with_reducible refine l_nil (q_then (c_seq (c_seq (c_region ?_))))
  refine sD F (o_move (F.ev rfl) ?_); clear F a; intro a F
  with_reducible refine l_nil (q_then (c_block ?_))
  refine c_loop (fun k a w => ∃ i : Nat, k = 16 - i ∧ i ≤ 16 ∧ Frm a 33 [] [(12, .int .i64 i), (5, .pointer (some ⟨b3, 0, none⟩)), (4, .pointer (some ⟨b2, 0, none⟩)), (2, .pointer (some ⟨b1, 0, none⟩))] ∧ Mem [] W w [(b3, .cells (mrow ip (clampB bits) i).toArray 41 (0, 0)), (b2, .cells #[.int .u8 0, .int .u8 0, .int .u8 0, .int .u8 0, .int .u8 0, .int .u8 0, .int .u8 0, .int .u8 0, .int .u8 0, .int .u8 0, .int .u8 0, .int .u8 0, .int .u8 0, .int .u8 0, .int .u8 0, .int .u8 0, .int .i64 0] 41 (0, 0)), (b1, .cells (ipC ip).toArray 39 (0, 0))]) 16 ⟨0, rfl, by omega, F.only [12, 5, 4, 2] rfl, M⟩ ?_
  clear F M
  have hcb : 0 ≤ clampB bits ∧ clampB bits ≤ 128 := by unfold clampB; split <;> (try split) <;> omega
  rintro k a w ⟨i, hk, hi, F, M⟩
  refine c_seq (c_region ?_)
  refine sD F (o_lss (F.ev rfl) (F.ev rfl) ?_); clear F a; intro a F
  with_reducible refine l_nil (q_then (c_seq ?_))
  refine c_if F rfl (fun hc => ?_) (fun hc => ?_)
  · replace hc := of_decide_eq_true hc
    have hlt : i < 16 := by omega
    with_reducible refine c_skip (q_then (c_seq (c_block (c_seq (c_region ?_)))))
    refine sD F (o_move (F.ev rfl) ?_); clear F a; intro a F
    refine sD F (o_assign (F.ev rfl) ?_); clear F a; intro a F
    with_reducible refine l_nil (q_then (c_seq (c_region ?_)))
    refine sD F (o_fieldAddr (F.ev rfl) ?_); clear F a; intro a F
    refine sD F (o_load1 M (F.ev rfl) (by repeat constructor) (by first | assumption | rfl) ?_); clear F a; intro a F
    refine sD F (o_move (F.ev rfl) ?_); clear F a; intro a F
    refine sD F (o_mul (F.ev rfl) (F.ev rfl) (w_i64 (by omega) (by omega)) ?_); clear F a; intro a F
    refine sD F (o_sub (F.ev rfl) (F.ev rfl) (w_i64 (by omega) (by omega)) ?_); clear F a; intro a F
    refine sD F (o_max (F.ev rfl) (F.ev rfl) ?_); clear F a; intro a F
    refine sD F (o_min (F.ev rfl) (F.ev rfl) ?_); clear F a; intro a F
    refine sD F (o_assign (F.ev rfl) ?_); clear F a; intro a F
    with_reducible refine l_nil (q_then ?_)
    replace F := F.only [6, 7, 12, 5, 4, 2] rfl
    refine c_draw 9 F (by kernel_rfl) ?_
    intro w1 hE hok
    have M1 := M.later hE
    refine mK hok rfl rfl (fun a' w' F' E' => o_move (F'.ev rfl) ⟨Ext.refl _ _, rfl⟩) ?_
    refine mK hok rfl rfl (fun a' w' F' E' => o_move (F'.ev rfl) ⟨Ext.refl _ _, rfl⟩) ?_
    refine mK hok rfl rfl (fun a' w' F' E' => o_indexArr (F'.ev rfl) (F'.ev rfl) (by omega) (by omega) ⟨Ext.refl _ _, rfl⟩) ?_
    (refine mK hok rfl rfl (fun a' w' F' E' => o_load1 (M1.later E') (F'.ev rfl) (by repeat constructor) (nth_ip (a := ip) (i := i) (by omega)) ⟨Ext.refl _ _, rfl⟩) ?_)
    refine mK hok rfl rfl (fun a' w' F' E' => o_move (F'.ev rfl) ⟨Ext.refl _ _, rfl⟩) ?_
    refine mK hok rfl rfl (fun a' w' F' E' => o_shr (F'.ev rfl) (F'.ev rfl) (by omega) rfl ⟨Ext.refl _ _, rfl⟩) ?_
    refine mK hok rfl rfl (fun a' w' F' E' => o_andNot (F'.ev rfl) (F'.ev rfl) rfl ⟨Ext.refl _ _, rfl⟩) ?_
    refine mK hok rfl rfl (fun a' w' F' E' => o_fieldAddr (F'.ev rfl) ⟨Ext.refl _ _, rfl⟩) ?_
    refine mK hok rfl rfl (fun a' w' F' E' => o_indexArr (F'.ev rfl) (F'.ev rfl) (by omega) (by omega) ⟨Ext.refl _ _, rfl⟩) ?_
    (refine mDone rfl rfl ?_; clear F M; intro a w F hE2 hX hTT hDD hPP; have M := M1.later hE2; clear M1; clear hX; clear hE2; clear hok; clear hE; clear hTT; clear hDD; clear hPP; (try dsimp only at F))
    (refine stepN rfl F (o_store1 M (F.ev rfl) (F.ev rfl) rfl (by repeat constructor) (put_mrow hlt) (by repeat constructor) ?_); clear F M; intro w M a F)
    with_reducible refine l_nil (q_inB (q_then (c_region ?_)))
    refine sD F (o_add (F.ev rfl) (F.ev rfl) (w_i64 (by omega) (by omega)) ?_); clear F a; intro a F
    refine sD F (o_move (F.ev rfl) ?_); clear F a; intro a F
    with_reducible refine l_nil (q_then ?_)
    exact ⟨_, by omega, i + 1, rfl, by omega, F.only [12, 5, 4, 2] rfl, M⟩
  · replace hc := of_decide_eq_false hc
    obtain rfl : i = 16 := by omega
    with_reducible refine c_exit (q_thenX (q_thenX (q_inBX (q_then (c_seq (c_region ?_))))))
    refine sD F (o_loadA M (F.ev rfl) (by repeat constructor) (by first | assumption | rfl) ?_); clear F a; intro a F
    (refine stepN rfl F (o_storeA M (F.ev rfl) (F.ev rfl) (by rfl) (by rfl) (by repeat constructor) (by rfl) (by repeat constructor) ?_); clear F M; intro w M a F)
    with_reducible refine l_nil (q_then (c_ret ?_))
    refine p_ret (F.only [4] rfl) rfl (.cons (.cell (F.ev rfl) (run_loadVar_agg TAgg.h (M.heap (.there .here)) rfl)) .nil) ⟨rfl, M.ext⟩
end
section
set_option linter.unusedVariables false
set_option linter.unusedSimpArgs false
open Go.RowKit
attribute [local irreducible] OpTo wpListIn Code.wpIn MW Cal
/-- the variable that strings.Index looks at holds some number -/
def GM (W : World) : Prop := ∃ m : Int, W.cell? ⟨0, 0, none⟩ = some (.int .i64 m)
theorem GM.later {W w : World} (h : GM W) (e : Ext [] W w) : GM w := by
  obtain ⟨m, hm⟩ := h
  have hlt : 0 < W.heap.size := by
    have := block_lt_of_cell hm
    simpa using this
  exact ⟨m, by rw [World.cell?_of_block (w := W) (e.block 0 hlt (by simp))]; exact hm⟩
theorem ipC_set (L : List Int) (i : Nat) (x : Int) : ipC (L.set i x) = (ipC L).set i (.int .u8 x) := by simp [ipC, List.map_set]
end
section
set_option linter.unusedVariables false
set_option linter.unusedSimpArgs false
open Go.RowKit
attribute [local irreducible] OpTo wpListIn Code.wpIn MW Cal
structure IsIP (ip : List Int) : Prop where
  len : ip.length = 16
  bd : ∀ x ∈ ip, 0 ≤ x ∧ x < 256
theorem IsIP.at_ {ip : List Int} (h : IsIP ip) (i : Nat) : 0 ≤ ip.getD i 0 ∧ ip.getD i 0 < 256 := by
  rcases Nat.lt_or_ge i ip.length with hl | hl
  · rw [List.getD_eq_getElem?_getD, List.getElem?_eq_getElem hl]; exact h.bd _ (List.getElem_mem hl)
  · rw [List.getD_eq_getElem?_getD, List.getElem?_eq_none hl]; simp
theorem nth_ip2 {ip : List Int} (h : IsIP ip) {i n : Nat} (hi : i < 16) (hn : n = i) : nth (ipC ip) n = some (.int .u8 (ip.getD i 0)) := by
  subst hn
  have := h.len
  rw [nth_spec]; simp [ipC, List.getElem?_eq_getElem (show n < ip.length by omega)]
end
section
set_option linter.unusedVariables false
set_option linter.unusedSimpArgs false
open Go.RowKit
attribute [local irreducible] OpTo wpListIn Code.wpIn MW Cal
/-- what the table of math/bits holds for 16 -/
def GT (W : World) : Prop := W.cell? ⟨5, 15, none⟩ = some (.int .u8 4)
theorem cell_later {W w : World} {a : Addr} {v : Value} (h : W.cell? a = some v) (e : Ext [] W w) : w.cell? a = some v := by
  have hlt := block_lt_of_cell h
  rw [World.cell?_of_block (w := W) (e.block a.block hlt (by simp))]; exact h
theorem GT.later {W w : World} (h : GT W) (e : Ext [] W w) : GT w := cell_later h e
end
section
set_option linter.unusedVariables false
set_option linter.unusedSimpArgs false
open Go.RowKit
attribute [local irreducible] OpTo wpListIn Code.wpIn MW Cal
theorem len16 {l : List Int} (h : l.length = 16) : ∃ x0 x1 x2 x3 x4 x5 x6 x7 x8 x9 x10 x11 x12 x13 x14 x15 : Int, l = [x0, x1, x2, x3, x4, x5, x6, x7, x8, x9, x10, x11, x12, x13, x14, x15] :=
  match l, h with
  | [x0, x1, x2, x3, x4, x5, x6, x7, x8, x9, x10, x11, x12, x13, x14, x15], _ => ⟨x0, x1, x2, x3, x4, x5, x6, x7, x8, x9, x10, x11, x12, x13, x14, x15, rfl⟩
def maskI (a : List Int) (n : Int) : List Int := (List.range 16).map (maskAt a n)
def pfC (a : List Int) (n : Int) : List Value := ipC a ++ [.int .i64 n]
def validP (a : List Int) (n : Int) : Bool := decide (0 ≤ n) && decide (n ≤ 128) && (maskI a n == a)
def containsP (p : List Int) (n : Int) (a : List Int) : Bool := validP p n && (maskI a n == p)
def coversP (p : List Int) (n : Int) (q : List Int) (m : Int) : Bool := validP q m && containsP p n q && decide (n ≤ m)
theorem maskI_len (a : List Int) (n : Int) : (maskI a n).length = 16 := by simp [maskI]
theorem mrow_pf (a : List Int) (n : Int) : mrow a n 16 = pfC (maskI a n) n := by
  unfold mrow pfC maskI ipC
  rw [List.map_map]
  congr 1
theorem eqVs_ip : ∀ a b : List Int, a.length = b.length → eqVs (ipC a) (ipC b) = (a == b)
  | [], [], _ => rfl
  | x :: a, y :: b, h => by
    have := eqVs_ip a b (by simpa using h)
    simp only [ipC] at this
    simp [ipC, eqVs, eqV, this]
theorem eqVs_pf {a b : List Int} {n m : Int} (h : a.length = b.length) : eqVs (pfC a n) (pfC b m) = (a == b && n == m) := by
  unfold pfC
  rw [eqVs_append _ _ _ _ (by simp [ipC, h]), eqVs_ip a b h]
  simp [eqVs, eqV]
/-- the remainder that is not negative -/
def modI (a n : Int) : Int := if a.tmod n < 0 then a.tmod n + n else a.tmod n
theorem clamp_in {n : Int} (h0 : 0 ≤ n) (h1 : n ≤ 128) : clampB n = n := by unfold clampB; rw [if_neg (show ¬ n < 0 by omega), if_neg (by omega)]
theorem maskP_c (a : List Int) (ha : a.length = 16) (n : Int) (W : World) : Cal Tryz.prog 136 [.agg (ipC a).toArray, .int .i64 n].toArray W fun v w' => v = .agg (pfC (maskI a (clampB n)) (clampB n)).toArray ∧ Ext [] W w' :=
  (mask_c a ha n W).mono fun v w' h => ⟨by rw [h.1, mrow_pf], h.2⟩
theorem maskIn_c (a : List Int) (ha : a.length = 16) (n : Int) (h0 : 0 ≤ n) (h1 : n ≤ 128) (W : World) : Cal Tryz.prog 136 [.agg (ipC a).toArray, .int .i64 n].toArray W fun v w' => v = .agg (pfC (maskI a n) n).toArray ∧ Ext [] W w' :=
  (maskP_c a ha n W).mono fun v w' h => ⟨by rw [h.1, clamp_in h0 h1], h.2⟩
def pfK : List LK := [.i .u8, .i .u8, .i .u8, .i .u8, .i .u8, .i .u8, .i .u8, .i .u8, .i .u8, .i .u8, .i .u8, .i .u8, .i .u8, .i .u8, .i .u8, .i .u8, .i .i64]
theorem fits_pf {a : List Int} (ha : a.length = 16) (n : Int) : fitsK pfK (pfC a n) = true := by
  obtain ⟨x0, x1, x2, x3, x4, x5, x6, x7, x8, x9, x10, x11, x12, x13, x14, x15, rfl⟩ := len16 ha
  rfl
theorem seg_all {xs : List Value} {k : Nat} (h : xs.length = k) : seg xs 0 k = some xs := by
  have h1 := seg_of [] xs []
  rw [h] at h1
  simpa using h1
theorem pfC_len {a : List Int} (ha : a.length = 16) (n : Int) : (pfC a n).length = 17 := by simp [pfC, ipC, ha]
theorem ipC_len {a : List Int} (ha : a.length = 16) : (ipC a).length = 16 := by simp [ipC, ha]
theorem seg_pf {a : List Int} (ha : a.length = 16) (n : Int) : seg (pfC a n) 0 17 = some (pfC a n) := seg_all (pfC_len ha n)
theorem seg_pf0 {a : List Int} (ha : a.length = 16) (n : Int) : seg (pfC a n) 0 16 = some (ipC a) := by
  have h1 := seg_of [] (ipC a) [.int .i64 n]
  rw [ipC_len ha] at h1
  simpa [pfC] using h1
theorem nth_pf {a : List Int} (ha : a.length = 16) (n : Int) : nth (pfC a n) 16 = some (.int .i64 n) := by
  rw [nth_spec]; simp [pfC, ipC, ha]
set_option maxHeartbeats 2000000 in
theorem validPrefix_c (p : List Int) (n : Int) (hp : p.length = 16) (W : World) : Cal Tryz.prog 119 [.agg (pfC p n).toArray].toArray W fun v w' => v = .bool (validP p n) ∧ Ext [] W w' := by
  have e1 := seg_pf hp n
  have e2 := seg_pf0 hp n
  have e3 := nth_pf hp n
  have e4 := fits_pf hp n
  have e5 := fits_pf (maskI_len p n) n
  refine fn_ofM (n := 20) [] Tryz.func119 rfl rfl rfl ?_
  intro a w F M hwW
  refine c_seq ?_
  refine c_region ?_
  (refine sD F (o_box M (F.ev rfl) rfl ?_); clear F M; intro b1 w M a F)
  refine sD F (o_assign (F.ev rfl) ?_); clear F a; intro a F
  with_reducible refine l_nil (q_then (c_seq ?_))
  replace F := F.only [1] rfl
  by_cases h0 : 0 ≤ n
  · by_cases h1 : n ≤ 128
    · refine c_draw 18 F (by kernel_rfl) ?_
      intro w1 hE hok
      have M1 := M.later hE
      refine mK hok rfl rfl (fun a' w' F' E' => o_fieldAddr (F'.ev rfl) ⟨Ext.refl _ _, rfl⟩) ?_
      refine mK hok rfl rfl (fun a' w' F' E' => o_load1 (M1.later E') (F'.ev rfl) (by repeat constructor) (by first | assumption | rfl) ⟨Ext.refl _ _, rfl⟩) ?_
      refine mK hok rfl rfl (fun a' w' F' E' => o_geqT (F'.ev rfl) (F'.ev rfl) (by omega) ⟨Ext.refl _ _, rfl⟩) ?_
      refine mK hok rfl rfl (fun a' w' F' E' => o_move (F'.ev rfl) ⟨Ext.refl _ _, rfl⟩) ?_
      refine mKG hok rfl rfl rfl rfl (fun a' w' F' E' => o_fieldAddr (F'.ev rfl) ⟨Ext.refl _ _, rfl⟩) ?_
      refine mKG hok rfl rfl rfl rfl (fun a' w' F' E' => o_load1 (M1.later E') (F'.ev rfl) (by repeat constructor) (by first | assumption | rfl) ⟨Ext.refl _ _, rfl⟩) ?_
      refine mKG hok rfl rfl rfl rfl (fun a' w' F' E' => o_leqT (F'.ev rfl) (F'.ev rfl) (by omega) ⟨Ext.refl _ _, rfl⟩) ?_
      refine mK hok rfl rfl (fun a' w' F' E' => o_pickT (F'.ev rfl) (F'.ev rfl) ⟨Ext.refl _ _, rfl⟩) ?_
      refine mK hok rfl rfl (fun a' w' F' E' => o_move (F'.ev rfl) ⟨Ext.refl _ _, rfl⟩) ?_
      refine mKG hok rfl rfl rfl rfl (fun a' w' F' E' => o_fieldAddr (F'.ev rfl) ⟨Ext.refl _ _, rfl⟩) ?_
      refine mKG hok rfl rfl rfl rfl (fun a' w' F' E' => o_loadA (M1.later E') (F'.ev rfl) (by repeat constructor) (by first | assumption | rfl) ⟨Ext.refl _ _, rfl⟩) ?_
      refine mKG hok rfl rfl rfl rfl (fun a' w' F' E' => o_fieldAddr (F'.ev rfl) ⟨Ext.refl _ _, rfl⟩) ?_
      refine mKG hok rfl rfl rfl rfl (fun a' w' F' E' => o_load1 (M1.later E') (F'.ev rfl) (by repeat constructor) (by first | assumption | rfl) ⟨Ext.refl _ _, rfl⟩) ?_
      (refine mKG hok rfl rfl rfl rfl (fun a' w' F' E' => o_call (F'.ev rfl) (F'.evs rfl) (Cal.mono (maskIn_c p hp n h0 h1 _) fun _ _ hh => ⟨hh.2, hh.1⟩)) ?_)
      refine mKG hok rfl rfl rfl rfl (fun a' w' F' E' => o_loadA (M1.later E') (F'.ev rfl) (by repeat constructor) (by first | assumption | rfl) ⟨Ext.refl _ _, rfl⟩) ?_
      refine mKG hok rfl rfl rfl rfl (fun a' w' F' E' => o_eqlA (F'.ev rfl) (F'.ev rfl) (by first | assumption | rfl) (by first | assumption | rfl) ⟨Ext.refl _ _, rfl⟩) ?_
      refine mK hok rfl rfl (fun a' w' F' E' => o_pickT (F'.ev rfl) (F'.ev rfl) ⟨Ext.refl _ _, rfl⟩) ?_
      refine mK hok rfl rfl (fun a' w' F' E' => o_assign (F'.ev rfl) ⟨Ext.refl _ _, rfl⟩) ?_
      (refine mDone rfl rfl ?_; clear F M; intro a w F hE2 hX hTT hDD hPP; have M := M1.later hE2; clear M1; clear hX; clear hE2; clear hok; clear hE; clear hTT; clear hDD; clear hPP; (try dsimp only at F))
      with_reducible refine l_nil (q_then (c_ret ?_))
      refine p_ret F rfl (.cons (.tmp (F.ev rfl)) .nil) ?_
      refine ⟨?_, M.ext⟩
      show Value.bool _ = Value.bool _
      rw [eqVs_pf (by rw [maskI_len, hp])]
      simp [validP, h0, h1]
    · refine c_draw 18 F (by kernel_rfl) ?_
      intro w1 hE hok
      have M1 := M.later hE
      refine mK hok rfl rfl (fun a' w' F' E' => o_fieldAddr (F'.ev rfl) ⟨Ext.refl _ _, rfl⟩) ?_
      refine mK hok rfl rfl (fun a' w' F' E' => o_load1 (M1.later E') (F'.ev rfl) (by repeat constructor) (by first | assumption | rfl) ⟨Ext.refl _ _, rfl⟩) ?_
      refine mK hok rfl rfl (fun a' w' F' E' => o_geqT (F'.ev rfl) (F'.ev rfl) (by omega) ⟨Ext.refl _ _, rfl⟩) ?_
      refine mK hok rfl rfl (fun a' w' F' E' => o_move (F'.ev rfl) ⟨Ext.refl _ _, rfl⟩) ?_
      refine mKG hok rfl rfl rfl rfl (fun a' w' F' E' => o_fieldAddr (F'.ev rfl) ⟨Ext.refl _ _, rfl⟩) ?_
      refine mKG hok rfl rfl rfl rfl (fun a' w' F' E' => o_load1 (M1.later E') (F'.ev rfl) (by repeat constructor) (by first | assumption | rfl) ⟨Ext.refl _ _, rfl⟩) ?_
      refine mKG hok rfl rfl rfl rfl (fun a' w' F' E' => o_leqF (F'.ev rfl) (F'.ev rfl) (by omega) ⟨Ext.refl _ _, rfl⟩) ?_
      refine mK hok rfl rfl (fun a' w' F' E' => o_pickT (F'.ev rfl) (F'.ev rfl) ⟨Ext.refl _ _, rfl⟩) ?_
      refine mK hok rfl rfl (fun a' w' F' E' => o_move (F'.ev rfl) ⟨Ext.refl _ _, rfl⟩) ?_
      refine mOff hok rfl rfl rfl rfl rfl ?_
      refine mOff hok rfl rfl rfl rfl rfl ?_
      refine mOff hok rfl rfl rfl rfl rfl ?_
      refine mOff hok rfl rfl rfl rfl rfl ?_
      refine mOff hok rfl rfl rfl rfl rfl ?_
      refine mOff hok rfl rfl rfl rfl rfl ?_
      refine mOff hok rfl rfl rfl rfl rfl ?_
      refine mK hok rfl rfl (fun a' w' F' E' => o_pickF (F'.ev rfl) (F'.ev rfl) ⟨Ext.refl _ _, rfl⟩) ?_
      refine mK hok rfl rfl (fun a' w' F' E' => o_assign (F'.ev rfl) ⟨Ext.refl _ _, rfl⟩) ?_
      (refine mDone rfl rfl ?_; clear F M; intro a w F hE2 hX hTT hDD hPP; have M := M1.later hE2; clear M1; clear hX; clear hE2; clear hok; clear hE; clear hTT; clear hDD; clear hPP; (try dsimp only at F))
      with_reducible refine l_nil (q_then (c_ret ?_))
      refine p_ret F rfl (.cons (.tmp (F.ev rfl)) .nil) ?_
      exact ⟨by show Value.bool _ = Value.bool _; simp [validP, h1], M.ext⟩
  · refine c_draw 18 F (by kernel_rfl) ?_
    intro w1 hE hok
    have M1 := M.later hE
    refine mK hok rfl rfl (fun a' w' F' E' => o_fieldAddr (F'.ev rfl) ⟨Ext.refl _ _, rfl⟩) ?_
    refine mK hok rfl rfl (fun a' w' F' E' => o_load1 (M1.later E') (F'.ev rfl) (by repeat constructor) (by first | assumption | rfl) ⟨Ext.refl _ _, rfl⟩) ?_
    refine mK hok rfl rfl (fun a' w' F' E' => o_geqF (F'.ev rfl) (F'.ev rfl) (by omega) ⟨Ext.refl _ _, rfl⟩) ?_
    refine mK hok rfl rfl (fun a' w' F' E' => o_move (F'.ev rfl) ⟨Ext.refl _ _, rfl⟩) ?_
    refine mOff hok rfl rfl rfl rfl rfl ?_
    refine mOff hok rfl rfl rfl rfl rfl ?_
    refine mOff hok rfl rfl rfl rfl rfl ?_
    refine mK hok rfl rfl (fun a' w' F' E' => o_pickF (F'.ev rfl) (F'.ev rfl) ⟨Ext.refl _ _, rfl⟩) ?_
    refine mK hok rfl rfl (fun a' w' F' E' => o_move (F'.ev rfl) ⟨Ext.refl _ _, rfl⟩) ?_
    refine mOff hok rfl rfl rfl rfl rfl ?_
    refine mOff hok rfl rfl rfl rfl rfl ?_
    refine mOff hok rfl rfl rfl rfl rfl ?_
    refine mOff hok rfl rfl rfl rfl rfl ?_
    refine mOff hok rfl rfl rfl rfl rfl ?_
    refine mOff hok rfl rfl rfl rfl rfl ?_
    refine mOff hok rfl rfl rfl rfl rfl ?_
    refine mK hok rfl rfl (fun a' w' F' E' => o_pickF (F'.ev rfl) (F'.ev rfl) ⟨Ext.refl _ _, rfl⟩) ?_
    refine mK hok rfl rfl (fun a' w' F' E' => o_assign (F'.ev rfl) ⟨Ext.refl _ _, rfl⟩) ?_
    (refine mDone rfl rfl ?_; clear F M; intro a w F hE2 hX hTT hDD hPP; have M := M1.later hE2; clear M1; clear hX; clear hE2; clear hok; clear hE; clear hTT; clear hDD; clear hPP; (try dsimp only at F))
    with_reducible refine l_nil (q_then (c_ret ?_))
    refine p_ret F rfl (.cons (.tmp (F.ev rfl)) .nil) ?_
    exact ⟨by show Value.bool _ = Value.bool _; simp [validP, h0], M.ext⟩
end
section
set_option linter.unusedVariables false
set_option linter.unusedSimpArgs false
open Go.RowKit
attribute [local irreducible] OpTo wpListIn Code.wpIn MW Cal
theorem validP_bd {a : List Int} {n : Int} (h : validP a n = true) : 0 ≤ n ∧ n ≤ 128 := by
  simp only [validP, Bool.and_eq_true, decide_eq_true_eq] at h
  exact h.1
set_option maxHeartbeats 2000000 in
theorem contains_c (p : List Int) (n : Int) (hp : p.length = 16) (b : List Int) (hb : b.length = 16) (W : World) : Cal Tryz.prog 107 [.agg (pfC p n).toArray, .agg (ipC b).toArray].toArray W fun v w' => v = .bool (containsP p n b) ∧ Ext [] W w' := by
  have e1 := seg_pf hp n
  have e2 := seg_pf0 hp n
  have e3 := nth_pf hp n
  have e4 := fits_pf hp n
  have e5 := fits_pf (maskI_len b n) n
  have e6 := seg_all (ipC_len hb)
  refine fn_ofM (n := 15) [] Tryz.func107 rfl rfl rfl ?_
  intro a w F M hwW
  refine c_seq ?_
  refine c_region ?_
  (refine sD F (o_box M (F.ev rfl) rfl ?_); clear F M; intro b1 w M a F)
  (refine sD F (o_box M (F.ev rfl) rfl ?_); clear F M; intro b2 w M a F)
  refine sD F (o_assign (F.ev rfl) ?_); clear F a; intro a F
  with_reducible refine l_nil (q_then (c_seq ?_))
  replace F := F.only [2, 3] rfl
  by_cases hv : validP p n = true
  · obtain ⟨h0, h1⟩ := validP_bd hv
    refine c_draw 11 F (by kernel_rfl) ?_
    intro w1 hE hok
    have M1 := M.later hE
    refine mK hok rfl rfl (fun a' w' F' E' => o_loadA (M1.later E') (F'.ev rfl) (by repeat constructor) (by first | assumption | rfl) ⟨Ext.refl _ _, rfl⟩) ?_
    (refine mK hok rfl rfl (fun a' w' F' E' => o_call (F'.ev rfl) (F'.evs rfl) (Cal.mono (validPrefix_c p n hp _) fun _ _ hh => ⟨hh.2, hh.1⟩)) ?_)
    rw [hv]
    refine mK hok rfl rfl (fun a' w' F' E' => o_move (F'.ev rfl) ⟨Ext.refl _ _, rfl⟩) ?_
    refine mKG hok rfl rfl rfl rfl (fun a' w' F' E' => o_loadA (M1.later E') (F'.ev rfl) (by repeat constructor) (by first | assumption | rfl) ⟨Ext.refl _ _, rfl⟩) ?_
    refine mKG hok rfl rfl rfl rfl (fun a' w' F' E' => o_fieldAddr (F'.ev rfl) ⟨Ext.refl _ _, rfl⟩) ?_
    refine mKG hok rfl rfl rfl rfl (fun a' w' F' E' => o_load1 (M1.later E') (F'.ev rfl) (by repeat constructor) (by first | assumption | rfl) ⟨Ext.refl _ _, rfl⟩) ?_
    (refine mKG hok rfl rfl rfl rfl (fun a' w' F' E' => o_call (F'.ev rfl) (F'.evs rfl) (Cal.mono (maskIn_c b hb n h0 h1 _) fun _ _ hh => ⟨hh.2, hh.1⟩)) ?_)
    refine mKG hok rfl rfl rfl rfl (fun a' w' F' E' => o_loadA (M1.later E') (F'.ev rfl) (by repeat constructor) (by first | assumption | rfl) ⟨Ext.refl _ _, rfl⟩) ?_
    refine mKG hok rfl rfl rfl rfl (fun a' w' F' E' => o_eqlA (F'.ev rfl) (F'.ev rfl) (by first | assumption | rfl) (by first | assumption | rfl) ⟨Ext.refl _ _, rfl⟩) ?_
    refine mK hok rfl rfl (fun a' w' F' E' => o_pickT (F'.ev rfl) (F'.ev rfl) ⟨Ext.refl _ _, rfl⟩) ?_
    refine mK hok rfl rfl (fun a' w' F' E' => o_assign (F'.ev rfl) ⟨Ext.refl _ _, rfl⟩) ?_
    (refine mDone rfl rfl ?_; clear F M; intro a w F hE2 hX hTT hDD hPP; have M := M1.later hE2; clear M1; clear hX; clear hE2; clear hok; clear hE; clear hTT; clear hDD; clear hPP; (try dsimp only at F))
    with_reducible refine l_nil (q_then (c_ret ?_))
    refine p_ret F rfl (.cons (.tmp (F.ev rfl)) .nil) ?_
    refine ⟨?_, M.ext⟩
    show Value.bool _ = Value.bool _
    rw [eqVs_pf (by rw [maskI_len, hp])]
    simp [containsP, hv]
  · replace hv : validP p n = false := by simpa using hv
    refine c_draw 11 F (by kernel_rfl) ?_
    intro w1 hE hok
    have M1 := M.later hE
    refine mK hok rfl rfl (fun a' w' F' E' => o_loadA (M1.later E') (F'.ev rfl) (by repeat constructor) (by first | assumption | rfl) ⟨Ext.refl _ _, rfl⟩) ?_
    (refine mK hok rfl rfl (fun a' w' F' E' => o_call (F'.ev rfl) (F'.evs rfl) (Cal.mono (validPrefix_c p n hp _) fun _ _ hh => ⟨hh.2, hh.1⟩)) ?_)
    rw [hv]
    refine mK hok rfl rfl (fun a' w' F' E' => o_move (F'.ev rfl) ⟨Ext.refl _ _, rfl⟩) ?_
    refine mOff hok rfl rfl rfl rfl rfl ?_
    refine mOff hok rfl rfl rfl rfl rfl ?_
    refine mOff hok rfl rfl rfl rfl rfl ?_
    refine mOff hok rfl rfl rfl rfl rfl ?_
    refine mOff hok rfl rfl rfl rfl rfl ?_
    refine mOff hok rfl rfl rfl rfl rfl ?_
    refine mK hok rfl rfl (fun a' w' F' E' => o_pickF (F'.ev rfl) (F'.ev rfl) ⟨Ext.refl _ _, rfl⟩) ?_
    refine mK hok rfl rfl (fun a' w' F' E' => o_assign (F'.ev rfl) ⟨Ext.refl _ _, rfl⟩) ?_
    (refine mDone rfl rfl ?_; clear F M; intro a w F hE2 hX hTT hDD hPP; have M := M1.later hE2; clear M1; clear hX; clear hE2; clear hok; clear hE; clear hTT; clear hDD; clear hPP; (try dsimp only at F))
    with_reducible refine l_nil (q_then (c_ret ?_))
    refine p_ret F rfl (.cons (.tmp (F.ev rfl)) .nil) ?_
    exact ⟨by show Value.bool _ = Value.bool _; simp [containsP, hv], M.ext⟩
end
section
set_option linter.unusedVariables false
set_option linter.unusedSimpArgs false
open Go.RowKit
attribute [local irreducible] OpTo wpListIn Code.wpIn MW Cal
end
section
set_option linter.unusedVariables false
set_option linter.unusedSimpArgs false
open Go.RowKit
theorem one_ip (a : List Int) : (ipC a).all (·.oneCell') = true := by
  rw [List.all_eq_true]
  intro v hv
  obtain ⟨x, _, rfl⟩ := List.mem_map.1 hv
  rfl
theorem one_pf (a : List Int) (n : Int) : (pfC a n).all (·.oneCell') = true := by
  unfold pfC
  rw [List.all_append, one_ip]
  rfl
theorem modI_bd (x : Int) {n : Int} (hn : 0 < n) : 0 ≤ modI x n ∧ modI x n < n := by
  have h1 := Int.tmod_lt_of_pos x hn
  have h2 : -n < x.tmod n := by have := Int.tmod_lt_of_pos (-x) hn; rw [Int.neg_tmod] at this; omega
  unfold modI
  split <;> omega
end
section
set_option linter.unusedVariables false
set_option linter.unusedSimpArgs false
open Go.RowKit
/-- a byte of which the first k bits stay -/
def cutB (x : Int) (k : Nat) : Int := bitsOf .andNot .u8 x (Int.fdiv 255 (2 ^ min k 8))
theorem cutB_fin : ∀ x : Fin 256, ∀ k : Fin 9, cutB (x.1 : Int) k.1 = ((x.1 / 2 ^ (8 - k.1) * 2 ^ (8 - k.1) : Nat) : Int) := by decide +kernel
theorem cutB_nat {x k : Nat} (hx : x < 256) (hk : k ≤ 8) : cutB (x : Int) k = ((x / 2 ^ (8 - k) * 2 ^ (8 - k) : Nat) : Int) := cutB_fin ⟨x, hx⟩ ⟨k, by omega⟩
theorem nest_fin : ∀ x : Fin 256, ∀ k j : Fin 9, (x.1 / 2 ^ (8 - k.1) * 2 ^ (8 - k.1)) / 2 ^ (8 - j.1) * 2 ^ (8 - j.1) = x.1 / 2 ^ (8 - min j.1 k.1) * 2 ^ (8 - min j.1 k.1) := by decide +kernel
theorem cutB_bd {x : Int} {k : Nat} (h0 : 0 ≤ x) (h1 : x < 256) (hk : k ≤ 8) : 0 ≤ cutB x k ∧ cutB x k < 256 := by
  obtain ⟨n, rfl⟩ := Int.eq_ofNat_of_zero_le h0
  rw [cutB_nat (by omega) hk]
  have := Nat.div_mul_le_self n (2 ^ (8 - k))
  omega
theorem cutB_nest {x : Int} {k j : Nat} (h0 : 0 ≤ x) (h1 : x < 256) (hk : k ≤ 8) (hj : j ≤ 8) : cutB (cutB x k) j = cutB x (min j k) := by
  obtain ⟨n, rfl⟩ := Int.eq_ofNat_of_zero_le h0
  have hn : n < 256 := by omega
  have := Nat.div_mul_le_self n (2 ^ (8 - k))
  rw [cutB_nat hn hk, cutB_nat (by omega) hj, cutB_nat hn (by omega), nest_fin ⟨n, hn⟩ ⟨k, by omega⟩ ⟨j, by omega⟩]
theorem keepN_bd (n i : Int) : (keepN n i).toNat ≤ 8 := by unfold keepN; split <;> (try split) <;> omega
theorem maskAt_cut (a : List Int) (n : Int) (i : Nat) : maskAt a n i = cutB (a.getD i 0) (keepN n i).toNat := rfl
theorem maskI_at (a : List Int) (n : Int) {i : Nat} (h : i < 16) : (maskI a n).getD i 0 = maskAt a n i := by simp [maskI, h]
theorem maskI_ext {a b : List Int} {n m : Int} : maskI a n = maskI b m ↔ ∀ i, i < 16 → maskAt a n i = maskAt b m i := by
  unfold maskI
  constructor
  · intro h i hi
    have := congrArg (fun l => l.getD i 0) h
    simpa [hi] using this
  · intro h
    exact List.map_congr_left fun i hi => h i (List.mem_range.1 hi)
def minI (m n : Int) : Int := if n < m then n else m
theorem keep_min (m n i : Int) : min (keepN m i).toNat (keepN n i).toNat = (keepN (minI m n) i).toNat := by
  unfold minI keepN
  split <;> split <;> split <;> (try split) <;> (try split) <;> omega
theorem mask_nest {p : List Int} (hp : IsIP p) (m n : Int) : maskI (maskI p n) m = maskI p (minI m n) := by
  rw [maskI_ext]
  intro i hi
  rw [maskAt_cut, maskI_at _ _ hi, maskAt_cut, maskAt_cut, cutB_nest (hp.at_ i).1 (hp.at_ i).2 (keepN_bd _ _) (keepN_bd _ _), keep_min]
theorem mask_isIP {p : List Int} (hp : IsIP p) (n : Int) : IsIP (maskI p n) := by
  refine ⟨maskI_len p n, fun x hx => ?_⟩
  unfold maskI at hx
  obtain ⟨i, _, rfl⟩ := List.mem_map.1 hx
  exact cutB_bd (hp.at_ i).1 (hp.at_ i).2 (keepN_bd _ _)
theorem minI_self (m : Int) : minI m m = m := by unfold minI; split <;> rfl
theorem valid_mask {p : List Int} (hp : IsIP p) {m : Int} (h0 : 0 ≤ m) (h1 : m ≤ 128) : validP (maskI p m) m = true := by
  simp [validP, h0, h1, mask_nest hp, minI_self]
end
section
set_option linter.unusedVariables false
set_option linter.unusedSimpArgs false
open Go.RowKit
attribute [local irreducible] OpTo wpListIn Code.wpIn MW Cal
end
section
set_option linter.unusedVariables false
set_option linter.unusedSimpArgs false
open Go.RowKit
attribute [local irreducible] OpTo wpListIn Code.wpIn MW Cal
end
section
set_option linter.unusedVariables false
set_option linter.unusedSimpArgs false
open Go.RowKit
attribute [local irreducible] OpTo wpListIn Code.wpIn MW Cal
def zeroIP : List Int := [0, 0, 0, 0, 0, 0, 0, 0, 0, 0, 0, 0, 0, 0, 0, 0]
end
section
set_option linter.unusedVariables false
set_option linter.unusedSimpArgs false
open Go.RowKit
attribute [local irreducible] OpTo wpListIn Code.wpIn MW Cal
end
section
set_option linter.unusedVariables false
set_option linter.unusedSimpArgs false
open Go.RowKit
attribute [local irreducible] OpTo wpListIn Code.wpIn MW Cal
/-- Fewer blocks, of which those that are left out have not been turned. -/
theorem Mem.less {S S' : List Nat} {W w : World} {l new : List (Nat × Obj)} (M : Mem S W w l) (h : ∀ k ∈ S, k ∈ S' ∨ ∃ o, Has l k o ∧ W.heap[k]? = some o) (hs : new.Sublist l) (hn : ∀ p ∈ new, p.1 ∈ S → p.1 ∈ S') : Mem S' W w new :=
  ⟨⟨M.ext.os, M.ext.tape, M.ext.output, M.ext.size, M.ext.dr, fun k hk hS' => by
    by_cases hS : k ∈ S
    · rcases h k hS with h1 | ⟨o, h1, h2⟩
      · exact absurd h1 hS'
      · rw [M.heap h1, h2]
    · exact M.ext.block k hk hS⟩, fun p hp => M.at_ p (hs.subset hp), M.nd.sublist (hs.map _), fun p hp => (M.own p (hs.subset hp)).imp_left (hn p hp)⟩
/-- the tape's block -/
def tobj (p : Option Addr) (len cap k : Nat) : Obj := .cells [.slice p len cap, .int .i64 k].toArray 95 (0, 0)
def i64C (xs : List Int) : List Value := xs.map (Value.int .i64)
/-- what its numbers are -/
structure TapeS (W : World) (bt : Nat) (p : Option Addr) (len : Nat) (xs : List Int) : Prop where
  lenE : xs.length = len
  small : len ≤ 400
  bd : ∀ x ∈ xs, -9223372036854775808 ≤ x ∧ x ≤ 9223372036854775807
  mem : 0 < len → ∃ b o cs t fz, p = some ⟨b, o, none⟩ ∧ b ≠ bt ∧ W.heap[b]? = some (.cells cs t fz) ∧ seg cs.toList o len = some (i64C xs)
theorem TapeS.later {W w : World} {bt : Nat} {p : Option Addr} {len : Nat} {xs : List Int} (h : TapeS W bt p len xs) (E : Ext [bt] W w) : TapeS w bt p len xs :=
  ⟨h.lenE, h.small, h.bd, fun hl => by
    obtain ⟨b, o, cs, t, fz, h1, h2, h3, h4⟩ := h.mem hl
    exact ⟨b, o, cs, t, fz, h1, h2, by rw [E.block b (Array.getElem?_eq_some_iff.1 h3).1 (by simpa using h2)]; exact h3, h4⟩⟩
def nxV (xs : List Int) (k : Nat) (n : Int) : Int := if k < xs.length then modI (xs.getD k 0) n else 0
def nxK (xs : List Int) (k : Nat) : Nat := if k < xs.length then k + 1 else k
theorem nxV_bd (xs : List Int) (k : Nat) {n : Int} (hn : 0 < n) : 0 ≤ nxV xs k n ∧ nxV xs k n < n := by
  unfold nxV
  split
  · exact modI_bd _ hn
  · omega
set_option maxHeartbeats 1000000 in
theorem next_c {bt : Nat} {p : Option Addr} {len cap k : Nat} {xs : List Int} (n : Int) (hn : 0 < n) (hn2 : n ≤ 9223372036854775807) (W : World) (hT : TapeS W bt p len xs) (hb : W.heap[bt]? = some (tobj p len cap k)) :
    Cal Tryz.prog 22 [.pointer (some ⟨bt, 0, none⟩), .int .i64 n].toArray W fun v w' => v = .int .i64 (nxV xs k n) ∧ Mem [bt] W w' [(bt, tobj p len cap (nxK xs k))] := by
  have hlen := hT.lenE
  by_cases hk : k < len
  · obtain ⟨b, o, cs, t, fz, rfl, hne, hbb, hs⟩ := hT.mem (by omega)
    have hnt : nth cs.toList (o + (k : Int).toNat * 1) = some (.int .i64 (xs.getD k 0)) := by
      obtain ⟨h1, h2⟩ := seg_spec _ _ _ _ hs
      have h3 := h2 k hk
      rw [nth_spec, show o + (k : Int).toNat * 1 = o + k by omega, h3]
      have hl : k < xs.length := by omega
      simp [i64C, hl]
    have hxk := hT.bd (xs.getD k 0) (by rw [List.getD_eq_getElem?_getD, List.getElem?_eq_getElem (by omega)]; exact List.getElem_mem _)
    have hr := Int.tmod_lt_of_pos (xs.getD k 0) hn
    have hr2 : -n < (xs.getD k 0).tmod n := by have := Int.tmod_lt_of_pos (-(xs.getD k 0)) hn; rw [Int.neg_tmod] at this; omega
    have hsm := hT.small
    have hv : nxV xs k n = modI (xs.getD k 0) n := by unfold nxV; rw [if_pos (by omega)]
    have hkk : nxK xs k = k + 1 := by unfold nxK; rw [if_pos (by omega)]
    rw [hv, hkk]
    unfold modI
    refine fn_ofM (n := 41) [bt,b] Tryz.func22 rfl rfl rfl ?_
    intro a w F M hwW
    replace M := M.came hwW hb (by simp) (by simp)
    replace M := M.came hwW (o := .cells cs.toList.toArray t fz) (by simpa using hbb) (by simp) (by simp; exact fun h => hne h.symm)
    unfold tobj at M
    refine c_seq (c_region ?_)
    refine sD F (o_assign (F.ev rfl) ?_); clear F a; intro a F
    with_reducible refine l_nil (q_then (c_seq (c_seq ?_)))
    refine c_draw 10 F (by kernel_rfl) ?_
    intro w1 hE hok
    have M1 := M.later hE
    refine mK hok rfl rfl (fun a' w' F' E' => o_move (F'.ev rfl) ⟨Ext.refl _ _, rfl⟩) ?_
    refine mK hok rfl rfl (fun a' w' F' E' => o_nilCheck (F'.ev rfl) rfl ⟨Ext.refl _ _, rfl⟩) ?_
    refine mK hok rfl rfl (fun a' w' F' E' => o_fieldAddr (F'.ev rfl) ⟨Ext.refl _ _, rfl⟩) ?_
    refine mK hok rfl rfl (fun a' w' F' E' => o_load1 (M1.later E') (F'.ev rfl) (by repeat constructor) (by first | assumption | rfl) ⟨Ext.refl _ _, rfl⟩) ?_
    refine mK hok rfl rfl (fun a' w' F' E' => o_move (F'.ev rfl) ⟨Ext.refl _ _, rfl⟩) ?_
    refine mK hok rfl rfl (fun a' w' F' E' => o_nilCheck (F'.ev rfl) rfl ⟨Ext.refl _ _, rfl⟩) ?_
    refine mK hok rfl rfl (fun a' w' F' E' => o_fieldAddr (F'.ev rfl) ⟨Ext.refl _ _, rfl⟩) ?_
    refine mK hok rfl rfl (fun a' w' F' E' => o_load1 (M1.later E') (F'.ev rfl) (by repeat constructor) (by first | assumption | rfl) ⟨Ext.refl _ _, rfl⟩) ?_
    refine mK hok rfl rfl (fun a' w' F' E' => o_lenSl (F'.ev rfl) ⟨Ext.refl _ _, rfl⟩) ?_
    refine mK hok rfl rfl (fun a' w' F' E' => o_geqF (F'.ev rfl) (F'.ev rfl) (by omega) ⟨Ext.refl _ _, rfl⟩) ?_
    (refine mDone rfl rfl ?_; clear F M; intro a w F hE2 hX hTT hDD hPP; have M := M1.later hE2; clear M1; clear hX; clear hE2; clear hok; clear hE; clear hTT; clear hDD; clear hPP; (try dsimp only at F))
    with_reducible refine l_nil (q_then ?_)
    refine c_false F rfl rfl ?_
    with_reducible refine c_skip (q_then (c_seq ?_))
    refine c_draw 12 F (by kernel_rfl) ?_
    intro w1 hE hok
    have M1 := M.later hE
    refine mK hok rfl rfl (fun a' w' F' E' => o_move (F'.ev rfl) ⟨Ext.refl _ _, rfl⟩) ?_
    refine mK hok rfl rfl (fun a' w' F' E' => o_nilCheck (F'.ev rfl) rfl ⟨Ext.refl _ _, rfl⟩) ?_
    refine mK hok rfl rfl (fun a' w' F' E' => o_fieldAddr (F'.ev rfl) ⟨Ext.refl _ _, rfl⟩) ?_
    refine mK hok rfl rfl (fun a' w' F' E' => o_load1 (M1.later E') (F'.ev rfl) (by repeat constructor) (by first | assumption | rfl) ⟨Ext.refl _ _, rfl⟩) ?_
    refine mK hok rfl rfl (fun a' w' F' E' => o_move (F'.ev rfl) ⟨Ext.refl _ _, rfl⟩) ?_
    refine mK hok rfl rfl (fun a' w' F' E' => o_nilCheck (F'.ev rfl) rfl ⟨Ext.refl _ _, rfl⟩) ?_
    refine mK hok rfl rfl (fun a' w' F' E' => o_fieldAddr (F'.ev rfl) ⟨Ext.refl _ _, rfl⟩) ?_
    refine mK hok rfl rfl (fun a' w' F' E' => o_load1 (M1.later E') (F'.ev rfl) (by repeat constructor) (by first | assumption | rfl) ⟨Ext.refl _ _, rfl⟩) ?_
    refine mK hok rfl rfl (fun a' w' F' E' => o_indexSl (F'.ev rfl) (F'.ev rfl) (by omega) (by omega) ⟨Ext.refl _ _, rfl⟩) ?_
    refine mK hok rfl rfl (fun a' w' F' E' => o_load1 (M1.later E') (F'.ev rfl) (by repeat constructor) (by first | assumption | rfl) ⟨Ext.refl _ _, rfl⟩) ?_
    refine mK hok rfl rfl (fun a' w' F' E' => o_move (F'.ev rfl) ⟨Ext.refl _ _, rfl⟩) ?_
    refine mK hok rfl rfl (fun a' w' F' E' => o_rem (F'.ev rfl) (F'.ev rfl) (by omega) rfl ⟨Ext.refl _ _, rfl⟩) ?_
    (refine mDone rfl rfl ?_; clear F M; intro a w F hE2 hX hTT hDD hPP; have M := M1.later hE2; clear M1; clear hX; clear hE2; clear hok; clear hE; clear hTT; clear hDD; clear hPP; (try dsimp only at F))
    refine sD F (o_assign (F.ev rfl) ?_); clear F a; intro a F
    with_reducible refine l_nil (q_then (c_seq (c_region ?_)))
    refine sD F (o_move (F.ev rfl) ?_); clear F a; intro a F
    refine sD F (o_nilCheck (F.ev rfl) rfl ?_); clear F a; intro a F
    refine sD F (o_fieldAddr (F.ev rfl) ?_); clear F a; intro a F
    refine sD F (o_load1 M (F.ev rfl) (by repeat constructor) (by first | assumption | rfl) ?_); clear F a; intro a F
    refine sD F (o_add (F.ev rfl) (F.ev rfl) (w_i64 (by omega) (by omega)) ?_); clear F a; intro a F
    refine sD F (o_nilCheck (F.ev rfl) rfl ?_); clear F a; intro a F
    refine sD F (o_fieldAddr (F.ev rfl) ?_); clear F a; intro a F
    (refine stepN rfl F (o_store1 M (F.ev rfl) (F.ev rfl) rfl (by repeat constructor) (by rfl) (by repeat constructor) ?_); clear F M; intro w M a F)
    with_reducible refine l_nil (q_then (c_seq (c_seq (c_region ?_))))
    refine sD F (o_move (F.ev rfl) ?_); clear F a; intro a F
    refine sD F (o_lss (F.ev rfl) (F.ev rfl) ?_); clear F a; intro a F
    with_reducible refine l_nil (q_then ?_)
    generalize (xs.getD k 0).tmod n = r at *
    have fin : ∀ w', Mem [bt, b] W w' [(b, .cells cs.toList.toArray t fz), (bt, .cells [.slice (some ⟨b, o, none⟩) len cap, .int .i64 ((k : Int) + 1)].toArray 95 (0, 0))] → Mem [bt] W w' [(bt, tobj (some ⟨b, o, none⟩) len cap (k + 1))] := fun w' M' =>
      M'.less (fun q hq => by
        simp only [List.mem_cons, List.not_mem_nil, or_false] at hq
        rcases hq with rfl | rfl
        · exact .inl (by simp)
        · exact .inr ⟨_, .here, by simpa using hbb⟩) (List.sublist_cons_self _ _) (fun q hq _ => by simp at hq; subst hq; simp)
    refine c_if F rfl (fun hc => ?_) (fun hc => ?_)
    · replace hc := of_decide_eq_true hc
      rw [if_pos hc]
      refine c_region ?_
      refine sD F (o_move (F.ev rfl) ?_); clear F a; intro a F
      refine sD F (o_move (F.ev rfl) ?_); clear F a; intro a F
      refine sD F (o_add (F.ev rfl) (F.ev rfl) (w_i64 (by omega) (by omega)) ?_); clear F a; intro a F
      refine sD F (o_assign (F.ev rfl) ?_); clear F a; intro a F
      with_reducible refine l_nil (q_then (c_seq (c_region ?_)))
      refine sD F (o_move (F.ev rfl) ?_); clear F a; intro a F
      refine sD F (o_assign (F.ev rfl) ?_); clear F a; intro a F
      with_reducible refine l_nil (q_then (c_ret ?_))
      refine p_ret F rfl (.cons (.tmp (F.ev rfl)) .nil) ?_
      exact ⟨rfl, fin _ M⟩
    · replace hc := of_decide_eq_false hc
      rw [if_neg hc]
      with_reducible refine c_skip (q_then (c_seq (c_region ?_)))
      refine sD F (o_move (F.ev rfl) ?_); clear F a; intro a F
      refine sD F (o_assign (F.ev rfl) ?_); clear F a; intro a F
      with_reducible refine l_nil (q_then (c_ret ?_))
      refine p_ret F rfl (.cons (.tmp (F.ev rfl)) .nil) ?_
      exact ⟨rfl, fin _ M⟩
  · have hv : nxV xs k n = 0 := by unfold nxV; rw [if_neg (by omega)]
    have hkk : nxK xs k = k := by unfold nxK; rw [if_neg (by omega)]
    rw [hv, hkk]
    refine fn_ofM (n := 41) [bt] Tryz.func22 rfl rfl rfl ?_
    intro a w F M hwW
    replace M := M.came hwW hb (by simp) (by simp)
    unfold tobj at M
    refine c_seq (c_region ?_)
    refine sD F (o_assign (F.ev rfl) ?_); clear F a; intro a F
    with_reducible refine l_nil (q_then (c_seq (c_seq ?_)))
    refine c_draw 10 F (by kernel_rfl) ?_
    intro w1 hE hok
    have M1 := M.later hE
    refine mK hok rfl rfl (fun a' w' F' E' => o_move (F'.ev rfl) ⟨Ext.refl _ _, rfl⟩) ?_
    refine mK hok rfl rfl (fun a' w' F' E' => o_nilCheck (F'.ev rfl) rfl ⟨Ext.refl _ _, rfl⟩) ?_
    refine mK hok rfl rfl (fun a' w' F' E' => o_fieldAddr (F'.ev rfl) ⟨Ext.refl _ _, rfl⟩) ?_
    refine mK hok rfl rfl (fun a' w' F' E' => o_load1 (M1.later E') (F'.ev rfl) (by repeat constructor) (by first | assumption | rfl) ⟨Ext.refl _ _, rfl⟩) ?_
    refine mK hok rfl rfl (fun a' w' F' E' => o_move (F'.ev rfl) ⟨Ext.refl _ _, rfl⟩) ?_
    refine mK hok rfl rfl (fun a' w' F' E' => o_nilCheck (F'.ev rfl) rfl ⟨Ext.refl _ _, rfl⟩) ?_
    refine mK hok rfl rfl (fun a' w' F' E' => o_fieldAddr (F'.ev rfl) ⟨Ext.refl _ _, rfl⟩) ?_
    refine mK hok rfl rfl (fun a' w' F' E' => o_load1 (M1.later E') (F'.ev rfl) (by repeat constructor) (by first | assumption | rfl) ⟨Ext.refl _ _, rfl⟩) ?_
    refine mK hok rfl rfl (fun a' w' F' E' => o_lenSl (F'.ev rfl) ⟨Ext.refl _ _, rfl⟩) ?_
    refine mK hok rfl rfl (fun a' w' F' E' => o_geqT (F'.ev rfl) (F'.ev rfl) (by omega) ⟨Ext.refl _ _, rfl⟩) ?_
    (refine mDone rfl rfl ?_; clear F M; intro a w F hE2 hX hTT hDD hPP; have M := M1.later hE2; clear M1; clear hX; clear hE2; clear hok; clear hE; clear hTT; clear hDD; clear hPP; (try dsimp only at F))
    with_reducible refine l_nil (q_then ?_)
    refine c_true F rfl rfl ?_
    refine c_seq (c_region ?_)
    refine sD F (o_assign (F.ev rfl) ?_); clear F a; intro a F
    with_reducible refine l_nil (q_then (c_ret (q_thenR ?_)))
    refine p_ret F rfl (.cons (.tmp (F.ev rfl)) .nil) ?_
    exact ⟨rfl, M⟩
end
section
set_option linter.unusedVariables false
set_option linter.unusedSimpArgs false
open Go.RowKit
attribute [local irreducible] OpTo wpListIn Code.wpIn MW Cal
/-- Behind a call that turned one block of ours. -/
theorem Mem.turn1 {S : List Nat} {W0 w w' : World} {l l' : List (Nat × Obj)} {b : Nat} {o o' : Obj} (M : Mem S W0 w l) (N : Mem [b] w w' [(b, o')]) (hu : Upd l b o o' l') : Mem S W0 w' l' := M.turned hu N.ext (N.heap .here)
def boolV (xs : List Int) (k : Nat) (n : Int) : Bool := nxV xs k n == n - 1
theorem bool_c {bt : Nat} {p : Option Addr} {len cap k : Nat} {xs : List Int} (n : Int) (hn : 0 < n) (hn2 : n ≤ 9223372036854775807) (W : World) (hT : TapeS W bt p len xs) (hb : W.heap[bt]? = some (tobj p len cap k)) :
    Cal Tryz.prog 21 [.pointer (some ⟨bt, 0, none⟩), .int .i64 n].toArray W fun v w' => v = .bool (boolV xs k n) ∧ Mem [bt] W w' [(bt, tobj p len cap (nxK xs k))] := by
  refine fn_ofM (n := 11) [bt] Tryz.func21 rfl rfl rfl ?_
  intro a w F M hwW
  replace M := M.came hwW hb (by simp) (by simp)
  refine c_seq (c_region ?_)
  refine sD F (o_assign (F.ev rfl) ?_); clear F a; intro a F
  with_reducible refine l_nil (q_then (c_seq (c_region ?_)))
  refine sD F (o_move (F.ev rfl) ?_); clear F a; intro a F
  refine sD F (o_move (F.ev rfl) ?_); clear F a; intro a F
  (refine sD F (o_call (F.ev rfl) (F.evs rfl) (Cal.mono (next_c n hn hn2 _ (hT.later M.ext) (M.heap .here) ) ?_)); clear F; clear a; have M0 := M; clear M; rintro _ w ⟨rfl, N⟩ a F)
  replace M := M0.turn1 N .here
  refine sD F (o_move (F.ev rfl) ?_); clear F a; intro a F
  refine sD F (o_sub (F.ev rfl) (F.ev rfl) (w_i64 (by omega) (by omega)) ?_); clear F a; intro a F
  refine sD F (o_eql (F.ev rfl) (F.ev rfl) ?_); clear F a; intro a F
  refine sD F (o_assign (F.ev rfl) ?_); clear F a; intro a F
  with_reducible refine l_nil (q_then (c_ret ?_))
  refine p_ret F rfl (.cons (.tmp (F.ev rfl)) .nil) ?_
  exact ⟨rfl, M⟩
/-- a slice of int that came in: its numbers -/
structure IntsAt (W : World) (v : Value) (xs : List Int) : Prop where
  ex : ∃ p cap, v = .slice p xs.length cap ∧ xs.length ≤ cap ∧ (0 < xs.length → ∃ b o cs t fz, p = some ⟨b, o, none⟩ ∧ W.heap[b]? = some (.cells cs t fz) ∧ seg cs.toList o xs.length = some (i64C xs))
  bd : ∀ x ∈ xs, -9223372036854775808 ≤ x ∧ x ≤ 9223372036854775807
  small : xs.length ≤ 9223372036854775807
def cut400 (xs : List Int) : List Int := xs.take 400
theorem seg_eq : ∀ (cs : List Value) (off n : Nat), seg cs off n = if off + n ≤ cs.length then some ((cs.drop off).take n) else none
  | [], 0, 0 => by simp [seg]
  | _ :: _, 0, 0 => by simp [seg]
  | [], 0, n + 1 => by simp [seg]
  | [], off + 1, n => by cases n <;> simp [seg]
  | x :: xs, 0, n + 1 => by
    simp only [seg]
    rw [seg_eq xs 0 n]
    by_cases h : n ≤ xs.length
    · rw [if_pos (by omega), if_pos (by simp; omega)]; simp
    · rw [if_neg (by omega), if_neg (by simp; omega)]
  | x :: xs, off + 1, n => by
    have : seg (x :: xs) (off + 1) n = seg xs off n := by cases n <;> rfl
    rw [this, seg_eq xs off n]
    by_cases h : off + n ≤ xs.length
    · rw [if_pos h, if_pos (by simp; omega)]; simp
    · rw [if_neg h, if_neg (by simp; omega)]
theorem seg_take {cs ys : List Value} {off n m : Nat} (h : seg cs off n = some ys) (hm : m ≤ n) : seg cs off m = some (ys.take m) := by
  rw [seg_eq] at h ⊢
  split at h
  · rename_i hle
    rw [if_pos (by omega)]
    simp only [Option.some.injEq] at h
    subst h
    rw [List.take_take, Nat.min_eq_left hm]
  · cases h
theorem tape_new {W w' : World} {bt : Nat} {p : Option Addr} {xs : List Int} (hE : Ext [] W w') (hbt : W.heap.size ≤ bt) (hbd : ∀ x ∈ xs, -9223372036854775808 ≤ x ∧ x ≤ 9223372036854775807)
    (hm : 0 < xs.length → ∃ b o cs t fz, p = some ⟨b, o, none⟩ ∧ W.heap[b]? = some (.cells cs t fz) ∧ seg cs.toList o xs.length = some (i64C xs)) : TapeS w' bt p (cut400 xs).length (cut400 xs) := by
  refine ⟨rfl, by unfold cut400; rw [List.length_take]; omega, fun x hx => hbd x (List.mem_of_mem_take hx), fun hl => ?_⟩
  have hl0 : 0 < xs.length := by unfold cut400 at hl; rw [List.length_take] at hl; omega
  obtain ⟨b, o, cs, t, fz, h1, h2, h3⟩ := hm hl0
  have hlt := (Array.getElem?_eq_some_iff.1 h2).1
  refine ⟨b, o, cs, t, fz, h1, by omega, by rw [hE.block b hlt (by simp)]; exact h2, ?_⟩
  have := seg_take h3 (show (cut400 xs).length ≤ xs.length by unfold cut400; rw [List.length_take]; omega)
  rw [this]
  unfold i64C cut400
  rw [← List.map_take, List.length_take, Nat.min_comm, ← List.take_take, List.take_of_length_le (show (List.take 400 xs).length ≤ xs.length by rw [List.length_take]; omega)]
set_option maxHeartbeats 400000 in
theorem new_c {p : Option Addr} {cap : Nat} (xs : List Int) (W : World) (hI : IntsAt W (.slice p xs.length cap) xs) (hcap : xs.length ≤ cap) : Cal Tryz.prog 9 [.slice p xs.length cap].toArray W fun x w' => ∃ bt, x = .pointer (some ⟨bt, 0, none⟩) ∧ Mem [] W w' [(bt, tobj p (cut400 xs).length cap 0)] := by
  have hsm := hI.small
  by_cases h4 : 400 < xs.length
  · obtain ⟨b, o, hpp⟩ : ∃ b o, p = some ⟨b, o, none⟩ := by
      obtain ⟨p', cap', h1, _, h3⟩ := hI.ex
      cases h1
      obtain ⟨b, o, _, _, _, h5, _⟩ := h3 (by omega)
      exact ⟨b, o, h5⟩
    have hl : (cut400 xs).length = 400 := by unfold cut400; rw [List.length_take]; omega
    refine fn_ofM (n := 11) [] Tryz.func9 rfl rfl rfl ?_
    intro a w F M hwW
    refine c_seq (c_region ?_)
    refine sD F (o_assign (F.ev rfl) ?_); clear F a; intro a F
    with_reducible refine l_nil (q_then (c_seq (c_seq (c_region ?_))))
    refine sD F (o_move (F.ev rfl) ?_); clear F a; intro a F
    refine sD F (o_lenSl (F.ev rfl) ?_); clear F a; intro a F
    refine sD F (o_gtrT (F.ev rfl) (F.ev rfl) (by omega) ?_); clear F a; intro a F
    with_reducible refine l_nil (q_then ?_)
    refine c_true F rfl rfl ?_
    refine c_region ?_
    refine sD F (o_move (F.ev rfl) ?_); clear F a; intro a F
    (refine sD F (o_slH (F.ev rfl) (F.ev rfl) (fun _ _ => trivial) (by omega) (by omega) ?_); clear F a; intro a F)
    refine sD F (o_assign (F.ev rfl) ?_); clear F a; intro a F
    with_reducible refine l_nil (q_then (c_seq (c_region ?_)))
    refine sD F (o_move (F.ev rfl) ?_); clear F a; intro a F
    refine sD F (o_build F rfl rfl ?_); clear F a; intro a F
    (refine sD F (o_box M (F.ev rfl) rfl ?_); clear F M; intro bt w M a F)
    refine sD F (o_assign (F.ev rfl) ?_); clear F a; intro a F
    with_reducible refine l_nil (q_then (c_ret ?_))
    refine p_ret F rfl (.cons (.tmp (F.ev rfl)) .nil) ?_
    refine ⟨bt, rfl, ?_⟩
    rw [hl]; exact M
  · have hl : (cut400 xs).length = xs.length := by unfold cut400; rw [List.length_take]; omega
    refine fn_ofM (n := 11) [] Tryz.func9 rfl rfl rfl ?_
    intro a w F M hwW
    refine c_seq (c_region ?_)
    refine sD F (o_assign (F.ev rfl) ?_); clear F a; intro a F
    with_reducible refine l_nil (q_then (c_seq (c_seq (c_region ?_))))
    refine sD F (o_move (F.ev rfl) ?_); clear F a; intro a F
    refine sD F (o_lenSl (F.ev rfl) ?_); clear F a; intro a F
    refine sD F (o_gtrF (F.ev rfl) (F.ev rfl) (by omega) ?_); clear F a; intro a F
    with_reducible refine l_nil (q_then ?_)
    refine c_false F rfl rfl ?_
    with_reducible refine c_skip (q_then (c_seq (c_region ?_)))
    refine sD F (o_move (F.ev rfl) ?_); clear F a; intro a F
    refine sD F (o_build F rfl rfl ?_); clear F a; intro a F
    (refine sD F (o_box M (F.ev rfl) rfl ?_); clear F M; intro bt w M a F)
    refine sD F (o_assign (F.ev rfl) ?_); clear F a; intro a F
    with_reducible refine l_nil (q_then (c_ret ?_))
    refine p_ret F rfl (.cons (.tmp (F.ev rfl)) .nil) ?_
    refine ⟨bt, rfl, ?_⟩
    rw [hl]; exact M
theorem IntsAt.later {W w : World} {v : Value} {xs : List Int} (h : IntsAt W v xs) (E : Ext [] W w) : IntsAt w v xs := by
  refine ⟨?_, h.bd, h.small⟩
  obtain ⟨p, cap, h1, h2, h3⟩ := h.ex
  refine ⟨p, cap, h1, h2, fun hl => ?_⟩
  obtain ⟨b, o, cs, t, fz, g1, g2, g3⟩ := h3 hl
  exact ⟨b, o, cs, t, fz, g1, by rw [E.block b (Array.getElem?_eq_some_iff.1 g2).1 (by simp)]; exact g2, g3⟩
end
section
set_option linter.unusedVariables false
set_option linter.unusedSimpArgs false
open Go.RowKit
attribute [local irreducible] OpTo wpListIn Code.wpIn MW Cal
def cmpV (x y : Int) : Int := if x < y then -1 else if y < x then 1 else 0
theorem nan_int (x : Int) (W : World) : Cal Tryz.prog 145 [.int .i64 x].toArray W fun v w' => v = .bool false ∧ Ext [] W w' := by
  refine fn_ofM (n := 6) [] Tryz.func145 rfl rfl rfl ?_
  intro a w F M hwW
  refine c_seq (c_region ?_)
  refine sD F (o_assign (F.ev rfl) ?_); clear F a; intro a F
  with_reducible refine l_nil (q_then (c_seq (c_region ?_)))
  refine sD F (o_move (F.ev rfl) ?_); clear F a; intro a F
  refine sD F (o_move (F.ev rfl) ?_); clear F a; intro a F
  refine sD F (o_neqF (F.ev rfl) (F.ev rfl) (by omega) ?_); clear F a; intro a F
  refine sD F (o_assign (F.ev rfl) ?_); clear F a; intro a F
  with_reducible refine l_nil (q_then (c_ret ?_))
  refine p_ret F rfl (.cons (.tmp (F.ev rfl)) .nil) ?_
  exact ⟨rfl, M.ext⟩
set_option maxHeartbeats 400000 in
theorem cmp_int (x y : Int) (W : World) : Cal Tryz.prog 128 [.int .i64 x, .int .i64 y].toArray W fun v w' => v = .int .i64 (cmpV x y) ∧ Ext [] W w' := by
  have hcase : x < y ∨ y < x ∨ x = y := by omega
  unfold cmpV
  rcases hcase with h | h | h
  · rw [if_pos h]
    refine fn_ofM (n := 20) [] Tryz.func128 rfl rfl rfl ?_
    intro a w F M hwW
    refine c_seq (c_region ?_)
    refine sD F (o_assign (F.ev rfl) ?_); clear F a; intro a F
    with_reducible refine l_nil (q_then (c_seq (c_region ?_)))
    refine sD F (o_move (F.ev rfl) ?_); clear F a; intro a F
    (refine sD F (o_call (F.ev rfl) (F.evs rfl) (Cal.mono (nan_int x _) ?_)); clear F; clear a; rintro _ w ⟨rfl, hE⟩ a F; replace M := M.later hE; clear hE)
    refine sD F (o_assign (F.ev rfl) ?_); clear F a; intro a F
    with_reducible refine l_nil (q_then (c_seq (c_region ?_)))
    refine sD F (o_move (F.ev rfl) ?_); clear F a; intro a F
    (refine sD F (o_call (F.ev rfl) (F.evs rfl) (Cal.mono (nan_int y _) ?_)); clear F; clear a; rintro _ w ⟨rfl, hE⟩ a F; replace M := M.later hE; clear hE)
    refine sD F (o_assign (F.ev rfl) ?_); clear F a; intro a F
    with_reducible refine l_nil (q_then (c_seq (c_seq (c_region ?_))))
    refine sD F (o_move (F.ev rfl) ?_); clear F a; intro a F
    with_reducible refine l_nil (q_then ?_)
    refine c_false F rfl rfl ?_
    with_reducible refine c_skip (q_then (c_seq (c_seq (c_region ?_))))
    refine sD F (o_move (F.ev rfl) ?_); clear F a; intro a F
    with_reducible refine l_nil (q_then ?_)
    refine c_false F rfl rfl ?_
    with_reducible refine c_skip (q_then (c_seq (c_seq (c_region ?_))))
    refine sD F (o_move (F.ev rfl) ?_); clear F a; intro a F
    refine sD F (o_move (F.ev rfl) ?_); clear F a; intro a F
    refine sD F (o_lssT (F.ev rfl) (F.ev rfl) (by omega) ?_); clear F a; intro a F
    with_reducible refine l_nil (q_then ?_)
    refine c_true F rfl rfl ?_
    refine c_seq (c_region ?_)
    refine sD F (o_assign (F.ev rfl) ?_); clear F a; intro a F
    with_reducible refine l_nil (q_then (c_ret (q_thenR ?_)))
    refine p_ret F rfl (.cons (.tmp (F.ev rfl)) .nil) ?_
    exact ⟨rfl, M.ext⟩
  · rw [if_neg (by omega), if_pos h]
    refine fn_ofM (n := 20) [] Tryz.func128 rfl rfl rfl ?_
    intro a w F M hwW
    refine c_seq (c_region ?_)
    refine sD F (o_assign (F.ev rfl) ?_); clear F a; intro a F
    with_reducible refine l_nil (q_then (c_seq (c_region ?_)))
    refine sD F (o_move (F.ev rfl) ?_); clear F a; intro a F
    (refine sD F (o_call (F.ev rfl) (F.evs rfl) (Cal.mono (nan_int x _) ?_)); clear F; clear a; rintro _ w ⟨rfl, hE⟩ a F; replace M := M.later hE; clear hE)
    refine sD F (o_assign (F.ev rfl) ?_); clear F a; intro a F
    with_reducible refine l_nil (q_then (c_seq (c_region ?_)))
    refine sD F (o_move (F.ev rfl) ?_); clear F a; intro a F
    (refine sD F (o_call (F.ev rfl) (F.evs rfl) (Cal.mono (nan_int y _) ?_)); clear F; clear a; rintro _ w ⟨rfl, hE⟩ a F; replace M := M.later hE; clear hE)
    refine sD F (o_assign (F.ev rfl) ?_); clear F a; intro a F
    with_reducible refine l_nil (q_then (c_seq (c_seq (c_region ?_))))
    refine sD F (o_move (F.ev rfl) ?_); clear F a; intro a F
    with_reducible refine l_nil (q_then ?_)
    refine c_false F rfl rfl ?_
    with_reducible refine c_skip (q_then (c_seq (c_seq (c_region ?_))))
    refine sD F (o_move (F.ev rfl) ?_); clear F a; intro a F
    with_reducible refine l_nil (q_then ?_)
    refine c_false F rfl rfl ?_
    with_reducible refine c_skip (q_then (c_seq (c_seq (c_region ?_))))
    refine sD F (o_move (F.ev rfl) ?_); clear F a; intro a F
    refine sD F (o_move (F.ev rfl) ?_); clear F a; intro a F
    refine sD F (o_lssF (F.ev rfl) (F.ev rfl) (by omega) ?_); clear F a; intro a F
    with_reducible refine l_nil (q_then ?_)
    refine c_false F rfl rfl ?_
    with_reducible refine c_skip (q_then (c_seq (c_seq (c_region ?_))))
    refine sD F (o_move (F.ev rfl) ?_); clear F a; intro a F
    refine sD F (o_move (F.ev rfl) ?_); clear F a; intro a F
    refine sD F (o_gtrT (F.ev rfl) (F.ev rfl) (by omega) ?_); clear F a; intro a F
    with_reducible refine l_nil (q_then ?_)
    refine c_true F rfl rfl ?_
    refine c_seq (c_region ?_)
    refine sD F (o_assign (F.ev rfl) ?_); clear F a; intro a F
    with_reducible refine l_nil (q_then (c_ret (q_thenR ?_)))
    refine p_ret F rfl (.cons (.tmp (F.ev rfl)) .nil) ?_
    exact ⟨rfl, M.ext⟩
  · rw [if_neg (by omega), if_neg (by omega)]
    refine fn_ofM (n := 20) [] Tryz.func128 rfl rfl rfl ?_
    intro a w F M hwW
    refine c_seq (c_region ?_)
    refine sD F (o_assign (F.ev rfl) ?_); clear F a; intro a F
    with_reducible refine l_nil (q_then (c_seq (c_region ?_)))
    refine sD F (o_move (F.ev rfl) ?_); clear F a; intro a F
    (refine sD F (o_call (F.ev rfl) (F.evs rfl) (Cal.mono (nan_int x _) ?_)); clear F; clear a; rintro _ w ⟨rfl, hE⟩ a F; replace M := M.later hE; clear hE)
    refine sD F (o_assign (F.ev rfl) ?_); clear F a; intro a F
    with_reducible refine l_nil (q_then (c_seq (c_region ?_)))
    refine sD F (o_move (F.ev rfl) ?_); clear F a; intro a F
    (refine sD F (o_call (F.ev rfl) (F.evs rfl) (Cal.mono (nan_int y _) ?_)); clear F; clear a; rintro _ w ⟨rfl, hE⟩ a F; replace M := M.later hE; clear hE)
    refine sD F (o_assign (F.ev rfl) ?_); clear F a; intro a F
    with_reducible refine l_nil (q_then (c_seq (c_seq (c_region ?_))))
    refine sD F (o_move (F.ev rfl) ?_); clear F a; intro a F
    with_reducible refine l_nil (q_then ?_)
    refine c_false F rfl rfl ?_
    with_reducible refine c_skip (q_then (c_seq (c_seq (c_region ?_))))
    refine sD F (o_move (F.ev rfl) ?_); clear F a; intro a F
    with_reducible refine l_nil (q_then ?_)
    refine c_false F rfl rfl ?_
    with_reducible refine c_skip (q_then (c_seq (c_seq (c_region ?_))))
    refine sD F (o_move (F.ev rfl) ?_); clear F a; intro a F
    refine sD F (o_move (F.ev rfl) ?_); clear F a; intro a F
    refine sD F (o_lssF (F.ev rfl) (F.ev rfl) (by omega) ?_); clear F a; intro a F
    with_reducible refine l_nil (q_then ?_)
    refine c_false F rfl rfl ?_
    with_reducible refine c_skip (q_then (c_seq (c_seq (c_region ?_))))
    refine sD F (o_move (F.ev rfl) ?_); clear F a; intro a F
    refine sD F (o_move (F.ev rfl) ?_); clear F a; intro a F
    refine sD F (o_gtrF (F.ev rfl) (F.ev rfl) (by omega) ?_); clear F a; intro a F
    with_reducible refine l_nil (q_then ?_)
    refine c_false F rfl rfl ?_
    with_reducible refine c_skip (q_then (c_seq (c_region ?_)))
    refine sD F (o_assign (F.ev rfl) ?_); clear F a; intro a F
    with_reducible refine l_nil (q_then (c_ret ?_))
    refine p_ret F rfl (.cons (.tmp (F.ev rfl)) .nil) ?_
    exact ⟨rfl, M.ext⟩
theorem nan_eui (x : Int) (W : World) : Cal Tryz.prog 140 [.int .u64 x].toArray W fun v w' => v = .bool false ∧ Ext [] W w' := by
  refine fn_ofM (n := 6) [] Tryz.func140 rfl rfl rfl ?_
  intro a w F M hwW
  refine c_seq (c_region ?_)
  refine sD F (o_assign (F.ev rfl) ?_); clear F a; intro a F
  with_reducible refine l_nil (q_then (c_seq (c_region ?_)))
  refine sD F (o_move (F.ev rfl) ?_); clear F a; intro a F
  refine sD F (o_move (F.ev rfl) ?_); clear F a; intro a F
  refine sD F (o_neqF (F.ev rfl) (F.ev rfl) (by omega) ?_); clear F a; intro a F
  refine sD F (o_assign (F.ev rfl) ?_); clear F a; intro a F
  with_reducible refine l_nil (q_then (c_ret ?_))
  refine p_ret F rfl (.cons (.tmp (F.ev rfl)) .nil) ?_
  exact ⟨rfl, M.ext⟩
set_option maxHeartbeats 400000 in
theorem cmp_eui (x y : Int) (W : World) : Cal Tryz.prog 121 [.int .u64 x, .int .u64 y].toArray W fun v w' => v = .int .i64 (cmpV x y) ∧ Ext [] W w' := by
  have hcase : x < y ∨ y < x ∨ x = y := by omega
  unfold cmpV
  rcases hcase with h | h | h
  · rw [if_pos h]
    refine fn_ofM (n := 20) [] Tryz.func121 rfl rfl rfl ?_
    intro a w F M hwW
    refine c_seq (c_region ?_)
    refine sD F (o_assign (F.ev rfl) ?_); clear F a; intro a F
    with_reducible refine l_nil (q_then (c_seq (c_region ?_)))
    refine sD F (o_move (F.ev rfl) ?_); clear F a; intro a F
    (refine sD F (o_call (F.ev rfl) (F.evs rfl) (Cal.mono (nan_eui x _) ?_)); clear F; clear a; rintro _ w ⟨rfl, hE⟩ a F; replace M := M.later hE; clear hE)
    refine sD F (o_assign (F.ev rfl) ?_); clear F a; intro a F
    with_reducible refine l_nil (q_then (c_seq (c_region ?_)))
    refine sD F (o_move (F.ev rfl) ?_); clear F a; intro a F
    (refine sD F (o_call (F.ev rfl) (F.evs rfl) (Cal.mono (nan_eui y _) ?_)); clear F; clear a; rintro _ w ⟨rfl, hE⟩ a F; replace M := M.later hE; clear hE)
    refine sD F (o_assign (F.ev rfl) ?_); clear F a; intro a F
    with_reducible refine l_nil (q_then (c_seq (c_seq (c_region ?_))))
    refine sD F (o_move (F.ev rfl) ?_); clear F a; intro a F
    with_reducible refine l_nil (q_then ?_)
    refine c_false F rfl rfl ?_
    with_reducible refine c_skip (q_then (c_seq (c_seq (c_region ?_))))
    refine sD F (o_move (F.ev rfl) ?_); clear F a; intro a F
    with_reducible refine l_nil (q_then ?_)
    refine c_false F rfl rfl ?_
    with_reducible refine c_skip (q_then (c_seq (c_seq (c_region ?_))))
    refine sD F (o_move (F.ev rfl) ?_); clear F a; intro a F
    refine sD F (o_move (F.ev rfl) ?_); clear F a; intro a F
    refine sD F (o_lssT (F.ev rfl) (F.ev rfl) (by omega) ?_); clear F a; intro a F
    with_reducible refine l_nil (q_then ?_)
    refine c_true F rfl rfl ?_
    refine c_seq (c_region ?_)
    refine sD F (o_assign (F.ev rfl) ?_); clear F a; intro a F
    with_reducible refine l_nil (q_then (c_ret (q_thenR ?_)))
    refine p_ret F rfl (.cons (.tmp (F.ev rfl)) .nil) ?_
    exact ⟨rfl, M.ext⟩
  · rw [if_neg (by omega), if_pos h]
    refine fn_ofM (n := 20) [] Tryz.func121 rfl rfl rfl ?_
    intro a w F M hwW
    refine c_seq (c_region ?_)
    refine sD F (o_assign (F.ev rfl) ?_); clear F a; intro a F
    with_reducible refine l_nil (q_then (c_seq (c_region ?_)))
    refine sD F (o_move (F.ev rfl) ?_); clear F a; intro a F
    (refine sD F (o_call (F.ev rfl) (F.evs rfl) (Cal.mono (nan_eui x _) ?_)); clear F; clear a; rintro _ w ⟨rfl, hE⟩ a F; replace M := M.later hE; clear hE)
    refine sD F (o_assign (F.ev rfl) ?_); clear F a; intro a F
    with_reducible refine l_nil (q_then (c_seq (c_region ?_)))
    refine sD F (o_move (F.ev rfl) ?_); clear F a; intro a F
    (refine sD F (o_call (F.ev rfl) (F.evs rfl) (Cal.mono (nan_eui y _) ?_)); clear F; clear a; rintro _ w ⟨rfl, hE⟩ a F; replace M := M.later hE; clear hE)
    refine sD F (o_assign (F.ev rfl) ?_); clear F a; intro a F
    with_reducible refine l_nil (q_then (c_seq (c_seq (c_region ?_))))
    refine sD F (o_move (F.ev rfl) ?_); clear F a; intro a F
    with_reducible refine l_nil (q_then ?_)
    refine c_false F rfl rfl ?_
    with_reducible refine c_skip (q_then (c_seq (c_seq (c_region ?_))))
    refine sD F (o_move (F.ev rfl) ?_); clear F a; intro a F
    with_reducible refine l_nil (q_then ?_)
    refine c_false F rfl rfl ?_
    with_reducible refine c_skip (q_then (c_seq (c_seq (c_region ?_))))
    refine sD F (o_move (F.ev rfl) ?_); clear F a; intro a F
    refine sD F (o_move (F.ev rfl) ?_); clear F a; intro a F
    refine sD F (o_lssF (F.ev rfl) (F.ev rfl) (by omega) ?_); clear F a; intro a F
    with_reducible refine l_nil (q_then ?_)
    refine c_false F rfl rfl ?_
    with_reducible refine c_skip (q_then (c_seq (c_seq (c_region ?_))))
    refine sD F (o_move (F.ev rfl) ?_); clear F a; intro a F
    refine sD F (o_move (F.ev rfl) ?_); clear F a; intro a F
    refine sD F (o_gtrT (F.ev rfl) (F.ev rfl) (by omega) ?_); clear F a; intro a F
    with_reducible refine l_nil (q_then ?_)
    refine c_true F rfl rfl ?_
    refine c_seq (c_region ?_)
    refine sD F (o_assign (F.ev rfl) ?_); clear F a; intro a F
    with_reducible refine l_nil (q_then (c_ret (q_thenR ?_)))
    refine p_ret F rfl (.cons (.tmp (F.ev rfl)) .nil) ?_
    exact ⟨rfl, M.ext⟩
  · rw [if_neg (by omega), if_neg (by omega)]
    refine fn_ofM (n := 20) [] Tryz.func121 rfl rfl rfl ?_
    intro a w F M hwW
    refine c_seq (c_region ?_)
    refine sD F (o_assign (F.ev rfl) ?_); clear F a; intro a F
    with_reducible refine l_nil (q_then (c_seq (c_region ?_)))
    refine sD F (o_move (F.ev rfl) ?_); clear F a; intro a F
    (refine sD F (o_call (F.ev rfl) (F.evs rfl) (Cal.mono (nan_eui x _) ?_)); clear F; clear a; rintro _ w ⟨rfl, hE⟩ a F; replace M := M.later hE; clear hE)
    refine sD F (o_assign (F.ev rfl) ?_); clear F a; intro a F
    with_reducible refine l_nil (q_then (c_seq (c_region ?_)))
    refine sD F (o_move (F.ev rfl) ?_); clear F a; intro a F
    (refine sD F (o_call (F.ev rfl) (F.evs rfl) (Cal.mono (nan_eui y _) ?_)); clear F; clear a; rintro _ w ⟨rfl, hE⟩ a F; replace M := M.later hE; clear hE)
    refine sD F (o_assign (F.ev rfl) ?_); clear F a; intro a F
    with_reducible refine l_nil (q_then (c_seq (c_seq (c_region ?_))))
    refine sD F (o_move (F.ev rfl) ?_); clear F a; intro a F
    with_reducible refine l_nil (q_then ?_)
    refine c_false F rfl rfl ?_
    with_reducible refine c_skip (q_then (c_seq (c_seq (c_region ?_))))
    refine sD F (o_move (F.ev rfl) ?_); clear F a; intro a F
    with_reducible refine l_nil (q_then ?_)
    refine c_false F rfl rfl ?_
    with_reducible refine c_skip (q_then (c_seq (c_seq (c_region ?_))))
    refine sD F (o_move (F.ev rfl) ?_); clear F a; intro a F
    refine sD F (o_move (F.ev rfl) ?_); clear F a; intro a F
    refine sD F (o_lssF (F.ev rfl) (F.ev rfl) (by omega) ?_); clear F a; intro a F
    with_reducible refine l_nil (q_then ?_)
    refine c_false F rfl rfl ?_
    with_reducible refine c_skip (q_then (c_seq (c_seq (c_region ?_))))
    refine sD F (o_move (F.ev rfl) ?_); clear F a; intro a F
    refine sD F (o_move (F.ev rfl) ?_); clear F a; intro a F
    refine sD F (o_gtrF (F.ev rfl) (F.ev rfl) (by omega) ?_); clear F a; intro a F
    with_reducible refine l_nil (q_then ?_)
    refine c_false F rfl rfl ?_
    with_reducible refine c_skip (q_then (c_seq (c_region ?_)))
    refine sD F (o_assign (F.ev rfl) ?_); clear F a; intro a F
    with_reducible refine l_nil (q_then (c_ret ?_))
    refine p_ret F rfl (.cons (.tmp (F.ev rfl)) .nil) ?_
    exact ⟨rfl, M.ext⟩
/-- the first that is not 0 -/
def orV : List Int → Int
  | [] => 0
  | x :: xs => if x = 0 then orV xs else x
theorem seg_int {cs : List Value} {off n i : Nat} {xs : List Int} (h : seg cs off n = some (i64C xs)) (hi : i < n) {q : Nat} (hq : q = off + i) : nth cs q = some (.int .i64 (xs.getD i 0)) := by
  obtain ⟨h1, h2⟩ := seg_spec _ _ _ _ h
  have := h2 i hi
  subst hq
  rw [nth_spec, this]
  have hxn : xs.length = n := by simpa [i64C] using h1
  have hl : i < xs.length := by omega
  simp [i64C, hl]
set_option maxHeartbeats 400000 in
theorem or_c {b : Nat} {t : TypeId} {fz : Nat × Nat} (xs : List Int) (n : Nat) (hn : xs.length = n) (hn2 : n ≤ 1000) (W : World) (hb : W.heap[b]? = some (.cells (i64C xs).toArray t fz)) : Cal Tryz.prog 120 [.slice (some ⟨b, 0, none⟩) n n].toArray W fun v w' => v = .int .i64 (orV xs) ∧ Ext [] W w' := by
  have hs : seg (i64C xs) 0 n = some (i64C xs) := seg_all (by simp [i64C, hn])
  refine fn_ofM (n := 18) [b] Tryz.func120 rfl rfl rfl ?_
  intro a w F M hwW
  replace M := M.came hwW hb (by simp) (by simp)
  refine c_seq (c_region ?_)
  refine sD F (o_assign (F.ev rfl) ?_); clear F a; intro a F
  with_reducible refine l_nil (q_then (c_seq (c_region ?_)))
  refine sD F (o_assign (F.ev rfl) ?_); clear F a; intro a F
  with_reducible refine l_nil (q_then (c_seq (c_seq (c_region ?_))))
  refine sD F (o_move (F.ev rfl) ?_); clear F a; intro a F
  refine sD F (o_lenSl (F.ev rfl) ?_); clear F a; intro a F
  refine sD F (o_move (F.ev rfl) ?_); clear F a; intro a F
  with_reducible refine l_nil (q_then (c_block ?_))
  refine c_loop (fun k a w => ∃ i : Nat, k = n - i ∧ i ≤ n ∧ orV xs = orV (xs.drop i) ∧ Frm a 18 [] [(8, .int .i64 i), (7, .int .i64 n), (6, .slice (some ⟨b, 0, none⟩) n n), (3, .int .i64 0)] ∧ Mem [b] W w [(b, .cells (i64C xs).toArray t fz)]) n ⟨0, rfl, by omega, rfl, F.only [8, 7, 6, 3] rfl, M⟩ ?_
  clear F M
  rintro k a w ⟨i, hk, hi, hor, F, M⟩
  by_cases hlt : i < n
  · have e1 := seg_int hs hlt (q := 0 + (i : Int).toNat * 1) (by omega)
    have hd : xs.drop i = xs.getD i 0 :: xs.drop (i + 1) := by
      rw [List.drop_eq_getElem_cons (by omega), List.getD_eq_getElem?_getD, List.getElem?_eq_getElem (by omega)]; rfl
    rw [hd] at hor
    by_cases h0 : xs.getD i 0 = 0
    · refine c_seq ?_
      refine c_region ?_
      refine sD F (o_lssT (F.ev rfl) (F.ev rfl) (by omega) ?_); clear F a; intro a F
      with_reducible refine l_nil (q_then (c_seq ?_))
      refine c_true F rfl rfl ?_
      with_reducible refine c_skip (q_then (c_seq (c_block (c_seq (c_region ?_)))))
      refine sD F (o_indexSl (F.ev rfl) (F.ev rfl) (by omega) (by omega) ?_); clear F a; intro a F
      refine sD F (o_load1 M (F.ev rfl) (by repeat constructor) (by first | assumption | rfl) ?_); clear F a; intro a F
      refine sD F (o_assign (F.ev rfl) ?_); clear F a; intro a F
      with_reducible refine l_nil (q_then (c_seq (c_region ?_)))
      refine sD F (o_move (F.ev rfl) ?_); clear F a; intro a F
      refine sD F (o_move (F.ev rfl) ?_); clear F a; intro a F
      refine sD F (o_neqF (F.ev rfl) (F.ev rfl) (by omega) ?_); clear F a; intro a F
      with_reducible refine l_nil (q_then ?_)
      refine c_false F rfl rfl ?_
      with_reducible refine c_skip (q_inB (q_then (c_region ?_)))
      refine sD F (o_add (F.ev rfl) (F.ev rfl) (w_i64 (by omega) (by omega)) ?_); clear F a; intro a F
      refine sD F (o_move (F.ev rfl) ?_); clear F a; intro a F
      with_reducible refine l_nil (q_then ?_)
      exact ⟨_, by omega, i + 1, rfl, by omega, by rw [hor]; simp only [orV, h0, if_true], F.only [8, 7, 6, 3] rfl, M⟩
    · refine c_seq ?_
      refine c_region ?_
      refine sD F (o_lssT (F.ev rfl) (F.ev rfl) (by omega) ?_); clear F a; intro a F
      with_reducible refine l_nil (q_then (c_seq ?_))
      refine c_true F rfl rfl ?_
      with_reducible refine c_skip (q_then (c_seq (c_block (c_seq (c_region ?_)))))
      refine sD F (o_indexSl (F.ev rfl) (F.ev rfl) (by omega) (by omega) ?_); clear F a; intro a F
      refine sD F (o_load1 M (F.ev rfl) (by repeat constructor) (by first | assumption | rfl) ?_); clear F a; intro a F
      refine sD F (o_assign (F.ev rfl) ?_); clear F a; intro a F
      with_reducible refine l_nil (q_then (c_seq (c_region ?_)))
      refine sD F (o_move (F.ev rfl) ?_); clear F a; intro a F
      refine sD F (o_move (F.ev rfl) ?_); clear F a; intro a F
      refine sD F (o_neqT (F.ev rfl) (F.ev rfl) (by omega) ?_); clear F a; intro a F
      with_reducible refine l_nil (q_then ?_)
      refine c_true F rfl rfl ?_
      refine c_seq (c_region ?_)
      refine sD F (o_move (F.ev rfl) ?_); clear F a; intro a F
      refine sD F (o_assign (F.ev rfl) ?_); clear F a; intro a F
      with_reducible refine l_nil (q_then (c_ret (q_inBR (q_thenR (q_thenR (q_inBR (q_thenR ?_)))))))
      refine p_ret F rfl (.cons (.tmp (F.ev rfl)) .nil) ?_
      exact ⟨by rw [hor]; simp only [orV, h0, if_false]; rfl, M.back1 .here hb⟩
  · obtain rfl : i = n := by omega
    rw [List.drop_of_length_le (by omega)] at hor
    refine c_seq (c_region ?_)
    refine sD F (o_lssF (F.ev rfl) (F.ev rfl) (by omega) ?_); clear F a; intro a F
    with_reducible refine l_nil (q_then (c_seq ?_))
    refine c_false F rfl rfl ?_
    with_reducible refine c_exit (q_thenX (q_thenX (q_inBX (q_then (c_seq (c_region ?_))))))
    refine sD F (o_move (F.ev rfl) ?_); clear F a; intro a F
    refine sD F (o_assign (F.ev rfl) ?_); clear F a; intro a F
    with_reducible refine l_nil (q_then (c_ret ?_))
    refine p_ret F rfl (.cons (.tmp (F.ev rfl)) .nil) ?_
    exact ⟨by rw [hor]; rfl, M.back1 .here hb⟩
end
section
set_option linter.unusedVariables false
set_option linter.unusedSimpArgs false
open Go.RowKit
attribute [local irreducible] OpTo wpListIn Code.wpIn MW Cal
end
section
set_option linter.unusedVariables false
set_option linter.unusedSimpArgs false
open Go.RowKit
def bitX (x : Int) (r : Nat) : Int := bitsOf .and .u8 (Int.fdiv x (2 ^ min (7 - (r : Int)).toNat IntKind.u8.bits)) 1
/-- bit i of an address -/
def bitI (a : List Int) (i : Nat) : Int := bitX (a.getD (i / 8) 0) (i % 8)
theorem bit_fin : ∀ x : Fin 256, ∀ r : Fin 8, bitX (x.1 : Int) r.1 = ((x.1 / 2 ^ (7 - r.1) % 2 : Nat) : Int) := by decide +kernel
theorem valid_fin : ∀ x : Fin 256, ∀ k : Fin 9, (x.1 / 2 ^ (8 - k.1) * 2 ^ (8 - k.1) = x.1) ↔ ∀ r : Fin 8, k.1 ≤ r.1 → x.1 / 2 ^ (7 - r.1) % 2 = 0 := by decide +kernel
theorem mask_fin : ∀ x : Fin 256, ∀ r : Fin 8, bitsOf .or .u8 (cutB (x.1 : Int) r.1) (IntKind.u8.wrap (bitX (x.1 : Int) r.1 * 2 ^ min (7 - (r.1 : Int)).toNat IntKind.u8.bits)) = cutB (x.1 : Int) (r.1 + 1) := by decide +kernel
theorem cut0_fin : ∀ x : Fin 256, cutB (x.1 : Int) 0 = 0 := by decide +kernel
theorem bitX_nat {x : Nat} {r : Nat} (hx : x < 256) (hr : r < 8) : bitX (x : Int) r = ((x / 2 ^ (7 - r) % 2 : Nat) : Int) := bit_fin ⟨x, hx⟩ ⟨r, hr⟩
theorem byte_of {a : List Int} (ha : IsIP a) (j : Nat) : ∃ x : Nat, x < 256 ∧ a.getD j 0 = (x : Int) := by
  have := ha.at_ j
  obtain ⟨x, hx⟩ := Int.eq_ofNat_of_zero_le this.1
  exact ⟨x, by omega, hx⟩
theorem bitI_bd {a : List Int} (ha : IsIP a) (i : Nat) : bitI a i = 0 ∨ bitI a i = 1 := by
  obtain ⟨x, hx, hxe⟩ := byte_of ha (i / 8)
  unfold bitI
  rw [hxe, bitX_nat hx (Nat.mod_lt _ (by omega))]
  omega
theorem keep_le {n j r : Nat} (hr : r < 8) : (keepN (n : Int) j).toNat ≤ r ↔ n ≤ 8 * j + r := by
  unfold keepN
  split <;> (try split) <;> omega
theorem mask_eq_iff {p : List Int} (hp : IsIP p) (n : Int) : maskI p n = p ↔ ∀ j, j < 16 → maskAt p n j = p.getD j 0 := by
  constructor
  · intro h j hj
    rw [← maskI_at p n hj, h]
  · intro h
    apply List.ext_getElem (by rw [maskI_len, hp.len])
    intro j h1 h2
    have hj : j < 16 := by rw [maskI_len] at h1; exact h1
    have e := h j hj
    simp only [maskI, List.getElem_map, List.getElem_range]
    rw [e, List.getD_eq_getElem?_getD, List.getElem?_eq_getElem h2]
    rfl
theorem valid_bits {p : List Int} (hp : IsIP p) (n : Nat) : maskI p (n : Int) = p ↔ ∀ i, n ≤ i → i < 128 → bitI p i = 0 := by
  rw [mask_eq_iff hp]
  have key : ∀ j, j < 16 → (maskAt p n j = p.getD j 0 ↔ ∀ r, r < 8 → (keepN (n : Int) j).toNat ≤ r → bitI p (8 * j + r) = 0) := by
    intro j hj
    obtain ⟨x, hx, hxe⟩ := byte_of hp j
    have hk := keepN_bd (n : Int) (j : Int)
    rw [maskAt_cut, hxe, cutB_nat hx hk]
    have hv := valid_fin ⟨x, hx⟩ ⟨(keepN (n : Int) j).toNat, by omega⟩
    simp only at hv
    constructor
    · intro h r hr hkr
      have h' : x / 2 ^ (8 - (keepN (n : Int) j).toNat) * 2 ^ (8 - (keepN (n : Int) j).toNat) = x := by exact_mod_cast h
      have := hv.1 h' ⟨r, hr⟩ hkr
      unfold bitI
      rw [show (8 * j + r) / 8 = j by omega, show (8 * j + r) % 8 = r by omega, hxe, bitX_nat hx hr]
      simp only at this
      omega
    · intro h
      have : x / 2 ^ (8 - (keepN (n : Int) j).toNat) * 2 ^ (8 - (keepN (n : Int) j).toNat) = x := hv.2 fun r hkr => by
        have h1 := h r.1 r.2 hkr
        unfold bitI at h1
        rw [show (8 * j + r.1) / 8 = j by omega, show (8 * j + r.1) % 8 = r.1 by omega, hxe, bitX_nat hx r.2] at h1
        omega
      exact_mod_cast this
  constructor
  · intro h i hi hlt
    have := (key (i / 8) (by omega)).1 (h (i / 8) (by omega)) (i % 8) (Nat.mod_lt _ (by omega)) ((keep_le (Nat.mod_lt _ (by omega))).2 (by omega))
    rwa [show 8 * (i / 8) + i % 8 = i by omega] at this
  · intro h j hj
    exact (key j hj).2 fun r hr hkr => h _ ((keep_le hr).1 hkr) (by omega)
/-- one bit more -/
theorem mask_step {a : List Int} (ha : IsIP a) {i : Nat} (hi : i < 128) : bitsOf .or .u8 (maskAt a (i : Int) (i / 8)) (IntKind.u8.wrap (bitI a i * 2 ^ min (7 - ((i % 8 : Nat) : Int)).toNat IntKind.u8.bits)) = maskAt a ((i : Int) + 1) (i / 8) := by
  obtain ⟨x, hx, hxe⟩ := byte_of ha (i / 8)
  have k1 : (keepN (i : Int) ((i / 8 : Nat) : Int)).toNat = i % 8 := by unfold keepN; split <;> (try split) <;> omega
  have k2 : (keepN ((i : Int) + 1) ((i / 8 : Nat) : Int)).toNat = i % 8 + 1 := by unfold keepN; split <;> (try split) <;> omega
  rw [maskAt_cut, maskAt_cut, k1, k2]
  unfold bitI
  rw [hxe]
  exact mask_fin ⟨x, hx⟩ ⟨i % 8, Nat.mod_lt _ (by omega)⟩
theorem mask_other {a : List Int} {i j : Nat} (hj : j ≠ i / 8) : maskAt a ((i : Int) + 1) j = maskAt a (i : Int) j := by
  have : keepN ((i : Int) + 1) (j : Int) = keepN (i : Int) (j : Int) := by unfold keepN; split <;> (try split) <;> (try split) <;> (try split) <;> omega
  rw [maskAt_cut, maskAt_cut, this]
theorem mask_set {a : List Int} {i : Nat} (hi : i < 128) : (maskI a (i : Int)).set (i / 8) (maskAt a ((i : Int) + 1) (i / 8)) = maskI a ((i : Int) + 1) := by
  unfold maskI
  apply List.ext_getElem (by simp)
  intro j h1 h2
  simp only [List.getElem_set, List.getElem_map, List.getElem_range]
  split
  · subst_vars; rfl
  · rename_i hne
    exact (mask_other (fun h => hne h.symm)).symm
theorem mask_zero {a : List Int} (ha : IsIP a) : maskI a 0 = zeroIP := by
  have : ∀ j, j < 16 → maskAt a 0 j = 0 := fun j hj => by
    obtain ⟨x, hx, hxe⟩ := byte_of ha j
    have k : (keepN 0 (j : Int)).toNat = 0 := by unfold keepN; split <;> (try split) <;> omega
    rw [maskAt_cut, hxe, k]
    exact cut0_fin ⟨x, hx⟩
  unfold maskI
  rw [List.map_congr_left (g := fun _ => (0 : Int)) fun j hj => this j (List.mem_range.1 hj)]
  rfl
end
section
set_option linter.unusedVariables false
set_option linter.unusedSimpArgs false
open Go.RowKit
attribute [local irreducible] OpTo wpListIn Code.wpIn MW Cal
theorem quo8 {i : Nat} (hi : i ≤ 1000) : IntKind.i64.wrap ((i : Int).tdiv 8) = ((i / 8 : Nat) : Int) := by
  rw [Int.tdiv_eq_ediv_of_nonneg (by omega), w_i64 (by omega) (by omega)]; omega
theorem rem8 (i : Nat) : (i : Int).tmod 8 = ((i % 8 : Nat) : Int) := by
  rw [Int.tmod_eq_emod_of_nonneg (by omega)]; omega
set_option maxHeartbeats 400000 in
theorem bit_c (a : List Int) (ha : IsIP a) (i : Nat) (hi : i < 128) (W : World) : Cal Tryz.prog 111 [.agg (ipC a).toArray, .int .i64 i].toArray W fun v w' => v = .int .u8 (bitI a i) ∧ Ext [] W w' := by
  have hlt : i % 8 < 8 := Nat.mod_lt _ (by omega)
  have hn : nth (ipC a) (0 + ((i / 8 : Nat) : Int).toNat * 1) = some (.int .u8 (a.getD (i / 8) 0)) := nth_ip (by rw [ha.len]; omega)
  refine fn_ofM (n := 15) [] Tryz.func111 rfl rfl rfl ?_
  intro a w F M hwW
  refine c_seq ?_
  refine c_region ?_
  (refine sD F (o_box M (F.ev rfl) rfl ?_); clear F M; intro b2 w M a F)
  refine sD F (o_assign (F.ev rfl) ?_); clear F a; intro a F
  with_reducible refine l_nil (q_then (c_seq (c_region ?_)))
  refine sD F (o_move (F.ev rfl) ?_); clear F a; intro a F
  refine sD F (o_quo (F.ev rfl) (F.ev rfl) (by omega) rfl ?_); clear F a; intro a F
  rw [quo8 (i := i) (by omega)] at F
  refine sD F (o_indexArr (F.ev rfl) (F.ev rfl) (by omega) (by omega) ?_); clear F a; intro a F
  refine sD F (o_load1 M (F.ev rfl) (by repeat constructor) (by first | assumption | rfl) ?_); clear F a; intro a F
  refine sD F (o_move (F.ev rfl) ?_); clear F a; intro a F
  refine sD F (o_rem (F.ev rfl) (F.ev rfl) (by omega) rfl ?_); clear F a; intro a F
  rw [rem8 i] at F
  refine sD F (o_conv (F.ev rfl) (w_u64 (by omega) (by omega)) ?_); clear F a; intro a F
  refine sD F (o_sub (F.ev rfl) (F.ev rfl) (w_u64 (by omega) (by omega)) ?_); clear F a; intro a F
  refine sD F (o_shr (F.ev rfl) (F.ev rfl) (by omega) rfl ?_); clear F a; intro a F
  refine sD F (o_and (F.ev rfl) (F.ev rfl) rfl ?_); clear F a; intro a F
  refine sD F (o_assign (F.ev rfl) ?_); clear F a; intro a F
  with_reducible refine l_nil (q_then (c_ret ?_))
  refine p_ret F rfl (.cons (.tmp (F.ev rfl)) .nil) ?_
  exact ⟨rfl, M.ext⟩
set_option maxHeartbeats 400000 in
theorem rvalidPrefix_c (p : List Int) (n : Int) (hp : IsIP p) (W : World) : Cal Tryz.prog 105 [.agg (pfC p n).toArray].toArray W fun v w' => v = .bool (validP p n) ∧ Ext [] W w' := by
  have e2 := seg_pf0 hp.len n
  have e3 := nth_pf hp.len n
  by_cases h0 : n < 0
  · refine fn_ofM (n := 23) [] Tryz.func105 rfl rfl rfl ?_
    intro a w F M hwW
    refine c_seq ?_
    refine c_region ?_
    (refine sD F (o_box M (F.ev rfl) rfl ?_); clear F M; intro b1 w M a F)
    refine sD F (o_assign (F.ev rfl) ?_); clear F a; intro a F
    with_reducible refine l_nil (q_then (c_seq (c_seq (c_region ?_))))
    refine sD F (o_fieldAddr (F.ev rfl) ?_); clear F a; intro a F
    refine sD F (o_load1 M (F.ev rfl) (by repeat constructor) (by first | assumption | rfl) ?_); clear F a; intro a F
    refine sD F (o_lssT (F.ev rfl) (F.ev rfl) (by omega) ?_); clear F a; intro a F
    refine sD F (o_move (F.ev rfl) ?_); clear F a; intro a F
    refine sO F ?_; clear F a; intro a F
    refine sO F ?_; clear F a; intro a F
    refine sO F ?_; clear F a; intro a F
    refine sD F (o_pickT (F.ev rfl) (F.ev rfl) ?_); clear F a; intro a F
    with_reducible refine l_nil (q_then ?_)
    refine c_true F rfl rfl ?_
    refine c_seq (c_region ?_)
    refine sD F (o_assign (F.ev rfl) ?_); clear F a; intro a F
    with_reducible refine l_nil (q_then (c_ret (q_thenR ?_)))
    refine p_ret F rfl (.cons (.tmp (F.ev rfl)) .nil) ?_
    exact ⟨by simp [oneOr, validP, show ¬ 0 ≤ n by omega], M.ext⟩
  · by_cases h1 : 128 < n
    · refine fn_ofM (n := 23) [] Tryz.func105 rfl rfl rfl ?_
      intro a w F M hwW
      refine c_seq ?_
      refine c_region ?_
      (refine sD F (o_box M (F.ev rfl) rfl ?_); clear F M; intro b1 w M a F)
      refine sD F (o_assign (F.ev rfl) ?_); clear F a; intro a F
      with_reducible refine l_nil (q_then (c_seq (c_seq (c_region ?_))))
      refine sD F (o_fieldAddr (F.ev rfl) ?_); clear F a; intro a F
      refine sD F (o_load1 M (F.ev rfl) (by repeat constructor) (by first | assumption | rfl) ?_); clear F a; intro a F
      refine sD F (o_lssF (F.ev rfl) (F.ev rfl) (by omega) ?_); clear F a; intro a F
      refine sD F (o_move (F.ev rfl) ?_); clear F a; intro a F
      refine sG F (o_fieldAddr (F.ev rfl) ?_); clear F a; intro a F
      refine sG F (o_load1 M (F.ev rfl) (by repeat constructor) (by first | assumption | rfl) ?_); clear F a; intro a F
      refine sG F (o_gtrT (F.ev rfl) (F.ev rfl) (by omega) ?_); clear F a; intro a F
      refine sD F (o_pickF (F.ev rfl) (F.ev rfl) ?_); clear F a; intro a F
      with_reducible refine l_nil (q_then ?_)
      refine c_true F rfl rfl ?_
      refine c_seq (c_region ?_)
      refine sD F (o_assign (F.ev rfl) ?_); clear F a; intro a F
      with_reducible refine l_nil (q_then (c_ret (q_thenR ?_)))
      refine p_ret F rfl (.cons (.tmp (F.ev rfl)) .nil) ?_
      exact ⟨by simp [oneOr, validP, show ¬ n ≤ 128 by omega], M.ext⟩
    · obtain ⟨k, rfl⟩ := Int.eq_ofNat_of_zero_le (show 0 ≤ n by omega)
      have hv : validP p (k : Int) = decide (maskI p (k : Int) = p) := by
        have h2 : (0 : Int) ≤ k := by omega
        have h3 : (k : Int) ≤ 128 := by omega
        simp only [validP, h2, h3, decide_true, Bool.true_and]
        by_cases h : maskI p (k : Int) = p
        · rw [decide_eq_true h, beq_iff_eq]; exact h
        · rw [decide_eq_false h, beq_eq_false_iff_ne]; exact h
      rw [hv]
      refine fn_ofM (n := 23) [] Tryz.func105 rfl rfl rfl ?_
      intro a w F M hwW
      refine c_seq ?_
      refine c_region ?_
      (refine sD F (o_box M (F.ev rfl) rfl ?_); clear F M; intro b1 w M a F)
      refine sD F (o_assign (F.ev rfl) ?_); clear F a; intro a F
      with_reducible refine l_nil (q_then (c_seq (c_seq (c_region ?_))))
      refine sD F (o_fieldAddr (F.ev rfl) ?_); clear F a; intro a F
      refine sD F (o_load1 M (F.ev rfl) (by repeat constructor) (by first | assumption | rfl) ?_); clear F a; intro a F
      refine sD F (o_lssF (F.ev rfl) (F.ev rfl) (by omega) ?_); clear F a; intro a F
      refine sD F (o_move (F.ev rfl) ?_); clear F a; intro a F
      refine sG F (o_fieldAddr (F.ev rfl) ?_); clear F a; intro a F
      refine sG F (o_load1 M (F.ev rfl) (by repeat constructor) (by first | assumption | rfl) ?_); clear F a; intro a F
      refine sG F (o_gtrF (F.ev rfl) (F.ev rfl) (by omega) ?_); clear F a; intro a F
      refine sD F (o_pickF (F.ev rfl) (F.ev rfl) ?_); clear F a; intro a F
      with_reducible refine l_nil (q_then ?_)
      refine c_false F rfl rfl ?_
      with_reducible refine c_skip (q_then (c_seq (c_seq (c_region ?_))))
      refine sD F (o_fieldAddr (F.ev rfl) ?_); clear F a; intro a F
      refine sD F (o_load1 M (F.ev rfl) (by repeat constructor) (by first | assumption | rfl) ?_); clear F a; intro a F
      refine sD F (o_assign (F.ev rfl) ?_); clear F a; intro a F
      with_reducible refine l_nil (q_then (c_block ?_))
      refine c_loop (fun m a w => ∃ i : Nat, m = 128 - i ∧ k ≤ i ∧ i ≤ 128 ∧ (∀ j, k ≤ j → j < i → bitI p j = 0) ∧ Frm a 23 [] [(3, .int .i64 i), (1, .pointer (some ⟨b1, 0, none⟩))] ∧ Mem [] W w [(b1, .cells (pfC p k).toArray 41 (0, 0))]) (128 - k) ⟨k, rfl, by omega, by omega, fun j h1 h2 => by omega, F.only [3, 1] rfl, M⟩ ?_
      clear F M
      rintro m a w ⟨i, hm, hki, hi, hall, F, M⟩
      by_cases hlt : i < 128
      · refine c_seq ?_
        refine c_seq (c_region ?_)
        refine sD F (o_move (F.ev rfl) ?_); clear F a; intro a F
        refine sD F (o_lssT (F.ev rfl) (F.ev rfl) (by omega) ?_); clear F a; intro a F
        with_reducible refine l_nil (q_then ?_)
        refine c_true F rfl rfl ?_
        with_reducible refine c_skip (q_then (c_seq (c_block (c_seq (c_region ?_)))))
        refine sD F (o_fieldAddr (F.ev rfl) ?_); clear F a; intro a F
        refine sD F (o_loadA M (F.ev rfl) (by repeat constructor) (by first | assumption | rfl) ?_); clear F a; intro a F
        refine sD F (o_move (F.ev rfl) ?_); clear F a; intro a F
        (refine sD F (o_call (F.ev rfl) (F.evs rfl) (Cal.mono (bit_c p hp i hlt _) ?_)); clear F; clear a; rintro _ w ⟨rfl, hE⟩ a F; replace M := M.later hE; clear hE)
        by_cases hb : bitI p i = 0
        · refine sD F (o_neqF (F.ev rfl) (F.ev rfl) (by omega) ?_); clear F a; intro a F
          with_reducible refine l_nil (q_then ?_)
          refine c_false F rfl rfl ?_
          with_reducible refine c_skip (q_inB (q_then (c_region ?_)))
          refine sD F (o_move (F.ev rfl) ?_); clear F a; intro a F
          refine sD F (o_add (F.ev rfl) (F.ev rfl) (w_i64 (by omega) (by omega)) ?_); clear F a; intro a F
          refine sD F (o_assign (F.ev rfl) ?_); clear F a; intro a F
          with_reducible refine l_nil (q_then ?_)
          refine ⟨_, by omega, i + 1, rfl, by omega, by omega, fun j h1 h2 => ?_, F.only [3, 1] rfl, M⟩
          by_cases e : j = i
          · subst e; exact hb
          · exact hall j h1 (by omega)
        · refine sD F (o_neqT (F.ev rfl) (F.ev rfl) (by omega) ?_); clear F a; intro a F
          with_reducible refine l_nil (q_then ?_)
          refine c_true F rfl rfl ?_
          refine c_seq (c_region ?_)
          refine sD F (o_assign (F.ev rfl) ?_); clear F a; intro a F
          with_reducible refine l_nil (q_then (c_ret (q_inBR (q_thenR (q_thenR (q_inBR (q_thenR ?_)))))))
          refine p_ret F rfl (.cons (.tmp (F.ev rfl)) .nil) ?_
          refine ⟨?_, M.ext⟩
          rw [decide_eq_false fun h => hb ((valid_bits hp k).1 h i hki hlt)]
          rfl
      · obtain rfl : i = 128 := by omega
        with_reducible refine c_seq (c_seq (c_region ?_))
        refine sD F (o_move (F.ev rfl) ?_); clear F a; intro a F
        refine sD F (o_lssF (F.ev rfl) (F.ev rfl) (by omega) ?_); clear F a; intro a F
        with_reducible refine l_nil (q_then ?_)
        refine c_false F rfl rfl ?_
        with_reducible refine c_exit (q_thenX (q_thenX (q_inBX (q_then (c_seq (c_region ?_))))))
        refine sD F (o_assign (F.ev rfl) ?_); clear F a; intro a F
        with_reducible refine l_nil (q_then (c_ret ?_))
        refine p_ret F rfl (.cons (.tmp (F.ev rfl)) .nil) ?_
        refine ⟨?_, M.ext⟩
        rw [decide_eq_true ((valid_bits hp k).2 fun j h1 h2 => hall j h1 h2)]
        rfl
theorem nth_mask {a : List Int} {i : Nat} (hi : i < 128) (n : Int) : nth (pfC (maskI a (i : Int)) n) (0 + 0 + ((i / 8 : Nat) : Int).toNat * 1) = some (.int .u8 (maskAt a (i : Int) (i / 8))) := by
  have h : i / 8 < 16 := by omega
  rw [nth_spec, show 0 + 0 + ((i / 8 : Nat) : Int).toNat * 1 = i / 8 by omega]
  unfold pfC ipC
  rw [List.getElem?_append_left (by simp [maskI_len, h]), List.getElem?_map]
  simp [maskI, h]
theorem put_mask {a : List Int} (ha : IsIP a) {i : Nat} (hi : i < 128) (n : Int) : put (pfC (maskI a (i : Int)) n) (0 + 0 + ((i / 8 : Nat) : Int).toNat * 1) [.int .u8 (bitsOf .or .u8 (maskAt a (i : Int) (i / 8)) (IntKind.u8.wrap (bitI a i * 2 ^ min (7 - ((i % 8 : Nat) : Int)).toNat IntKind.u8.bits)))] = some (pfC (maskI a ((i : Int) + 1)) n) := by
  have h : i / 8 < 16 := by omega
  rw [mask_step ha hi, put1 (q := i / 8) _ (by omega) (by simp [pfC, ipC, maskI_len]; omega)]
  congr 1
  unfold pfC ipC
  rw [List.set_append_left _ _ (by simp [maskI_len, h]), ← List.map_set, mask_set hi]
set_option maxHeartbeats 400000 in
theorem rmask_c (a : List Int) (ha : IsIP a) (n : Int) (W : World) : Cal Tryz.prog 61 [.agg (ipC a).toArray, .int .i64 n].toArray W fun v w' => v = .agg (pfC (maskI a (clampB n)) (clampB n)).toArray ∧ Ext [] W w' := by
  have e1 := seg_all (ipC_len ha.len)
  obtain ⟨c, hc⟩ : ∃ c : Nat, clampB n = (c : Int) := Int.eq_ofNat_of_zero_le (by unfold clampB; split <;> (try split) <;> omega)
  have hc2 : c ≤ 128 := by have : clampB n ≤ 128 := by unfold clampB; split <;> (try split) <;> omega
                           omega
  obtain ⟨ip, rfl⟩ : ∃ ip, ip = a := ⟨_, rfl⟩
  rw [hc]
  have hz := mask_zero ha
  refine fn_ofM (n := 34) [] Tryz.func61 rfl rfl rfl ?_
  intro a w F M hwW
  refine c_seq ?_
  refine c_region ?_
  (refine sD F (o_box M (F.ev rfl) rfl ?_); clear F M; intro b2 w M a F)
  (refine sD F (o_alloc M ?_); clear F M; intro b4 w M a F)
  with_reducible refine l_nil (q_then (c_seq (c_region ?_)))
  refine sD F (o_move (F.ev rfl) ?_); clear F a; intro a F
  refine sD F (o_max (F.ev rfl) (F.ev rfl) ?_); clear F a; intro a F
  refine sD F (o_min (F.ev rfl) (F.ev rfl) ?_); clear F a; intro a F
  refine sD F (o_assign (F.ev rfl) ?_); clear F a; intro a F
  with_reducible refine l_nil (q_then (c_seq (c_region ?_)))
  refine sD F (o_move (F.ev rfl) ?_); clear F a; intro a F
  refine sD F (o_build F rfl rfl ?_); clear F a; intro a F
  rw [show (if 128 < (if n < 0 then 0 else n) then (128 : Int) else (if n < 0 then 0 else n)) = (c : Int) from hc] at F
  skip
  (refine sD F (o_alloc M ?_); clear F M; intro b5 w M a F)
  (refine stepN rfl F (o_storeA M (F.ev rfl) (F.ev rfl) (by rfl) (by rfl) (by repeat constructor) (by rfl) (by repeat constructor) ?_); clear F M; intro w M a F)
  with_reducible refine l_nil (q_then (c_seq (c_seq (c_region ?_))))
  refine sD F (o_assign (F.ev rfl) ?_); clear F a; intro a F
  with_reducible refine l_nil (q_then (c_block ?_))
  replace M : Mem [] W w [(b5, .cells (pfC (maskI ip ((0 : Nat) : Int)) c).toArray 41 (0, 0)), (b4, .cells (pfC zeroIP 0).toArray 41 (0, 0)), (b2, .cells (ipC ip).toArray 39 (0, 0))] := by
    rw [show ((0 : Nat) : Int) = 0 from rfl, hz]
    exact M
  refine c_loop (fun k a w => ∃ i : Nat, k = c - i ∧ i ≤ c ∧ Frm a 34 [] [(6, .int .i64 i), (1, .int .i64 c), (2, .pointer (some ⟨b2, 0, none⟩)), (4, .pointer (some ⟨b4, 0, none⟩)), (5, .pointer (some ⟨b5, 0, none⟩))] ∧ Mem [] W w [(b5, .cells (pfC (maskI ip (i : Int)) c).toArray 41 (0, 0)), (b4, .cells (pfC zeroIP 0).toArray 41 (0, 0)), (b2, .cells (ipC ip).toArray 39 (0, 0))]) c ⟨0, rfl, by omega, F.only [6, 1, 2, 4, 5] rfl, M⟩ ?_
  clear F M
  rintro k a w ⟨i, hk, hi, F, M⟩
  by_cases hlt : i < c
  · have hm8 : i % 8 < 8 := Nat.mod_lt _ (by omega)
    have n1 := nth_mask (a := ip) (i := i) (by omega) (c : Int)
    have hb := bitI_bd ha i
    with_reducible refine c_seq (c_seq (c_region ?_))
    refine sD F (o_move (F.ev rfl) ?_); clear F a; intro a F
    refine sD F (o_move (F.ev rfl) ?_); clear F a; intro a F
    refine sD F (o_lssT (F.ev rfl) (F.ev rfl) (by omega) ?_); clear F a; intro a F
    with_reducible refine l_nil (q_then ?_)
    refine c_true F rfl rfl ?_
    with_reducible refine c_skip (q_then (c_seq (c_block ?_)))
    refine c_draw 16 F (by kernel_rfl) ?_
    intro w1 hE hok
    have M1 := M.later hE
    refine mK hok rfl rfl (fun a' w' F' E' => o_move (F'.ev rfl) ⟨Ext.refl _ _, rfl⟩) ?_
    (refine mK hok rfl rfl (fun a' w' F' E' => o_quo (F'.ev rfl) (F'.ev rfl) (by omega) (quo8 (i := i) (by omega)) ⟨Ext.refl _ _, rfl⟩) ?_)
    refine mK hok rfl rfl (fun a' w' F' E' => o_fieldAddr (F'.ev rfl) ⟨Ext.refl _ _, rfl⟩) ?_
    refine mK hok rfl rfl (fun a' w' F' E' => o_indexArr (F'.ev rfl) (F'.ev rfl) (by omega) (by omega) ⟨Ext.refl _ _, rfl⟩) ?_
    refine mK hok rfl rfl (fun a' w' F' E' => o_load1 (M1.later E') (F'.ev rfl) (by repeat constructor) (by first | assumption | rfl) ⟨Ext.refl _ _, rfl⟩) ?_
    refine mK hok rfl rfl (fun a' w' F' E' => o_loadA (M1.later E') (F'.ev rfl) (by repeat constructor) (by first | assumption | rfl) ⟨Ext.refl _ _, rfl⟩) ?_
    refine mK hok rfl rfl (fun a' w' F' E' => o_move (F'.ev rfl) ⟨Ext.refl _ _, rfl⟩) ?_
    (refine mK hok rfl rfl (fun a' w' F' E' => o_call (F'.ev rfl) (F'.evs rfl) (Cal.mono (bit_c ip ha i (by omega) _) fun _ _ hh => ⟨hh.2, hh.1⟩)) ?_)
    refine mK hok rfl rfl (fun a' w' F' E' => o_move (F'.ev rfl) ⟨Ext.refl _ _, rfl⟩) ?_
    (refine mK hok rfl rfl (fun a' w' F' E' => o_rem (F'.ev rfl) (F'.ev rfl) (by omega) (rem8 i) ⟨Ext.refl _ _, rfl⟩) ?_)
    refine mK hok rfl rfl (fun a' w' F' E' => o_conv (F'.ev rfl) (w_u64 (by omega) (by omega)) ⟨Ext.refl _ _, rfl⟩) ?_
    refine mK hok rfl rfl (fun a' w' F' E' => o_sub (F'.ev rfl) (F'.ev rfl) (w_u64 (by omega) (by omega)) ⟨Ext.refl _ _, rfl⟩) ?_
    refine mK hok rfl rfl (fun a' w' F' E' => o_shl (F'.ev rfl) (F'.ev rfl) (by omega) rfl ⟨Ext.refl _ _, rfl⟩) ?_
    refine mK hok rfl rfl (fun a' w' F' E' => o_or (F'.ev rfl) (F'.ev rfl) rfl ⟨Ext.refl _ _, rfl⟩) ?_
    refine mK hok rfl rfl (fun a' w' F' E' => o_fieldAddr (F'.ev rfl) ⟨Ext.refl _ _, rfl⟩) ?_
    refine mK hok rfl rfl (fun a' w' F' E' => o_indexArr (F'.ev rfl) (F'.ev rfl) (by omega) (by omega) ⟨Ext.refl _ _, rfl⟩) ?_
    (refine mDone rfl rfl ?_; clear F M; intro a w F hE2 hX hTT hDD hPP; have M := M1.later hE2; clear M1; clear hX; clear hE2; clear hok; clear hE; clear hTT; clear hDD; clear hPP; (try dsimp only at F))
    (refine stepN rfl F (o_store1 M (F.ev rfl) (F.ev rfl) rfl (by repeat constructor) (put_mask ha (by omega) _) (by repeat constructor) ?_); clear F M; intro w M a F)
    with_reducible refine l_nil (q_inB (q_then (c_region ?_)))
    refine sD F (o_move (F.ev rfl) ?_); clear F a; intro a F
    refine sD F (o_add (F.ev rfl) (F.ev rfl) (w_i64 (by omega) (by omega)) ?_); clear F a; intro a F
    refine sD F (o_assign (F.ev rfl) ?_); clear F a; intro a F
    with_reducible refine l_nil (q_then ?_)
    refine ⟨_, by omega, i + 1, rfl, by omega, F.only [6, 1, 2, 4, 5] rfl, ?_⟩
    rw [show ((i + 1 : Nat) : Int) = (i : Int) + 1 by omega]
    exact M
  · obtain rfl : i = c := by omega
    have s2 := seg_pf (maskI_len ip (i : Int)) (i : Int)
    with_reducible refine c_seq (c_seq (c_region ?_))
    refine sD F (o_move (F.ev rfl) ?_); clear F a; intro a F
    refine sD F (o_move (F.ev rfl) ?_); clear F a; intro a F
    refine sD F (o_lssF (F.ev rfl) (F.ev rfl) (by omega) ?_); clear F a; intro a F
    with_reducible refine l_nil (q_then ?_)
    refine c_false F rfl rfl ?_
    with_reducible refine c_exit (q_thenX (q_thenX (q_inBX (q_then (c_seq (c_region ?_))))))
    refine sD F (o_loadA M (F.ev rfl) (by repeat constructor) (by first | assumption | rfl) ?_); clear F a; intro a F
    (refine stepN rfl F (o_storeA M (F.ev rfl) (F.ev rfl) (pfC_len (maskI_len ip (i : Int)) i) (one_pf _ _)  (by repeat constructor)  (put_all (by rw [pfC_len (maskI_len ip (i : Int)) i]; rfl)) (by repeat constructor) ?_); clear F M; intro w M a F)
    with_reducible refine l_nil (q_then (c_ret ?_))
    refine p_ret F rfl (.cons (.cell (F.ev rfl) (run_loadVar_agg TAgg.h (M.heap (by repeat constructor)) s2)) .nil) ⟨rfl, M.ext⟩
end
section
set_option linter.unusedVariables false
set_option linter.unusedSimpArgs false
open Go.RowKit
attribute [local irreducible] OpTo wpListIn Code.wpIn MW Cal
end
section
set_option linter.unusedVariables false
set_option linter.unusedSimpArgs false
open Go.RowKit
attribute [local irreducible] OpTo wpListIn Code.wpIn MW Cal
end
section
set_option linter.unusedVariables false
set_option linter.unusedSimpArgs false
open Go.RowKit
attribute [local irreducible] OpTo wpListIn Code.wpIn MW Cal
theorem IsIP.set {ip : List Int} (h : IsIP ip) (i : Nat) {x : Int} (h0 : 0 ≤ x) (h1 : x < 256) : IsIP (ip.set i x) :=
  ⟨by rw [List.length_set]; exact h.len, fun y hy => by
    rcases List.mem_or_eq_of_mem_set hy with hy | rfl
    · exact h.bd y hy
    · exact ⟨h0, h1⟩⟩
end
section
set_option linter.unusedVariables false
set_option linter.unusedSimpArgs false
open Go.RowKit
end
section
set_option linter.unusedVariables false
set_option linter.unusedSimpArgs false
open Go.RowKit
attribute [local irreducible] OpTo wpListIn Code.wpIn MW Cal
end
end Go.Proofs.YtilgoepokaaleaaGreat
/-! LibQ -/
namespace Go.Proofs.YtilgoepokaaleaaGreat
set_option linter.unusedVariables false
set_option linter.unusedSimpArgs false
open Go.RowKit
theorem sg_eq : ∀ (cs : List Value) (off n : Nat), seg cs off n = if off + n ≤ cs.length then some ((cs.drop off).take n) else none
  | [], 0, 0 => by simp [seg]
  | [], 0, n + 1 => by simp [seg]
  | [], off + 1, n => by simp [seg]
  | x :: xs, 0, 0 => by simp [seg]
  | x :: xs, 0, n + 1 => by
    rw [seg, sg_eq xs 0 n]
    by_cases h : n ≤ xs.length
    · rw [if_pos (by omega), if_pos (by simp; omega)]; simp
    · rw [if_neg (by omega), if_neg (by simp; omega)]
  | x :: xs, off + 1, n => by
    rw [seg, sg_eq xs off n]
    by_cases h : off + n ≤ xs.length
    · rw [if_pos h, if_pos (by simp; omega)]; simp
    · rw [if_neg h, if_neg (by simp; omega)]
theorem sg_seg {cs ys zs : List Value} {o n off k q : Nat} (h : seg cs o n = some ys) (h2 : seg ys off k = some zs) (hq : q = o + off) : seg cs q k = some zs := by
  subst hq
  rw [sg_eq] at *
  split at h
  · rename_i h1
    simp only [Option.some.injEq] at h
    subst h
    split at h2
    · rename_i h3
      simp only [List.length_take, List.length_drop] at h3
      simp only [Option.some.injEq] at h2
      subst h2
      rw [if_pos (by omega)]
      congr 1
      rw [List.drop_take, List.take_take, List.drop_drop]
      congr 1
      omega
    · cases h2
  · cases h
theorem sg_nth {cs ys : List Value} {o n off q : Nat} {v : Value} (h : seg cs o n = some ys) (h2 : nth ys off = some v) (hq : q = o + off) : nth cs q = some v := by
  subst hq
  obtain ⟨h3, h4⟩ := seg_spec _ _ _ _ h
  rw [nth_spec] at *
  have hlt : off < n := by rw [← h3]; exact (List.getElem?_eq_some_iff.1 h2).1
  rw [h4 off hlt, h2]
theorem sg_all {xs : List Value} {k : Nat} (h : xs.length = k) : seg xs 0 k = some xs := by
  rw [sg_eq, if_pos (by omega)]; simp [← h]
/-- the cells of a list of elements -/
def encL {α : Type} (enc : α → List Value) (ls : List α) : List Value := ls.flatMap enc
theorem encL_nil {α : Type} (enc : α → List Value) : encL enc [] = [] := rfl
theorem encL_app {α : Type} (enc : α → List Value) (xs ys : List α) : encL enc (xs ++ ys) = encL enc xs ++ encL enc ys := by simp [encL]
theorem encL_cons {α : Type} (enc : α → List Value) (x : α) (ys : List α) : encL enc (x :: ys) = enc x ++ encL enc ys := by simp [encL]
theorem encL_one {α : Type} (enc : α → List Value) (x : α) : encL enc [x] = enc x := by simp [encL]
theorem encL_len {α : Type} {enc : α → List Value} {sz : Nat} {ls : List α} (h : ∀ x ∈ ls, (enc x).length = sz) : (encL enc ls).length = ls.length * sz := by
  induction ls with
  | nil => simp [encL]
  | cons x ls ih =>
    rw [encL_cons, List.length_append, h x (by simp), ih fun y hy => h y (by simp [hy]), List.length_cons, Nat.add_mul]; omega
theorem encL_take {α : Type} {enc : α → List Value} {sz : Nat} {ls : List α} (h : ∀ x ∈ ls, (enc x).length = sz) (i : Nat) : (encL enc ls).take (i * sz) = encL enc (ls.take i) := by
  rcases Nat.lt_or_ge i ls.length with hi | hi
  · conv => lhs; rw [← List.take_append_drop i ls, encL_app]
    have := encL_len (ls := ls.take i) (sz := sz) (enc := enc) fun x hx => h x (List.mem_of_mem_take hx)
    rw [List.length_take, Nat.min_eq_left (by omega)] at this
    rw [← this, List.take_left']
    rfl
  · rw [List.take_of_length_le hi, List.take_of_length_le]
    rw [encL_len h]; exact Nat.mul_le_mul_right _ hi
theorem encL_drop {α : Type} {enc : α → List Value} {sz : Nat} {ls : List α} (h : ∀ x ∈ ls, (enc x).length = sz) (i : Nat) : (encL enc ls).drop (i * sz) = encL enc (ls.drop i) := by
  have h1 := List.take_append_drop (i * sz) (encL enc ls)
  have h2 : encL enc (ls.take i) ++ encL enc (ls.drop i) = encL enc ls := by rw [← encL_app, List.take_append_drop]
  rw [encL_take h] at h1
  exact List.append_cancel_left (h1.trans h2.symm)
theorem encL_all {α : Type} {enc : α → List Value} {ls : List α} (h : ∀ x ∈ ls, (enc x).all (·.oneCell') = true) : (encL enc ls).all (·.oneCell') = true := by
  simp only [encL, List.all_eq_true, List.mem_flatMap] at *
  rintro v ⟨x, hx, hv⟩
  exact h x hx v hv
theorem seg_el {α : Type} {enc : α → List Value} {sz : Nat} {ls : List α} (hsz : ∀ x ∈ ls, (enc x).length = sz) {cs : List Value} {o n : Nat} (h : seg cs o (n * sz) = some (encL enc ls)) {i : Nat} (hi : i < ls.length) {q : Nat} (hq : q = o + i * sz) : seg cs q sz = some (enc ls[i]) := by
  refine sg_seg h ?_ hq
  have hl := encL_len hsz
  have hi' : i * sz + sz ≤ ls.length * sz := by rw [← Nat.succ_mul]; exact Nat.mul_le_mul_right _ hi
  rw [sg_eq, if_pos (by omega), encL_drop hsz, List.drop_eq_getElem_cons hi, encL_cons]
  congr 1
  rw [← hsz ls[i] (List.getElem_mem hi), List.take_left']
  rfl
/-- v: a slice of n elements (sz cells each), whose cells are xs -/
def SlAt (W : World) (sz : Nat) (v : Value) (n : Nat) (xs : List Value) : Prop :=
  ∃ p cap, v = .slice p n cap ∧ n ≤ cap ∧ (∀ a : Addr, p = some a → True) ∧ xs.length = n * sz ∧ (0 < n → ∃ b o cs t fz, p = some ⟨b, o, none⟩ ∧ W.heap[b]? = some (.cells (List.toArray cs) t fz) ∧ seg cs o (n * sz) = some xs)
theorem SlAt.later {W w : World} {sz : Nat} {v : Value} {n : Nat} {xs : List Value} (h : SlAt W sz v n xs) (E : Ext [] W w) : SlAt w sz v n xs := by
  obtain ⟨p, cap, h1, h2, h3, h4, h5⟩ := h
  refine ⟨p, cap, h1, h2, h3, h4, fun hn => ?_⟩
  obtain ⟨b, o, cs, t, fz, h6, h7, h8⟩ := h5 hn
  exact ⟨b, o, cs, t, fz, h6, by rw [E.block b (Array.getElem?_eq_some_iff.1 h7).1 (by simp)]; exact h7, h8⟩
theorem SlAt.nil (W : World) (sz : Nat) : SlAt W sz (.slice none 0 0) 0 [] := ⟨none, 0, rfl, Nat.le_refl _, by simp, by simp, fun h => absurd h (by omega)⟩
theorem OwnS.slAt {e : TypeId} {sz : Nat} {v : Value} {n : Nat} {xs : List Value} {ent : List (Nat × Obj)} (h : OwnS e sz v n xs ent) {S : List Nat} {W0 w : World} {l : List (Nat × Obj)} (M : Mem S W0 w l) (hs : ∀ p ∈ ent, p ∈ l) : SlAt w sz v n xs := by
  rcases h with ⟨rfl, rfl, rfl, rfl⟩ | ⟨b, cap, junk, rfl, rfl, hxl, hjl, hnc⟩
  · exact SlAt.nil _ _
  · refine ⟨_, _, rfl, hnc, by simp, hxl, fun _ => ⟨b, 0, xs ++ junk, e, (0, 0), rfl, M.at_ (b, _) (hs _ (by simp)), ?_⟩⟩
    have := seg_of [] xs junk
    simpa [hxl] using this
/-- the elements' slice as a whole new list of them -/
theorem SlAt.src {P : Program} {W : World} {sz : Nat} {v : Value} {n : Nat} {xs : List Value} (h : SlAt W sz v n xs) (h1 : xs.all (·.oneCell') = true) : SrcOf P W v n sz xs := by
  obtain ⟨p, cap, rfl, h2, h3, h4, h5⟩ := h
  rcases Nat.eq_zero_or_pos n with hn | hn
  · subst hn
    have : xs = [] := List.length_eq_zero_iff.1 (by simpa using h4)
    subst this
    refine ⟨by simp [Builtin.lenOf], fun d => ?_, by simp, by simp⟩
    cases p with
    | none => simp [Builtin.firstCells]
    | some a => exact run_firstCells_some _ sz 0 _ _ _ [] (by simp) (fun j v hj => by simp at hj)
  · obtain ⟨b, o, cs, t, fz, rfl, h7, h8⟩ := h5 hn
    exact SrcOf.cells' h7 h8 h1
section
variable {P : Program} {ρ : Operand → Value} {w W0 : World} {S : List Nat} {l l' : List (Nat × Obj)} {R : Value → World → Prop} {d : Option Tmp} {ty : TypeId} {pos : String} {af : Array Edge} {g : Option (Nat × Bool)}
/-- a load out of what there was when the call began -/
theorem o_loadW1 {t : TypeId} {x : Operand} {b off : Nat} {cs : List Value} {t' : TypeId} {fz : Nat × Nat} {v : Value} [ht : TOne P t] (M : Mem [] W0 w l) (hx : ρ x = .pointer (some ⟨b, off, none⟩)) (hb : W0.heap[b]? = some (.cells cs.toArray t' fz)) (hv : nth cs off = some v) (h : R v w) : OpTo P ⟨d, .load t x, ty, pos, af, g⟩ ρ w R :=
  o_load hx (run_loadVar_one ht.h (cell_at ((M.ext.block b (Array.getElem?_eq_some_iff.1 hb).1 (by simp)).trans hb) (by rw [nth_spec] at hv; simpa using hv))) h
theorem o_loadWA {t : TypeId} {x : Operand} {b off n : Nat} {cs : List Value} {t' : TypeId} {fz : Nat × Nat} {vs : List Value} [ht : TAgg P t n] (M : Mem [] W0 w l) (hx : ρ x = .pointer (some ⟨b, off, none⟩)) (hb : W0.heap[b]? = some (.cells cs.toArray t' fz)) (hv : seg cs off n = some vs) (h : R (.agg vs.toArray) w) : OpTo P ⟨d, .load t x, ty, pos, af, g⟩ ρ w R :=
  o_load hx (run_loadVar_agg ht.h ((M.ext.block b (Array.getElem?_eq_some_iff.1 hb).1 (by simp)).trans hb) (by simpa using hv)) h
theorem o_capSl {x : Operand} {t e : TypeId} {p : Option Addr} {n c : Nat} (hx : ρ x = .slice p n c) [ht : TU P t (.slice e)] (h : R (.int .i64 c) w) : OpTo P ⟨d, .call ⟨.builtin .cap, #[x], #[t]⟩, ty, pos, af, g⟩ ρ w R :=
  OpTo.val (v := .int .i64 c) (w' := w) (by simp [execOp, resolve, invoke, builtin, hx, Builtin.cap_, run_underlying ht.h, goInt]) h
/-- x[i:] of a slice, i below its capacity -/
theorem o_slL {t e : TypeId} {x i : Operand} {k : IntKind} {b o len cap : Nat} {m : Int} (hx : ρ x = .slice (some ⟨b, o, none⟩) len cap) (hi : ρ i = .int k m) [ht : TU P t (.slice e)] {sz : Nat} [hs : TSz P e sz] (h0 : 0 ≤ m) (h1 : m ≤ len) (h3 : m < cap) (h : R (.slice (some ⟨b, o + m.toNat * sz, none⟩) (len - m.toNat) (cap - m.toNat)) w) : OpTo P ⟨d, .slice t x (some i) none none, ty, pos, af, g⟩ ρ w R := by
  have h6 : ¬ cap = m.toNat := by omega
  exact OpTo.val (v := .slice (some ⟨b, o + m.toNat * sz, none⟩) (len - m.toNat) (cap - m.toNat)) (w' := w) (by simp [execOp, Instr.sliceAt, Instr.slice, Instr.sliceBounds, Instr.sliceBound, asIntOf, hx, hi, run_underlying ht.h, run_sizeOf hs.h, h0, h1, h6, addr_add]) h
/-- x[i:] of a slice, whose place is not looked at -/
theorem o_slLany {t e : TypeId} {x i : Operand} {k : IntKind} {p : Option Addr} {len cap : Nat} {m : Int} (hx : ρ x = .slice p len cap) (hi : ρ i = .int k m) [ht : TU P t (.slice e)] {sz : Nat} [hs : TSz P e sz] (h0 : 0 ≤ m) (h1 : m ≤ len) (h : ∀ q, R (.slice q (len - m.toNat) (cap - m.toNat)) w) : OpTo P ⟨d, .slice t x (some i) none none, ty, pos, af, g⟩ ρ w R := by
  exact OpTo.val (v := .slice (if cap = m.toNat then p else p.map (·.add (m.toNat * sz))) (len - m.toNat) (cap - m.toNat)) (w' := w) (by simp [execOp, Instr.sliceAt, Instr.slice, Instr.sliceBounds, Instr.sliceBound, asIntOf, hx, hi, run_underlying ht.h, run_sizeOf hs.h, h0, h1]) (h _)
/-! entries of the model -/
theorem o_entry {c : Operand} {f : FuncId} {fn : Func} {e : Array Value → Sem Value} {xs : Array Operand} {ts : Array TypeId} {vs : Array Value} {v : Value} (hc : ρ c = .func (.func f) #[] #[]) (hf : P.funcs[f]? = some fn) (hname : (fn.name == "runtime.NumGoroutine") = false)
    (hb : fn.body.isNone = true) (hn : Extern.findNext fn = none) (he : Extern.find fn = some e) (ha : xs.map ρ = vs) (hr : (e vs).run P w = .ok v w) (h : R v w) : OpTo P ⟨d, .call ⟨.value c, xs, ts⟩, ty, pos, af, g⟩ ρ w R := by
  refine OpTo.val (v := v) (w' := w) ?_ h
  have := run_callFunc_extern hf hname hb hn he vs w
  rw [hr] at this
  simp [execOp, resolve, invoke, Deferred.ofValue, hc, ha, this]
end
/-! bytes compared -/
def cmpL : List Int → List Int → Int
  | [], [] => 0
  | [], _ :: _ => -1
  | _ :: _, [] => 1
  | x :: xs, y :: ys => if x < y then -1 else if y < x then 1 else cmpL xs ys
theorem find_range_succ (n : Nat) (p : Nat → Bool) : (List.range (n + 1)).find? p = if p 0 then some 0 else ((List.range n).find? fun i => p (i + 1)).map (· + 1) := by
  rw [List.range_succ_eq_map, List.find?_cons]
  cases h : p 0 with
  | true => simp
  | false => simp [List.find?_map]; rfl
theorem ba_get (bs : List UInt8) (i : Nat) : (⟨bs.toArray⟩ : ByteArray)[i]! = bs.getD i default := by
  rw [getElem!_def]
  rcases Nat.lt_or_ge i bs.length with h | h
  · rw [mkS_get h]; simp [h]
  · have : (⟨bs.toArray⟩ : ByteArray)[i]? = none := by
      rw [getElem?_neg]
      rw [mkS_size]; omega
    rw [this]; simp [h]
theorem cmp_cmpL : ∀ (xs ys : List UInt8), Extern.BytealgCompare.cmp ⟨xs.toArray⟩ ⟨ys.toArray⟩ = cmpL (xs.map fun c => (c.toNat : Int)) (ys.map fun c => (c.toNat : Int))
  | [], [] => by decide
  | [], y :: ys => by
    unfold Extern.BytealgCompare.cmp
    rw [mkS_size, mkS_size]
    simp [cmpL]
  | x :: xs, [] => by
    unfold Extern.BytealgCompare.cmp
    rw [mkS_size, mkS_size]
    simp [cmpL]
  | x :: xs, y :: ys => by
    have ih := cmp_cmpL xs ys
    unfold Extern.BytealgCompare.cmp at *
    rw [mkS_size, mkS_size] at *
    simp only [List.length_cons] at *
    have hm : min (xs.length + 1) (ys.length + 1) = min xs.length ys.length + 1 := by omega
    rw [hm, find_range_succ]
    have hg0 : ∀ (z : UInt8) (zs : List UInt8), (⟨(z :: zs).toArray⟩ : ByteArray)[0]! = z := fun z zs => by rw [ba_get]; rfl
    have hg1 : ∀ (z : UInt8) (zs : List UInt8) (i : Nat), (⟨(z :: zs).toArray⟩ : ByteArray)[i + 1]! = (⟨zs.toArray⟩ : ByteArray)[i]! := by
      intro z zs i
      rw [ba_get, ba_get]; simp
    simp only [hg0, hg1]
    by_cases hxy : x = y
    · subst hxy
      simp only [bne_self_eq_false, Bool.false_eq_true, if_false, List.map_cons, cmpL, Int.lt_irrefl]
      rw [← ih]
      cases List.find? (fun i => (⟨xs.toArray⟩ : ByteArray)[i]! != (⟨ys.toArray⟩ : ByteArray)[i]!) (List.range (min xs.length ys.length)) with
      | none => simp
      | some i => simp [hg1]
    · have hne : (x != y) = true := by simpa using hxy
      simp only [hne, if_true, hg0, List.map_cons, cmpL]
      have hnn : x.toNat ≠ y.toNat := fun h => hxy (UInt8.toNat_inj.1 h)
      by_cases hlt : x < y
      · have : x.toNat < y.toNat := hlt
        rw [if_pos hlt, if_pos (by omega)]
      · have : ¬ x.toNat < y.toNat := hlt
        rw [if_neg hlt, if_neg (by omega), if_pos (by omega)]
theorem cmpL_self : ∀ xs : List Int, cmpL xs xs = 0
  | [] => rfl
  | x :: xs => by simp [cmpL, cmpL_self xs]
theorem cmpL_anti : ∀ xs ys : List Int, cmpL ys xs = - cmpL xs ys
  | [], [] => rfl
  | [], _ :: _ => rfl
  | _ :: _, [] => rfl
  | x :: xs, y :: ys => by
    simp only [cmpL]
    rcases Int.lt_trichotomy x y with h | h | h
    · rw [if_neg (by omega), if_pos h, if_pos h]; rfl
    · subst h; simp [cmpL_anti xs ys]
    · rw [if_pos h, if_neg (by omega), if_pos h]
theorem cmpL_zero : ∀ {xs ys : List Int}, cmpL xs ys = 0 → xs = ys
  | [], [], _ => rfl
  | [], _ :: _, h => by simp [cmpL] at h
  | _ :: _, [], h => by simp [cmpL] at h
  | x :: xs, y :: ys, h => by
    simp only [cmpL] at h
    split at h
    · cases h
    · split at h
      · cases h
      · rw [cmpL_zero h, show x = y by omega]
theorem cmpL_lt_trans : ∀ {xs ys zs : List Int}, cmpL xs ys < 0 → cmpL ys zs < 0 → cmpL xs zs < 0
  | [], [], _, h, _ => by simp [cmpL] at h
  | [], _ :: _, [], _, h => by simp [cmpL] at h
  | [], _ :: _, _ :: _, _, _ => by simp [cmpL]
  | _ :: _, [], _, h, _ => by simp [cmpL] at h
  | _ :: _, _ :: _, [], _, h => by simp [cmpL] at h
  | x :: xs, y :: ys, z :: zs, h, k => by
    simp only [cmpL] at *
    rcases Int.lt_trichotomy x y with h1 | h1 | h1
    · rcases Int.lt_trichotomy y z with k1 | k1 | k1
      · rw [if_pos (by omega)]; omega
      · subst k1; rw [if_pos h1]; omega
      · rw [if_neg (by omega), if_pos k1] at k; omega
    · subst h1
      rw [if_neg (by omega), if_neg (by omega)] at h
      rcases Int.lt_trichotomy x z with k1 | k1 | k1
      · rw [if_pos k1]; omega
      · subst k1
        rw [if_neg (by omega), if_neg (by omega)] at *
        exact cmpL_lt_trans h k
      · rw [if_neg (by omega), if_pos k1] at k; omega
    · rw [if_neg (by omega), if_pos h1] at h; omega
/-- a slice of bytes -/
theorem run_bytesOf {P : Program} {w : World} {v : Value} {n : Nat} {xs : List Int} (h : SlAt w 1 v n (xs.map (Value.int .u8))) : (Extern.Bytes.bytesOf v).run P w = .ok ⟨(Lib.bytesOf xs).toArray⟩ w := by
  obtain ⟨p, cap, rfl, h2, h3, h4, h5⟩ := h
  simp only [List.length_map, Nat.mul_one] at h4
  rcases Nat.eq_zero_or_pos n with hn | hn
  · have : xs = [] := List.length_eq_zero_iff.1 (by omega)
    subst this; subst hn
    cases p with
    | none => simp [Extern.Bytes.bytesOf, Lib.bytesOf]; rfl
    | some a => simp [Extern.Bytes.bytesOf, Lib.bytesOf, Extern.Bytes.loadBytes]; rfl
  · obtain ⟨b, o, cs, t, fz, rfl, h7, h8⟩ := h5 hn
    have := Lib.run_loadBytesX (P := P) w xs ⟨b, o, none⟩ .empty (fun j x hj => by
      obtain ⟨h9, h10⟩ := seg_spec _ _ _ _ h8
      have hjl : j < xs.length := (List.getElem?_eq_some_iff.1 hj).1
      have := h10 j (by omega)
      rw [addr_add]
      refine cell_at h7 ?_
      simp only [List.getElem?_toArray, this]
      simp [hj])
    simp only [Extern.Bytes.bytesOf, ← h4]
    rw [this]
    simp [ByteArray.empty, ByteArray.emptyWithCapacity]
    rfl
theorem bytes_nums {xs : List Int} (h : ∀ x ∈ xs, 0 ≤ x ∧ x < 256) : (Lib.bytesOf xs).map (fun c => (c.toNat : Int)) = xs := by
  induction xs with
  | nil => rfl
  | cons x xs ih =>
    have h1 := h x (by simp)
    have e : (Lib.bytesOf (x :: xs)) = x.toNat.toUInt8 :: Lib.bytesOf xs := by simp [Lib.bytesOf]
    rw [e, List.map_cons, ih fun y hy => h y (by simp [hy])]
    congr 1
    simp only [Nat.toUInt8, UInt8.toNat_ofNat']
    omega
theorem run_compare {P : Program} {w : World} {v u : Value} {n m : Nat} {xs ys : List Int} (h : SlAt w 1 v n (xs.map (Value.int .u8))) (k : SlAt w 1 u m (ys.map (Value.int .u8))) (hx : ∀ x ∈ xs, 0 ≤ x ∧ x < 256) (hy : ∀ x ∈ ys, 0 ≤ x ∧ x < 256) :
    (Extern.BytealgCompare.compare #[v, u]).run P w = .ok (.int .i64 (cmpL xs ys)) w := by
  change Sem.run P (do pure (goInt (Extern.BytealgCompare.cmp (← Extern.Bytes.bytesOf v) (← Extern.Bytes.bytesOf u)))) w = _
  simp only [Sem.run_bind, run_bytesOf h, run_bytesOf k, Result.andThen_ok, Sem.run_pure, cmp_cmpL, bytes_nums hx, bytes_nums hy, goInt]
section
variable {P : Program} {ρ : Operand → Value} {w W0 : World} {S : List Nat} {l l' : List (Nat × Obj)} {R : Value → World → Prop} {d : Option Tmp} {ty : TypeId} {pos : String} {af : Array Edge} {g : Option (Nat × Bool)}
theorem run_ov {tS tR e : TypeId} {sz vb b o1 o2 la ca lb cb : Nat} {ys cs : List Value} {tA tB : TypeId} (ht : P.underlying tS = some (.slice e)) (hz : sizeIs P e sz = true) (hne : vb ≠ b) (ha : w.heap[vb]? = some (.cells ys.toArray tA (0, 0))) (hb : w.heap[b]? = some (.cells cs.toArray tB (0, 0))) (hk : cs.length ≠ 0) :
    (Extern.SlicesOverlaps.overlaps #[tS, tS] #[tR] #[.slice (some ⟨vb, o1, none⟩) la ca, .slice (some ⟨b, o2, none⟩) lb cb]).run P w = .ok (.bool false) w :=
  Lib.run_overlaps_apart w tS tR e ht sz (fun w => run_sizeOf hz) ⟨vb, o1, none⟩ ⟨b, o2, none⟩ la ca lb cb hne tA tB ys.length cs.length (by simp [World.shape?, ha]) (by simp [World.shape?, hb]) hk (by simp [World.frozen?, ha]) (by simp [World.frozen?, ha])
/-- append(x, make(..)...), where there is no room -/
theorem o_appendZ {st tn e : TypeId} {x y : Operand} {sz by_ i k cap : Nat} {p : Option Addr} {xs : List Value} [hst : TU P st (.slice e)] [htn : TU P tn (.int .i64)] [hel : TEl P e sz by_] (M : Mem S W0 w l) (hX : SrcOf P w (.slice p i cap) i sz xs)
    (hx : ρ x = .slice p i cap) (hy : ρ y = .int .i64 (k : Int)) (hgt : cap < i + k) (hci : i ≤ cap) (hsz : 0 < sz) (hbd : (i + k) * by_ ≤ 140737488355328) (hln : i + k ≤ 9223372036854775807)
    (h : ∀ b cap' zs w', zs.length = (cap' - i) * sz → i + k ≤ cap' → Mem S W0 w' ((b, .cells (xs ++ zs).toArray e (0, 0)) :: l) → R (.slice (some ⟨b, 0, none⟩) (i + k) cap') w') : OpTo P ⟨d, .call ⟨.builtin .append, #[x, y], #[st, tn]⟩, ty, pos, af, g⟩ ρ w R := by
  obtain ⟨inf, z, hi, rfl, rfl, hz, hzs⟩ := elB_spec hel.h
  have hw : IntKind.i64.wrap (k : Int) = k := w_i64 (by omega) (by omega)
  have hkb : k * inf.bytes ≤ 281474976710656 := by
    have : k * inf.bytes ≤ (i + k) * inf.bytes := Nat.mul_le_mul_right _ (by omega)
    omega
  have h48i : ¬ (281474976710656 < (k : Int) * (inf.bytes : Int)) := by
    rw [← Int.natCast_mul]; omega
  have hneg : ¬ ((k : Int) < 0) := by omega
  have hk0 : k ≠ 0 := by omega
  have hns : ¬ (k * inf.size = 0) := Nat.mul_ne_zero hk0 (by omega)
  have hn : ¬ (i + k ≤ cap) := by omega
  have h63' : ¬ (9223372036854775807 < ((i : Int) + (k : Int))) := by omega
  have h48 : ¬ (281474976710656 < Builtin.nextslicecap (i + k) cap * inf.bytes) := by
    have := growslice_fits (need := i + k) (old := cap) (bytes := inf.bytes) (by omega) hbd
    omega
  have hold := hX.cells (w.drawn + 1)
  have hnc : i + k ≤ grownCap w (i + k) cap e := grownCap_ge w _ _ _
  have hrun : (Builtin.append_ #[st, tn] ty #[.slice p i cap, .int .i64 (k : Int)]).run P w = .ok (.slice (some ⟨w.heap.size, 0, none⟩) (i + k) (grownCap w (i + k) cap e)) (w.drew.alloc (.cells (xs.toArray ++ Builtin.zeroCells z.cells k ++ Builtin.zeroCells z.cells (grownCap w (i + k) cap e - (i + k))) e)) := by
    have hold' : (Builtin.firstCells inf.size i (.slice p i cap)).run P w.drew = .ok xs.toArray w.drew := hold
    simp [Builtin.append_, run_underlying hst.h, run_underlying htn.h, sizeOf, typeInfo, zeroValue, hi, hz, asInt, asIntOf, hw, hk0, hneg, hns, h63', h48, h48i, hn, Question.forced, hold', newRow, grownCap] <;> (congr 2; apply Array.ext'; simp)
  have e1 : (xs.toArray ++ Builtin.zeroCells z.cells k ++ Builtin.zeroCells z.cells (grownCap w (i + k) cap e - (i + k))) = (xs ++ ((Builtin.zeroCells z.cells k).toList ++ (Builtin.zeroCells z.cells (grownCap w (i + k) cap e - (i + k))).toList)).toArray := by
    apply Array.ext'; simp
  rw [e1] at hrun
  have hzl : ((Builtin.zeroCells z.cells k).toList ++ (Builtin.zeroCells z.cells (grownCap w (i + k) cap e - (i + k))).toList).length = (grownCap w (i + k) cap e - i) * inf.size := by
    rw [List.length_append, Array.length_toList, Array.length_toList, size_zeroCells, size_zeroCells, hzs, ← Nat.add_mul]
    congr 1
    omega
  generalize (Builtin.zeroCells z.cells k).toList ++ (Builtin.zeroCells z.cells (grownCap w (i + k) cap e - (i + k))).toList = zs at *
  refine OpTo.val (v := .slice (some ⟨w.heap.size, 0, none⟩) (i + k) (grownCap w (i + k) cap e)) (w' := w.drew.alloc (.cells (xs ++ zs).toArray e (0, 0))) ?_ (h _ _ zs _ hzl hnc ((M.later (Ext.drawn w (w.drawn + 1) (Nat.le_succ _))).alloc (.cells (xs ++ zs).toArray e (0, 0))))
  simp [execOp, resolve, invoke, builtin, hx, hy, hrun]
end
end Go.Proofs.YtilgoepokaaleaaGreat
/-! LibR -/
namespace Go.Proofs.YtilgoepokaaleaaGreat
set_option linter.unusedVariables false
set_option linter.unusedSimpArgs false
open Go.RowKit
/-- Of what lies below n0 only the blocks B are turned; what lies above keeps its kind and length. -/
structure Sh (n0 : Nat) (B : List Nat) (w w' : World) : Prop where
  os : w'.os = w.os
  tape : w'.tape = w.tape
  output : w'.output = w.output
  size : w.heap.size ≤ w'.heap.size
  dr : w.drawn ≤ w'.drawn
  old : ∀ k, k < n0 → k < w.heap.size → k ∉ B → w'.heap[k]? = w.heap[k]?
  new : ∀ k cs t, n0 ≤ k → w.heap[k]? = some (.cells cs t (0, 0)) → ∃ cs', w'.heap[k]? = some (.cells cs' t (0, 0)) ∧ cs'.size = cs.size
theorem Sh.of_ext {n0 : Nat} {B : List Nat} {w w' : World} (h : Ext [] w w') : Sh n0 B w w' :=
  ⟨h.os, h.tape, h.output, h.size, h.dr, fun k _ hk _ => h.block k hk (by simp), fun k cs t _ hb => ⟨cs, by rw [h.block k (Array.getElem?_eq_some_iff.1 hb).1 (by simp)]; exact hb, rfl⟩⟩
theorem Sh.trans {n0 : Nat} {B : List Nat} {a b c : World} (h : Sh n0 B a b) (k : Sh n0 B b c) : Sh n0 B a c :=
  ⟨k.os.trans h.os, k.tape.trans h.tape, k.output.trans h.output, Nat.le_trans h.size k.size, Nat.le_trans h.dr k.dr, fun i hi hs hb => (k.old i hi (Nat.lt_of_lt_of_le hs h.size) hb).trans (h.old i hi hs hb), fun i cs t hn hb => by
    obtain ⟨cs1, h1, h2⟩ := h.new i cs t hn hb
    obtain ⟨cs2, h3, h4⟩ := k.new i cs1 t hn h1
    exact ⟨cs2, h3, h4.trans h2⟩⟩
def keepSh (n0 : Nat) (B : List Nat) : Keep := ⟨Ext [], Sh n0 B, fun w => Ext.refl [] w, Sh.of_ext, Sh.trans, fun h => h.size⟩
theorem Sh.ext {B : List Nat} {w w' : World} (h : Sh w.heap.size B w w') : Ext B w w' := ⟨h.os, h.tape, h.output, h.size, h.dr, fun k hk hb => h.old k hk hk hb⟩
/-- a pointer to a new block of this kind and length -/
def AlS (n0 : Nat) (t : TypeId) (len : Nat) : Pred := fun v w => ∃ b cs, v = ptrTo b ∧ n0 ≤ b ∧ w.heap[b]? = some (.cells cs t (0, 0)) ∧ cs.size = len
theorem AlS.stays (n0 : Nat) (B : List Nat) (t : TypeId) (len : Nat) : Stays (keepSh n0 B) (AlS n0 t len) := fun v w w' ⟨b, cs, h1, h2, h3, h4⟩ h => by
  obtain ⟨cs', h5, h6⟩ := Sh.new h b cs t h2 h3
  exact ⟨b, cs', h1, h2, h5, h6.trans h4⟩
section
variable {c : RC} {fr : List (Nat × Value)} {Vs : List Pred} {T T' : SPred} {rest : List Oper} {d : Nat} {op : Op} {ty : TypeId} {pos : String} {af : Array Edge} {ix : Nat}
end
section
variable {P : Program} {ρ : Operand → Value} {w : World} {R : Value → World → Prop} {d : Option Tmp} {ty : TypeId} {pos : String} {af : Array Edge} {g : Option (Nat × Bool)}
/-- a load out of a block that is known to lie there -/
theorem o_loadHA {t : TypeId} {x : Operand} {b off n : Nat} {cs : List Value} {t' : TypeId} {fz : Nat × Nat} {vs : List Value} [ht : TAgg P t n] (hx : ρ x = .pointer (some ⟨b, off, none⟩)) (hb : w.heap[b]? = some (.cells cs.toArray t' fz)) (hv : seg cs off n = some vs) (h : R (.agg vs.toArray) w) : OpTo P ⟨d, .load t x, ty, pos, af, g⟩ ρ w R :=
  o_load hx (run_loadVar_agg ht.h hb (by simpa using hv)) h
theorem o_loadH1 {t : TypeId} {x : Operand} {b off : Nat} {cs : List Value} {t' : TypeId} {fz : Nat × Nat} {v : Value} [ht : TOne P t] (hx : ρ x = .pointer (some ⟨b, off, none⟩)) (hb : w.heap[b]? = some (.cells cs.toArray t' fz)) (hv : nth cs off = some v) (h : R v w) : OpTo P ⟨d, .load t x, ty, pos, af, g⟩ ρ w R :=
  o_load hx (run_loadVar_one ht.h (cell_at hb (by rw [nth_spec] at hv; simpa using hv))) h
end
end Go.Proofs.YtilgoepokaaleaaGreat
/-! LibS -/
namespace Go.Proofs.YtilgoepokaaleaaGreat
set_option linter.unusedVariables false
set_option linter.unusedSimpArgs false
open Go.RowKit
/-- new blocks -/
structure NewM (n0 : Nat) (w : World) (l : List (Nat × Obj)) : Prop where
  at_ : ∀ p ∈ l, w.heap[p.1]? = some p.2
  nd : (l.map (·.1)).Nodup
  ge : ∀ p ∈ l, n0 ≤ p.1
theorem NewM.lt {n0 : Nat} {w : World} {l : List (Nat × Obj)} (h : NewM n0 w l) {p : Nat × Obj} (hp : p ∈ l) : p.1 < w.heap.size := (Array.getElem?_eq_some_iff.1 (h.at_ p hp)).1
theorem NewM.later {n0 : Nat} {w w' : World} {l : List (Nat × Obj)} (h : NewM n0 w l) (E : Ext [] w w') : NewM n0 w' l :=
  ⟨fun p hp => by rw [E.block _ (h.lt hp) (by simp)]; exact h.at_ p hp, h.nd, h.ge⟩
theorem Mem.new {n0 : Nat} {w w' : World} {l : List (Nat × Obj)} (M : Mem [] w w' l) (h : n0 ≤ w.heap.size) : NewM n0 w' l :=
  ⟨M.at_, M.nd, fun p hp => Nat.le_trans h ((M.own p hp).resolve_left (by simp))⟩
theorem NewM.app {n0 : Nat} {w w' : World} {l new : List (Nat × Obj)} (h : NewM n0 w l) (M : Mem [] w w' new) (hn : n0 ≤ w.heap.size) : NewM n0 w' (new ++ l) := by
  have h' := h.later M.ext
  have h2 := M.new hn
  refine ⟨fun p hp => (List.mem_append.1 hp).elim (h2.at_ p) (h'.at_ p), ?_, fun p hp => (List.mem_append.1 hp).elim (h2.ge p) (h'.ge p)⟩
  rw [List.map_append, List.nodup_append]
  refine ⟨h2.nd, h'.nd, ?_⟩
  rintro a ha b hb rfl
  obtain ⟨p, hp, rfl⟩ := List.mem_map.1 ha
  obtain ⟨q, hq, e⟩ := List.mem_map.1 hb
  have h3 := h.lt hq
  have h4 := (M.own p hp).resolve_left (by simp)
  omega
theorem Mem.joinNew {S : List Nat} {W0 w1 w : World} {l new : List (Nat × Obj)} (M : Mem S W0 w l) (M1 : Mem S W0 w1 l) (N : NewM w1.heap.size w new) : Mem S W0 w (new ++ l) := by
  refine ⟨M.ext, fun p hp => (List.mem_append.1 hp).elim (N.at_ p) (M.at_ p), ?_, fun p hp => (List.mem_append.1 hp).elim (fun h => .inr (Nat.le_trans M1.ext.size (N.ge p h))) (M.own p)⟩
  rw [List.map_append, List.nodup_append]
  refine ⟨N.nd, M.nd, ?_⟩
  rintro a ha b hb rfl
  obtain ⟨p, hp, rfl⟩ := List.mem_map.1 ha
  obtain ⟨q, hq, e⟩ := List.mem_map.1 hb
  have h3 := M1.lt hq
  have h4 := N.ge p hp
  omega
/-- an answer and the new blocks that belong to it -/
def NewP (n0 : Nat) (Φ : Value → List (Nat × Obj) → Prop) : Pred := fun v w => ∃ ent, Φ v ent ∧ NewM n0 w ent
theorem NewP.stays (n0 : Nat) (Φ : Value → List (Nat × Obj) → Prop) : Stays keepAll (NewP n0 Φ) := fun _ _ _ ⟨ent, h, N⟩ E => ⟨ent, h, N.later E⟩
theorem newP_of {w1 w w' : World} {x : Value} {Φ : Value → List (Nat × Obj) → Prop} (E : Ext [] w1 w) (h : ∃ ent, Φ x ent ∧ Mem [] w w' ent) : Ext [] w w' ∧ NewP w1.heap.size Φ x w' :=
  h.elim fun ent hh => ⟨hh.2.ext, ent, hh.1, hh.2.new E.size⟩
theorem memDep {o : Oper} {j : Nat} (h : (depsOf o).contains j = true) : j ∈ depsOf o := by simpa using h
/-! elements of a list in place -/
theorem put_in {A B C C' Y : List Value} {off q : Nat} (hq : q = A.length + off) (h : put C off Y = some C') : put (A ++ (C ++ B)) q Y = some (A ++ (C' ++ B)) := by
  subst hq
  obtain ⟨h1, rfl⟩ := put_splice _ _ _ _ h
  rw [put_of _ _ _ (by simp; omega)]
  congr 1
  unfold splice
  rw [List.take_append, List.drop_append, List.take_of_length_le (by omega), List.drop_of_length_le (by omega), List.nil_append, show A.length + off - A.length = off by omega, show A.length + off + Y.length - A.length = off + Y.length by omega, List.take_append_of_le_length (by omega), List.drop_append_of_le_length (by omega)]
  simp only [List.append_assoc]
theorem encL_put {α : Type} {enc : α → List Value} {sz : Nat} {ls : List α} (hsz : ∀ x ∈ ls, (enc x).length = sz) (junk : List Value) {i : Nat} (hi : i < ls.length) {off q : Nat} {Y : List Value} {x' : α} (h : put (enc ls[i]) off Y = some (enc x')) (hq : q = i * sz + off) :
    put (encL enc ls ++ junk) q Y = some (encL enc (ls.set i x') ++ junk) := by
  have e1 : ls = ls.take i ++ ls[i] :: ls.drop (i + 1) := by rw [List.getElem_cons_drop, List.take_append_drop]
  have e2 : ls.set i x' = ls.take i ++ x' :: ls.drop (i + 1) := by rw [List.set_eq_take_append_cons_drop, if_pos hi]
  have hA : (encL enc (ls.take i)).length = i * sz := by
    rw [encL_len fun x hx => hsz x (List.mem_of_mem_take hx), List.length_take, Nat.min_eq_left (by omega)]
  have f1 : encL enc ls ++ junk = encL enc (ls.take i) ++ (enc ls[i] ++ (encL enc (ls.drop (i + 1)) ++ junk)) := by
    conv => lhs; rw [e1]
    rw [encL_app, encL_cons]
    simp only [List.append_assoc]
  have f2 : encL enc (ls.set i x') ++ junk = encL enc (ls.take i) ++ (enc x' ++ (encL enc (ls.drop (i + 1)) ++ junk)) := by
    rw [e2, encL_app, encL_cons]
    simp only [List.append_assoc]
  rw [f1, f2]
  exact put_in (by rw [hA]; omega) h
theorem own_seg {e : TypeId} {sz n : Nat} {α : Type} {enc : α → List Value} {ls : List α} {junk : List Value} (h : (encL enc ls).length = n * sz) : seg (encL enc ls ++ junk) 0 (n * sz) = some (encL enc ls) := by
  have := seg_of [] (encL enc ls) junk
  simpa [h] using this
theorem own_el {sz : Nat} {α : Type} {enc : α → List Value} {ls : List α} (hsz : ∀ x ∈ ls, (enc x).length = sz) (junk : List Value) {i : Nat} (hi : i < ls.length) {q : Nat} (hq : q = i * sz) : seg (encL enc ls ++ junk) q sz = some (enc ls[i]) :=
  seg_el hsz (o := 0) (n := ls.length) (own_seg (e := 0) (encL_len hsz)) hi (by omega)
/-- a slice over a block from n0 on, or none -/
def NewV (n0 : Nat) (v : Value) : Prop := ∀ b o s n c, v = .slice (some ⟨b, o, s⟩) n c → n0 ≤ b
theorem NewV.nil (n0 n c : Nat) : NewV n0 (.slice none n c) := fun _ _ _ _ _ h => by cases h
/-- what stays where only the blocks B are turned -/
theorem SlAt.laterB {W w : World} {sz : Nat} {v : Value} {n : Nat} {xs : List Value} {B : List Nat} (h : SlAt W sz v n xs) (hn : ∀ b o s k c, v = .slice (some ⟨b, o, s⟩) k c → b ∉ B) (E : Ext B W w) : SlAt w sz v n xs := by
  obtain ⟨p, cap, rfl, h1, h2, h3, h4⟩ := h
  refine ⟨p, cap, rfl, h1, h2, h3, fun h0 => ?_⟩
  obtain ⟨b, o, cs, t, fz, rfl, hb, hs⟩ := h4 h0
  exact ⟨b, o, cs, t, fz, rfl, by rw [E.block b (Array.getElem?_eq_some_iff.1 hb).1 (hn b o none n cap rfl)]; exact hb, hs⟩
end Go.Proofs.YtilgoepokaaleaaGreat
